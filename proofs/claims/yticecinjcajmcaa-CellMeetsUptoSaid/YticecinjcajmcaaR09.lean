/-
  Part 9 of the proof that CellMeets returns true, and leaves its arguments as they were, for every input whose reading is of bulk at most 1048576. No further condition.
-/
import Derived.Test.YticecinjcajmcaaR00
import Derived.Test.YticecinjcajmcaaR05
import Derived.Test.YticecinjcajmcaaR08
set_option linter.unusedVariables false
set_option linter.unusedSectionVars false
set_option linter.unusedSimpArgs false
set_option maxHeartbeats 1000000
noncomputable section
namespace Go.LK
open Go Go.Conc Go.LT Go.LC
open Go.ConcN (WgLive sumTo upd sumTo_upd upd_ne upd_same)
open Go.ConcR (KK wgBlock WgAt stA smA rd wr mk)
section
section
variable {X Sg:Type}{M:Md X Sg}{ρ:Rn}{P:Program}{ws:List (EK X)}{hd:Nat}{role:Nat->EC}{bd:Nat->Nat}{w:World}
theorem Po {v u:EK X}{j:Nat}(h:(ws ++ [v])[j]?=some u):(j < ws.length/\ws[j]?=some u)\/(j=ws.length/\u=v):=by
  rw [List.getElem?_append] at h;split at h
  . rename_i hlt;exact .inl ⟨hlt,h⟩
  . rename_i hge
    right
    cases e:j - ws.length with
    | zero=>rw [e] at h;exact ⟨by omega,(Option.some.inj h).symm⟩
    | succ m=>rw [e] at h;simp at h
theorem MH {v u:EK X}{j:Nat}(h:ws[j]?=some u):(ws ++ [v])[j]?=some u:=by have hlt:j < ws.length:=(List.getElem?_eq_some_iff.1 h).1;rw [List.getElem?_append_left hlt];exact h
theorem jD {v:EK X}:(ws ++ [v])[ws.length]?=some v:=by simp
theorem Yz (hcl:¬ ρ.SN){v:EK X}{r:Nat}{tgt:X × Sg × Bool}{Lm:Goroutine->Prop}{n ex:Nat}{live:Nat->Nat}{T:Trace}{gs:Array Goroutine}{sl:Option (Nat × Nat)}{g a' child:Goroutine}(C:Lx M ρ P ws 0 role bd w)(H:OH M ρ P ws 0 bd role live (ex+1) T gs w)(hL:Lv ws gs.size live)(hg:gs[0]?=some g)(hrun:g.status=.running)(hgo:∀ w₁,F8 ρ.ty ρ.Wg w w₁->stepG P true g w₁=.spawn a' child w₁ #[])(hS:Sits P true (fun _=>True) (fun _=>False) 0 (Seat.one ρ.come ρ.zi false Lm) n a')(dY:v.h=gs.size)(hvk:v.k=ws.length)(hov:v.over=false)(hown:∀ b,v.own b->¬ M.Sh b/\b≠ρ.Wg/\ρ.Bo b=false/\(∃ c e f,w.heap[b]?=some (.cells c e f))/\∀ (j:Nat) (u:EK X),ws[j]?=some u->¬ u.own b)(hin:v.own v.b/\v.own v.pb)(hch:v.t≠ρ.come/\v.t≠ρ.gone/\(∃ k,w.heap[v.t]?=some (.chan 0 #[] false k k false))/\∀ (j:Nat) (u:EK X),ws[j]?=some u->u.t≠v.t)(hJ:∀ w',F8 ρ.ty ρ.Wg w w'->∀ B,aO M ρ v B w'.heap.size->LT.Rows B w'->WJ M ρ P r ⟨v,B,w'.heap.size,tgt⟩ child w') :
    ∃ N gs' w' sl' T' ER Y7 Fy v' g0,runNT P N (crowd gs w sl) T=(.next (crowd gs' w' sl'),T')/\gs'.size=gs.size+1/\gs'[0]?=some (g0.finishComm P #[rcase ρ.come ρ.zi] (.recv false) 0 (.int .i64 v.k) true)/\Lm g0/\
      Lx M ρ P (ws ++ [v']) 0 ER Y7 w'/\OH M ρ P (ws ++ [v']) 0 Y7 ER Fy ex T' gs' w'/\Lv (ws ++ [v']) gs'.size Fy/\
      v'.h=v.h/\v'.k=v.k/\v'.b=v.b/\v'.t=v.t/\v'.x=tgt.1/\v'.over=tgt.2.2/\v'.r=r/\M.Inv tgt.2.1 w'/\(∀ b,b≠ρ.Wg->(∃ c e f,w.heap[b]?=some (.cells c e f))->¬ v.own b->¬ M.Sh b->w'.heap[b]?=w.heap[b]?)/\
      w.heap.size<=w'.heap.size/\(∀ b,v'.own b->v.own b\/w.heap.size<=b)/\(∀ b0,b0<=ρ.Wg->b0<=ρ.come->Oo b0 w w'):=by
  have E:=C.env;have hpos:0 < gs.size:=(zGE hg).1;obtain ⟨kc,Nv⟩:=C.come.2;have hfresh:∀ (j:Nat) (u:EK X),ws[j]?=some u->u.h≠gs.size:=fun j u hu e=>by have:=hL.lt j u hu;omega
  have hmem:∀ g l,M7 ws g l->l.isMemory=true:=by rintro x l ⟨j,u,_,_,_,hs⟩;rcases hs with rfl|rfl|rfl <;> rfl
  obtain ⟨N1,gs1,w1,sl1,T1,OB,Qj,p1,p2,p3,p4,p5,p6,p7,p8⟩:=hire (sl:=sl) (h:=0) (Still':=M7 ws) (ko:=bd) (st:=Seat.one ρ.come ρ.zi false Lm) (n:=n) E E (fun _ _=>by rw [K0 C];trivial)
    (by
      rintro ⟨_,h|⟨j,u,hu,GY,_⟩⟩
      . omega
      . exact hfresh j u hu GY) (fun _ _=>rfl) (fun _ _=>rfl)
    (by rintro l ⟨j,u,hu,GY,_⟩;exact hfresh j u hu GY) hmem hg hrun hgo (by simp) H (.inl rfl) (by rw [K0 C,St0 C,C.mY];exact hS) (Seat.one_wf _ _ _ _) (by rw [C.mY];exact Nat.zero_le _) (fun c hc=>by rw [Seat.one_has.1 hc];exact ⟨kc,Nv⟩)
    (fun x st' n' c hx hr' hc hc'=>by
      rw [Seat.one_has.1 hc] at hc' ⊢;rcases C.known x st' n' _ hr' hc' with h|⟨h,_⟩|⟨j,u,hu,_,h⟩
      . exact h
      . exact absurd h hx
      . exact absurd h.symm (C.chan j u hu).1)
  have hget:=fun {j:Nat} {u:EK X} (h:(ws ++ [v])[j]?=some u)=>Po h;have hblk1:∀ b,b≠ρ.Wg->w1.heap[b]?=w.heap[b]?:=fun b hb=>p5.block b hb;have WX:=p5.size;have RB:∀ {c k:Nat},w.heap[c]?=some (.chan 0 #[] false k k false)->c≠ρ.Wg:=fun {c k} hc z=>by subst z;obtain ⟨c',e,f,h⟩:=G6 H.JG.wg;rw [hc] at h;cases h
  have H1:OH M ρ P (ws ++ [v]) v.h bd OB Qj ex T1 gs1 w1:=by
    rw [← dY] at p4;have hr:=p4.re (K':=Kc ρ (ws ++ [v])) (Still':=M7 (ws ++ [v])) (ko:=bd)
      (fun x hx=>by
        funext z
        apply propext;constructor
        . exact fun h j u hu GY ho=>h j u (MH hu) GY ho
        . intro h j u hu GY ho;rcases hget hu with ⟨_,hu⟩|⟨_,rfl⟩
          . exact h j u hu GY ho
          . exact absurd GY.symm hx)
      (fun x hx=>by
        funext z
        apply propext;constructor
        . rintro ⟨j,u,hu,GY,ho,hs⟩;rcases hget hu with ⟨_,hu⟩|⟨_,rfl⟩
          . exact ⟨j,u,hu,GY,ho,hs⟩
          . exact absurd GY.symm hx
        . rintro ⟨j,u,hu,GY,ho,hs⟩;exact ⟨j,u,MH hu,GY,ho,hs⟩)
      (fun _ _=>rfl) (fun l hl=>by
        obtain ⟨j,u,hu,GY,ho,hs⟩:=hl;have hu':u=v:=by
          rcases hget hu with ⟨_,hu⟩|⟨_,h⟩
          . exact absurd (GY.trans dY) (hfresh j u hu)
          . exact h
        subst hu';have key:∀ b,u.own b->∀ o,¬ GV ρ (.cell ⟨b,o,none⟩):=fun b hb o=>by
          rintro ⟨a,ha,h⟩;cases ha
          obtain ⟨_,h1,h2,_⟩:=hown b hb;rcases h with h|h
          . exact h1 h
          . rw [h2] at h;cases h
        rcases hs with rfl|rfl|rfl
        . exact ⟨rfl,key _ hin.1 _⟩
        . exact ⟨rfl,key _ hin.1 _⟩
        . exact ⟨rfl,key _ hin.2 _⟩)
    have eM:(fun g=>LY ws 0 g\/g=v.h)=LY (ws ++ [v]) v.h:=by
      funext x
      apply propext;constructor
      . rintro ((h | h | ⟨j,u,hu,GY,ho⟩) | h)
        . exact .inl h
        . exact .inl h
        . exact .inr (.inr ⟨j,u,MH hu,GY,ho⟩)
        . exact .inr (.inl h)
      . rintro (h | h | ⟨j,u,hu,GY,ho⟩)
        . exact .inl (.inl h)
        . exact .inr h
        . rcases hget hu with ⟨_,hu⟩ | ⟨_,rfl⟩
          . exact .inl (.inr (.inr ⟨j,u,hu,GY,ho⟩))
          . exact .inr GY.symm
    have eL:(fun g=>Hw ws 0 g\/g=0)=Hw (ws ++ [v]) v.h:=by
      funext x
      apply propext;constructor
      . rintro (⟨h0,h | ⟨j,u,hu,GY,ho⟩⟩ | h)
        . exact absurd h h0
        . exact ⟨fun e=>hfresh j u hu (GY.trans (e.trans dY)),.inr ⟨j,u,MH hu,GY,ho⟩⟩
        . exact ⟨by omega,.inl h⟩
      . rintro ⟨hx,h | ⟨j,u,hu,GY,ho⟩⟩
        . exact .inr h
        . rcases hget hu with ⟨_,hu⟩ | ⟨_,rfl⟩
          . exact .inl ⟨fun e=>by have:=(C.pos j u hu).1;omega,.inr ⟨j,u,hu,GY,ho⟩⟩
          . exact absurd GY.symm hx
    unfold OH;rw [← eM,← eL];exact hr
  have C1:Lx M ρ P (ws ++ [v]) v.h OB bd w1:=by
    refine ⟨fun j j' u u' hu hu' h=>?_,fun j u hu=>?_,fun j u hu hn ho=>?_,fun x st n' c e hc=>?_,fun j u hu hn=>?_,fun j u hu b hb=>?_,fun j u hu=>?_,fun j u hu=>?_,⟨C.come.1,kc,by rw [hblk1 _ (RB Nv)];exact Nv⟩,?_,C.sh,fun b hb=>?_,C.mY⟩
    . have key:∀ {j:Nat} {u:EK X},ws[j]?=some u->(v.h=u.h\/v.t=u.t\/∃ b,v.own b/\u.own b)->False:=fun {j u} hu h=>by
        rcases h with h|h|⟨b,h1,h2⟩
        . exact hfresh j u hu (h.symm.trans dY)
        . exact hch.2.2.2 j u hu h.symm
        . exact (hown b h1).2.2.2.2 j u hu h2
      rcases hget hu with ⟨_,hu1⟩|⟨hj,hh⟩ <;> rcases hget hu' with ⟨_,ZN⟩|⟨hj',hh'⟩
      . exact C.apart j j' u u' hu1 ZN h
      . rw [hh'] at h;exact (key hu1 (h.imp Eq.symm (Or.imp Eq.symm fun ⟨b,x,y⟩=>⟨b,y,x⟩))).elim
      . rw [hh] at h;exact (key ZN h).elim
      . omega
    . rcases hget hu with ⟨_,hu⟩ | ⟨hj,rfl⟩
      . exact C.pos j u hu
      . exact ⟨by omega,by rw [hj];exact hvk⟩
    . rcases hget hu with ⟨_,hu⟩ | ⟨_,rfl⟩
      . have hu0:u.h≠0:=by have:=(C.pos j u hu).1;omega
        obtain ⟨⟨n',h⟩,hb⟩:=C.seats j u hu hu0 ho;exact ⟨(p6 u.h).1 _ n' (by rw [upd_ne _ _ hu0,upd_ne _ _ (hfresh j u hu)];exact h),hb⟩
      . exact absurd rfl hn
    . obtain ⟨n'',e'⟩:=p6.back e;by_cases hx0:x=0
      . subst hx0;rw [upd_same] at e';cases e'
        exact .inr (.inl ⟨rfl,Seat.one_has.1 hc⟩)
      . rw [upd_ne _ _ hx0] at e';by_cases hxv:x=gs.size
        . subst hxv;rw [upd_same] at e';cases e'
        . rw [upd_ne _ _ hxv] at e';rcases C.known x st n'' c e' hc with h|h|⟨j,u,hu,h⟩
          . exact .inl h
          . exact .inr (.inl h)
          . exact .inr (.inr ⟨j,u,MH hu,h⟩)
    . rcases hget hu with ⟨_,hu⟩ | ⟨_,rfl⟩
      . obtain ⟨k1,k2,k3⟩:=C.keep j u hu (by have:=(C.pos j u hu).1;omega)
        exact ⟨fun b hb=>(k1 b hb).trans (.of (hblk1 b (C.own j u hu b hb).2.1)),k2,by rw [WX];exact k3⟩
      . exact absurd rfl hn
    . rcases hget hu with ⟨_,hu⟩ | ⟨_,rfl⟩
      . obtain ⟨a1,a2,a3,a4⟩:=C.own j u hu b hb;exact ⟨a1,a2,a3,by rw [hblk1 b a2];exact a4⟩
      . obtain ⟨a1,a2,a3,a4,_⟩:=hown b hb;exact ⟨a1,a2,a3,by rw [hblk1 b a2];exact a4⟩
    . rcases hget hu with ⟨_,hu⟩ | ⟨_,rfl⟩
      . exact C.inside j u hu
      . exact hin
    . rcases hget hu with ⟨_,hu⟩ | ⟨_,rfl⟩
      . obtain ⟨c1,c2,k,hk⟩:=C.chan j u hu;exact ⟨c1,c2,k,by rw [hblk1 _ (RB hk)];exact hk⟩
      . obtain ⟨c1,c2,⟨k,hk⟩,_⟩:=hch;exact ⟨c1,c2,k,by rw [hblk1 _ (RB hk)];exact hk⟩
    . intro hcl;obtain ⟨k,hk⟩:=C.gone hcl;exact ⟨k,by rw [hblk1 _ (RB hk)];exact hk⟩
    . obtain ⟨h1,h2⟩:=C.old b hb;exact ⟨h1,by rw [hblk1 b h1];exact h2⟩
  have hi:(ws ++ [v])[ws.length]?=some v:=jD;have MN:aO M ρ v (holdB M v w1) w1.heap.size:=UE (G6 H1.JG.wg) (fun h=>(C1.own _ v hi _ h).2.1 rfl) (fun h=>(C1.sh _ h).1 rfl);have Lh:∀ (j:Nat) (u:EK X),(ws ++ [v])[j]?=some u->j≠ws.length->∀ b,u.own b->holdB M v w1 b=true:=fun j u hu hne b hb=>by obtain ⟨a1,a2,a3,a4⟩:=C1.own j u hu b hb;exact Gm.2 ⟨a4,fun h=>hne (C1.apart j ws.length u v hu hi (.inr (.inr ⟨b,hb,h⟩))),a1⟩
  have VU:∀ b,ρ.Bo b=true->holdB M v w1 b=true:=fun b hb=>by
    obtain ⟨h1,h2⟩:=C1.old b hb;refine Gm.2 ⟨h2,fun h=>?_,fun h=>?_⟩
    . have:=(C1.own _ v hi b h).2.2.1;rw [hb] at this;cases this
    . have:=(C1.sh b h).2;rw [hb] at this;cases this
  have hL1:Lv (ws ++ [v]) gs1.size Qj:=by
    refine ⟨fun j u hu=>?_,?_,fun j u hu ho=>?_⟩
    . rcases hget hu with ⟨_,hu⟩ | ⟨_,rfl⟩
      . have:=hL.lt j u hu;omega
      . omega
    . rw [p8 0 (.inl rfl)];exact hL.zero
    . rcases hget hu with ⟨_,hu⟩ | ⟨_,rfl⟩
      . have hu0:u.h≠0:=by have:=(C.pos j u hu).1;omega
        obtain ⟨⟨n',h⟩,_⟩:=C.seats j u hu hu0 ho;rw [p8 _ (.inr ⟨_,_,h⟩)];exact hL.one j u hu ho
      . rw [dY];exact p7
  obtain ⟨n0,h0⟩:=(p6 0).1 _ n (upd_same _ _ _);obtain ⟨N2,gs2,w2,sl2,T2,RI,bd2,Uu,v',g0,r1,r2,r3,r4,r5,r6,r7,a1,a2,a3,a4,a5,a6,a7,a8,a9,oz,eu,a12⟩:=RS (hcl:=hcl) (sl:=sl1) (γ:=⟨v,holdB M v w1,w1.heap.size,tgt⟩) hi hov rfl C1 H1 hL1 MN KW VU Lh (by rw [dY];exact p3) (hJ w1 p5 _ MN KW) h0;have hset:(ws ++ [v]).set ws.length v'=ws ++ [v']:=by simp
  rw [hset] at r5 r6 r7;refine ⟨N1+N2,gs2,w2,sl2,T2,RI,bd2,Uu,v',g0,runNT_then p1 r1,r2.trans p2,r3,r4,r5,r6,by rw [r2];exact r7,a1,a2,a3,a4,a5,a6,a7,a8,fun b hb hrow ho hs=>?_,by rw [← WX];exact oz,fun b hb=>by rw [← WX];exact eu b hb,fun b0 h1 h2=>(Oo.Xg h1 p5).trans (a12 b0 h1 h2)⟩;have h1:=hblk1 b hb;obtain ⟨c,e,f,hc⟩:=hrow;rw [a9 b (Gm.2 ⟨⟨c,e,f,h1.trans hc⟩,ho,hs⟩) hb];exact h1
end
end
end Go.LK
namespace Go.LT
open Go Go.Conc
section
variable [Host]
def Uo (P:Program)(B:Hid)(main:Bool)(Rl:Frame->List Frame->Goroutine->Prop)(τ:Nat->Question->Nat)(d:Nat)(gR:Goroutine)(w:World):GStep->Prop
  | .go g w1 es=>(∀ i,d+i < w1.drawn->w.tape (w.drawn+i)=τ (d+i))->∃ fr' s' zF w2,g=G fr' s'/\Rl fr' s' zF/\w1=sh (D7 B w2) τ (d+(w2.drawn - w.drawn))/\
      stepG P main gR w=.go zF w2 es/\Kept B w w2/\∀ e∈es,IG B w2.heap.size e
  | .ended ..=>True
  | _=>False
def Self (fr:Frame)(s:List Frame)(g:Goroutine):Prop:=g=G fr s
structure kW (P:Program)(F:FuncId->Prop)(B:Hid)(main:Bool)(Rl:Frame->List Frame->Goroutine->Prop)(Fin:Frame->List Frame->Prop):Prop where
  run:∀ fr s g,Rl fr s g->g.status=.running
  one:∀ fr s g g',Rl fr s g->Rl fr s g'->g=g'
  step:∀ fr s g w τ d,Rl fr s g->¬ Fin fr s->Rows B w->(fr.mode=.run->∀ o f,fr.oper?=some o->GJ o=some f->F f)->Uo P B main Rl τ d g w (stepG P true (G fr s) (sh (D7 B w) τ d))
  self:∀ fr s g w τ d,Rl fr s g->¬ Fin fr s->(fr.mode=.run->∀ o f,fr.oper?=some o->GJ o=some f->F f)->Uo P Qe true Self τ d (G fr s) w (stepG P true (G fr s) (sh (D7 Qe w) τ d))
def aV (Fin:Frame->List Frame->Prop)(m:Machine):Prop:=∃ fr s w,m=lone fr s w/\Fin fr s
section
variable {P:Program}{F:FuncId->Prop}{B:Hid}{main:Bool}{R:World->World->Prop}{D:World->World->Array Event->Prop}{Rl:Frame->List Frame->Goroutine->Prop}{Fin:Frame->List Frame->Prop}
structure Ng where
  fr:Frame
  s:List Frame
  g:Goroutine
  w:World
def Ag (P:Program)(B:Hid)(main:Bool)(D:World->World->Array Event->Prop)(x:Ng)(w₁:World)(y:Ng):Prop:=
  ∃ es,stepG P true (G x.fr x.s) (D7 B w₁)=.go (G y.fr y.s) (D7 B y.w) es/\stepG P main x.g w₁=.go y.g y.w es/\D w₁ y.w es
def Bg (P:Program)(B:Hid)(main:Bool)(R:World->World->Prop)(D:World->World->Array Event->Prop)(Stop:Goroutine->World->Prop)(Rl:Frame->List Frame->Goroutine->Prop):Type:=
  { x:Ng // Rl x.fr x.s x.g/\Rows B x.w/\x.g.status=.running/\¬ Way P main R D Stop x.g x.w }
variable {Stop:Goroutine->World->Prop}
theorem SY (x:Bg P B main R D Stop Rl):∃ w₁,R x.1.w w₁/\∀ g' w' es,stepG P main x.1.g w₁=.go g' w' es->D w₁ w' es->¬ Way P main R D Stop g' w':=by apply Classical.byContradiction;intro h;refine x.2.2.2.2 (.one x.2.2.2.1 fun w₁ h₁=>?_);apply Classical.byContradiction;intro h2;exact h ⟨w₁,h₁,fun g' w' es a b c=>h2 ⟨g',w',es,a,b,c⟩⟩
def tg (x:Bg P B main R D Stop Rl):World:=(SY x).choose
theorem jd (x:Bg P B main R D Stop Rl):R x.1.w (tg x):=(SY x).choose_spec.1
theorem qd (x:Bg P B main R D Stop Rl):∀ g' w' es,stepG P main x.1.g (tg x)=.go g' w' es->D (tg x) w' es->¬ Way P main R D Stop g' w':=(SY x).choose_spec.2
open Classical in
def ng (x:Bg P B main R D Stop Rl):Option (Bg P B main R D Stop Rl):=
  if h:∃ y:Bg P B main R D Stop Rl,Ag P B main D x.1 (tg x) y.1 then some h.choose else none
theorem gT {x y:Bg P B main R D Stop Rl}(h:ng x=some y):Ag P B main D x.1 (tg x) y.1:=by
  unfold ng at h;split at h
  . rename_i h';cases h;exact h'.choose_spec
  . cases h
theorem jw {x:Bg P B main R D Stop Rl}(h:ng x=none):∀ y:Bg P B main R D Stop Rl,¬ Ag P B main D x.1 (tg x) y.1:=by
  unfold ng at h;split at h
  . cases h
  . rename_i h';exact fun y hy=>h' ⟨y,hy⟩
def sg (x:Bg P B main R D Stop Rl):Nat->Option (Bg P B main R D Stop Rl)
  | 0=>some x
  | k+1=>(sg x k).bind ng
def cg (x:Bg P B main R D Stop Rl)(k:Nat):Nat:=
  match sg x k,sg x (k+1) with
  | some a,some b=>b.1.w.drawn - (tg a).drawn
  | _,_=>0
def pg (x:Bg P B main R D Stop Rl):Nat->Nat
  | 0=>0
  | k+1=>pg x k+cg x k
theorem Xn (x:Bg P B main R D Stop Rl){i j:Nat}(h:i<=j):pg x i<=pg x j:=by
  induction h with
  | refl=>exact Nat.le_refl _
  | step _ ih=>exact Nat.le_trans ih (Nat.le_add_right _ _)
theorem XA {x:Bg P B main R D Stop Rl}{k:Nat}(h:sg x k=none):∀ j,k<=j->sg x j=none:=by
  intro j hj;induction hj with
  | refl=>exact h
  | step _ ih=>simp [sg,ih]
def og (x:Bg P B main R D Stop Rl)(k:Nat):World:=
  match sg x k with
  | some a=>tg a
  | none=>tg x
open Classical in
def ig (x:Bg P B main R D Stop Rl)(m:Nat):Nat:=
  if h:∃ k,m < pg x (k+1) then (least _ h).choose else if h:∃ k,sg x (k+1)=none then (least _ h).choose else 0
def LD (x:Bg P B main R D Stop Rl):Nat->Question->Nat:=fun m=>(og x (ig x m)).tape ((og x (ig x m)).drawn+(m - pg x (ig x m)))
theorem dh {x a b:Bg P B main R D Stop Rl}{k:Nat}(ha:sg x k=some a)(hb:sg x (k+1)=some b){i:Nat}(hi:i < b.1.w.drawn - (tg a).drawn):LD x (pg x k+i)=(tg a).tape ((tg a).drawn+i):=by
  have hc:cg x k=b.1.w.drawn - (tg a).drawn:=by simp [cg,ha,hb]
  have hlt:pg x k+i < pg x (k+1):=by simp only [pg];omega
  have hex:∃ k',pg x k+i < pg x (k'+1):=⟨k,hlt⟩
  have hid:ig x (pg x k+i)=k:=by
    unfold ig;rw [dif_pos hex];obtain ⟨h2,h1⟩:=(least _ hex).choose_spec;generalize (least _ hex).choose=n at h1 h2;rcases Nat.lt_or_ge n k with h|h
    . have:=Xn x (show n+1<=k from h);omega
    . rcases Nat.lt_or_ge k n with h' | h'
      . exact absurd hlt (h1 k h')
      . omega
  unfold LD;rw [hid];have hs:og x k=tg a:=by simp [og,ha]
  rw [hs,show pg x k+i - pg x k=i by omega]
theorem bD {x a:Bg P B main R D Stop Rl}{k:Nat}(ha:sg x k=some a)(hb:sg x (k+1)=none)(i:Nat):LD x (pg x k+i)=(tg a).tape ((tg a).drawn+i):=by
  have hpos:∀ j,k<=j->pg x j=pg x k:=by
    intro j hj;induction hj with
    | refl=>rfl
    | step h ih=>
      rename_i j
      have:cg x j=0:=by
        have:=XA hb (j+1) (Nat.succ_le_succ h);unfold cg;rw [this];split
        . rename_i h;cases h
        . rfl
      simp only [pg,this,ih,Nat.add_zero]
  have hex:¬ ∃ k',pg x k+i < pg x (k'+1):=by
    rintro ⟨k',h⟩;rcases Nat.lt_or_ge k' k with hl|hl
    . have:=Xn x (show k'+1<=k from hl);omega
    . have:=hpos (k'+1) zOM;omega
  have Wv:∃ k,sg x (k+1)=none:=⟨k,hb⟩
  have hid:ig x (pg x k+i)=k:=by
    unfold ig;rw [dif_neg hex,dif_pos Wv];obtain ⟨h2,h1⟩:=(least _ Wv).choose_spec;generalize (least _ Wv).choose=n at h1 h2;rcases Nat.lt_or_ge n k with h|h
    . have:=XA h2 k zOM;rw [this] at ha;cases ha
    . rcases Nat.lt_or_ge k n with h' | h'
      . exact absurd hb (h1 k h')
      . omega
  unfold LD;rw [hid];have hs:og x k=tg a:=by simp [og,ha]
  rw [hs,show pg x k+i - pg x k=i by omega]
theorem Vd (hT:∀ w w₁,R w w₁->Turns B w w₁)(hD:∀ w w' es,Rows B w->Kept B w w'->(∀ e∈es,IG B w'.heap.size e)->D w w' es)(H:kW P F B main Rl Fin){Fn:Fence}(hFn:∀ f,Fn.fn f->F f){Vr:Frame}{s0:List Frame}{g0:Goroutine}{w0:World}(h0:Rl Vr s0 g0)(hR0:Rows B w0){En:(Nat->Question->Nat)->Frame->List Frame->World->Prop}(hcon:∀ τ,∃ fr s w',En τ fr s w'/\StepsIn (fun m=>Machine.fenced P Fn m/\¬ aV Fin m) P (lone Vr s0 (sh (D7 B w0) τ 0)) (lone fr s w')) :
    Way P main R D (fun g w=>∃ fr s τ d,Rl fr s g/\En τ fr s (sh (D7 B w) τ d)/\Rows B w) g0 w0:=by
  apply Classical.byContradiction;intro hno
  let x0:Bg P B main R D (fun g w=>∃ fr s τ d,Rl fr s g/\En τ fr s (sh (D7 B w) τ d)/\Rows B w) Rl:=⟨⟨Vr,s0,g0,w0⟩,h0,hR0,H.run _ _ _ h0,hno⟩
  obtain ⟨fr,s,w',hEn,hC⟩:=hcon (LD x0);obtain ⟨N,hN,jc⟩:=StepsIn.run hC;have claim:∀ k,k<=N->∃ x,sg x0 k=some x/\runN P k (lone Vr s0 (sh (D7 B w0) (LD x0) 0))=.next (lone x.1.fr x.1.s (sh (D7 B x.1.w) (LD x0) (pg x0 k))):=by
    intro k;induction k with
    | zero=>exact fun _=>⟨x0,rfl,rfl⟩
    | succ k ih=>
      intro hk;obtain ⟨x,hx,hrun⟩:=ih zOM;have sI:=jc k zOM _ hrun;have hnext:∃ m1,step P (lone x.1.fr x.1.s (sh (D7 B x.1.w) (LD x0) (pg x0 k)))=.next m1/\∀ m2,step P (lone x.1.fr x.1.s (sh (D7 B x.1.w) (LD x0) (pg x0 k)))=.next m2->runN P (k+1) (lone Vr s0 (sh (D7 B w0) (LD x0) 0))=.next m2:=by
        have hadd:=runN_add P k 1 (lone Vr s0 (sh (D7 B w0) (LD x0) 0));rw [hrun] at hadd;have h1:runN P 1 (lone x.1.fr x.1.s (sh (D7 B x.1.w) (LD x0) (pg x0 k)))=step P (lone x.1.fr x.1.s (sh (D7 B x.1.w) (LD x0) (pg x0 k))):=by simp only [runN];cases step P (lone x.1.fr x.1.s (sh (D7 B x.1.w) (LD x0) (pg x0 k))) <;> rfl
        cases hs:step P (lone x.1.fr x.1.s (sh (D7 B x.1.w) (LD x0) (pg x0 k))) with
        | next m1=>
          refine ⟨m1,rfl,fun m2 h2=>?_⟩;cases h2
          rw [hadd];simp only [h1,hs]
        | ended o w2=>
          exfalso
          have hE:runN P (k+1) (lone Vr s0 (sh (D7 B w0) (LD x0) 0))=.ended o w2:=by rw [hadd];simp only [h1,hs]
          have:=runN_ended hE (N - (k+1));rw [show k+1+(N - (k+1))=N by omega,hN] at this;cases this
      obtain ⟨m1,hm1,Va⟩:=hnext;have Y5:=hT _ _ (jd x);have RV:=Y5.rows x.2.2.1;have hsame:sh (D7 B (tg x)) (LD x0) (pg x0 k)=sh (D7 B x.1.w) (LD x0) (pg x0 k):=by rw [Y5.same];rfl
      have hg0:=sI.1 (G x.1.fr x.1.s) (by simp [lone,G]);have hab:x.1.fr.mode=.run->∀ o g,x.1.fr.oper?=some o->GJ o=some g->F g:=fun hm o g ho hc=>hFn _ (hg0.2.2.1 g (Nu hm ho hc));have hnf:¬ Fin x.1.fr x.1.s:=fun hf=>sI.2 ⟨_,_,_,rfl,hf⟩;cases hnx:sg x0 (k+1) with
      | none=>
        exfalso
        have hag:=bD hx hnx;have h1:=H.step x.1.fr x.1.s x.1.g (tg x) (LD x0) (pg x0 k) x.2.1 hnf RV hab;have h2:=H.self x.1.fr x.1.s x.1.g (D7 B (tg x)) (LD x0) (pg x0 k) x.2.1 hnf hab;rw [F7 (Fh RV)] at h2;cases hst:stepG P true (G x.1.fr x.1.s) (sh (D7 B (tg x)) (LD x0) (pg x0 k)) with
        | go g w1 es=>
          rw [hst] at h1 h2;obtain ⟨fr',s',zF,w2,e0,hRl,e1,e2,hK,hev⟩:=h1 fun i _=>(hag i).symm;obtain ⟨ku,s2,gS,w3,e3,Uc,e4,e5,hK3,_⟩:=h2 fun i _=>(hag i).symm;have hdw:=hD _ _ _ RV hK hev;have hw3:w3=D7 B w2:=by
            have mJ:=hK3.TG (Fh RV);rw [F7 mJ] at e4;have hh:sh w3 (LD x0) (pg x0 k+(w3.drawn - (tg x).drawn))=sh (D7 B w2) (LD x0) (pg x0 k+(w2.drawn - (tg x).drawn)):=e4.symm.trans e1;have ht3:w3.tape=(D7 B w2).tape:=by rw [hK3.tape];exact hK.tape.symm
            have hd3:w3.drawn=(D7 B w2).drawn:=by have hh':pg x0 k+(w3.drawn - (tg x).drawn)=pg x0 k+(w2.drawn - (tg x).drawn):=congrArg World.drawn hh;have l1:(tg x).drawn<=w3.drawn:=hK3.drawn;have l2:(tg x).drawn<=w2.drawn:=hK.drawn;show w3.drawn=w2.drawn;omega
            have:sh (sh w3 (LD x0) (pg x0 k+(w3.drawn - (tg x).drawn))) w3.tape w3.drawn=sh (sh (D7 B w2) (LD x0) (pg x0 k+(w2.drawn - (tg x).drawn))) (D7 B w2).tape (D7 B w2).drawn:=by rw [hh,ht3,hd3]
            exact this
          subst hw3;have jA:G fr' s'=G ku s2:=e0.symm.trans e3;have e5':stepG P true (G x.1.fr x.1.s) (D7 B (tg x))=.go (G fr' s') (D7 B w2) es:=by rw [e5];unfold Self at Uc;rw [Uc,← jA]
          have hbad:=qd x _ _ _ e2 hdw;have hs1:ng x=none:=by have:sg x0 (k+1)=(sg x0 k).bind ng:=rfl;rw [hx] at this;exact this.symm.trans hnx
          exact jw hs1 ⟨⟨fr',s',zF,w2⟩,hRl,RV.kept hK,H.run _ _ _ hRl,hbad⟩ ⟨es,e5',e2,hdw⟩
        | ended o w1 es=>
          rw [hsame] at hst;obtain ⟨o,w2,h⟩:=Ib hst;rw [hm1] at h;cases h
        | _=>rw [hst] at h1;exact h1.elim
      | some y=>
        have hs1:ng x=some y:=by have:sg x0 (k+1)=(sg x0 k).bind ng:=rfl;rw [hx] at this;exact this.symm.trans hnx
        obtain ⟨es,a1,a2,a3⟩:=gT hs1;refine ⟨y,rfl,?_⟩;have h2:=H.self x.1.fr x.1.s x.1.g (sh (D7 B (tg x)) (LD x0) (pg x0 k)) (tg x).tape (tg x).drawn x.2.1 hnf hab;have hNP:F4 (sh (D7 B (tg x)) (LD x0) (pg x0 k)):=Fh RV;rw [F7 hNP] at h2;have hback:sh (sh (D7 B (tg x)) (LD x0) (pg x0 k)) (tg x).tape (tg x).drawn=D7 B (tg x):=rfl;rw [hback,a1] at h2;obtain ⟨ku,s2,gS,w3,e3,Uc,e4,e5,hK3,_⟩:=h2 fun i hi=>dh hx hnx (by have:(tg x).drawn+i < y.1.w.drawn:=hi;omega)
        unfold Self at Uc;subst Uc;rw [← e3] at e5;have mJ:=hK3.TG hNP;rw [F7 mJ] at e4;have hc:cg x0 k=y.1.w.drawn - (tg x).drawn:=by simp [cg,hx,hnx]
        have hw3:w3=sh (D7 B y.1.w) (LD x0) (pg x0 (k+1)):=by
          have hd:y.1.w.drawn=(tg x).drawn+(w3.drawn - pg x0 k):=congrArg World.drawn e4;have hl:pg x0 k<=w3.drawn:=hK3.drawn;have ht3:w3.tape=LD x0:=hK3.tape;have hdr:w3.drawn=pg x0 (k+1):=by simp only [pg,hc];omega
          have:sh (D7 B y.1.w) w3.tape w3.drawn=sh (sh w3 (tg x).tape ((tg x).drawn+(w3.drawn - pg x0 k))) w3.tape w3.drawn:=by rw [e4];rfl
          rw [ht3,hdr] at this;rw [this];show w3={ w3 with tape:=LD x0,drawn:=pg x0 (k+1) }
          rw [← ht3,← hdr]
        have hst:stepG P true (G x.1.fr x.1.s) (sh (D7 B x.1.w) (LD x0) (pg x0 k))=.go (G y.1.fr y.1.s) w3 es:=by rw [← hsame];exact e5
        rw [← hw3];exact Va _ (Ox hst)
  obtain ⟨x,hx,hrun⟩:=claim N (Nat.le_refl _);rw [hN] at hrun;have hl:lone fr s w'=lone x.1.fr x.1.s (sh (D7 B x.1.w) (LD x0) (pg x0 N)):=by injection hrun
  simp only [lone,Machine.mk.injEq] at hl;obtain ⟨hw,hgs,_⟩:=hl;simp only [Array.mk.injEq,List.cons.injEq,Goroutine.mk.injEq] at hgs;obtain ⟨⟨hfr,hcs,_⟩,_⟩:=hgs;refine x.2.2.2.2 (.stop fun w₁ h₁=>?_);have Y5:=hT _ _ h₁;refine ⟨x.1.fr,x.1.s,LD x0,pg x0 N,x.2.1,?_,Y5.rows x.2.2.1⟩;have:sh (D7 B w₁) (LD x0) (pg x0 N)=w':=by rw [Y5.same,hw];rfl
  rw [this,← hfr,← hcs];exact hEn
end
end
section
variable [Host]
section
variable {P:Program}{F:FuncId->Prop}{B:Hid}{main:Bool}{τ:Nat->Question->Nat}{d:Nat}{fr:Frame}{s t:List Frame}{w:World}
def Carry (P:Program)(m:Bool)(fr:Frame)(w:World):Prop:=
  (∀ c,∃ o w' es,stepG P m (G fr c) w=.ended o w' es)\/∃ fr' pre w' es,∀ c,stepG P m (G fr c) w=.go (G fr' (pre ++ c)) w' es
theorem TW (hmode:fr.mode=.run){sem:Sem Next}(hT:Ed P (Hz F) sem)(hN:F4 w)(hk:fr.kind=.normal)(hw:∀ d wr r sv k,fr.todo≠.call d wr r sv :: k)(h:∀ cs,stepG P main (G fr cs) w=stepG.apply P true fr cs none sem w):Carry P main fr w:=by
  have hkk:=Od (es:=#[]) hT hN;have K7:(fr.kind == CallKind.early)=false:=by rw [hk];rfl
  unfold Carry;simp only [h];generalize hr:sem.runT P w #[]=r at hkk;obtain ⟨r,es⟩:=r;unfold stepG.apply;simp only [if_true,hr,K7,Bool.false_eq_true,if_false];cases r with
  | ok n w1=>
    cases n with
    | value v=>exact .inr ⟨_,[],_,_,fun c=>rfl⟩
    | skip=>exact .inr ⟨_,[],_,_,fun c=>rfl⟩
    | enter f args=>exact .inr ⟨_,[fr],_,_,fun c=>rfl⟩
    | _=>exact hkk.elim
  | halt x w1=>
    cases x with
    | panic v=>exact .inr ⟨_,[],_,_,fun c=>rfl⟩
    | stuck m=>exact .inl fun c=>⟨_,_,_,rfl⟩
    | unsupported u=>cases u <;> first | exact hkk.elim | exact .inl fun c=>⟨_,_,_,rfl⟩
    | _=>exact hkk.elim
theorem FQ {fr':Frame}(h:∀ cs,stepG P main (G fr cs) w=.go (G fr' cs) w):Carry P main fr w:=.inr ⟨fr',[],w,#[],h⟩
theorem Yj (hF:∀ f,F f->Lets P f)(hN:F4 w)(h0:GD P F fr)(hmode:fr.mode=.run)(hab:∀ o g,fr.oper?=some o->GJ o=some g->F g):Carry P main fr w:=by
  have hrnd:=h0.round;have htodo:=h0.todo;have hkind:=h0.kind;obtain ⟨fn,tmps,todo,defers,mode,kind,roundOf⟩:=fr;simp only at hmode hrnd htodo hkind;subst hmode hrnd hkind;cases todo with
  | nil=>exact FQ fun cs=>by simp [G,stepG,stepG.exec];rfl
  | cons it k=>
    have hi:=htodo it (by simp);cases it with
    | code c=>
      cases c with
      | skip=>exact FQ fun cs=>by simp [G,stepG,stepG.exec];rfl
      | label l=>exact FQ fun cs=>by simp [G,stepG,stepG.exec];rfl
      | ret=>exact FQ fun cs=>by simp [G,stepG,stepG.exec];rfl
      | refuse why=>exact .inl fun c=>⟨_,_,_,by simp [G,stepG,stepG.exec];exact ⟨rfl,rfl,rfl⟩⟩
      | seq a b=>exact FQ fun cs=>by simp [G,stepG,stepG.exec];rfl
      | cond c a b=>
        by_cases hb:∃ v,Frame.eval { fn,tmps,todo:=.code (.cond c a b) :: k,defers,mode:=.run,kind:=.normal } c=.bool v
        . obtain ⟨v,hv⟩:=hb;exact FQ fun cs=>by simp [G,stepG,stepG.exec,hv];rfl
        . refine .inl fun cs=>?_;generalize he:Frame.eval { fn,tmps,todo:=.code (.cond c a b) :: k,defers,mode:=.run,kind:=.normal } c=e at hb;cases e with
          | bool v=>exact absurd ⟨v,rfl⟩ hb
          | _=>exact ⟨_,_,_,by simp [G,stepG,stepG.exec,he];exact ⟨rfl,rfl,rfl⟩⟩
      | block id b=>exact FQ fun cs=>by simp [G,stepG,stepG.exec];rfl
      | loop b=>exact FQ fun cs=>by simp [G,stepG,stepG.exec];rfl
      | scope b=>exact FQ fun cs=>by simp [G,stepG,stepG.exec];rfl
      | exit id=>
        cases he:exitTo id k with
        | some k'=>exact FQ fun cs=>by simp [G,stepG,stepG.exec,he];rfl
        | none=>exact .inl fun c=>⟨_,_,_,by simp [G,stepG,stepG.exec,he];exact ⟨rfl,rfl,rfl⟩⟩
      | region id ops draw=>
        cases draw with
        | false=>exact FQ fun cs=>by simp [G,stepG,stepG.exec];rfl
        | true=>
          exact .inr ⟨_,[],_,_,fun cs=>by simp only [G,stepG,stepG.exec,choose,Sem.run,Question.forced,Question.cut,Bool.not_true,Bool.false_eq_true,if_false];rfl⟩
      | rangeFunc f ps a b=>exact absurd hi Bool.false_ne_true
      | goto l=>exact absurd hi Bool.false_ne_true
    | inBlock id=>exact FQ fun cs=>by simp [G,stepG,stepG.exec];rfl
    | inLoop b=>exact FQ fun cs=>by simp [G,stepG,stepG.exec];rfl
    | inScope b=>exact FQ fun cs=>by simp [G,stepG,stepG.exec];rfl
    | inRegion ops l=>
      cases l with
      | nil=>exact FQ fun cs=>by simp [G,stepG,stepG.exec];rfl
      | cons i rest=>
        cases hw:((ops[i]?).map (Region.wanted · (yielded ops tmps))).getD false with
        | false=>exact FQ (fr':=Frame.finish { fn,tmps,todo:=.inRegion ops (i :: rest) :: k,defers,mode:=.run,kind:=.normal } undef) fun cs=>by simp [G,stepG,stepG.exec,hw]
        | true=>
          cases ho:ops[i]? with
          | none=>rw [ho] at hw;cases hw
          | some o=>
            have VR:J5 P o=true:=Mk hi ho;refine TW (F:=F) (sem:=execOp (Frame.eval { fn,tmps,todo:=.inRegion ops (i :: rest) :: k,defers,mode:=.run,kind:=.normal }) o) rfl ?_ hN rfl (fun _ _ _ _ _ h=>by cases h) (fun cs=>?_)
            . refine PS (fun g=>rfl) (fun v=>rfl) (fun g hg=>?_) VR;have hFg:=hab o g (by simp [Frame.oper?,ho]) hg;rcases (hF g hFg).2 with ⟨f,c,h1,h2,h3,_⟩|h|h
              . exact .inl ⟨hFg,f,c,h1,h2,h3⟩
              . exact .inr h
              . rw [Ky VR hg] at h;cases h
            . have hw':Region.wanted o (yielded ops tmps)=true:=by rw [ho] at hw;exact hw
              obtain ⟨dst,op,type,pos,after,guard⟩:=o;simp [G,stepG,stepG.exec,stepG.oper,Frame.oper?,ho,hw']
    | inRangeFunc l=>exact absurd hi Bool.false_ne_true
    | endRangeFunc l=>exact absurd hi Bool.false_ne_true
    | beginRound=>exact absurd hi Bool.false_ne_true
    | call d w r sv=>exact absurd hi Bool.false_ne_true
    | extern r a=>exact absurd hi Bool.false_ne_true
inductive Yx | finish (v:Value)
  | raise (chain:List PanicEntry)
def Yx.on:Yx->Frame->Frame
  | .finish v,c=>c.finish v
  | .raise ch,c=>c.raise ch
theorem Pt (h0:GD P F fr)(hmode:fr.mode≠.run):(∀ c cs,∃ o w' es,stepG P main (G fr (c :: cs)) w=.ended o w' es)\/∃ (bk:Yx) (w':World) (es:Array Event),(∀ ch,bk=.raise ch->∀ e∈ch,e.goexit=false)/\∀ c cs,stepG P main (G fr (c :: cs)) w=.go (G (bk.on c) cs) w' es:=by
  have hdef:=h0.defers;have hkind:=h0.kind;have hno:=h0.bL;obtain ⟨fn,tmps,todo,defers,mode,kind,roundOf⟩:=fr;simp only at hmode hdef hkind hno;subst hdef hkind;cases mode with
  | run=>exact absurd rfl hmode
  | returning=>
    cases hf:P.funcs[fn]? with
    | none=>exact .inr ⟨.finish (tmps.getD 0 undef),w,#[],fun _ h=>(by cases h),fun c cs=>by simp [G,stepG,unwind,hf,doReturn,Yx.on]⟩
    | some f=>
      have hst:∀ (c:Frame) (cs:List Frame),stepG P main (G { fn,tmps,todo,defers:=[],mode:=.returning,kind:=.normal,roundOf } (c :: cs)) w =
          GStep.after (seen P fn ((results f tmps).runT P w #[]).2) (match ((results f tmps).runT P w #[]).1 with
            | .ok v w=>.go (G (c.finish v) cs) w
            | .halt (.stuck s) w=>.ended (.stuck s (Frame.pos P { fn,tmps,todo,defers:=[],mode:=.returning,kind:=.normal,roundOf })) w
            | .halt _ w => .ended (.stuck "return: the result variables cannot be read" (Frame.pos P { fn, tmps, todo, defers := [], mode := .returning, kind := .normal, roundOf })) w) := fun c cs => by
        simp only [G,stepG,unwind,hf];generalize (results f tmps).runT P w #[]=r;obtain ⟨r,es⟩:=r;cases r with
        | ok v w=>rfl
        | halt x w=>cases x <;> rfl
      generalize (results f tmps).runT P w #[]=r at hst;obtain ⟨r,es⟩:=r;cases r with
      | ok v w1=>exact .inr ⟨.finish v,w1,_,fun _ h=>(by cases h),fun c cs=>(hst c cs).trans rfl⟩
      | halt x w1=>exact .inl fun c cs=>by rw [hst];cases x <;> exact ⟨_,_,_,rfl⟩
  | panicking chain=>
    by_cases hca:Frame.catches P { fn,tmps,todo,defers:=[],mode:=.panicking chain,kind:=.normal,roundOf }=true
    . exact .inl fun c cs=>by simp only [G,stepG,unwind,hca,if_true];exact ⟨_,_,_,rfl⟩
    . exact .inr ⟨.raise chain,w,#[],fun ch h=>(by cases h;exact hno chain rfl),fun c cs=>by simp only [G,stepG,unwind,hca,if_false,Bool.false_eq_true];rfl⟩
end
end
end Go.LT
end
