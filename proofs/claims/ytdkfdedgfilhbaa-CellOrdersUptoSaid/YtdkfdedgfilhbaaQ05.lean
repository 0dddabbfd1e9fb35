/-
  Part 5 of the proof that CellOrders is true of every input of bulk at most 1048576.
-/
import Derived.Test.YtdkfdedgfilhbaaQ04
import Derived.TacticsIn
set_option linter.unusedVariables false
set_option linter.unusedSectionVars false
set_option linter.unusedSimpArgs false
set_option maxHeartbeats 2000000
noncomputable section
namespace Go.LK
open Go Go.Conc Go.LT Go.LC
open Go.ConcN (WgLive sumTo upd sumTo_upd upd_ne upd_same)
open Go.ConcR (KK wgBlock WgAt stA smA rd wr mk)
section
section
variable {X Sg:Type}{M:Md X Sg}{ρ:Rn}{P:Program}{ws:List (FE X)}{hd:Nat}{role:Nat->Fv}{bd:Nat->Nat}{w:World}
theorem Qt{v u:FE X}{j:Nat}(h:(ws++[v])[j]?=some u):(j<ws.length/\ws[j]?=some u)\/(j=ws.length/\u=v):=by
 rw[List.getElem?_append]at h;split at h
 . rename_i hlt;exact .inl ⟨hlt,h⟩
 . rename_i hge
   right
   cases e:j-ws.length with
   | zero=>rw[e]at h;exact⟨by omega,(Option.some.inj h).symm⟩
   | succ m=>rw[e]at h;simp at h
theorem Nt{v u:FE X}{j:Nat}(h:ws[j]?=some u):(ws++[v])[j]?=some u:=by have hlt:j<ws.length:=(List.getElem?_eq_some_iff.1 h).1;rw[List.getElem?_append_left hlt];exact h
theorem kW{v:FE X}:(ws++[v])[ws.length]?=some v:=by simp
theorem Zy(hcl:¬ ρ.UM){v:FE X}{r:Nat}{tgt:X × Sg × Bool}{ME:Goroutine->Prop}{n ex:Nat}{live:Nat->Nat}{T:Trace}{gs:Array Goroutine}{sl:Option (Nat × Nat)}{g a' child:Goroutine}(C:MP M ρ P ws 0 role bd w)(H:PU M ρ P ws 0 bd role live (ex+1) T gs w)(hL:Lv ws gs.size live)(hg:gs[0]?=some g)(hrun:g.status=.running)(hgo:∀w₁,G9 ρ.ty ρ.Wg w w₁->stepG P true g w₁=.spawn a' child w₁ #[])(hS:Sits P true (fun _=>True) (fun _=>False) 0 (Seat.one ρ.come ρ.zi false ME) n a')(jm:v.h=gs.size)(hvk:v.k=ws.length)(hov:v.over=false)(hown:∀b,v.own b->¬ M.Sh b/\b≠ρ.Wg/\ρ.Bo b=false/\(∃c e f,w.heap[b]?=some (.cells c e f))/\∀(j:Nat) (u:FE X),ws[j]?=some u->¬ u.own b)(hin:v.own v.b/\v.own v.pb)(hch:v.t≠ρ.come/\v.t≠ρ.gone/\(∃k,w.heap[v.t]?=some (.chan 0 #[] false k k false))/\∀(j:Nat) (u:FE X),ws[j]?=some u->u.t≠v.t)(hJ:∀w',G9 ρ.ty ρ.Wg w w'->∀B,dX M ρ v B w'.heap.size->LT.Rows B w'->WJ M ρ P r ⟨v,B,w'.heap.size,tgt⟩ child w') :
  ∃N gs' w' sl' T' FK aS Gc v' g0,runNT P N (crowd gs w sl) T=(.next (crowd gs' w' sl'),T')/\gs'.size=gs.size+1/\gs'[0]?=some (g0.finishComm P #[rcase ρ.come ρ.zi] (.recv false) 0 (.int .i64 v.k) true)/\ME g0/\
    MP M ρ P (ws++[v']) 0 FK aS w'/\PU M ρ P (ws++[v']) 0 aS FK Gc ex T' gs' w'/\Lv (ws++[v']) gs'.size Gc/\
    v'.h=v.h/\v'.k=v.k/\v'.b=v.b/\v'.t=v.t/\v'.x=tgt.1/\v'.over=tgt.2.2/\v'.r=r/\M.Inv tgt.2.1 w'/\(∀b,b≠ρ.Wg->(∃c e f,w.heap[b]?=some (.cells c e f))->¬ v.own b->¬ M.Sh b->w'.heap[b]?=w.heap[b]?)/\
    w.heap.size<=w'.heap.size/\(∀b,v'.own b->v.own b\/w.heap.size<=b)/\(∀b0,b0<=ρ.Wg->b0<=ρ.come->Po b0 w w'):=by
 have E:=C.env;have hpos:0<gs.size:=(zGE hg).1;obtain⟨kc,OD⟩:=C.come.2;have hfresh:∀(j:Nat) (u:FE X),ws[j]?=some u->u.h≠gs.size:=fun j u hu e=>by have:=hL.lt j u hu;omega
 have hmem:∀g l,Oj ws g l->l.isMemory=true:=by rintro x l ⟨j,u,_,_,_,hs⟩;rcases hs with rfl|rfl|rfl<;>rfl
 obtain⟨N1,gs1,w1,sl1,T1,PK,QZ,p1,p2,p3,p4,p5,p6,p7,p8⟩:=hire (sl:=sl) (h:=0) (Still':=Oj ws) (pJ:=bd) (st:=Seat.one ρ.come ρ.zi false ME) (n:=n) E E (fun _ _=>by rw[K0 C];trivial)
  (by
    rintro⟨_,h|⟨j,u,hu,Iu,_⟩⟩
    . omega
    . exact hfresh j u hu Iu) (fun _ _=>rfl) (fun _ _=>rfl)
  (by rintro l ⟨j,u,hu,Iu,_⟩;exact hfresh j u hu Iu) hmem hg hrun hgo (by simp) H (.inl rfl) (by rw[K0 C,St0 C,C.wO];exact hS) (Seat.one_wf _ _ _ _) (by rw[C.wO];exact Nat.zero_le _) (fun c hc=>by rw[Seat.one_has.1 hc];exact⟨kc,OD⟩)
  (fun x st' n' c hx hr' hc hc'=>by
    rw[Seat.one_has.1 hc]at hc' ⊢;rcases C.known x st' n' _ hr' hc' with h|⟨h,_⟩|⟨j,u,hu,_,h⟩
    . exact h
    . exact absurd h hx
    . exact absurd h.symm (C.chan j u hu).1)
 have hget:=fun{j:Nat} {u:FE X} (h:(ws++[v])[j]?=some u)=>Qt h;have hblk1:∀b,b≠ρ.Wg->w1.heap[b]?=w.heap[b]?:=fun b hb=>p5.block b hb;have X5:=p5.size;have SL:∀{c k:Nat},w.heap[c]?=some (.chan 0 #[] false k k false)->c≠ρ.Wg:=fun{c k} hc z=>by subst z;obtain⟨c',e,f,h⟩:=IB H.KS.wg;rw[hc]at h;cases h
 have H1:PU M ρ P (ws++[v]) v.h bd PK QZ ex T1 gs1 w1:=by
  rw[← jm]at p4;have hr:=p4.re (K':=Kc ρ (ws++[v])) (Still':=Oj (ws++[v])) (pJ:=bd)
    (fun x hx=>by
      funext z
      apply propext;constructor
      . exact fun h j u hu Iu ho=>h j u (Nt hu) Iu ho
      . intro h j u hu Iu ho;rcases hget hu with⟨_,hu⟩|⟨_,rfl⟩
        . exact h j u hu Iu ho
        . exact absurd Iu.symm hx)
    (fun x hx=>by
      funext z
      apply propext;constructor
      . rintro⟨j,u,hu,Iu,ho,hs⟩;rcases hget hu with⟨_,hu⟩|⟨_,rfl⟩
        . exact⟨j,u,hu,Iu,ho,hs⟩
        . exact absurd Iu.symm hx
      . rintro⟨j,u,hu,Iu,ho,hs⟩;exact⟨j,u,Nt hu,Iu,ho,hs⟩)
    (fun _ _=>rfl) (fun l hl=>by
      obtain⟨j,u,hu,Iu,ho,hs⟩:=hl;have hu':u=v:=by
        rcases hget hu with⟨_,hu⟩|⟨_,h⟩
        . exact absurd (Iu.trans jm) (hfresh j u hu)
        . exact h
      subst hu';have key:∀b,u.own b->∀o,¬ Iq ρ (.cell ⟨b,o,none⟩):=fun b hb o=>by
        rintro⟨a,ha,h⟩;cases ha
        obtain⟨_,h1,h2,_⟩:=hown b hb;rcases h with h|h
        . exact h1 h
        . rw[h2]at h;cases h
      rcases hs with rfl|rfl|rfl
      . exact⟨rfl,key _ hin.1 _⟩
      . exact⟨rfl,key _ hin.1 _⟩
      . exact⟨rfl,key _ hin.2 _⟩)
  have eM:(fun g=>Nl ws 0 g\/g=v.h)=Nl (ws++[v]) v.h:=by
    funext x
    apply propext;constructor
    . rintro((h | h | ⟨j,u,hu,Iu,ho⟩) | h)
      . exact .inl h
      . exact .inl h
      . exact .inr (.inr ⟨j,u,Nt hu,Iu,ho⟩)
      . exact .inr (.inl h)
    . rintro(h | h | ⟨j,u,hu,Iu,ho⟩)
      . exact .inl (.inl h)
      . exact .inr h
      . rcases hget hu with⟨_,hu⟩ | ⟨_,rfl⟩
        . exact .inl (.inr (.inr ⟨j,u,hu,Iu,ho⟩))
        . exact .inr Iu.symm
  have eL:(fun g=>IW ws 0 g\/g=0)=IW (ws++[v]) v.h:=by
    funext x
    apply propext;constructor
    . rintro(⟨h0,h | ⟨j,u,hu,Iu,ho⟩⟩ | h)
      . exact absurd h h0
      . exact⟨fun e=>hfresh j u hu (Iu.trans (e.trans jm)),.inr ⟨j,u,Nt hu,Iu,ho⟩⟩
      . exact⟨by omega,.inl h⟩
    . rintro⟨hx,h | ⟨j,u,hu,Iu,ho⟩⟩
      . exact .inr h
      . rcases hget hu with⟨_,hu⟩ | ⟨_,rfl⟩
        . exact .inl ⟨fun e=>by have:=(C.pos j u hu).1;omega,.inr ⟨j,u,hu,Iu,ho⟩⟩
        . exact absurd Iu.symm hx
  unfold PU;rw[← eM,← eL];exact hr
 have C1:MP M ρ P (ws++[v]) v.h PK bd w1:=by
  refine⟨fun j j' u u' hu hu' h=>?_,fun j u hu=>?_,fun j u hu hn ho=>?_,fun x st n' c e hc=>?_,fun j u hu hn=>?_,fun j u hu b hb=>?_,fun j u hu=>?_,fun j u hu=>?_,⟨C.come.1,kc,by rw[hblk1 _ (SL OD)];exact OD⟩,?_,C.sh,fun b hb=>?_,C.wO⟩
  . have key:∀{j:Nat} {u:FE X},ws[j]?=some u->(v.h=u.h\/v.t=u.t\/∃b,v.own b/\u.own b)->False:=fun{j u} hu h=>by
      rcases h with h|h|⟨b,h1,h2⟩
      . exact hfresh j u hu (h.symm.trans jm)
      . exact hch.2.2.2 j u hu h.symm
      . exact(hown b h1).2.2.2.2 j u hu h2
    rcases hget hu with⟨_,hu1⟩|⟨hj,hh⟩<;>rcases hget hu' with⟨_,fu⟩|⟨hj',hh'⟩
    . exact C.apart j j' u u' hu1 fu h
    . rw[hh']at h;exact(key hu1 (h.imp Eq.symm (Or.imp Eq.symm fun⟨b,x,y⟩=>⟨b,y,x⟩))).elim
    . rw[hh]at h;exact(key fu h).elim
    . omega
  . rcases hget hu with⟨_,hu⟩ | ⟨hj,rfl⟩
    . exact C.pos j u hu
    . exact⟨by omega,by rw[hj];exact hvk⟩
  . rcases hget hu with⟨_,hu⟩ | ⟨_,rfl⟩
    . have hu0:u.h≠0:=by have:=(C.pos j u hu).1;omega
      obtain⟨⟨n',h⟩,hb⟩:=C.seats j u hu hu0 ho;exact⟨(p6 u.h).1 _ n' (by rw[upd_ne _ _ hu0,upd_ne _ _ (hfresh j u hu)];exact h),hb⟩
    . exact absurd rfl hn
  . obtain⟨n'',e'⟩:=p6.back e;by_cases hx0:x=0
    . subst hx0;rw[upd_same]at e';cases e'
      exact .inr (.inl ⟨rfl,Seat.one_has.1 hc⟩)
    . rw[upd_ne _ _ hx0]at e';by_cases hxv:x=gs.size
      . subst hxv;rw[upd_same]at e';cases e'
      . rw[upd_ne _ _ hxv]at e';rcases C.known x st n'' c e' hc with h|h|⟨j,u,hu,h⟩
        . exact .inl h
        . exact .inr (.inl h)
        . exact .inr (.inr ⟨j,u,Nt hu,h⟩)
  . rcases hget hu with⟨_,hu⟩ | ⟨_,rfl⟩
    . obtain⟨k1,k2,k3⟩:=C.keep j u hu (by have:=(C.pos j u hu).1;omega)
      exact⟨fun b hb=>(k1 b hb).trans (.of (hblk1 b (C.own j u hu b hb).2.1)),k2,by rw[X5];exact k3⟩
    . exact absurd rfl hn
  . rcases hget hu with⟨_,hu⟩ | ⟨_,rfl⟩
    . obtain⟨a1,a2,a3,a4⟩:=C.own j u hu b hb;exact⟨a1,a2,a3,by rw[hblk1 b a2];exact a4⟩
    . obtain⟨a1,a2,a3,a4,_⟩:=hown b hb;exact⟨a1,a2,a3,by rw[hblk1 b a2];exact a4⟩
  . rcases hget hu with⟨_,hu⟩ | ⟨_,rfl⟩
    . exact C.inside j u hu
    . exact hin
  . rcases hget hu with⟨_,hu⟩ | ⟨_,rfl⟩
    . obtain⟨c1,c2,k,hk⟩:=C.chan j u hu;exact⟨c1,c2,k,by rw[hblk1 _ (SL hk)];exact hk⟩
    . obtain⟨c1,c2,⟨k,hk⟩,_⟩:=hch;exact⟨c1,c2,k,by rw[hblk1 _ (SL hk)];exact hk⟩
  . intro hcl;obtain⟨k,hk⟩:=C.gone hcl;exact⟨k,by rw[hblk1 _ (SL hk)];exact hk⟩
  . obtain⟨h1,h2⟩:=C.old b hb;exact⟨h1,by rw[hblk1 b h1];exact h2⟩
 have hi:(ws++[v])[ws.length]?=some v:=kW;have NJ:dX M ρ v (holdB M v w1) w1.heap.size:=VL (IB H1.KS.wg) (fun h=>(C1.own _ v hi _ h).2.1 rfl) (fun h=>(C1.sh _ h).1 rfl);have Mx:∀(j:Nat) (u:FE X),(ws++[v])[j]?=some u->j≠ws.length->∀b,u.own b->holdB M v w1 b=true:=fun j u hu hne b hb=>by obtain⟨a1,a2,a3,a4⟩:=C1.own j u hu b hb;exact Hy.2 ⟨a4,fun h=>hne (C1.apart j ws.length u v hu hi (.inr (.inr ⟨b,hb,h⟩))),a1⟩
 have WY:∀b,ρ.Bo b=true->holdB M v w1 b=true:=fun b hb=>by
  obtain⟨h1,h2⟩:=C1.old b hb;refine Hy.2 ⟨h2,fun h=>?_,fun h=>?_⟩
  . have:=(C1.own _ v hi b h).2.2.1;rw[hb]at this;cases this
  . have:=(C1.sh b h).2;rw[hb]at this;cases this
 have hL1:Lv (ws++[v]) gs1.size QZ:=by
  refine⟨fun j u hu=>?_,?_,fun j u hu ho=>?_⟩
  . rcases hget hu with⟨_,hu⟩ | ⟨_,rfl⟩
    . have:=hL.lt j u hu;omega
    . omega
  . rw[p8 0 (.inl rfl)];exact hL.zero
  . rcases hget hu with⟨_,hu⟩ | ⟨_,rfl⟩
    . have hu0:u.h≠0:=by have:=(C.pos j u hu).1;omega
      obtain⟨⟨n',h⟩,_⟩:=C.seats j u hu hu0 ho;rw[p8 _ (.inr ⟨_,_,h⟩)];exact hL.one j u hu ho
    . rw[jm];exact p7
 obtain⟨n0,h0⟩:=(p6 0).1 _ n (upd_same _ _ _);obtain⟨N2,gs2,w2,sl2,T2,Tv,bd2,VY,v',g0,r1,r2,r3,r4,r5,r6,r7,a1,a2,a3,a4,a5,a6,a7,a8,a9,uT,jw,a12⟩:=TB (hcl:=hcl) (sl:=sl1) (γ:=⟨v,holdB M v w1,w1.heap.size,tgt⟩) hi hov rfl C1 H1 hL1 NJ Mt WY Mx (by rw[jm];exact p3) (hJ w1 p5 _ NJ Mt) h0;have hset:(ws++[v]).set ws.length v'=ws++[v']:=by simp
 rw[hset]at r5 r6 r7;refine⟨N1+N2,gs2,w2,sl2,T2,Tv,bd2,VY,v',g0,runNT_then p1 r1,r2.trans p2,r3,r4,r5,r6,by rw[r2];exact r7,a1,a2,a3,a4,a5,a6,a7,a8,fun b hb hrow ho hs=>?_,by rw[← X5];exact uT,fun b hb=>by rw[← X5];exact jw b hb,fun b0 h1 h2=>(Po.Yk h1 p5).trans (a12 b0 h1 h2)⟩;have h1:=hblk1 b hb;obtain⟨c,e,f,hc⟩:=hrow;rw[a9 b (Hy.2 ⟨⟨c,e,f,h1.trans hc⟩,ho,hs⟩) hb];exact h1
end
end
end Go.LK
namespace Go.LT
open Go Go.Conc
section
variable [Host]
def VJ(P:Program)(B:Hid)(main:Bool)(Rl:Frame->List Frame->Goroutine->Prop)(τ:Nat->Question->Nat)(d:Nat)(gR:Goroutine)(w:World):GStep->Prop
 | .go g w1 es=>(∀i,d+i<w1.drawn->w.tape (w.drawn+i)=τ (d+i))->∃fr' s' gR' w2,g=G fr' s'/\Rl fr' s' gR'/\w1=sh (EF B w2) τ (d+(w2.drawn-w.drawn))/\
   stepG P main gR w=.go gR' w2 es/\Kept B w w2/\∀e∈es,Jv B w2.heap.size e
 | .ended ..=>True
 | _=>False
def Self(fr:Frame)(s:List Frame)(g:Goroutine):Prop:=g=G fr s
structure pU(P:Program)(F:FuncId->Prop)(B:Hid)(main:Bool)(Rl:Frame->List Frame->Goroutine->Prop)(Fin:Frame->List Frame->Prop):Prop where
 run:∀fr s g,Rl fr s g->g.status=.running
 one:∀fr s g g',Rl fr s g->Rl fr s g'->g=g'
 step:∀fr s g w τ d,Rl fr s g->¬ Fin fr s->Rows B w->(fr.mode=.run->∀o f,fr.oper?=some o->Ij o=some f->F f)->VJ P B main Rl τ d g w (stepG P true (G fr s) (sh (EF B w) τ d))
 self:∀fr s g w τ d,Rl fr s g->¬ Fin fr s->(fr.mode=.run->∀o f,fr.oper?=some o->Ij o=some f->F f)->VJ P RJ true Self τ d (G fr s) w (stepG P true (G fr s) (sh (EF RJ w) τ d))
def bS(Fin:Frame->List Frame->Prop)(m:Machine):Prop:=∃fr s w,m=lone fr s w/\Fin fr s
section
variable {P:Program}{F:FuncId->Prop}{B:Hid}{main:Bool}{R:World->World->Prop}{D:World->World->Array Event->Prop}{Rl:Frame->List Frame->Goroutine->Prop}{Fin:Frame->List Frame->Prop}
structure Ng where
 fr:Frame
 s:List Frame
 g:Goroutine
 w:World
def Ag(P:Program)(B:Hid)(main:Bool)(D:World->World->Array Event->Prop)(x:Ng)(w₁:World)(y:Ng):Prop:=
 ∃es,stepG P true (G x.fr x.s) (EF B w₁)=.go (G y.fr y.s) (EF B y.w) es/\stepG P main x.g w₁=.go y.g y.w es/\D w₁ y.w es
def Bg(P:Program)(B:Hid)(main:Bool)(R:World->World->Prop)(D:World->World->Array Event->Prop)(Stop:Goroutine->World->Prop)(Rl:Frame->List Frame->Goroutine->Prop):Type:=
 { x:Ng // Rl x.fr x.s x.g/\Rows B x.w/\x.g.status=.running/\¬ Way P main R D Stop x.g x.w }
variable {Stop:Goroutine->World->Prop}
theorem Uo(x:Bg P B main R D Stop Rl):∃w₁,R x.1.w w₁/\∀g' w' es,stepG P main x.1.g w₁=.go g' w' es->D w₁ w' es->¬ Way P main R D Stop g' w':=by apply Classical.byContradiction;intro h;refine x.2.2.2.2 (.one x.2.2.2.1 fun w₁ h₁=>?_);apply Classical.byContradiction;intro h2;exact h ⟨w₁,h₁,fun g' w' es a b c=>h2 ⟨g',w',es,a,b,c⟩⟩
def tg(x:Bg P B main R D Stop Rl):World:=(Uo x).choose
theorem mQ(x:Bg P B main R D Stop Rl):R x.1.w (tg x):=(Uo x).choose_spec.1
theorem rE(x:Bg P B main R D Stop Rl):∀g' w' es,stepG P main x.1.g (tg x)=.go g' w' es->D (tg x) w' es->¬ Way P main R D Stop g' w':=(Uo x).choose_spec.2
open Classical in
def ng(x:Bg P B main R D Stop Rl):Option (Bg P B main R D Stop Rl):=
 if h:∃y:Bg P B main R D Stop Rl,Ag P B main D x.1 (tg x) y.1 then some h.choose else none
theorem ni{x y:Bg P B main R D Stop Rl}(h:ng x=some y):Ag P B main D x.1 (tg x) y.1:=by
 unfold ng at h;split at h
 . rename_i h';cases h;exact h'.choose_spec
 . cases h
theorem jH{x:Bg P B main R D Stop Rl}(h:ng x=none):∀y:Bg P B main R D Stop Rl,¬ Ag P B main D x.1 (tg x) y.1:=by
 unfold ng at h;split at h
 . cases h
 . rename_i h';exact fun y hy=>h' ⟨y,hy⟩
def sg(x:Bg P B main R D Stop Rl):Nat->Option (Bg P B main R D Stop Rl)
 | 0=>some x
 | k+1=>(sg x k).bind ng
def cg(x:Bg P B main R D Stop Rl)(k:Nat):Nat:=
 match sg x k,sg x (k+1)with
 | some a,some b=>b.1.w.drawn-(tg a).drawn
 | _,_=>0
def pg(x:Bg P B main R D Stop Rl):Nat->Nat
 | 0=>0
 | k+1=>pg x k+cg x k
theorem Yg(x:Bg P B main R D Stop Rl){i j:Nat}(h:i<=j):pg x i<=pg x j:=by
 induction h with
 | refl=>exact Nat.le_refl _
 | step _ ih=>exact Nat.le_trans ih (Nat.le_add_right _ _)
theorem YC{x:Bg P B main R D Stop Rl}{k:Nat}(h:sg x k=none):∀j,k<=j->sg x j=none:=by
 intro j hj;induction hj with
 | refl=>exact h
 | step _ ih=>simp[sg,ih]
def og(x:Bg P B main R D Stop Rl)(k:Nat):World:=
 match sg x k with
 | some a=>tg a
 | none=>tg x
open Classical in
def ig(x:Bg P B main R D Stop Rl)(m:Nat):Nat:=
 if h:∃k,m<pg x (k+1)then(least _ h).choose else if h:∃k,sg x (k+1)=none then(least _ h).choose else 0
def MR(x:Bg P B main R D Stop Rl):Nat->Question->Nat:=fun m=>(og x (ig x m)).tape ((og x (ig x m)).drawn+(m-pg x (ig x m)))
theorem bZ{x a b:Bg P B main R D Stop Rl}{k:Nat}(ha:sg x k=some a)(hb:sg x (k+1)=some b){i:Nat}(hi:i<b.1.w.drawn-(tg a).drawn):MR x (pg x k+i)=(tg a).tape ((tg a).drawn+i):=by
 have hc:cg x k=b.1.w.drawn-(tg a).drawn:=by simp[cg,ha,hb]
 have hlt:pg x k+i<pg x (k+1):=by simp only[pg];omega
 have hex:∃k',pg x k+i<pg x (k'+1):=⟨k,hlt⟩
 have hid:ig x (pg x k+i)=k:=by
  unfold ig;rw[dif_pos hex];obtain⟨h2,h1⟩:=(least _ hex).choose_spec;generalize(least _ hex).choose=n at h1 h2;rcases Nat.lt_or_ge n k with h|h
  . have:=Yg x (show n+1<=k from h);omega
  . rcases Nat.lt_or_ge k n with h' | h'
    . exact absurd hlt (h1 k h')
    . omega
 unfold MR;rw[hid];have hs:og x k=tg a:=by simp[og,ha]
 rw[hs,show pg x k+i-pg x k=i by omega]
theorem fM{x a:Bg P B main R D Stop Rl}{k:Nat}(ha:sg x k=some a)(hb:sg x (k+1)=none)(i:Nat):MR x (pg x k+i)=(tg a).tape ((tg a).drawn+i):=by
 have hpos:∀j,k<=j->pg x j=pg x k:=by
  intro j hj;induction hj with
  | refl=>rfl
  | step h ih=>
    rename_i j
    have:cg x j=0:=by
      have:=YC hb (j+1) (Nat.succ_le_succ h);unfold cg;rw[this];split
      . rename_i h;cases h
      . rfl
    simp only[pg,this,ih,Nat.add_zero]
 have hex:¬ ∃k',pg x k+i<pg x (k'+1):=by
  rintro⟨k',h⟩;rcases Nat.lt_or_ge k' k with hl|hl
  . have:=Yg x (show k'+1<=k from hl);omega
  . have:=hpos (k'+1) zOM;omega
 have Xo:∃k,sg x (k+1)=none:=⟨k,hb⟩
 have hid:ig x (pg x k+i)=k:=by
  unfold ig;rw[dif_neg hex,dif_pos Xo];obtain⟨h2,h1⟩:=(least _ Xo).choose_spec;generalize(least _ Xo).choose=n at h1 h2;rcases Nat.lt_or_ge n k with h|h
  . have:=YC h2 k zOM;rw[this]at ha;cases ha
  . rcases Nat.lt_or_ge k n with h' | h'
    . exact absurd hb (h1 k h')
    . omega
 unfold MR;rw[hid];have hs:og x k=tg a:=by simp[og,ha]
 rw[hs,show pg x k+i-pg x k=i by omega]
theorem V3(hT:∀w w₁,R w w₁->Turns B w w₁)(hD:∀w w' es,Rows B w->Kept B w w'->(∀e∈es,Jv B w'.heap.size e)->D w w' es)(H:pU P F B main Rl Fin){Fn:Fence}(hFn:∀f,Fn.fn f->F f){WR:Frame}{s0:List Frame}{g0:Goroutine}{w0:World}(h0:Rl WR s0 g0)(hR0:Rows B w0){En:(Nat->Question->Nat)->Frame->List Frame->World->Prop}(hcon:∀τ,∃fr s w',En τ fr s w'/\StepsIn (fun m=>Machine.fenced P Fn m/\¬ bS Fin m) P (lone WR s0 (sh (EF B w0) τ 0)) (lone fr s w')) :
  Way P main R D (fun g w=>∃fr s τ d,Rl fr s g/\En τ fr s (sh (EF B w) τ d)/\Rows B w) g0 w0:=by
 apply Classical.byContradiction;intro hno
 let x0:Bg P B main R D (fun g w=>∃fr s τ d,Rl fr s g/\En τ fr s (sh (EF B w) τ d)/\Rows B w) Rl:=⟨⟨WR,s0,g0,w0⟩,h0,hR0,H.run _ _ _ h0,hno⟩
 obtain⟨fr,s,w',hEn,hC⟩:=hcon (MR x0);obtain⟨N,hN,kZ⟩:=StepsIn.run hC;have claim:∀k,k<=N->∃x,sg x0 k=some x/\runN P k (lone WR s0 (sh (EF B w0) (MR x0) 0))=.next (lone x.1.fr x.1.s (sh (EF B x.1.w) (MR x0) (pg x0 k))):=by
  intro k;induction k with
  | zero=>exact fun _=>⟨x0,rfl,rfl⟩
  | succ k ih=>
   intro hk;obtain⟨x,hx,hrun⟩:=ih zOM;have xk:=kZ k zOM _ hrun;have hnext:∃m1,step P (lone x.1.fr x.1.s (sh (EF B x.1.w) (MR x0) (pg x0 k)))=.next m1/\∀m2,step P (lone x.1.fr x.1.s (sh (EF B x.1.w) (MR x0) (pg x0 k)))=.next m2->runN P (k+1) (lone WR s0 (sh (EF B w0) (MR x0) 0))=.next m2:=by
    have hadd:=runN_add P k 1 (lone WR s0 (sh (EF B w0) (MR x0) 0));rw[hrun]at hadd;have h1:runN P 1 (lone x.1.fr x.1.s (sh (EF B x.1.w) (MR x0) (pg x0 k)))=step P (lone x.1.fr x.1.s (sh (EF B x.1.w) (MR x0) (pg x0 k))):=by simp only[runN];cases step P (lone x.1.fr x.1.s (sh (EF B x.1.w) (MR x0) (pg x0 k)))<;>rfl
    cases hs:step P (lone x.1.fr x.1.s (sh (EF B x.1.w) (MR x0) (pg x0 k)))with
    | next m1=>
     refine⟨m1,rfl,fun m2 h2=>?_⟩;cases h2
     rw[hadd];simp only[h1,hs]
    | ended o w2=>
     exfalso
     have hE:runN P (k+1) (lone WR s0 (sh (EF B w0) (MR x0) 0))=.ended o w2:=by rw[hadd];simp only[h1,hs]
     have:=runN_ended hE (N-(k+1));rw[show k+1+(N-(k+1))=N by omega,hN]at this;cases this
   obtain⟨m1,hm1,Ws⟩:=hnext;have aV:=hT _ _ (mQ x);have S9:=aV.rows x.2.2.1;have hsame:sh (EF B (tg x)) (MR x0) (pg x0 k)=sh (EF B x.1.w) (MR x0) (pg x0 k):=by rw[aV.same];rfl
   have hg0:=xk.1 (G x.1.fr x.1.s) (by simp[lone,G]);have hab:x.1.fr.mode=.run->∀o g,x.1.fr.oper?=some o->Ij o=some g->F g:=fun hm o g ho hc=>hFn _ (hg0.2.2.1 g (O1 hm ho hc));have hnf:¬ Fin x.1.fr x.1.s:=fun hf=>xk.2 ⟨_,_,_,rfl,hf⟩;cases hnx:sg x0 (k+1)with
   | none=>
    exfalso
    have hag:=fM hx hnx;have h1:=H.step x.1.fr x.1.s x.1.g (tg x) (MR x0) (pg x0 k) x.2.1 hnf S9 hab;have h2:=H.self x.1.fr x.1.s x.1.g (EF B (tg x)) (MR x0) (pg x0 k) x.2.1 hnf hab;rw[G7 (F6 S9)]at h2;cases hst:stepG P true (G x.1.fr x.1.s) (sh (EF B (tg x)) (MR x0) (pg x0 k))with
    | go g w1 es=>
     rw[hst]at h1 h2;obtain⟨fr',s',gR',w2,e0,hRl,e1,e2,hK,hev⟩:=h1 fun i _=>(hag i).symm;obtain⟨oF,s2,gS,w3,e3,U3,e4,e5,hK3,_⟩:=h2 fun i _=>(hag i).symm;have hdw:=hD _ _ _ S9 hK hev;have hw3:w3=EF B w2:=by
      have uo:=hK3.Uz (F6 S9);rw[G7 uo]at e4;have hh:sh w3 (MR x0) (pg x0 k+(w3.drawn-(tg x).drawn))=sh (EF B w2) (MR x0) (pg x0 k+(w2.drawn-(tg x).drawn)):=e4.symm.trans e1;have ht3:w3.tape=(EF B w2).tape:=by rw[hK3.tape];exact hK.tape.symm
      have hd3:w3.drawn=(EF B w2).drawn:=by have hh':pg x0 k+(w3.drawn-(tg x).drawn)=pg x0 k+(w2.drawn-(tg x).drawn):=congrArg World.drawn hh;have l1:(tg x).drawn<=w3.drawn:=hK3.drawn;have l2:(tg x).drawn<=w2.drawn:=hK.drawn;show w3.drawn=w2.drawn;omega
      have:sh (sh w3 (MR x0) (pg x0 k+(w3.drawn-(tg x).drawn))) w3.tape w3.drawn=sh (sh (EF B w2) (MR x0) (pg x0 k+(w2.drawn-(tg x).drawn))) (EF B w2).tape (EF B w2).drawn:=by rw[hh,ht3,hd3]
      exact this
     subst hw3;have nW:G fr' s'=G oF s2:=e0.symm.trans e3;have e5':stepG P true (G x.1.fr x.1.s) (EF B (tg x))=.go (G fr' s') (EF B w2) es:=by rw[e5];unfold Self at U3;rw[U3,← nW]
     have hbad:=rE x _ _ _ e2 hdw;have hs1:ng x=none:=by have:sg x0 (k+1)=(sg x0 k).bind ng:=rfl;rw[hx]at this;exact this.symm.trans hnx
     exact jH hs1 ⟨⟨fr',s',gR',w2⟩,hRl,S9.kept hK,H.run _ _ _ hRl,hbad⟩ ⟨es,e5',e2,hdw⟩
    | ended o w1 es=>
     rw[hsame]at hst;obtain⟨o,w2,h⟩:=I5 hst;rw[hm1]at h;cases h
    | _=>rw[hst]at h1;exact h1.elim
   | some y=>
    have hs1:ng x=some y:=by have:sg x0 (k+1)=(sg x0 k).bind ng:=rfl;rw[hx]at this;exact this.symm.trans hnx
    obtain⟨es,a1,a2,a3⟩:=ni hs1;refine⟨y,rfl,?_⟩;have h2:=H.self x.1.fr x.1.s x.1.g (sh (EF B (tg x)) (MR x0) (pg x0 k)) (tg x).tape (tg x).drawn x.2.1 hnf hab;have hNP:GY (sh (EF B (tg x)) (MR x0) (pg x0 k)):=F6 S9;rw[G7 hNP]at h2;have hback:sh (sh (EF B (tg x)) (MR x0) (pg x0 k)) (tg x).tape (tg x).drawn=EF B (tg x):=rfl;rw[hback,a1]at h2;obtain⟨oF,s2,gS,w3,e3,U3,e4,e5,hK3,_⟩:=h2 fun i hi=>bZ hx hnx (by have:(tg x).drawn+i<y.1.w.drawn:=hi;omega)
    unfold Self at U3;subst U3;rw[← e3]at e5;have uo:=hK3.Uz hNP;rw[G7 uo]at e4;have hc:cg x0 k=y.1.w.drawn-(tg x).drawn:=by simp[cg,hx,hnx]
    have hw3:w3=sh (EF B y.1.w) (MR x0) (pg x0 (k+1)):=by
     have hd:y.1.w.drawn=(tg x).drawn+(w3.drawn-pg x0 k):=congrArg World.drawn e4;have hl:pg x0 k<=w3.drawn:=hK3.drawn;have ht3:w3.tape=MR x0:=hK3.tape;have hdr:w3.drawn=pg x0 (k+1):=by simp only[pg,hc];omega
     have:sh (EF B y.1.w) w3.tape w3.drawn=sh (sh w3 (tg x).tape ((tg x).drawn+(w3.drawn-pg x0 k))) w3.tape w3.drawn:=by rw[e4];rfl
     rw[ht3,hdr]at this;rw[this];show w3={ w3 with tape:=MR x0,drawn:=pg x0 (k+1) }
     rw[← ht3,← hdr]
    have hst:stepG P true (G x.1.fr x.1.s) (sh (EF B x.1.w) (MR x0) (pg x0 k))=.go (G y.1.fr y.1.s) w3 es:=by rw[← hsame];exact e5
    rw[← hw3];exact Ws _ (PI hst)
 obtain⟨x,hx,hrun⟩:=claim N (Nat.le_refl _);rw[hN]at hrun;have hl:lone fr s w'=lone x.1.fr x.1.s (sh (EF B x.1.w) (MR x0) (pg x0 N)):=by injection hrun
 simp only[lone,Machine.mk.injEq]at hl;obtain⟨hw,hgs,_⟩:=hl;simp only[Array.mk.injEq,List.cons.injEq,Goroutine.mk.injEq]at hgs;obtain⟨⟨hfr,hcs,_⟩,_⟩:=hgs;refine x.2.2.2.2 (.stop fun w₁ h₁=>?_);have aV:=hT _ _ h₁;refine⟨x.1.fr,x.1.s,MR x0,pg x0 N,x.2.1,?_,aV.rows x.2.2.1⟩;have:sh (EF B w₁) (MR x0) (pg x0 N)=w':=by rw[aV.same,hw];rfl
 rw[this,← hfr,← hcs];exact hEn
end
end
section
variable [Host]
section
variable {P:Program}{F:FuncId->Prop}{B:Hid}{main:Bool}{τ:Nat->Question->Nat}{d:Nat}{fr:Frame}{s t:List Frame}{w:World}
def Carry(P:Program)(m:Bool)(fr:Frame)(w:World):Prop:=
 (∀c,∃o w' es,stepG P m (G fr c) w=.ended o w' es)\/∃fr' pre w' es,∀c,stepG P m (G fr c) w=.go (G fr' (pre++c)) w' es
theorem U1(hmode:fr.mode=.run){sem:Sem Next}(hT:EL P (IY F) sem)(hN:GY w)(hk:fr.kind=.normal)(hw:∀d wr r sv k,fr.todo≠.call d wr r sv :: k)(h:∀cs,stepG P main (G fr cs) w=stepG.apply P true fr cs none sem w):Carry P main fr w:=by
 have hkk:=Pt (es:=#[]) hT hN;have Mg:(fr.kind==CallKind.early)=false:=by rw[hk];rfl
 unfold Carry;simp only[h];generalize hr:sem.runT P w #[]=r at hkk;obtain⟨r,es⟩:=r;unfold stepG.apply;simp only[if_true,hr,Mg,Bool.false_eq_true,if_false];cases r with
 | ok n w1=>
  cases n with
  | value v=>exact .inr ⟨_,[],_,_,fun c=>rfl⟩
  | skip=>exact .inr ⟨_,[],_,_,fun c=>rfl⟩
  | enter f args=>exact .inr ⟨_,[fr],_,_,fun c=>rfl⟩
  | _=>exact hkk.elim
 | halt x w1=>
  cases x with
  | panic v=>exact .inr ⟨_,[],_,_,fun c=>rfl⟩
  | stuck m=>exact .inl fun c=>⟨_,_,_,rfl⟩
  | unsupported u=>cases u<;>first | exact hkk.elim | exact .inl fun c=>⟨_,_,_,rfl⟩
  | _=>exact hkk.elim
theorem GD{fr':Frame}(h:∀cs,stepG P main (G fr cs) w=.go (G fr' cs) w):Carry P main fr w:=.inr ⟨fr',[],w,#[],h⟩
theorem Z7(hF:∀f,F f->Lets P f)(hN:GY w)(h0:Ih P F fr)(hmode:fr.mode=.run)(hab:∀o g,fr.oper?=some o->Ij o=some g->F g):Carry P main fr w:=by
 have hrnd:=h0.round;have htodo:=h0.todo;have hkind:=h0.kind;obtain⟨fn,tmps,todo,defers,mode,kind,roundOf⟩:=fr;simp only at hmode hrnd htodo hkind;subst hmode hrnd hkind;cases todo with
 | nil=>exact GD fun cs=>by simp[G,stepG,stepG.exec];rfl
 | cons it k=>
  have hi:=htodo it (by simp);cases it with
  | code c=>
   cases c with
   | skip=>exact GD fun cs=>by simp[G,stepG,stepG.exec];rfl
   | label l=>exact GD fun cs=>by simp[G,stepG,stepG.exec];rfl
   | ret=>exact GD fun cs=>by simp[G,stepG,stepG.exec];rfl
   | refuse why=>exact .inl fun c=>⟨_,_,_,by simp[G,stepG,stepG.exec];exact⟨rfl,rfl,rfl⟩⟩
   | seq a b=>exact GD fun cs=>by simp[G,stepG,stepG.exec];rfl
   | cond c a b=>
    by_cases hb:∃v,Frame.eval { fn,tmps,todo:=.code (.cond c a b) :: k,defers,mode:=.run,kind:=.normal } c=.bool v
    . obtain⟨v,hv⟩:=hb;exact GD fun cs=>by simp[G,stepG,stepG.exec,hv];rfl
    . refine .inl fun cs=>?_;generalize he:Frame.eval { fn,tmps,todo:=.code (.cond c a b) :: k,defers,mode:=.run,kind:=.normal } c=e at hb;cases e with
      | bool v=>exact absurd ⟨v,rfl⟩ hb
      | _=>exact⟨_,_,_,by simp[G,stepG,stepG.exec,he];exact⟨rfl,rfl,rfl⟩⟩
   | block id b=>exact GD fun cs=>by simp[G,stepG,stepG.exec];rfl
   | loop b=>exact GD fun cs=>by simp[G,stepG,stepG.exec];rfl
   | scope b=>exact GD fun cs=>by simp[G,stepG,stepG.exec];rfl
   | exit id=>
    cases he:exitTo id k with
    | some k'=>exact GD fun cs=>by simp[G,stepG,stepG.exec,he];rfl
    | none=>exact .inl fun c=>⟨_,_,_,by simp[G,stepG,stepG.exec,he];exact⟨rfl,rfl,rfl⟩⟩
   | region id ops draw=>
    cases draw with
    | false=>exact GD fun cs=>by simp[G,stepG,stepG.exec];rfl
    | true=>
      exact .inr ⟨_,[],_,_,fun cs=>by simp only[G,stepG,stepG.exec,choose,Sem.run,Question.forced,Question.cut,Bool.not_true,Bool.false_eq_true,if_false];rfl⟩
   | rangeFunc f ps a b=>exact absurd hi Bool.false_ne_true
   | goto l=>exact absurd hi Bool.false_ne_true
  | inBlock id=>exact GD fun cs=>by simp[G,stepG,stepG.exec];rfl
  | inLoop b=>exact GD fun cs=>by simp[G,stepG,stepG.exec];rfl
  | inScope b=>exact GD fun cs=>by simp[G,stepG,stepG.exec];rfl
  | inRegion ops l=>
   cases l with
   | nil=>exact GD fun cs=>by simp[G,stepG,stepG.exec];rfl
   | cons i rest=>
    cases hw:((ops[i]?).map (Region.wanted · (yielded ops tmps))).getD false with
    | false=>exact GD (fr':=Frame.finish { fn,tmps,todo:=.inRegion ops (i :: rest) :: k,defers,mode:=.run,kind:=.normal } undef) fun cs=>by simp[G,stepG,stepG.exec,hw]
    | true=>
      cases ho:ops[i]? with
      | none=>rw[ho]at hw;cases hw
      | some o=>
       have XD:K5 P o=true:=Nh hi ho;refine U1 (F:=F) (sem:=execOp (Frame.eval { fn,tmps,todo:=.inRegion ops (i :: rest) :: k,defers,mode:=.run,kind:=.normal }) o) rfl ?_ hN rfl (fun _ _ _ _ _ h=>by cases h) (fun cs=>?_)
       . refine Rj (fun g=>rfl) (fun v=>rfl) (fun g hg=>?_) XD;have hFg:=hab o g (by simp[Frame.oper?,ho]) hg;rcases(hF g hFg).2 with⟨f,c,h1,h2,h3,_⟩|h|h
         . exact .inl ⟨hFg,f,c,h1,h2,h3⟩
         . exact .inr h
         . rw[LP XD hg]at h;cases h
       . have hw':Region.wanted o (yielded ops tmps)=true:=by rw[ho]at hw;exact hw
         obtain⟨dst,op,type,pos,after,guard⟩:=o;simp[G,stepG,stepG.exec,stepG.oper,Frame.oper?,ho,hw']
  | inRangeFunc l=>exact absurd hi Bool.false_ne_true
  | endRangeFunc l=>exact absurd hi Bool.false_ne_true
  | beginRound=>exact absurd hi Bool.false_ne_true
  | call d w r sv=>exact absurd hi Bool.false_ne_true
  | extern r a=>exact absurd hi Bool.false_ne_true
inductive Zw | finish (v:Value)
 | raise (chain:List PanicEntry)
def Zw.on:Zw->Frame->Frame
 | .finish v,c=>c.finish v
 | .raise ch,c=>c.raise ch
theorem Q7(h0:Ih P F fr)(hmode:fr.mode≠.run):(∀c cs,∃o w' es,stepG P main (G fr (c :: cs)) w=.ended o w' es)\/∃(bk:Zw) (w':World) (es:Array Event),(∀ch,bk=.raise ch->∀e∈ch,e.goexit=false)/\∀c cs,stepG P main (G fr (c :: cs)) w=.go (G (bk.on c) cs) w' es:=by
 have hdef:=h0.defers;have hkind:=h0.kind;have hno:=h0.eZ;obtain⟨fn,tmps,todo,defers,mode,kind,roundOf⟩:=fr;simp only at hmode hdef hkind hno;subst hdef hkind;cases mode with
 | run=>exact absurd rfl hmode
 | returning=>
  cases hf:P.funcs[fn]? with
  | none=>exact .inr ⟨.finish (tmps.getD 0 undef),w,#[],fun _ h=>(by cases h),fun c cs=>by simp[G,stepG,unwind,hf,doReturn,Zw.on]⟩
  | some f=>
    have hst:∀(c:Frame) (cs:List Frame),stepG P main (G { fn,tmps,todo,defers:=[],mode:=.returning,kind:=.normal,roundOf } (c :: cs)) w =
      GStep.after (seen P fn ((results f tmps).runT P w #[]).2) (match((results f tmps).runT P w #[]).1 with
       | .ok v w=>.go (G (c.finish v) cs) w
       | .halt (.stuck s) w=>.ended (.stuck s (Frame.pos P { fn,tmps,todo,defers:=[],mode:=.returning,kind:=.normal,roundOf })) w
       | .halt _ w => .ended (.stuck "return: the result variables cannot be read" (Frame.pos P { fn, tmps, todo, defers := [], mode := .returning, kind := .normal, roundOf })) w) := fun c cs => by
     simp only[G,stepG,unwind,hf];generalize(results f tmps).runT P w #[]=r;obtain⟨r,es⟩:=r;cases r with
     | ok v w=>rfl
     | halt x w=>cases x<;>rfl
    generalize(results f tmps).runT P w #[]=r at hst;obtain⟨r,es⟩:=r;cases r with
    | ok v w1=>exact .inr ⟨.finish v,w1,_,fun _ h=>(by cases h),fun c cs=>(hst c cs).trans rfl⟩
    | halt x w1=>exact .inl fun c cs=>by rw[hst];cases x<;>exact⟨_,_,_,rfl⟩
 | panicking chain=>
  by_cases hca:Frame.catches P { fn,tmps,todo,defers:=[],mode:=.panicking chain,kind:=.normal,roundOf }=true
  . exact .inl fun c cs=>by simp only[G,stepG,unwind,hca,if_true];exact⟨_,_,_,rfl⟩
  . exact .inr ⟨.raise chain,w,#[],fun ch h=>(by cases h;exact hno chain rfl),fun c cs=>by simp only[G,stepG,unwind,hca,if_false,Bool.false_eq_true];rfl⟩
end
end
section
variable [Host]
def RR : Item := .code (.refuse "")
inductive Cv(P:Program)(k:List Item)(l2:Option (Array Oper × List Nat)):List Item->List Item->Prop
 | base (h:l2=none):Cv P k l2 [RR] k
 | reg {l':List Nat} {ops:Array Oper} {l:List Nat} (h:l2=some (ops,l')) (ho:Gn P (.inRegion ops l)=true):Cv P k l2 [.inRegion ops l,RR] (.inRegion ops (l++l') :: k)
 | cons {it:Item} {X Y:List Item} (h:l2=none) (hi:Gn P it=true) (hc:Cv P k l2 X Y):Cv P k l2 (it :: X) (it :: Y)
def vU(l2:Option (Array Oper × List Nat))(X:List Item):Prop:=(l2=none/\X=[RR])\/(l2≠none/\∃ops,X=[.inRegion ops [],RR])
section
variable {P:Program}{F:FuncId->Prop}{k:List Item}{l2:Option (Array Oper × List Nat)}{X Y:List Item}
theorem Cv.ok(h:Cv P k l2 X Y):∀it∈X,Gn P it=true:=by
 induction h with
 | base h=>intro it hit;simp only[List.mem_singleton]at hit;subst hit;rfl
 | reg h ho=>
  intro it hit;simp only[List.mem_cons,List.not_mem_nil,or_false]at hit;rcases hit with rfl|rfl
  . exact ho
  . rfl
 | cons h hi hc ih=>
  intro it hit;rcases List.mem_cons.1 hit with rfl|hit
  . exact hi
  . exact ih it hit
theorem Cv.exit{id:Nat}(h:Cv P k l2 X Y):∀{X':List Item},exitTo id X=some X'->∃Y',exitTo id Y=some Y'/\Cv P k l2 X' Y':=by
 induction h with
 | base h=>intro X' e;simp[exitTo,RR]at e
 | reg h ho=>intro X' e;simp[exitTo,RR]at e
 | @cons it X Y h hi hc ih=>
  intro X' e;cases it with
  | inBlock id'=>
   unfold exitTo at e ⊢;split at e
   . rename_i hid
     cases e
     exact⟨Y,by simp[hid],hc⟩
   . rename_i hid
     simp only[hid,if_false,Bool.false_eq_true];exact ih e
  | _=>exact ih e
structure je where
 k:List Item
 l2:Option (Array Oper × List Nat)
 ds:List Deferred
 κ:CallKind
 fn:FuncId
structure Bt(P:Program)(F:FuncId->Prop)(p:je)(x y:Frame):Prop where
 ex:∃tm X Y mode,Cv P p.k p.l2 X Y/\(∀ch,mode=.panicking ch->∀e∈ch,e.goexit=false)/\x={ fn:=p.fn,tmps:=tm,todo:=X,defers:=[],mode,kind:=.normal }/\y={ fn:=p.fn,tmps:=tm,todo:=Y,defers:=p.ds,mode,kind:=p.κ }
 fn:F p.fn
 kind:p.κ≠.early
def Xk(p:je)(x:Frame):Prop:=x.mode≠.run\/vU p.l2 x.todo
end
section
variable {P:Program}{F:FuncId->Prop}{p:je}{x y:Frame}
theorem Bt.ok(h:Bt P F p x y):Ih P F x:=by obtain⟨⟨tm,X,Y,mode,hc,hm,rfl,rfl⟩,hf,_⟩:=h;exact⟨rfl,rfl,rfl,hc.ok,hf,hm⟩
theorem Bt.running(h:¬ Xk p x):x.mode=.run:=Classical.byContradiction fun e=>h (.inl e)
theorem Bt.on(h:Bt P F p x y)(hn:¬ Xk p x)(bk:Zw)(hb:∀ch,bk=.raise ch->∀e∈ch,e.goexit=false):Bt P F p (bk.on x) (bk.on y):=by
 have hr:=Bt.running hn;obtain⟨⟨tm,X,Y,mode,hc,hm,rfl,rfl⟩,hf,hk⟩:=h;simp only at hr;subst hr;have hfx:¬ vU p.l2 X:=fun z=>hn (.inr z);refine⟨?_,hf,hk⟩;cases bk with
 | raise ch=>exact⟨tm,X,Y,.panicking ch,hc,fun c e=>by cases e;exact hb ch rfl,rfl,rfl⟩
 | finish v=>
  have hmr:∀ch,FrameMode.run=.panicking ch->∀e∈ch,e.goexit=false:=fun ch e=>by cases e
  cases hc with
  | base h=>exact absurd (.inl ⟨h,rfl⟩) hfx
  | @reg l' ops l h ho=>
   cases l with
   | nil=>exact absurd (.inr ⟨by rw[h];simp,ops,rfl⟩) hfx
   | cons i rest=>exact⟨_,_,_,.run,.reg h (Np ho),hmr,rfl,rfl⟩
  | @cons it X Y h hi hc=>
   cases it with
   | inRegion ops l=>
    cases l with
    | nil=>exact⟨tm,_,_,.run,.cons h hi hc,hmr,rfl,rfl⟩
    | cons i rest=>exact⟨_,_,_,.run,.cons (it:=.inRegion ops rest) h (Np hi) hc,hmr,rfl,rfl⟩
   | code c=>exact⟨tm,_,_,.run,.cons h hi hc,hmr,rfl,rfl⟩
   | inBlock b=>exact⟨tm,_,_,.run,.cons h hi hc,hmr,rfl,rfl⟩
   | inLoop b=>exact⟨tm,_,_,.run,.cons h hi hc,hmr,rfl,rfl⟩
   | inScope b=>exact⟨tm,_,_,.run,.cons h hi hc,hmr,rfl,rfl⟩
   | _=>exact absurd hi Bool.false_ne_true
def StepB(P:Program)(F:FuncId->Prop)(p:je)(B:Hid)(main:Bool)(τ:Nat->Question->Nat)(d:Nat)(x y:Frame)(cs:List Frame)(w:World):GStep->Prop
 | .go g w1 es=>(∀i,d+i<w1.drawn->w.tape (w.drawn+i)=τ (d+i))->∃fr' w2,w1=sh (EF B w2) τ (d+(w2.drawn-w.drawn))/\Kept B w w2/\(∀e∈es,Jv B w2.heap.size e)/\
   ((∃y',g=G fr' []/\Bt P F p fr' y'/\stepG P main (G y cs) w=.go (G y' cs) w2 es)\/(g=G fr' [x]/\Ih P F fr'/\stepG P main (G y cs) w=.go (G fr' (y :: cs)) w2 es))
 | .ended ..=>True
 | _=>False
variable {B:Hid}{main:Bool}{τ:Nat->Question->Nat}{d:Nat}{cs:List Frame}{w:World}
theorem N9{x' y':Frame}(hx:∀(m:Bool) (cs:List Frame) (w:World),stepG P m (G x cs) w=.go (G x' cs) w)(hy:∀(m:Bool) (cs:List Frame) (w:World),stepG P m (G y cs) w=.go (G y' cs) w)(hb:Bt P F p x' y') :
  StepB P F p B main τ d x y cs w (stepG P true (G x []) (sh (EF B w) τ d)):=by
 rw[hx];exact fun _=>⟨x',w,by simp,Kept.refl B w,by simp,.inl ⟨y',rfl,hb,hy _ _ _⟩⟩
theorem U5(hF:∀f,F f->Lets P f)(hR:Rows B w)(hb:Bt P F p x y)(hn:¬ Xk p x){sem:Sem Next}(hT:EL P (IY (Fb F)) sem)(hwx:∀d wr r sv k,x.todo≠.call d wr r sv :: k)(hwy:∀d wr r sv k,y.todo≠.call d wr r sv :: k)(hx:∀(m:Bool) (cs:List Frame) (w:World),stepG P m (G x cs) w=stepG.apply P true x cs none sem w)(hy:∀(m:Bool) (cs:List Frame) (w:World),stepG P m (G y cs) w=stepG.apply P true y cs none sem w) :
  StepB P F p B main τ d x y cs w (stepG P true (G x []) (sh (EF B w) τ d)):=by
 have h0:=hb.ok;have Mg:(x.kind==CallKind.early)=false:=by rw[h0.kind];rfl
 have Qx:(y.kind==CallKind.early)=false:=by have:=hb.kind;obtain⟨⟨tm,X,Y,mode,hc,hm,rfl,rfl⟩,hf,hk⟩:=hb;generalize p.κ=κ at hk;cases κ<;>first | rfl | exact absurd rfl hk
 have hfn:y.fn=x.fn:=by obtain⟨⟨tm,X,Y,mode,hc,hm,rfl,rfl⟩,hf,hk⟩:=hb;rfl
 have hk:=Pt (es:=#[]) hT (w:=sh (EF B w) τ d) (F6 hR);have over:=fun x w1=>LM (es:=#[]) (τ:=τ) (d:=d) hT hR (x:=x) (w1:=w1);rw[hx];have key:∀(z:Next ⊕ Value) w1,GV (sem.runT P (sh (EF B w) τ d) #[]).1=some (z,w1)->(∀i,d+i<w1.drawn->w.tape (w.drawn+i)=τ (d+i))->∃w2,GV (sem.runT P w #[]).1=some (z,w2)/\w1=sh (EF B w2) τ (d+(w2.drawn-w.drawn))/\Kept B w w2/\
   (∀a,z=.inl a->IY (Fb F) a)/\(sem.runT P w #[]).2=(sem.runT P (sh (EF B w) τ d) #[]).2/\∀e∈seen P x.fn (sem.runT P (sh (EF B w) τ d) #[]).2,Jv B w2.heap.size e:=by
  intro z w1 hz Ib;obtain⟨w2,es2,h1,h2,h3,h4,h5,h6,h7⟩:=over z w1 hz Ib;refine⟨w2,h1,h2,h3,h4,h5.trans h6.symm,fun e he=>h7 e ?_⟩;have:=mem_seen he;rw[h6]at this
  simpa using this
 generalize hr:sem.runT P (sh (EF B w) τ d) #[]=r at hk key;obtain⟨r,es⟩:=r;unfold stepG.apply;simp only[if_true,hr,Mg,Bool.false_eq_true,if_false];have noR:∀(v:Value) ch,Zw.finish v=.raise ch->∀e∈ch,e.goexit=false:=fun _ _ h=>by cases h
 cases r with
 | ok n w1=>
  cases n with
  | value v=>
   intro Ib;obtain⟨w2,h1,h2,h3,h4,h5,h6⟩:=key (.inl (.value v)) w1 rfl Ib;refine⟨x.finish v,w2,h2,h3,by simpa [GStep.after]using h6,.inl ⟨y.finish v,rfl,hb.on hn (.finish v) (noR v),?_⟩⟩;rw[hy];unfold stepG.apply;generalize hr2:sem.runT P w #[]=r2 at h1 h5;obtain⟨r2,es2⟩:=r2;obtain rfl:=Jy h1;obtain rfl:es2=es:=h5;simp only[if_true,hr2,Qx,Bool.false_eq_true,if_false,hfn];rfl
  | skip=>
   intro Ib;obtain⟨w2,h1,h2,h3,h4,h5,h6⟩:=key (.inl .skip) w1 rfl Ib;refine⟨x.finish undef,w2,h2,h3,by simpa [GStep.after]using h6,.inl ⟨y.finish undef,rfl,hb.on hn (.finish undef) (noR undef),?_⟩⟩;rw[hy];unfold stepG.apply;generalize hr2:sem.runT P w #[]=r2 at h1 h5;obtain⟨r2,es2⟩:=r2;obtain rfl:=Jy h1;obtain rfl:es2=es:=h5;simp only[if_true,hr2,Qx,Bool.false_eq_true,if_false,hfn];rfl
  | enter f args=>
   intro Ib;obtain⟨w2,h1,h2,h3,h4,h5,h6⟩:=key (.inl (.enter f args)) w1 rfl Ib;refine⟨Frame.enter P f args .normal,w2,h2,h3,by simpa [GStep.after]using h6,.inr ⟨by split<;>first | rfl | (rename_i e;exact absurd e (hwx _ _ _ _ _)),Ih.enter hF (h4 _ rfl) args,?_⟩⟩;rw[hy];unfold stepG.apply;generalize hr2:sem.runT P w #[]=r2 at h1 h5;obtain⟨r2,es2⟩:=r2;obtain rfl:=Jy h1;obtain rfl:es2=es:=h5;simp only[if_true,hr2,Qx,Bool.false_eq_true,if_false,hfn];split<;>first | rfl | (rename_i e;exact absurd e (hwy _ _ _ _ _))
  | _=>exact hk.elim
 | halt h w1=>
  cases h with
  | panic v=>
   intro Ib;obtain⟨w2,h1,h2,h3,h4,h5,h6⟩:=key (.inr v) w1 rfl Ib;refine⟨x.raise [{ v,recovered:=false }],w2,h2,h3,by simpa [GStep.after]using h6,.inl ⟨y.raise [{ v,recovered:=false }],rfl,hb.on hn (.raise [{ v,recovered:=false }]) (fun ch e=>by cases e;simp),?_⟩⟩;rw[hy];unfold stepG.apply;generalize hr2:sem.runT P w #[]=r2 at h1 h5;obtain⟨r2,es2⟩:=r2;obtain rfl:=Mf h1;obtain rfl:es2=es:=h5;simp only[if_true,hr2,Qx,Bool.false_eq_true,if_false,hfn];rfl
  | stuck m=>exact trivial
  | unsupported u=>cases u<;>first | exact hk.elim | exact trivial
  | _=>exact hk.elim
theorem iw(hF:∀f,F f->Lets P f)(hR:Rows B w)(hb:Bt P F p x y)(hn:¬ Xk p x)(hab:∀o g,x.oper?=some o->Ij o=some g->F g) :
  StepB P F p B main τ d x y cs w (stepG P true (G x []) (sh (EF B w) τ d)):=by
 have hr:=Bt.running hn;have hb0:=hb;obtain⟨⟨tm,X,Y,mode,hc,hm,rfl,rfl⟩,hf,hk⟩:=hb;simp only at hr;subst hr;have hfx:¬ vU p.l2 X:=fun z=>hn (.inr z);have hmr:∀ch,FrameMode.run=.panicking ch->∀e∈ch,e.goexit=false:=fun ch e=>by cases e
 have hmv:∀{X' Y':List Item},Cv P p.k p.l2 X' Y'->(∀(m:Bool) (cs:List Frame) (w:World),stepG P m (G { fn:=p.fn,tmps:=tm,todo:=X,defers:=[],mode:=.run,kind:=.normal } cs) w=.go (G { fn:=p.fn,tmps:=tm,todo:=X',defers:=[],mode:=.run,kind:=.normal } cs) w)->
   (∀(m:Bool) (cs:List Frame) (w:World),stepG P m (G { fn:=p.fn,tmps:=tm,todo:=Y,defers:=p.ds,mode:=.run,kind:=p.κ } cs) w=.go (G { fn:=p.fn,tmps:=tm,todo:=Y',defers:=p.ds,mode:=.run,kind:=p.κ } cs) w)->
   StepB P F p B main τ d { fn:=p.fn,tmps:=tm,todo:=X,defers:=[],mode:=.run,kind:=.normal } { fn:=p.fn,tmps:=tm,todo:=Y,defers:=p.ds,mode:=.run,kind:=p.κ } cs w (stepG P true (G { fn:=p.fn,tmps:=tm,todo:=X,defers:=[],mode:=.run,kind:=.normal } []) (sh (EF B w) τ d)):=
  fun hc h1 h2=>N9 h1 h2 ⟨⟨tm,_,_,.run,hc,hmr,rfl,rfl⟩,hf,hk⟩
 have hop:∀{ops:Array Oper} {i:Nat} {rest Yy:List Nat} {X1 Y1:List Item},X=.inRegion ops (i :: rest) :: X1->Y=.inRegion ops (i :: Yy) :: Y1->Gn P (.inRegion ops (i :: rest))=true->
   StepB P F p B main τ d { fn:=p.fn,tmps:=tm,todo:=X,defers:=[],mode:=.run,kind:=.normal } { fn:=p.fn,tmps:=tm,todo:=Y,defers:=p.ds,mode:=.run,kind:=p.κ } cs w (stepG P true (G { fn:=p.fn,tmps:=tm,todo:=X,defers:=[],mode:=.run,kind:=.normal } []) (sh (EF B w) τ d)):=by
  intro ops i rest Yy X1 Y1 eX eY hall;subst eX eY;cases hw:((ops[i]?).map (Region.wanted · (yielded ops tm))).getD false with
  | false=>
   refine N9 (x':=Frame.finish { fn:=p.fn,tmps:=tm,todo:=.inRegion ops (i :: rest) :: X1,defers:=[],mode:=.run,kind:=.normal } undef) (y':=Frame.finish { fn:=p.fn,tmps:=tm,todo:=.inRegion ops (i :: Yy) :: Y1,defers:=p.ds,mode:=.run,kind:=p.κ } undef) (fun m cs w=>?_) (fun m cs w=>?_) (hb0.on hn (.finish undef) fun _ h=>by cases h)
   . simp[G,stepG,stepG.exec,hw]
   . simp[G,stepG,stepG.exec,hw]
  | true=>
   cases ho:ops[i]? with
   | none=>rw[ho]at hw;cases hw
   | some o=>
     have XD:K5 P o=true:=Nh hall ho;have hw':Region.wanted o (yielded ops tm)=true:=by rw[ho]at hw;exact hw
     refine U5 (sem:=execOp (Frame.eval { fn:=p.fn,tmps:=tm,todo:=.inRegion ops (i :: rest) :: X1,defers:=[],mode:=.run,kind:=.normal }) o) hF hR hb0 hn ?_ (fun _ _ _ _ _ h=>by cases h) (fun _ _ _ _ _ h=>by cases h) (fun m cs w=>?_) (fun m cs w=>?_)
     . refine Rj (fun g=>rfl) (fun v=>rfl) (fun g hg=>?_) XD;have hFg:=hab o g (by simp[Frame.oper?,ho]) hg;rcases(hF g hFg).2 with⟨f,c,h1,h2,h3,_⟩|h|h
       . exact .inl ⟨⟨hFg,LP XD hg⟩,f,c,h1,h2,h3⟩
       . exact .inr h
       . rw[LP XD hg]at h;cases h
     . obtain⟨dst,op,type,pos,after,guard⟩:=o;simp[G,stepG,stepG.exec,stepG.oper,Frame.oper?,ho,hw']
     . have he:Frame.eval { fn:=p.fn,tmps:=tm,todo:=.inRegion ops (i :: Yy) :: Y1,defers:=p.ds,mode:=.run,kind:=p.κ }=Frame.eval { fn:=p.fn,tmps:=tm,todo:=.inRegion ops (i :: rest) :: X1,defers:=[],mode:=.run,kind:=.normal }:=funext fun z=>by cases z<;>rfl
       rw[← he];obtain⟨dst,op,type,pos,after,guard⟩:=o;simp[G,stepG,stepG.exec,stepG.oper,Frame.oper?,ho,hw']
 cases hc with
 | base h=>exact absurd (.inl ⟨h,rfl⟩) hfx
 | @reg l' ops l h ho=>
  cases l with
  | nil=>exact absurd (.inr ⟨by rw[h];simp,ops,rfl⟩) hfx
  | cons i rest=>exact hop rfl rfl ho
 | @cons it X Y h hi hc=>
  have cons:∀{a:Item} {X Y:List Item},Gn P a=true->Cv P p.k p.l2 X Y->Cv P p.k p.l2 (a :: X) (a :: Y):=fun ha hc=>.cons h ha hc;cases it with
  | code c=>
   cases c with
   | skip=>exact hmv hc (fun m cs w=>by simp[G,stepG,stepG.exec]) (fun m cs w=>by simp[G,stepG,stepG.exec])
   | label l=>exact hmv hc (fun m cs w=>by simp[G,stepG,stepG.exec]) (fun m cs w=>by simp[G,stepG,stepG.exec])
   | ret=>
     exact N9 (x':={ fn:=p.fn,tmps:=tm,todo:=.code .ret :: X,defers:=[],mode:=.returning,kind:=.normal }) (y':={ fn:=p.fn,tmps:=tm,todo:=.code .ret :: Y,defers:=p.ds,mode:=.returning,kind:=p.κ }) (fun m cs w=>by simp[G,stepG,stepG.exec]) (fun m cs w=>by simp[G,stepG,stepG.exec])
       ⟨⟨tm,_,_,.returning,.cons h hi hc,fun _ e=>(by cases e),rfl,rfl⟩,hf,hk⟩
   | refuse why=>
     have:∃o w' es,stepG P true (G { fn:=p.fn,tmps:=tm,todo:=.code (.refuse why) :: X,defers:=[],mode:=.run,kind:=.normal } []) (sh (EF B w) τ d)=.ended o w' es:=⟨_,_,_,by simp[G,stepG,stepG.exec];exact⟨rfl,rfl,rfl⟩⟩
     obtain⟨o,w',es,e⟩:=this;rw[e];exact trivial
   | seq a b=>
     have hab':(Hg P a&&Hg P b)=true:=hi;rw[Bool.and_eq_true]at hab';exact hmv (cons (a:=.code a) hab'.1 (cons (a:=.code b) hab'.2 hc)) (fun m cs w=>by simp[G,stepG,stepG.exec]) (fun m cs w=>by simp[G,stepG,stepG.exec])
   | cond c a b=>
     have hab':(Hg P a&&Hg P b)=true:=hi;rw[Bool.and_eq_true]at hab';have he:∀z,Frame.eval { fn:=p.fn,tmps:=tm,todo:=.code (.cond c a b) :: Y,defers:=p.ds,mode:=.run,kind:=p.κ } z=Frame.eval { fn:=p.fn,tmps:=tm,todo:=.code (.cond c a b) :: X,defers:=[],mode:=.run,kind:=.normal } z:=fun z=>by cases z<;>rfl
     by_cases hv:∃v,Frame.eval { fn:=p.fn,tmps:=tm,todo:=.code (.cond c a b) :: X,defers:=[],mode:=.run,kind:=.normal } c=.bool v
     . obtain⟨v,hv⟩:=hv;have hv2:=(he c).trans hv;refine hmv (cons (a:=.code (if v then a else b)) ?_ hc) (fun m cs w=>by simp[G,stepG,stepG.exec,hv]) (fun m cs w=>by simp[G,stepG,stepG.exec,hv2]);cases v
       . exact hab'.2
       . exact hab'.1
     . have:∃o w' es,stepG P true (G { fn:=p.fn,tmps:=tm,todo:=.code (.cond c a b) :: X,defers:=[],mode:=.run,kind:=.normal } []) (sh (EF B w) τ d)=.ended o w' es:=by
         generalize hee:Frame.eval { fn:=p.fn,tmps:=tm,todo:=.code (.cond c a b) :: X,defers:=[],mode:=.run,kind:=.normal } c=e at hv;cases e with
         | bool v=>exact absurd ⟨v,rfl⟩ hv
         | _=>exact⟨_,_,_,by simp[G,stepG,stepG.exec,hee];exact⟨rfl,rfl,rfl⟩⟩
       obtain⟨o,w',es,e⟩:=this;rw[e];exact trivial
   | block id b=>exact hmv (cons (a:=.code b) hi (cons (a:=.inBlock id) rfl hc)) (fun m cs w=>by simp[G,stepG,stepG.exec]) (fun m cs w=>by simp[G,stepG,stepG.exec])
   | loop b=>exact hmv (cons (a:=.code b) hi (cons (a:=.inLoop b) hi hc)) (fun m cs w=>by simp[G,stepG,stepG.exec]) (fun m cs w=>by simp[G,stepG,stepG.exec])
   | scope b=>exact hmv (cons (a:=.code b) hi (cons (a:=.inScope b) hi hc)) (fun m cs w=>by simp[G,stepG,stepG.exec]) (fun m cs w=>by simp[G,stepG,stepG.exec])
   | exit id=>
     cases he:exitTo id X with
     | some X'=>
       obtain⟨Y',he2,hc'⟩:=hc.exit he;exact hmv hc' (fun m cs w=>by simp[G,stepG,stepG.exec,he]) (fun m cs w=>by simp[G,stepG,stepG.exec,he2])
     | none=>
       have:∃o w' es,stepG P true (G { fn:=p.fn,tmps:=tm,todo:=.code (.exit id) :: X,defers:=[],mode:=.run,kind:=.normal } []) (sh (EF B w) τ d)=.ended o w' es:=⟨_,_,_,by simp[G,stepG,stepG.exec,he];exact⟨rfl,rfl,rfl⟩⟩
       obtain⟨o,w',es,e⟩:=this;rw[e];exact trivial
   | region id ops draw=>
     cases draw with
     | false=>exact hmv (cons (a:=.inRegion ops (List.range ops.size)) (J3 hi _) hc) (fun m cs w=>by simp[G,stepG,stepG.exec]) (fun m cs w=>by simp[G,stepG,stepG.exec])
     | true=>
       have hst:∀(m:Bool) (cs:List Frame) (w:World) (X:List Item) (ds:List Deferred) (κ:CallKind),stepG P m (G { fn:=p.fn,tmps:=tm,todo:=.code (.region id ops true) :: X,defers:=ds,mode:=.run,kind:=κ } cs) w =
          .go (G { fn:=p.fn,tmps:=tm,todo:=.inRegion ops (Region.schedule (P.follows .mixedOrders) ops (w.tape w.drawn (.order p.fn id))) :: X,defers:=ds,mode:=.run,kind:=κ } cs) { w with drawn:=w.drawn+1 }:=fun m cs w X ds κ=>by
         simp[G,stepG,stepG.exec,choose,Sem.run,Question.forced,Question.cut]
       rw[hst];intro Ib;have h1:=Ib 0 (by simp[sh]);refine⟨_,{ w with drawn:=w.drawn+1 },?_,⟨rfl,rfl,rfl,Nat.le_succ _,Nat.le_refl _,fun _ _=>rfl,fun _ _ h _=>h,fun _ _ _ h=>h,fun _ _=>rfl⟩,by simp,.inl ⟨{ fn:=p.fn,tmps:=tm,todo:=.inRegion ops (Region.schedule (P.follows .mixedOrders) ops (w.tape w.drawn (.order p.fn id))) :: Y,defers:=p.ds,mode:=.run,kind:=p.κ },rfl,?_,hst _ _ _ _ _ _⟩⟩
       . simp[sh,EF]
       . simp only[Nat.add_zero]at h1;refine⟨⟨tm,_,_,.run,cons (a:=.inRegion ops (Region.schedule (P.follows .mixedOrders) ops (w.tape w.drawn (.order p.fn id)))) (J3 hi _) hc,hmr,?_,rfl⟩,hf,hk⟩;rw[h1];rfl
   | rangeFunc f ps a b=>exact absurd hi Bool.false_ne_true
   | goto l=>exact absurd hi Bool.false_ne_true
  | inBlock id=>exact hmv hc (fun m cs w=>by simp[G,stepG,stepG.exec]) (fun m cs w=>by simp[G,stepG,stepG.exec])
  | inLoop b=>exact hmv (cons (a:=.code b) hi (cons (a:=.inLoop b) hi hc)) (fun m cs w=>by simp[G,stepG,stepG.exec]) (fun m cs w=>by simp[G,stepG,stepG.exec])
  | inScope b=>exact hmv hc (fun m cs w=>by simp[G,stepG,stepG.exec]) (fun m cs w=>by simp[G,stepG,stepG.exec])
  | inRegion ops l=>
   cases l with
   | nil=>exact hmv hc (fun m cs w=>by simp[G,stepG,stepG.exec]) (fun m cs w=>by simp[G,stepG,stepG.exec])
   | cons i rest=>exact hop rfl rfl hi
  | inRangeFunc l=>exact absurd hi Bool.false_ne_true
  | endRangeFunc l=>exact absurd hi Bool.false_ne_true
  | beginRound=>exact absurd hi Bool.false_ne_true
  | call d w r sv=>exact absurd hi Bool.false_ne_true
  | extern r a=>exact absurd hi Bool.false_ne_true
end
end
section
variable [Host]
inductive TQ(P:Program)(F:FuncId->Prop)(p:je)(cs:List Frame):Frame->List Frame->Goroutine->Prop
 | bot {x y:Frame} (h:Bt P F p x y):TQ P F p cs x [] (G y cs)
 | top {fr:Frame} {s:List Frame} {x y:Frame} (hs:∀f∈fr :: s,Ih P F f) (h:Bt P F p x y) (hn:¬ Xk p x):TQ P F p cs fr (s++[x]) (G fr (s++y :: cs))
def Z4(P:Program)(F:FuncId->Prop)(p:je)(fr:Frame)(s:List Frame):Prop:=s=[]/\Xk p fr/\Ih P F fr
section
variable {P:Program}{F:FuncId->Prop}{p:je}{B:Hid}{main:Bool}{cs:List Frame}
theorem Ww(hF:∀f,F f->Lets P f){fr:Frame}{s:List Frame}{w:World}{τ:Nat->Question->Nat}{d:Nat}(hall:∀f∈fr :: s,Ih P F f)(hs:s≠[]\/fr.mode=.run)(hab:fr.mode=.run->∀o f,fr.oper?=some o->Ij o=some f->F f) :
  VJ P RJ true Self τ d (G fr s) w (stepG P true (G fr s) (sh (EF RJ w) τ d)):=by
 have h:Ms P F RJ true τ d fr s [] w (stepG P true (G fr s) (sh (EF RJ w) τ d)):=by
  by_cases hm:fr.mode=.run
  . exact Xv hF (JB w) hall hm (hab hm)
  . obtain⟨c,l,rfl⟩:=List.exists_cons_of_ne_nil (hs.resolve_right hm);exact Qs (JB w) hall hm
 cases hst:stepG P true (G fr s) (sh (EF RJ w) τ d)with
 | go g w1 es=>
  rw[hst]at h;intro Ib;obtain⟨fr',s',w2,e1,e2,e3,e4,e5,_⟩:=h Ib;exact⟨fr',s',G fr' s',w2,e1,rfl,e2,by simpa using e3,e4,e5⟩
 | ended o w1 es=>exact trivial
 | _=>rw[hst]at h;exact h.elim
theorem iV(hF:∀f,F f->Lets P f){fr:Frame}{s:List Frame}{g:Goroutine}{w:World}{τ:Nat->Question->Nat}{d:Nat}(h:TQ P F p cs fr s g)(hn:¬ Z4 P F p fr s)(hR:Rows B w)(hab:fr.mode=.run->∀o f,fr.oper?=some o->Ij o=some f->F f) :
  VJ P B main (TQ P F p cs) τ d g w (stepG P true (G fr s) (sh (EF B w) τ d)):=by
 cases h with
 | @bot y hb=>
  have hnb:¬ Xk p fr:=fun z=>hn ⟨rfl,z,hb.ok⟩;have h:=iw (main:=main) (τ:=τ) (d:=d) (cs:=cs) hF hR hb hnb (hab (Bt.running hnb));cases hst:stepG P true (G fr []) (sh (EF B w) τ d)with
  | go g w1 es=>
    rw[hst]at h;intro Ib;obtain⟨fr',w2,e1,e2,e3,e4⟩:=h Ib;rcases e4 with⟨y',rfl,hb',e5⟩|⟨rfl,hok,e5⟩
    . exact⟨fr',[],G y' cs,w2,rfl,.bot hb',e1,e5,e2,e3⟩
    . exact⟨fr',[fr],G fr' (y :: cs),w2,rfl,.top (s:=[]) (by simpa using hok) hb hnb,e1,e5,e2,e3⟩
  | ended o w1 es=>exact trivial
  | _=>rw[hst]at h;exact h.elim
 | @top s x y hs hb hnb=>
  have hN:GY (sh (EF B w) τ d):=F6 hR;have h0:=hs fr (by simp);by_cases hm:fr.mode=.run
  ·
    have h:=Xv (main:=main) (τ:=τ) (d:=d) (t:=y :: cs) hF hR hs hm (hab hm);rcases Z7 (main:=true) hF hN h0 hm (hab hm)with hc|⟨fr',pre,w1,es,hc⟩
    . obtain⟨o,w1,es,e⟩:=hc (s++[x]);rw[e];exact trivial
    . rw[hc]at h ⊢;intro Ib;obtain⟨oF,s2,w2,e1,e2,e3,e4,e5,e6⟩:=h Ib;simp only[G,Goroutine.mk.injEq,and_true]at e1;obtain⟨rfl,rfl⟩:=e1;refine⟨fr',pre++(s++[x]),G fr' ((pre++s)++y :: cs),w2,rfl,?_,e2,e3,e4,e5⟩;rw[← List.append_assoc];exact .top e6 hb hnb
  . cases s with
    | nil=>
      have h:=Qs (B:=B) (main:=main) (τ:=τ) (d:=d) (t:=cs) (fr:=fr) (c:=x) (s:=[]) hR (fun f hf=>by
        simp only[List.mem_cons,List.not_mem_nil,or_false]at hf;rcases hf with rfl|rfl
        . exact h0
        . exact hb.ok) hm
      show VJ P B main (TQ P F p cs) τ d (G fr (y :: cs)) w (stepG P true (G fr [x]) (sh (EF B w) τ d));cases hst:stepG P true (G fr [x]) (sh (EF B w) τ d)with
      | go g w1 es=>
        rw[hst]at h;intro Ib;obtain⟨oF,s2,w2,e1,e2,e3,e4,e5,e6⟩:=h Ib;rcases Q7 (P:=P) (F:=F) (main:=main) (w:=w) h0 hm with hc|⟨bk,w3,es3,hno,hc⟩
        . obtain⟨o,w4,es4,e⟩:=hc x cs;have:G fr ([x]++cs)=G fr (x :: cs):=rfl;rw[show([x]:List Frame)++cs=x :: cs from rfl]at e3;rw[e]at e3;cases e3
        . rw[show([x]:List Frame)++cs=x :: cs from rfl,hc]at e3;simp only[GStep.go.injEq,G,Goroutine.mk.injEq,and_true]at e3;obtain⟨⟨hfr,hcs⟩,rfl,rfl⟩:=e3;have hs2:s2=[]:=by have:=congrArg List.length hcs;simp only[List.length_append]at this;exact List.length_eq_zero_iff.1 zOM
          subst hs2;subst hfr;exact⟨bk.on x,[],G (bk.on y) cs,w3,e1,.bot (hb.on hnb bk hno),e2,hc y cs,e4,e5⟩
      | ended o w1 es=>exact trivial
      | _=>rw[hst]at h;exact h.elim
    | cons c s1=>
      have h:=Qs (B:=B) (main:=main) (τ:=τ) (d:=d) (t:=y :: cs) (fr:=fr) (c:=c) (s:=s1) hR hs hm;rcases Q7 (P:=P) (F:=F) (main:=true) (w:=sh (EF B w) τ d) h0 hm with hc|⟨bk,w1,es,hno,hc⟩
      . obtain⟨o,w1,es,e⟩:=hc c (s1++[x]);rw[show c :: s1++[x]=c :: (s1++[x])from rfl,e];exact trivial
      . rw[hc]at h;rw[show c :: s1++[x]=c :: (s1++[x])from rfl,hc];intro Ib;obtain⟨oF,s2,w2,e1,e2,e3,e4,e5,e6⟩:=h Ib;simp only[G,Goroutine.mk.injEq,and_true]at e1;obtain⟨rfl,rfl⟩:=e1;exact⟨bk.on c,s1++[x],G (bk.on c) (s1++y :: cs),w2,rfl,.top e6 hb hnb,e2,e3,e4,e5⟩
theorem Wn(hF:∀f,F f->Lets P f):pU P F B main (TQ P F p cs) (Z4 P F p) where
 run:=fun fr s g h=>by cases h<;>rfl
 one:=fun fr s g g' h h'=>by
  have Aba:∀{X Y Y':List Item},Cv P p.k p.l2 X Y->Cv P p.k p.l2 X Y'->Y=Y':=by
   intro X Y Y' h;induction h generalizing Y' with
   | base h=>
     intro h';cases h' with
     | base h=>rfl
     | cons h hi hc=>cases hc
   | reg h ho=>
     intro h';cases h' with
     | reg h2 ho2=>rw[h]at h2;cases h2;rfl
     | cons h2 hi hc=>rw[h]at h2;cases h2
   | cons h hi hc ih=>
     intro h';cases h' with
     | base h=>cases hc
     | reg h2 ho2=>rw[h]at h2;cases h2
     | cons h2 hi2 hc2=>rw[ih hc2]
  have oM:∀{x y y':Frame},Bt P F p x y->Bt P F p x y'->y=y':=by
   rintro x y y' ⟨⟨tm,X,Y,mode,hc,hm,rfl,rfl⟩,_,_⟩ ⟨⟨tm',X',Y',Aim,hc',hm',e,rfl⟩,_,_⟩;cases e
   rw[Aba hc hc']
  cases h with
  | bot hb=>
   generalize hs:([]:List Frame)=s0 at h';cases h' with
   | bot hb'=>rw[oM hb hb']
   | top hs' hb' hn'=>simp at hs
  | @top s x y hs hb hn=>
   generalize hs0:s++[x]=s0 at h';cases h' with
   | bot hb'=>simp at hs0
   | top hs' hb' hn'=>
     obtain⟨rfl,e⟩:=List.append_inj' hs0 rfl;cases e
     rw[oM hb hb']
 step:=fun fr s g w τ d h hn hR hab=>iV hF h hn hR hab
 self:=fun fr s g w τ d h hn hab=>by
  cases h with
  | bot hb=>exact Ww hF (by simpa using hb.ok) (.inr (Bt.running fun z=>hn ⟨rfl,z,hb.ok⟩)) hab
  | @top s x y hs hb hnb=>
   refine Ww hF (fun f hf=>?_) (.inl (by simp)) hab;rcases List.mem_cons.1 hf with rfl|hf
   . exact hs _ (by simp)
   . rcases List.mem_append.1 hf with hf | hf
     . exact hs _ (by simp;exact .inr hf)
     . simp only[List.mem_singleton]at hf;subst hf;exact hb.ok
theorem NS{I Q:Machine->Prop}{m m':Machine}(h:StepsIn I P m m'):StepsIn (fun m=>I m/\¬ Q m) P m m'\/∃m₁,StepsIn (fun m=>I m/\¬ Q m) P m m₁/\Q m₁/\I m₁/\StepsIn I P m₁ m':=by
 induction h with
 | refl m=>exact .inl (.refl m)
 | @head m m₁ m₂ hI hs h' ih=>
  by_cases hq:Q m
  . exact .inr ⟨m,.refl m,hq,hI,.head hI hs h'⟩
  . rcases ih with ih | ⟨m3,h1,h2,h3,h4⟩
    . exact .inl (.head ⟨hI,hq⟩ hs ih)
    . exact .inr ⟨m3,.head ⟨hI,hq⟩ hs h1,h2,h3,h4⟩
end
end
section
variable [Host]
abbrev GH(fn:FuncId)(tm:Array Value)(Y:List Item)(ds:List Deferred)(mode:FrameMode)(κ:CallKind):Frame:={ fn,tmps:=tm,todo:=Y,defers:=ds,mode,kind:=κ }
def dB(fn:FuncId)(k:List Item)(ds:List Deferred)(κ:CallKind)(cs:List Frame)(e:Exit)(tm:Array Value)(g:Goroutine):Prop:=
 match e with
 | .normal=>g=G (GH fn tm k ds .run κ) cs
 | .ret=>∃Y,g=G (GH fn tm Y ds .returning κ) cs
 | .panic ch=>∃Y,g=G (GH fn tm Y ds (.panicking ch) κ) cs
 | _=>False
section
variable {P:Program}{F:FuncId->Prop}{B:Hid}{main:Bool}{R:World->World->Prop}{D:World->World->Array Event->Prop}
theorem XM{Fn:Fence}(hal:Fn.alive=true){m₁ m':Machine}{fr:Frame}{cs:List Frame}{w':World}(hm:m'=lone fr cs w')(h:StepsIn (Machine.fenced P Fn) P m₁ m'){g:Goroutine}(hg:g∈m₁.gs)(hd:g.dying.isNone=false):False:=by
 cases h with
 | refl=>
  subst hm;simp only[lone,List.mem_toArray,List.mem_singleton]at hg;subst hg;cases hd
 | head hI _ _=>have:=(hI g hg).1 hal;rw[this]at hd;cases hd
theorem QE(hF:∀f,F f->Lets P f){Fn:Fence}(hal:Fn.alive=true){fr fr':Frame}{w w':World}{cs:List Frame}(h0:Ih P F fr)(hm:fr.mode≠.run)(h:StepsIn (Machine.fenced P Fn) P (lone fr [] w) (lone fr' cs w')):lone fr [] w=lone fr' cs w':=by
 generalize e:lone fr' cs w'=m' at h;cases h with
 | refl=>rfl
 | @head _ m₁ _ hI hs h'=>
  exfalso
  rcases bottom hF h0 hm (w:=w)with⟨o,w2,es,hb⟩|⟨g',w2,es,hb,hdy⟩
  . obtain⟨o,w2,h⟩:=I5 hb;rw[hs]at h;cases h
  . obtain⟨m2,h,hmem⟩:=Ou hb;rw[hs]at h;cases h
    exact XM hal e.symm h' hmem hdy
theorem TF{Fn:Fence}{fn:FuncId}{tm:Array Value}{ds:List Deferred}{w:World}{m':Machine}(h:StepsIn (Machine.fenced P Fn) P (lone { fn,tmps:=tm,todo:=[RR],defers:=ds,mode:=.run,kind:=.normal } [] w) m'):lone { fn,tmps:=tm,todo:=[RR],defers:=ds,mode:=.run,kind:=.normal } [] w=m':=by
 cases h with
 | refl=>rfl
 | head hI hs h'=>
  exfalso
  have:∃o w' es,stepG P true (G { fn,tmps:=tm,todo:=[RR],defers:=ds,mode:=.run,kind:=.normal } []) w=.ended o w' es:=⟨_,_,_,by simp[G,stepG,stepG.exec,RR];exact⟨rfl,rfl,rfl⟩⟩
  obtain⟨o,w',es,e⟩:=this;obtain⟨o,w2,h⟩:=I5 e;rw[hs]at h;cases h
theorem pY{k Y:List Item}{l2:Option (Array Oper × List Nat)}(h:Cv P k l2 [RR] Y):l2=none/\Y=k:=by
 cases h with
 | base h=>exact⟨h,rfl⟩
 | cons h hi hc=>cases hc
theorem YL{p:je}{cs:List Frame}{fr:Frame}{s:List Frame}{g:Goroutine}(hR:TQ P F p cs fr s g)(hs:s=[]):∃tm X Y mode,Cv P p.k p.l2 X Y/\fr={ fn:=p.fn,tmps:=tm,todo:=X,defers:=[],mode,kind:=.normal }/\g=G (GH p.fn tm Y p.ds mode p.κ) cs:=by
 cases hR with
 | bot h=>obtain⟨⟨tm,X,Y,mode,hc,hm,rfl,rfl⟩,_,_⟩:=h;exact⟨tm,X,Y,mode,hc,rfl,rfl⟩
 | top=>simp at hs
theorem bY(hT:∀w w₁,R w w₁->Turns B w w₁)(hD:∀w w' es,Rows B w->Kept B w w'->(∀e∈es,Jv B w'.heap.size e)->D w w' es)(hF:∀f,F f->Lets P f){Fn:Fence}(hFn:∀f,Fn.fn f->F f)(hal:Fn.alive=true)(Kt:Fn.depth=none)(XB:Fn.round=none){fn:FuncId}(hf:Fn.fn fn){κ:CallKind}(Ro:κ≠.early){c:Code}(hc:Hg P c=true){n:Nat}{tm:Array Value}{k:List Item}{ds:List Deferred}{cs:List Frame}{w0:World}(hR0:Rows B w0){Q:Exit->Act->World->Prop}(hQ:∀e a w,Q e a w->e=.normal\/e=.ret\/∃ch,e=.panic ch)(hwp:∀τ,c.wpIn Fn n P Q ⟨tm,[]⟩ (sh (EF B w0) τ 0)) :
   Way P main R D (fun g w=>∃e tm' τ d,Rows B w/\Q e ⟨tm',[]⟩ (sh (EF B w) τ d)/\dB fn k ds κ cs e tm' g) (G (GH fn tm (.code c :: k) ds .run κ) cs) w0:=by
 let p:je:=⟨k,none,ds,κ,fn⟩
 let En:(Nat->Question->Nat)->Frame->List Frame->World->Prop:=fun τ fr s W=>s=[]/\∃e a,Q e a W/\match e with
   | .normal=>fr={ fn,tmps:=a.tmps,todo:=[RR],defers:=a.defers,mode:=.run,kind:=.normal }
   | .ret=>∃todo,fr={ fn,tmps:=a.tmps,todo,defers:=a.defers,mode:=.returning,kind:=.normal }
   | .panic ch=>∃todo,fr={ fn,tmps:=a.tmps,todo,defers:=a.defers,mode:=.panicking ch,kind:=.normal }
   | _=>False
 have h0:TQ P F p cs { fn,tmps:=tm,todo:=[.code c,RR],defers:=[],mode:=.run,kind:=.normal } [] (G (GH fn tm (.code c :: k) ds .run κ) cs):=
   .bot ⟨⟨tm,[.code c,RR],.code c :: k,.run,.cons rfl hc (.base rfl),fun ch e=>(by cases e),rfl,rfl⟩,hFn _ hf,Ro⟩
 refine(V3 (En:=En) hT hD (Wn (p:=p) (cs:=cs) hF) hFn h0 hR0 fun τ=>?_).mono fun g w hst=>?_
 . obtain⟨e,a,w',hq,harr⟩:=hwp τ { (default:Frame)with fn:=fn,kind:=.normal,roundOf:=none } [RR] [] XB.symm hf (fun d hd=>by rw[Kt]at hd;cases hd)
   have key:∀fr,En τ fr [] w'->StepsIn (Machine.fenced P Fn) P (lone { fn,tmps:=tm,todo:=[.code c,RR],defers:=[],mode:=.run,kind:=.normal } [] (sh (EF B w0) τ 0)) (lone fr [] w')->
       ∃fr s w',En τ fr s w'/\StepsIn (fun m=>Machine.fenced P Fn m/\¬ bS (Z4 P F p) m) P (lone { fn,tmps:=tm,todo:=[.code c,RR],defers:=[],mode:=.run,kind:=.normal } [] (sh (EF B w0) τ 0)) (lone fr s w'):=by
     intro fr hE hS;rcases NS (Q:=bS (Z4 P F p)) hS with h|⟨m₁,h1,⟨xB,s1,w1,rfl,rfl,hfin,hok⟩,_,h4⟩
     . exact⟨fr,[],w',hE,h⟩
     . have hsame:lone xB [] w1=lone fr [] w':=by
        by_cases hm:xB.mode=.run
        . rcases hfin with hx | hx | hx
          . exact absurd hm hx
          . obtain⟨_,hx⟩:=hx;obtain⟨fn1,VU,zA,ds1,Acl,Abk,ro1⟩:=xB;have e1:=hok.kind;have e2:=hok.round;simp only at hm hx e1 e2;subst hm hx e1 e2;exact TF h4
          . exact absurd rfl hx.1
        . exact QE hF hal hok hm h4
       exact⟨fr,[],w',hE,by rw[← hsame];exact h1⟩
   rcases hQ _ _ _ hq with rfl|rfl|⟨ch,rfl⟩
   . exact key _ ⟨rfl,.normal,a,hq,rfl⟩ harr
   . obtain⟨todo,hs⟩:=harr.1 rfl;exact key _ ⟨rfl,.ret,a,hq,todo,rfl⟩ hs
   . obtain⟨todo,hs⟩:=harr;exact key _ ⟨rfl,.panic ch,a,hq,todo,rfl⟩ hs
 . obtain⟨fr,s,τ,d,hRl,⟨rfl,e,a,hq,hm⟩,S9⟩:=hst;obtain⟨tm',X,Y,mode,hcv,rfl,rfl⟩:=YL hRl rfl;obtain⟨atm,jk⟩:=a;rcases hQ _ _ _ hq with rfl|rfl|⟨ch,rfl⟩
   . simp only[Frame.mk.injEq,true_and,and_true]at hm;obtain⟨_,rfl,rfl,rfl,rfl⟩:=hm;obtain⟨_,rfl⟩:=pY hcv;exact⟨.normal,_,τ,d,S9,hq,rfl⟩
   . obtain⟨todo,hm⟩:=hm;simp only[Frame.mk.injEq,true_and,and_true]at hm;obtain⟨_,rfl,rfl,rfl,rfl⟩:=hm;exact⟨.ret,_,τ,d,S9,hq,_,rfl⟩
   . obtain⟨todo,hm⟩:=hm;simp only[Frame.mk.injEq,true_and,and_true]at hm;obtain⟨_,rfl,rfl,rfl,rfl⟩:=hm;exact⟨.panic ch,_,τ,d,S9,hq,_,rfl⟩
theorem Uj(hT:∀w w₁,R w w₁->Turns B w w₁)(hD:∀w w' es,Rows B w->Kept B w w'->(∀e∈es,Jv B w'.heap.size e)->D w w' es)(hF:∀f,F f->Lets P f){Fn:Fence}(hFn:∀f,Fn.fn f->F f)(hal:Fn.alive=true)(Kt:Fn.depth=none)(XB:Fn.round=none){fn:FuncId}(hf:Fn.fn fn){κ:CallKind}(Ro:κ≠.early){ops:Array Oper}{l l':List Nat}(hc:Gn P (.inRegion ops l)=true){n:Nat}{tm:Array Value}{k:List Item}{ds:List Deferred}{cs:List Frame}{w0:World}(hR0:Rows B w0){Q:Exit->Act->World->Prop}(hQ:∀e a w,Q e a w->e=.normal\/∃ch,e=.panic ch)(hwp:∀τ,wpOpsIn Fn n P ops Q l ⟨tm,[]⟩ (sh (EF B w0) τ 0)) :
   Way P main R D (fun g w=>∃e tm' τ d,Rows B w/\Q e ⟨tm',[]⟩ (sh (EF B w) τ d)/\dB fn (.inRegion ops l' :: k) ds κ cs e tm' g) (G (GH fn tm (.inRegion ops (l++l') :: k) ds .run κ) cs) w0:=by
 let p:je:=⟨k,some (ops,l'),ds,κ,fn⟩
 let En:(Nat->Question->Nat)->Frame->List Frame->World->Prop:=fun τ fr s W=>s=[]/\∃e a,Q e a W/\match e with
   | .normal=>fr={ fn,tmps:=a.tmps,todo:=[RR],defers:=a.defers,mode:=.run,kind:=.normal }\/∃ops',fr={ fn,tmps:=a.tmps,todo:=[.inRegion ops' [],RR],defers:=a.defers,mode:=.run,kind:=.normal }
   | .panic ch=>∃todo,fr={ fn,tmps:=a.tmps,todo,defers:=a.defers,mode:=.panicking ch,kind:=.normal }
   | _=>False
 have h0:TQ P F p cs { fn,tmps:=tm,todo:=[.inRegion ops l,RR],defers:=[],mode:=.run,kind:=.normal } [] (G (GH fn tm (.inRegion ops (l++l') :: k) ds .run κ) cs):=
   .bot ⟨⟨tm,[.inRegion ops l,RR],.inRegion ops (l++l') :: k,.run,.reg rfl hc,fun ch e=>(by cases e),rfl,rfl⟩,hFn _ hf,Ro⟩
 refine(V3 (En:=En) hT hD (Wn (p:=p) (cs:=cs) hF) hFn h0 hR0 fun τ=>?_).mono fun g w hst=>?_
 . obtain⟨e,a,w',hq,harr⟩:=wp_opsIn l _ _ (hwp τ) { (default:Frame)with fn:=fn,kind:=.normal,roundOf:=none } [RR] [] XB.symm hf (fun d hd=>by rw[Kt]at hd;cases hd)
   have key:∀fr,En τ fr [] w'->(∀tm ds,fr={ fn,tmps:=tm,todo:=[RR],defers:=ds,mode:=.run,kind:=.normal }->Q .normal ⟨tm,ds⟩ w')->StepsIn (Machine.fenced P Fn) P (lone { fn,tmps:=tm,todo:=[.inRegion ops l,RR],defers:=[],mode:=.run,kind:=.normal } [] (sh (EF B w0) τ 0)) (lone fr [] w')->
       ∃fr s w',En τ fr s w'/\StepsIn (fun m=>Machine.fenced P Fn m/\¬ bS (Z4 P F p) m) P (lone { fn,tmps:=tm,todo:=[.inRegion ops l,RR],defers:=[],mode:=.run,kind:=.normal } [] (sh (EF B w0) τ 0)) (lone fr s w'):=by
     intro fr hE Abz hS;rcases NS (Q:=bS (Z4 P F p)) hS with h|⟨m₁,h1,⟨xB,s1,w1,rfl,rfl,hfin,hok⟩,_,h4⟩
     . exact⟨fr,[],w',hE,h⟩
     . by_cases hm:xB.mode=.run
       . rcases hfin with hx | hx | hx
         . exact absurd hm hx
         . exact absurd hx.1 (by simp[p])
         . obtain⟨_,ops',hx⟩:=hx;obtain⟨fn1,VU,zA,ds1,Acl,Abk,ro1⟩:=xB;have e1:=hok.kind;have e2:=hok.round;simp only at hm hx e1 e2;subst hm hx e1 e2;refine⟨_,[],w1,?_,h1⟩;have hst:step P (lone { fn:=fn1,tmps:=VU,todo:=[.inRegion ops' [],RR],defers:=ds1,mode:=.run,kind:=.normal } [] w1)=.next (lone { fn:=fn1,tmps:=VU,todo:=[RR],defers:=ds1,mode:=.run,kind:=.normal } [] w1):=
            step_lone_go (by simp[stepG,stepG.exec])
           generalize hend:lone fr [] w'=m' at h4;cases h4 with
           | refl=>
            obtain⟨_,e,a,hq,hm⟩:=hE;simp only[lone,Machine.mk.injEq,Array.mk.injEq,List.cons.injEq,Goroutine.mk.injEq,and_true,true_and]at hend;obtain⟨rfl,rfl⟩:=hend;exact⟨rfl,e,a,hq,hm⟩
           | head hI hs h'=>
            rw[hst]at hs;cases hs
            have:=TF h';rw[← hend]at this;simp only[lone,Machine.mk.injEq,Array.mk.injEq,List.cons.injEq,Goroutine.mk.injEq,and_true,true_and]at this;obtain⟨rfl,rfl⟩:=this;have hfn:fn1=fn:=by
             obtain⟨_,e,a,hq,hm⟩:=hE;cases e with
             | normal=>
              rcases hm with hm|⟨o,hm⟩
              . exact congrArg Frame.fn hm
              . exact congrArg Frame.fn hm
             | panic ch=>obtain⟨todo,hm⟩:=hm;exact congrArg Frame.fn hm
             | _=>exact hm.elim
            subst hfn;exact⟨rfl,.normal,⟨VU,ds1⟩,Abz VU ds1 rfl,.inr ⟨ops',rfl⟩⟩
       . have hsame:=QE hF hal hok hm h4;exact⟨fr,[],w',hE,by rw[← hsame];exact h1⟩
   rcases hQ _ _ _ hq with rfl|⟨ch,rfl⟩
   . refine key _ ⟨rfl,.normal,a,hq,.inl rfl⟩ (fun tm ds e=>?_) harr;obtain⟨atm,jk⟩:=a;simp only[Frame.mk.injEq,true_and,and_true]at e;obtain⟨rfl,rfl⟩:=e;exact hq
   . obtain⟨todo,hs⟩:=harr;refine key _ ⟨rfl,.panic ch,a,hq,todo,rfl⟩ (fun tm ds e=>?_) hs;simp only[Frame.atR,Frame.mk.injEq]at e;obtain⟨_,_,_,_,e,_⟩:=e;cases e
 . obtain⟨fr,s,τ,d,hRl,⟨rfl,e,a,hq,hm⟩,S9⟩:=hst;obtain⟨tm',X,Y,mode,hcv,rfl,rfl⟩:=YL hRl rfl;obtain⟨atm,jk⟩:=a;rcases hQ _ _ _ hq with rfl|⟨ch,rfl⟩
   . rcases hm with hm | ⟨ops',hm⟩
     . simp only[Frame.mk.injEq,true_and,and_true]at hm;obtain⟨_,rfl,rfl,rfl,rfl⟩:=hm;exact absurd (pY hcv).1 (by simp[p])
     . simp only[Frame.mk.injEq,true_and,and_true]at hm;obtain⟨_,rfl,rfl,rfl,rfl⟩:=hm;cases hcv with
       | reg h ho=>
         simp only[p,Option.some.injEq,Prod.mk.injEq]at h;obtain⟨rfl,rfl⟩:=h;exact⟨.normal,_,τ,d,S9,hq,rfl⟩
       | cons h hi hc=>exact absurd h (by simp[p])
   . obtain⟨todo,hm⟩:=hm;simp only[Frame.mk.injEq,true_and,and_true]at hm;obtain⟨_,rfl,rfl,rfl,rfl⟩:=hm;exact⟨.panic ch,_,τ,d,S9,hq,_,rfl⟩
end
end
section
def Alike(W EG:World):Prop:=∃τ d,EG=sh W τ d
theorem Alike.refl(W:World):Alike W W:=⟨W.tape,W.drawn,rfl⟩
def Io(B:Hid)(w W:World):Prop:=Alike (EF B w) W/\Rows B w
def JV{Γ:Type}(B:Γ->Hid)(J:Γ->Goroutine->World->Prop)(γ:Γ)(g:Goroutine)(W:World):Prop:=∀w,Io (B γ) w W->J γ g w
structure Sy(P:Program)(main:Bool)(Γ:Type) where
 B:Γ->Hid
 J:Γ->Goroutine->World->Prop
 silent:∀γ g g' W,g.status=.running->(∀w,stepG P main g w=.go g' w #[])->JV B J γ g' W->JV B J γ g W
structure Fp(P:Program)(main:Bool)(Γ:Type) where
 B:Γ->Hid
 R:Γ->World->World->Prop
 D:Γ->World->World->Array Event->Prop
 J:Γ->Goroutine->World->Prop
 refl:∀γ w,R γ w w
 trans:∀γ a b c,R γ a b->R γ b c->R γ a c
 turns:∀γ w w₁,R γ w w₁->Turns (B γ) w w₁
 kept:∀γ w w' es,Rows (B γ) w->Kept (B γ) w w'->(∀e∈es,Jv (B γ) w'.heap.size e)->D γ w w' es
 way:∀γ g w,Way P main (R γ) (D γ) (J γ) g w->J γ g w
theorem Fp.turn{P:Program}{main:Bool}{Γ:Type}(S:Fp P main Γ){γ:Γ}{W w w₁:World}(h:Io (S.B γ) w W)(hr:S.R γ w w₁):Io (S.B γ) w₁ W:=by obtain⟨⟨τ,d,rfl⟩,hR⟩:=h;have ht:=S.turns _ _ _ hr;exact⟨⟨τ,d,by rw[ht.same];rfl⟩,ht.rows hR⟩
theorem Fp.step{P:Program}{main:Bool}{Γ:Type}(S:Fp P main Γ){γ:Γ}{W:World}{g:Goroutine}(hs:g.status=.running)(h:∀w,Io (S.B γ) w W->∃g' w' es,stepG P main g w=.go g' w' es/\Kept (S.B γ) w w'/\(∀e∈es,Jv (S.B γ) w'.heap.size e)/\∃W',Io (S.B γ) w' W'/\JV S.B S.J γ g' W'):JV S.B S.J γ g W:=by intro w hw;refine S.way _ _ _ (.one hs fun w₁ h₁=>?_);obtain⟨g',w',es,e1,e2,e3,W',e4,e5⟩:=h w₁ (S.turn hw h₁);exact⟨g',w',es,e1,S.kept _ _ _ _ (S.turn hw h₁).2 e2 e3,.stop fun w₂ h₂=>e5 w₂ (S.turn e4 h₂)⟩
def Fp.base{P:Program}{main:Bool}{Γ:Type}(S:Fp P main Γ):Sy P main Γ where
 B:=S.B
 J:=S.J
 silent:=fun γ g g' W hs h hJ=>S.step hs fun w hw=>⟨g',w,#[],h w,Kept.refl _ _,by simp,W,hw,hJ⟩
section
variable {P:Program}{main:Bool}{Γ:Type}(S:Sy P main Γ)
abbrev JW(γ:Γ)(g:Goroutine)(W:World):Prop:=JV S.B S.J γ g W
def After(fn:FuncId)(κ:CallKind)(k:List Item)(cs:List Frame)(e:Exit)(a:Act)(γ:Γ)(W:World):Prop:=
 match e with
 | .normal=>JW S γ (G (GH fn a.tmps k a.defers .run κ) cs) W
 | .exit id=>∃k',exitTo id k=some k'/\JW S γ (G (GH fn a.tmps k' a.defers .run κ) cs) W
 | .goto l=>∃k',gotoIn l k=some k'/\JW S γ (G (GH fn a.tmps k' a.defers .run κ) cs) W
 | .ret=>∀Y,JW S γ (G (GH fn a.tmps Y a.defers .returning κ) cs) W
 | .panic ch=>∀Y,JW S γ (G (GH fn a.tmps Y a.defers (.panicking ch) κ) cs) W
 | .outgrown=>False
abbrev Post(Γ:Type):=Exit->Act->Γ->World->Prop
def Runs(L:FuncId->Prop)(c:Code)(Q:Post Γ)(a:Act)(γ:Γ)(W:World):Prop:=
 ∀fn κ k cs,L fn->κ≠.early->(∀e a' γ' W',Q e a' γ' W'->After S fn κ k cs e a' γ' W')->JW S γ (G (GH fn a.tmps (.code c :: k) a.defers .run κ) cs) W
def RO(L:FuncId->Prop)(ops:Array Oper)(l:List Nat)(Q:Post Γ)(a:Act)(γ:Γ)(W:World):Prop:=
 ∀fn κ k cs,L fn->κ≠.early->(∀e a' γ' W',Q e a' γ' W'->After S fn κ k cs e a' γ' W')->JW S γ (G (GH fn a.tmps (.inRegion ops l :: k) a.defers .run κ) cs) W
def NR(f:FuncId)(args:Array Value)(γ:Γ)(W:World)(R:Ending->Γ->World->Prop):Prop:=
 ∀c cs,(∀v γ' W',R (.returned v) γ' W'->JW S γ' (G (c.finish v) cs) W')->(∀ch γ' W',R (.panicked ch) γ' W'->JW S γ' (G (c.raise ch) cs) W')->JW S γ (G (Frame.enter P f args .normal) (c :: cs)) W
end
section
variable {P:Program}{main:Bool}{Γ:Type}{S:Sy P main Γ}{L:FuncId->Prop}{γ:Γ}{W:World}{a:Act}{Q Q':Post Γ}
theorem JW.tape{EG:World}{g:Goroutine}(h:JW S γ g W)(hW:Alike W EG):JW S γ g EG:=by
 rintro w ⟨⟨τ,d,e⟩,hR⟩;obtain⟨oH,d',rfl⟩:=hW;refine h w ⟨⟨W.tape,W.drawn,?_⟩,hR⟩;show W={ EF (S.B γ) w with tape:=W.tape,drawn:=W.drawn }
 have:sh (sh W oH d') W.tape W.drawn=sh (sh (EF (S.B γ) w) τ d) W.tape W.drawn:=by rw[e]
 exact this
theorem JW.silent{g g':Goroutine}(hs:g.status=.running)(h:∀w,stepG P main g w=.go g' w #[])(hJ:JW S γ g' W):JW S γ g W:=S.silent γ g g' W hs h hJ
theorem Runs.mono{c:Code}(h:Runs S L c Q a γ W)(hq:∀e a γ W,Q e a γ W->Q' e a γ W):Runs S L c Q' a γ W:=fun fn κ k cs hf hk hA=>h fn κ k cs hf hk fun e a' γ' W' q=>hA _ _ _ _ (hq _ _ _ _ q)
def Exit.andThen(next:Act->Γ->World->Prop)(Q:Post Γ):Post Γ
 | .normal,a,γ,W=>next a γ W
 | e,a,γ,W=>Q e a γ W
theorem Runs.seq{x y:Code}(h:Runs S L x (Exit.andThen (Runs S L y Q) Q) a γ W):Runs S L (.seq x y) Q a γ W:=fun fn κ k cs hf hk hA=>
 .silent rfl (g':=G (GH fn a.tmps (.code x :: .code y :: k) a.defers .run κ) cs) (fun w=>by simp[G,stepG,stepG.exec]) (h fn κ (.code y :: k) cs hf hk fun e a' γ' W' q=>by
  cases e with
  | normal=>exact q fn κ k cs hf hk hA
  | exit id=>obtain⟨k',h1,h2⟩:=hA _ _ _ _ q;exact⟨k',by simpa [exitTo]using h1,h2⟩
  | goto l=>obtain⟨k',h1,h2⟩:=hA _ _ _ _ q;exact⟨k',by simpa [gotoIn]using h1,h2⟩
  | ret=>exact hA _ _ _ _ q
  | panic ch=>exact hA _ _ _ _ q
  | outgrown=>exact hA _ _ _ _ q)
theorem Runs.cond{c:Operand}{x y:Code}{t:Bool}(hc:a.eval c=.bool t)(h:Runs S L (if t then x else y) Q a γ W):Runs S L (.cond c x y) Q a γ W:=fun fn κ k cs hf hk hA=>
 .silent rfl (g':=G (GH fn a.tmps (.code (if t then x else y) :: k) a.defers .run κ) cs) (fun w=>by
  have he:Frame.eval (GH fn a.tmps (.code (.cond c x y) :: k) a.defers .run κ) c=.bool t:=by rw[← hc];cases c<;>rfl
  simp only[GH]at he;simp[G,stepG,stepG.exec,he]) (h fn κ k cs hf hk hA)
theorem Runs.skip(h:Q .normal a γ W):Runs S L .skip Q a γ W:=fun fn κ k cs hf hk hA=>.silent rfl (g':=G (GH fn a.tmps k a.defers .run κ) cs) (fun w=>by simp[G,stepG,stepG.exec]) (hA _ _ _ _ h)
theorem Runs.ret(h:Q .ret a γ W):Runs S L .ret Q a γ W:=fun fn κ k cs hf hk hA=>.silent rfl (g':=G (GH fn a.tmps (.code .ret :: k) a.defers .returning κ) cs) (fun w=>by simp[G,stepG,stepG.exec]) (hA _ _ _ _ h _)
theorem Runs.exit{id:Nat}(h:Q (.exit id) a γ W):Runs S L (.exit id) Q a γ W:=fun fn κ k cs hf hk hA=>by obtain⟨k',h1,h2⟩:=hA _ _ _ _ h;exact .silent rfl (g':=G (GH fn a.tmps k' a.defers .run κ) cs) (fun w=>by simp[G,stepG,stepG.exec,h1]) h2
def Exit.within(id:Nat)(Q:Post Γ):Post Γ
 | .exit id',a,γ,W=>if id'=id then Q .normal a γ W else Q (.exit id') a γ W
 | e,a,γ,W=>Q e a γ W
theorem Runs.block{id:Nat}{c:Code}(h:Runs S L c (Exit.within id Q) a γ W):Runs S L (.block id c) Q a γ W:=fun fn κ k cs hf hk hA=>
  .silent rfl (g':=G (GH fn a.tmps (.code c :: .inBlock id :: k) a.defers .run κ) cs) (fun w=>by simp[G,stepG,stepG.exec]) (h fn κ (.inBlock id :: k) cs hf hk fun e a' γ' W' q=>by
    cases e with
    | normal=>exact .silent rfl (g':=G (GH fn a'.tmps k a'.defers .run κ) cs) (fun w=>by simp[G,stepG,stepG.exec]) (hA _ _ _ _ (show Q .normal a' γ' W' from q))
    | exit id'=>
      by_cases hid:id'=id
      . have q:Q .normal a' γ' W':=by simpa [Exit.within,hid]using q
        exact⟨k,by simp[exitTo,hid],hA _ _ _ _ q⟩
      . have q:Q (.exit id') a' γ' W':=by simpa [Exit.within,hid]using q
        obtain ⟨k',h1,h2⟩:=hA _ _ _ _ q;exact ⟨k',by
                      have:(id==id')=false:=by simp;exact fun h=>hid h.symm
                      simpa [exitTo,this]using h1,h2⟩
    | goto l=>obtain⟨k',h1,h2⟩:=hA _ _ _ _ (show Q (.goto l) a' γ' W' from q);exact⟨k',by simpa [gotoIn]using h1,h2⟩
    | ret=>exact hA _ _ _ _ (show Q .ret a' γ' W' from q)
    | panic ch=>exact hA _ _ _ _ (show Q (.panic ch) a' γ' W' from q)
    | outgrown=>exact hA _ _ _ _ (show Q .outgrown a' γ' W' from q))
theorem Runs.loop{c:Code}(I:Nat->Act->Γ->World->Prop){n:Nat}(h0:I n a γ W)(h:∀n a γ W,I n a γ W->Runs S L c (Exit.andThen (fun a' γ' W'=>∃m,m<n/\I m a' γ' W') Q) a γ W):Runs S L (.loop c) Q a γ W:=fun fn κ k cs hf hk hA=>by
 have key:∀n a γ W,I n a γ W->JW S γ (G (GH fn a.tmps (.code c :: .inLoop c :: k) a.defers .run κ) cs) W:=by
  intro n;induction n using Nat.strongRecOn with
  | _ n ih=>
   intro a γ W hI;refine h n a γ W hI fn κ (.inLoop c :: k) cs hf hk fun e a' γ' W' q=>?_;cases e with
   | normal=>
    obtain⟨m,hm,hI'⟩:=q;exact .silent rfl (g':=G (GH fn a'.tmps (.code c :: .inLoop c :: k) a'.defers .run κ) cs) (fun w=>by simp[G,stepG,stepG.exec]) (ih m hm _ _ _ hI')
   | exit id=>obtain⟨k',h1,h2⟩:=hA _ _ _ _ q;exact⟨k',by simpa [exitTo]using h1,h2⟩
   | goto l=>obtain⟨k',h1,h2⟩:=hA _ _ _ _ q;exact⟨k',by simpa [gotoIn]using h1,h2⟩
   | ret=>exact hA _ _ _ _ q
   | panic ch=>exact hA _ _ _ _ q
   | outgrown=>exact hA _ _ _ _ q
 exact .silent rfl (g':=G (GH fn a.tmps (.code c :: .inLoop c :: k) a.defers .run κ) cs) (fun w=>by simp[G,stepG,stepG.exec]) (key n a γ W h0)
theorem Runs.region{id:Nat}{ops:Array Oper}(h:RO S L ops (List.range ops.size) Q a γ W):Runs S L (.region id ops false) Q a γ W:=fun fn κ k cs hf hk hA=>
 .silent rfl (g':=G (GH fn a.tmps (.inRegion ops (List.range ops.size) :: k) a.defers .run κ) cs) (fun w=>by simp[G,stepG,stepG.exec]) (h fn κ k cs hf hk hA)
theorem RO.nil{ops:Array Oper}(h:Q .normal a γ W):RO S L ops [] Q a γ W:=fun fn κ k cs hf hk hA=>
 .silent rfl (g':=G (GH fn a.tmps k a.defers .run κ) cs) (fun w=>by simp[G,stepG,stepG.exec]) (hA _ _ _ _ h)
theorem RO.skip{ops:Array Oper}{i:Nat}{rest:List Nat}{o:Oper}(ho:ops[i]?=some o)(hw:Region.wanted o (yielded ops a.tmps)=false)(h:RO S L ops rest Q (a.put o.dst undef) γ W):RO S L ops (i :: rest) Q a γ W:=fun fn κ k cs hf hk hA=>
 .silent rfl (g':=G (GH fn (a.put o.dst undef).tmps (.inRegion ops rest :: k) (a.put o.dst undef).defers .run κ) cs) (fun w=>by obtain⟨dst,op,type,pos,after,guard⟩:=o;cases dst<;>simp[G,stepG,stepG.exec,ho,hw,Frame.finish,Act.put]) (h fn κ k cs hf hk hA)
theorem stepG_op{fn:FuncId}{κ:CallKind}{k:List Item}{cs:List Frame}{ops:Array Oper}{i:Nat}{rest:List Nat}{o:Oper}(ho:ops[i]?=some o)(hw:Region.wanted o (yielded ops a.tmps)=true)(m:Bool)(w:World) :
  stepG P m (G (GH fn a.tmps (.inRegion ops (i :: rest) :: k) a.defers .run κ) cs) w=stepG.apply P true (GH fn a.tmps (.inRegion ops (i :: rest) :: k) a.defers .run κ) cs none (execOp a.eval o) w:=by
 have he:Frame.eval (GH fn a.tmps (.inRegion ops (i :: rest) :: k) a.defers .run κ)=a.eval:=funext fun z=>by cases z<;>rfl
 rw[← he];obtain⟨dst,op,type,pos,after,guard⟩:=o;simp[G,stepG,stepG.exec,stepG.oper,Frame.oper?,ho,hw]
theorem Oh{fn:FuncId}{κ:CallKind}{k:List Item}{ops:Array Oper}{i:Nat}{rest:List Nat}{o:Oper}(ho:ops[i]?=some o)(v:Value) :
  Frame.finish (GH fn a.tmps (.inRegion ops (i :: rest) :: k) a.defers .run κ) v=GH fn (a.put o.dst v).tmps (.inRegion ops rest :: k) (a.put o.dst v).defers .run κ:=by
 obtain⟨dst,op,type,pos,after,guard⟩:=o;cases dst<;>simp[Frame.finish,Act.put,ho]
theorem RO.value{ops:Array Oper}{i:Nat}{rest:List Nat}{o:Oper}{v:Value}(ho:ops[i]?=some o)(hw:Region.wanted o (yielded ops a.tmps)=true)(hv:∀w,(execOp a.eval o).runT P w #[]=(.ok (.value v) w,#[]))(h:RO S L ops rest Q (a.put o.dst v) γ W):RO S L ops (i :: rest) Q a γ W:=fun fn κ k cs hf hk hA=>
 .silent rfl (g':=G (GH fn (a.put o.dst v).tmps (.inRegion ops rest :: k) (a.put o.dst v).defers .run κ) cs) (fun w=>by rw[stepG_op ho hw];unfold stepG.apply;simp only[if_true,hv w];rw[Oh ho];cases κ<;>rfl) (h fn κ k cs hf hk hA)
theorem RO.call {ops:Array Oper}{i:Nat}{rest:List Nat}{o:Oper}{f:FuncId}{args:Array Value}(ho:ops[i]?=some o)(hw:Region.wanted o (yielded ops a.tmps)=true)(hv:∀ w,(execOp a.eval o).runT P w #[]=(.ok (.enter f args) w,#[]))(h:NR S f args γ W fun
      | .returned v,γ',W'=>RO S L ops rest Q (a.put o.dst v) γ' W'
      | .panicked ch,γ',W'=>Q (.panic ch) a γ' W'
      | .outgrown,_,_=>False):RO S L ops (i :: rest) Q a γ W:=fun fn κ k cs hf hk hA=>
  .silent rfl (g':=G (Frame.enter P f args .normal) (GH fn a.tmps (.inRegion ops (i :: rest) :: k) a.defers .run κ :: cs)) (fun w=>by
    rw[stepG_op ho hw];unfold stepG.apply;simp only[if_true,hv w];cases κ<;>rfl) (h _ _ (fun v γ' W' hR=>by rw[Oh ho];exact hR fn κ k cs hf hk hA) fun ch γ' W' hR=>hA _ _ _ _ hR _)
theorem RO.defer{ops:Array Oper}{i:Nat}{rest:List Nat}{o:Oper}{d:Deferred}(ho:ops[i]?=some o)(hw:Region.wanted o (yielded ops a.tmps)=true)(hv:∀w,(execOp a.eval o).runT P w #[]=(.ok (.defer d) w,#[]))(h:RO S L ops rest Q ({ a with defers:=d :: a.defers }.put o.dst undef) γ W):RO S L ops (i :: rest) Q a γ W:=fun fn κ k cs hf hk hA=>
 .silent rfl (g':=G (GH fn ({ a with defers:=d :: a.defers }.put o.dst undef).tmps (.inRegion ops rest :: k) ({ a with defers:=d :: a.defers }.put o.dst undef).defers .run κ) cs) (fun w=>by rw[stepG_op ho hw];unfold stepG.apply;simp only[if_true,hv w];have:=Oh (a:={ a with defers:=d :: a.defers }) (fn:=fn) (κ:=κ) (k:=k) (rest:=rest) ho undef;simp only[GH]at this ⊢;rw[this];cases κ<;>rfl) (h fn κ k cs hf hk hA)
end
section
variable [Host]
variable {P:Program}{main:Bool}{Γ:Type}{S:Fp P main Γ}{L:List FuncId}{γ:Γ}{W:World}{a:Act}{Q Q':Post Γ}
def oU(Q:Post Γ)(ds:List Deferred)(γ:Γ)(e:Exit)(a:Act)(W:World):Prop:=
 match e with
 | .normal=>Q .normal ⟨a.tmps,ds⟩ γ W
 | .ret=>Q .ret ⟨a.tmps,ds⟩ γ W
 | .panic ch=>Q (.panic ch) ⟨a.tmps,ds⟩ γ W
 | _=>False
def yL(next:Act->World->Prop)(Q:Post Γ)(ds:List Deferred)(γ:Γ)(e:Exit)(a:Act)(W:World):Prop:=
 match e with
 | .normal=>next ⟨a.tmps,ds⟩ W
 | .panic ch=>Q (.panic ch) ⟨a.tmps,ds⟩ γ W
 | _=>False
theorem Runs.lone(hL:∀f∈L,Lets P f){c:Code}(hc:Hg P c=true)(h:∀EG,Alike W EG->c.wpIn (Fence.list L none) 0 P (oU Q a.defers γ) ⟨a.tmps,[]⟩ EG):Runs S.base (·∈L) c Q a γ W:=by
 intro fn κ k cs hf hk hA w hw;refine S.way _ _ _ ((bY (R:=S.R γ) (D:=S.D γ) (F:=(·∈L)) (Fn:=Fence.list L none) (n:=0) (Q:=oU Q a.defers γ) (S.turns γ) (S.kept γ) hL (fun _ h=>h) rfl rfl rfl hf hk hc (k:=k) (ds:=a.defers) (cs:=cs) hw.2 (fun e a w q=>?_) fun τ=>?_).mono fun g w' hst=>?_)
 . cases e with
   | normal=>exact .inl rfl
   | ret=>exact .inr (.inl rfl)
   | panic ch=>exact .inr (.inr ⟨ch,rfl⟩)
   | _=>exact q.elim
 . obtain⟨⟨oH,d',rfl⟩,_⟩:=hw;exact h _ ⟨τ,0,rfl⟩
 . obtain⟨e,tm',τ,d,hR,hq,hg⟩:=hst;have hs:Io (S.B γ) w' (sh (EF (S.B γ) w') τ d):=⟨⟨τ,d,rfl⟩,hR⟩
   cases e with
   | normal=>exact hg ▸ hA _ _ _ _ hq w' hs
   | ret=>obtain⟨Y,rfl⟩:=hg;exact hA _ _ _ _ hq Y w' hs
   | panic ch=>obtain⟨Y,rfl⟩:=hg;exact hA _ _ _ _ hq Y w' hs
   | _=>exact hq.elim
theorem Alike.trans{W EG F8:World}(h:Alike W EG)(h':Alike EG F8):Alike W F8:=by obtain⟨τ,d,rfl⟩:=h;obtain⟨oH,d',rfl⟩:=h';exact⟨oH,d',rfl⟩
theorem Alike.symm{W EG:World}(h:Alike W EG):Alike EG W:=by obtain⟨τ,d,rfl⟩:=h;exact⟨W.tape,W.drawn,rfl⟩
theorem MV{Fn:Fence}{n:Nat}{ops:Array Oper}{R:Exit->Act->World->Prop}(l:List Oper):∀j,(∀i o,l[i]?=some o->ops[j+i]?=some o)->wpOpsIn Fn n P ops R (List.range' j l.length)=wpListIn Fn n P ops R l:=by
 induction l with
 | nil=>intro j _;funext a w;simp[wpOpsIn,wpListIn]
 | cons o l ih=>
  intro j h;have h0:ops[j]?=some o:=by simpa using h 0 o rfl
  have ih':=ih (j+1) (fun i o ho=>by have:=h (i+1) o (by simpa using ho);simpa [Nat.add_assoc,Nat.add_comm 1 i]using this)
  funext a w
  simp only[List.length_cons,List.range'_succ,wpOpsIn,h0,wpListIn,ih']
theorem RO.lone(hL:∀f∈L,Lets P f){ops:Array Oper}{j:Nat}(l:List Oper){rest:List Nat}(hl:∀i o,l[i]?=some o->ops[j+i]?=some o)(hok:l.all (K5 P)=true)(h:∀EG,Alike W EG->wpListIn (Fence.list L none) 0 P ops (yL (fun a' W'=>RO S.base (·∈L) ops rest Q a' γ W') Q a.defers γ) l ⟨a.tmps,[]⟩ EG):RO S.base (·∈L) ops (List.range' j l.length++rest) Q a γ W:=by
 intro fn κ k cs hf hk hA w hw;have hio:Gn P (.inRegion ops (List.range' j l.length))=true:=by show((List.range' j l.length).all fun i=>(ops[i]?).all (K5 P))=true;rw[List.all_eq_true]at hok ⊢;intro i hi;obtain⟨m,hm,rfl⟩:=List.mem_range'.1 hi;have hlo:l[m]?=some l[m]:=List.getElem?_eq_getElem hm;have:=hl m _ hlo;simp only[Nat.one_mul,this,Option.all_some];exact hok _ (List.getElem_mem hm)
 refine S.way _ _ _ ((Uj (R:=S.R γ) (D:=S.D γ) (F:=(·∈L)) (Fn:=Fence.list L none) (n:=0) (Q:=yL (fun a' W'=>RO S.base (·∈L) ops rest Q a' γ W') Q a.defers γ) (S.turns γ) (S.kept γ) hL (fun _ h=>h) rfl rfl rfl hf hk hio (l':=rest) (k:=k) (ds:=a.defers) (cs:=cs) hw.2 (fun e a w q=>?_) fun τ=>?_).mono fun g w' hst=>?_)
 . cases e with
   | normal=>exact .inl rfl
   | panic ch=>exact .inr ⟨ch,rfl⟩
   | _=>exact q.elim
 . obtain⟨⟨oH,d',rfl⟩,_⟩:=hw;rw[MV l j hl];exact h _ ⟨τ,0,rfl⟩
 . obtain⟨e,tm',τ,d,hR,hq,hg⟩:=hst;have hs:Io (S.B γ) w' (sh (EF (S.B γ) w') τ d):=⟨⟨τ,d,rfl⟩,hR⟩
   cases e with
   | normal=>exact hg ▸ hq fn κ k cs hf hk hA w' hs
   | panic ch=>obtain⟨Y,rfl⟩:=hg;exact hA _ _ _ _ hq Y w' hs
   | _=>exact hq.elim
end
end
end Go.LT
end
