/-
  Part 10 of the proof that CellAlone returns true for every input and leaves its arguments as they were. No further condition.
-/
import Derived.Test.YtkdhnbcdbnpmhaaQ05
set_option linter.unusedVariables false
set_option linter.unusedSectionVars false
set_option maxHeartbeats 2000000
namespace Go.LT
open Go Go.Conc
section
variable [Host]
def Wj (P:Program)(B:Hid)(main:Bool)(Rl:Frame->List Frame->Goroutine->Prop)(τ:Nat->Question->Nat)(d:Nat)(gR:Goroutine)(w:World):GStep->Prop
  | .go g w1 es=>(∀ i,d+i < w1.drawn->w.tape (w.drawn+i)=τ (d+i))->∃ fr' s' gR' w2,g=G fr' s'/\Rl fr' s' gR'/\w1=sh (GN B w2) τ (d+(w2.drawn - w.drawn))/\
      stepG P main gR w=.go gR' w2 es/\Kept B w w2/\∀ e∈es,Lr B w2.heap.size e
  | .ended ..=>True
  | _=>False
def Self (fr:Frame)(s:List Frame)(g:Goroutine):Prop:=g=G fr s
structure pq (P:Program)(F:FuncId->Prop)(B:Hid)(main:Bool)(Rl:Frame->List Frame->Goroutine->Prop)(Fin:Frame->List Frame->Prop):Prop where
  run:∀ fr s g,Rl fr s g->g.status=.running
  one:∀ fr s g g',Rl fr s g->Rl fr s g'->g=g'
  step:∀ fr s g w τ d,Rl fr s g->¬ Fin fr s->Rows B w->(fr.mode=.run->∀ o f,fr.oper?=some o->J4 o=some f->F f)->Wj P B main Rl τ d g w (stepG P true (G fr s) (sh (GN B w) τ d))
  self:∀ fr s g w τ d,Rl fr s g->¬ Fin fr s->(fr.mode=.run->∀ o f,fr.oper?=some o->J4 o=some f->F f)->Wj P TT true Self τ d (G fr s) w (stepG P true (G fr s) (sh (GN TT w) τ d))
def jm (Fin:Frame->List Frame->Prop)(m:Machine):Prop:=∃ fr s w,m=lone fr s w/\Fin fr s
section
variable {P:Program}{F:FuncId->Prop}{B:Hid}{main:Bool}{R:World->World->Prop}{D:World->World->Array Event->Prop}{Rl:Frame->List Frame->Goroutine->Prop}{Fin:Frame->List Frame->Prop}
structure Ng where
  fr:Frame
  s:List Frame
  g:Goroutine
  w:World
def Ag (P:Program)(B:Hid)(main:Bool)(D:World->World->Array Event->Prop)(x:Ng)(w₁:World)(y:Ng):Prop:=
  ∃ es,stepG P true (G x.fr x.s) (GN B w₁)=.go (G y.fr y.s) (GN B y.w) es/\stepG P main x.g w₁=.go y.g y.w es/\D w₁ y.w es
def Bg (P:Program)(B:Hid)(main:Bool)(R:World->World->Prop)(D:World->World->Array Event->Prop)(Stop:Goroutine->World->Prop)(Rl:Frame->List Frame->Goroutine->Prop):Type:=
  { x:Ng // Rl x.fr x.s x.g/\Rows B x.w/\x.g.status=.running/\¬ Way P main R D Stop x.g x.w }
variable {Stop:Goroutine->World->Prop}
theorem Vq (x:Bg P B main R D Stop Rl):∃ w₁,R x.1.w w₁/\∀ g' w' es,stepG P main x.1.g w₁=.go g' w' es->D w₁ w' es->¬ Way P main R D Stop g' w':=by apply Classical.byContradiction;intro h;refine x.2.2.2.2 (.one x.2.2.2.1 fun w₁ h₁=>?_);apply Classical.byContradiction;intro h2;exact h ⟨w₁,h₁,fun g' w' es a b c=>h2 ⟨g',w',es,a,b,c⟩⟩
noncomputable def tg (x:Bg P B main R D Stop Rl):World:=(Vq x).choose
theorem lU (x:Bg P B main R D Stop Rl):R x.1.w (tg x):=(Vq x).choose_spec.1
theorem sJ (x:Bg P B main R D Stop Rl):∀ g' w' es,stepG P main x.1.g (tg x)=.go g' w' es->D (tg x) w' es->¬ Way P main R D Stop g' w':=(Vq x).choose_spec.2
open Classical in
noncomputable def ng (x:Bg P B main R D Stop Rl):Option (Bg P B main R D Stop Rl):=
  if h:∃ y:Bg P B main R D Stop Rl,Ag P B main D x.1 (tg x) y.1 then some h.choose else none
theorem nI {x y:Bg P B main R D Stop Rl}(h:ng x=some y):Ag P B main D x.1 (tg x) y.1:=by
  unfold ng at h;split at h
  . rename_i h';cases h;exact h'.choose_spec
  . cases h
theorem nW {x:Bg P B main R D Stop Rl}(h:ng x=none):∀ y:Bg P B main R D Stop Rl,¬ Ag P B main D x.1 (tg x) y.1:=by
  unfold ng at h;split at h
  . cases h
  . rename_i h';exact fun y hy=>h' ⟨y,hy⟩
noncomputable def sg (x:Bg P B main R D Stop Rl):Nat->Option (Bg P B main R D Stop Rl)
  | 0=>some x
  | k+1=>(sg x k).bind ng
noncomputable def cg (x:Bg P B main R D Stop Rl)(k:Nat):Nat:=
  match sg x k,sg x (k+1) with
  | some a,some b=>b.1.w.drawn - (tg a).drawn
  | _,_=>0
noncomputable def pg (x:Bg P B main R D Stop Rl):Nat->Nat
  | 0=>0
  | k+1=>pg x k+cg x k
theorem Zl (x:Bg P B main R D Stop Rl){i j:Nat}(h:i<=j):pg x i<=pg x j:=by
  induction h with
  | refl=>exact Nat.le_refl _
  | step _ ih=>exact Nat.le_trans ih (Nat.le_add_right _ _)
theorem YJ {x:Bg P B main R D Stop Rl}{k:Nat}(h:sg x k=none):∀ j,k<=j->sg x j=none:=by
  intro j hj;induction hj with
  | refl=>exact h
  | step _ ih=>simp [sg,ih]
noncomputable def og (x:Bg P B main R D Stop Rl)(k:Nat):World:=
  match sg x k with
  | some a=>tg a
  | none=>tg x
open Classical in
noncomputable def ig (x:Bg P B main R D Stop Rl)(m:Nat):Nat:=
  if h:∃ k,m < pg x (k+1) then (least _ h).choose else if h:∃ k,sg x (k+1)=none then (least _ h).choose else 0
noncomputable def OX (x:Bg P B main R D Stop Rl):Nat->Question->Nat:=fun m=>(og x (ig x m)).tape ((og x (ig x m)).drawn+(m - pg x (ig x m)))
theorem eU {x a b:Bg P B main R D Stop Rl}{k:Nat}(ha:sg x k=some a)(hb:sg x (k+1)=some b){i:Nat}(hi:i < b.1.w.drawn - (tg a).drawn):OX x (pg x k+i)=(tg a).tape ((tg a).drawn+i):=by
  have hc:cg x k=b.1.w.drawn - (tg a).drawn:=by simp [cg,ha,hb]
  have hlt:pg x k+i < pg x (k+1):=by simp only [pg];omega
  have hex:∃ k',pg x k+i < pg x (k'+1):=⟨k,hlt⟩
  have hid:ig x (pg x k+i)=k:=by
    unfold ig;rw [dif_pos hex];obtain ⟨h2,h1⟩:=(least _ hex).choose_spec;generalize (least _ hex).choose=n at h1 h2;rcases Nat.lt_or_ge n k with h|h
    . have:=Zl x (show n+1<=k from h);omega
    . rcases Nat.lt_or_ge k n with h' | h'
      . exact absurd hlt (h1 k h')
      . omega
  unfold OX;rw [hid];have hs:og x k=tg a:=by simp [og,ha]
  rw [hs,show pg x k+i - pg x k=i by omega]
theorem eF {x a:Bg P B main R D Stop Rl}{k:Nat}(ha:sg x k=some a)(hb:sg x (k+1)=none)(i:Nat):OX x (pg x k+i)=(tg a).tape ((tg a).drawn+i):=by
  have hpos:∀ j,k<=j->pg x j=pg x k:=by
    intro j hj;induction hj with
    | refl=>rfl
    | step h ih=>
      rename_i j
      have:cg x j=0:=by
        have:=YJ hb (j+1) (Nat.succ_le_succ h);unfold cg;rw [this];split
        . rename_i h;cases h
        . rfl
      simp only [pg,this,ih,Nat.add_zero]
  have hex:¬ ∃ k',pg x k+i < pg x (k'+1):=by
    rintro ⟨k',h⟩;rcases Nat.lt_or_ge k' k with hl|hl
    . have:=Zl x (show k'+1<=k from hl);omega
    . have:=hpos (k'+1) (by omega);omega
  have Ya:∃ k,sg x (k+1)=none:=⟨k,hb⟩
  have hid:ig x (pg x k+i)=k:=by
    unfold ig;rw [dif_neg hex,dif_pos Ya];obtain ⟨h2,h1⟩:=(least _ Ya).choose_spec;generalize (least _ Ya).choose=n at h1 h2;rcases Nat.lt_or_ge n k with h|h
    . have:=YJ h2 k (by omega);rw [this] at ha;cases ha
    . rcases Nat.lt_or_ge k n with h' | h'
      . exact absurd hb (h1 k h')
      . omega
  unfold OX;rw [hid];have hs:og x k=tg a:=by simp [og,ha]
  rw [hs,show pg x k+i - pg x k=i by omega]
theorem V9 (hT:∀ w w₁,R w w₁->Turns B w w₁)(hD:∀ w w' es,Rows B w->Kept B w w'->(∀ e∈es,Lr B w'.heap.size e)->D w w' es)(H:pq P F B main Rl Fin){Fn:Fence}(hFn:∀ f,Fn.fn f->F f){XF:Frame}{s0:List Frame}{g0:Goroutine}{w0:World}(h0:Rl XF s0 g0)(hR0:Rows B w0){En:(Nat->Question->Nat)->Frame->List Frame->World->Prop}(hcon:∀ τ,∃ fr s w',En τ fr s w'/\StepsIn (fun m=>Machine.fenced P Fn m/\¬ jm Fin m) P (lone XF s0 (sh (GN B w0) τ 0)) (lone fr s w')) :
    Way P main R D (fun g w=>∃ fr s τ d,Rl fr s g/\En τ fr s (sh (GN B w) τ d)/\Rows B w) g0 w0:=by
  apply Classical.byContradiction;intro hno
  let x0:Bg P B main R D (fun g w=>∃ fr s τ d,Rl fr s g/\En τ fr s (sh (GN B w) τ d)/\Rows B w) Rl:=⟨⟨XF,s0,g0,w0⟩,h0,hR0,H.run _ _ _ h0,hno⟩
  obtain ⟨fr,s,w',hEn,hC⟩:=hcon (OX x0);obtain ⟨N,hN,mX⟩:=StepsIn.run hC;have claim:∀ k,k<=N->∃ x,sg x0 k=some x/\runN P k (lone XF s0 (sh (GN B w0) (OX x0) 0))=.next (lone x.1.fr x.1.s (sh (GN B x.1.w) (OX x0) (pg x0 k))):=by
    intro k;induction k with
    | zero=>exact fun _=>⟨x0,rfl,rfl⟩
    | succ k ih=>
      intro hk;obtain ⟨x,hx,hrun⟩:=ih (by omega);have hfk:=mX k (by omega) _ hrun;have hnext:∃ m1,step P (lone x.1.fr x.1.s (sh (GN B x.1.w) (OX x0) (pg x0 k)))=.next m1/\∀ m2,step P (lone x.1.fr x.1.s (sh (GN B x.1.w) (OX x0) (pg x0 k)))=.next m2->runN P (k+1) (lone XF s0 (sh (GN B w0) (OX x0) 0))=.next m2:=by
        have hadd:=runN_add P k 1 (lone XF s0 (sh (GN B w0) (OX x0) 0));rw [hrun] at hadd;have h1:runN P 1 (lone x.1.fr x.1.s (sh (GN B x.1.w) (OX x0) (pg x0 k)))=step P (lone x.1.fr x.1.s (sh (GN B x.1.w) (OX x0) (pg x0 k))):=by simp only [runN];cases step P (lone x.1.fr x.1.s (sh (GN B x.1.w) (OX x0) (pg x0 k))) <;> rfl
        cases hs:step P (lone x.1.fr x.1.s (sh (GN B x.1.w) (OX x0) (pg x0 k))) with
        | next m1=>
          refine ⟨m1,rfl,fun m2 h2=>?_⟩;cases h2
          rw [hadd];simp only [h1,hs]
        | ended o w2=>
          exfalso
          have hE:runN P (k+1) (lone XF s0 (sh (GN B w0) (OX x0) 0))=.ended o w2:=by rw [hadd];simp only [h1,hs]
          have:=runN_ended hE (N - (k+1));rw [show k+1+(N - (k+1))=N by omega,hN] at this;cases this
      obtain ⟨m1,hm1,Wq⟩:=hnext;have cO:=hT _ _ (lU x);have Uw:=cO.rows x.2.2.1;have hsame:sh (GN B (tg x)) (OX x0) (pg x0 k)=sh (GN B x.1.w) (OX x0) (pg x0 k):=by rw [cO.same];rfl
      have hg0:=hfk.1 (G x.1.fr x.1.s) (by simp [lone,G]);have hab:x.1.fr.mode=.run->∀ o g,x.1.fr.oper?=some o->J4 o=some g->F g:=fun hm o g ho hc=>hFn _ (hg0.2.2.1 g (Qt hm ho hc));have hnf:¬ Fin x.1.fr x.1.s:=fun hf=>hfk.2 ⟨_,_,_,rfl,hf⟩;cases hnx:sg x0 (k+1) with
      | none=>
        exfalso
        have hag:=eF hx hnx;have h1:=H.step x.1.fr x.1.s x.1.g (tg x) (OX x0) (pg x0 k) x.2.1 hnf Uw hab;have h2:=H.self x.1.fr x.1.s x.1.g (GN B (tg x)) (OX x0) (pg x0 k) x.2.1 hnf hab;rw [Jt (IG Uw)] at h2;cases hst:stepG P true (G x.1.fr x.1.s) (sh (GN B (tg x)) (OX x0) (pg x0 k)) with
        | go g w1 es=>
          rw [hst] at h1 h2;obtain ⟨fr',s',gR',w2,e0,hRl,e1,e2,hK,hev⟩:=h1 fun i _=>(hag i).symm;obtain ⟨oQ,s2,gS,w3,e3,WQ,e4,e5,hK3,_⟩:=h2 fun i _=>(hag i).symm;have hdw:=hD _ _ _ Uw hK hev;have hw3:w3=GN B w2:=by
            have tK:=hK3.Vv (IG Uw);rw [Jt tK] at e4;have hh:sh w3 (OX x0) (pg x0 k+(w3.drawn - (tg x).drawn))=sh (GN B w2) (OX x0) (pg x0 k+(w2.drawn - (tg x).drawn)):=e4.symm.trans e1;have ht3:w3.tape=(GN B w2).tape:=by rw [hK3.tape];exact hK.tape.symm
            have hd3:w3.drawn=(GN B w2).drawn:=by have hh':pg x0 k+(w3.drawn - (tg x).drawn)=pg x0 k+(w2.drawn - (tg x).drawn):=congrArg World.drawn hh;have l1:(tg x).drawn<=w3.drawn:=hK3.drawn;have l2:(tg x).drawn<=w2.drawn:=hK.drawn;show w3.drawn=w2.drawn;omega
            have:sh (sh w3 (OX x0) (pg x0 k+(w3.drawn - (tg x).drawn))) w3.tape w3.drawn=sh (sh (GN B w2) (OX x0) (pg x0 k+(w2.drawn - (tg x).drawn))) (GN B w2).tape (GN B w2).drawn:=by rw [hh,ht3,hd3]
            exact this
          subst hw3;have kP:G fr' s'=G oQ s2:=e0.symm.trans e3;have e5':stepG P true (G x.1.fr x.1.s) (GN B (tg x))=.go (G fr' s') (GN B w2) es:=by rw [e5];unfold Self at WQ;rw [WQ,← kP]
          have hbad:=sJ x _ _ _ e2 hdw;have hs1:ng x=none:=by have:sg x0 (k+1)=(sg x0 k).bind ng:=rfl;rw [hx] at this;exact this.symm.trans hnx
          exact nW hs1 ⟨⟨fr',s',gR',w2⟩,hRl,Uw.kept hK,H.run _ _ _ hRl,hbad⟩ ⟨es,e5',e2,hdw⟩
        | ended o w1 es=>
          rw [hsame] at hst;obtain ⟨o,w2,h⟩:=KI hst;rw [hm1] at h;cases h
        | _=>rw [hst] at h1;exact h1.elim
      | some y=>
        have hs1:ng x=some y:=by have:sg x0 (k+1)=(sg x0 k).bind ng:=rfl;rw [hx] at this;exact this.symm.trans hnx
        obtain ⟨es,a1,a2,a3⟩:=nI hs1;refine ⟨y,rfl,?_⟩;have h2:=H.self x.1.fr x.1.s x.1.g (sh (GN B (tg x)) (OX x0) (pg x0 k)) (tg x).tape (tg x).drawn x.2.1 hnf hab;have hNP:Jq (sh (GN B (tg x)) (OX x0) (pg x0 k)):=IG Uw;rw [Jt hNP] at h2;have hback:sh (sh (GN B (tg x)) (OX x0) (pg x0 k)) (tg x).tape (tg x).drawn=GN B (tg x):=rfl;rw [hback,a1] at h2;obtain ⟨oQ,s2,gS,w3,e3,WQ,e4,e5,hK3,_⟩:=h2 fun i hi=>eU hx hnx (by have:(tg x).drawn+i < y.1.w.drawn:=hi;omega)
        unfold Self at WQ;subst WQ;rw [← e3] at e5;have tK:=hK3.Vv hNP;rw [Jt tK] at e4;have hc:cg x0 k=y.1.w.drawn - (tg x).drawn:=by simp [cg,hx,hnx]
        have hw3:w3=sh (GN B y.1.w) (OX x0) (pg x0 (k+1)):=by
          have hd:y.1.w.drawn=(tg x).drawn+(w3.drawn - pg x0 k):=congrArg World.drawn e4;have hl:pg x0 k<=w3.drawn:=hK3.drawn;have ht3:w3.tape=OX x0:=hK3.tape;have hdr:w3.drawn=pg x0 (k+1):=by simp only [pg,hc];omega
          have:sh (GN B y.1.w) w3.tape w3.drawn=sh (sh w3 (tg x).tape ((tg x).drawn+(w3.drawn - pg x0 k))) w3.tape w3.drawn:=by rw [e4];rfl
          rw [ht3,hdr] at this;rw [this];show w3={ w3 with tape:=OX x0,drawn:=pg x0 (k+1) }
          rw [← ht3,← hdr]
        have hst:stepG P true (G x.1.fr x.1.s) (sh (GN B x.1.w) (OX x0) (pg x0 k))=.go (G y.1.fr y.1.s) w3 es:=by rw [← hsame];exact e5
        rw [← hw3];exact Wq _ (Rt hst)
  obtain ⟨x,hx,hrun⟩:=claim N (Nat.le_refl _);rw [hN] at hrun;have hl:lone fr s w'=lone x.1.fr x.1.s (sh (GN B x.1.w) (OX x0) (pg x0 N)):=by injection hrun
  simp only [lone,Machine.mk.injEq] at hl;obtain ⟨hw,hgs,_⟩:=hl;simp only [Array.mk.injEq,List.cons.injEq,Goroutine.mk.injEq] at hgs;obtain ⟨⟨hfr,hcs,_⟩,_⟩:=hgs;refine x.2.2.2.2 (.stop fun w₁ h₁=>?_);have cO:=hT _ _ h₁;refine ⟨x.1.fr,x.1.s,OX x0,pg x0 N,x.2.1,?_,cO.rows x.2.2.1⟩;have:sh (GN B w₁) (OX x0) (pg x0 N)=w':=by rw [cO.same,hw];rfl
  rw [this,← hfr,← hcs];exact hEn
end
end
section
variable [Host]
section
variable {P:Program}{F:FuncId->Prop}{B:Hid}{main:Bool}{τ:Nat->Question->Nat}{d:Nat}{fr:Frame}{s t:List Frame}{w:World}
def Carry (P:Program)(m:Bool)(fr:Frame)(w:World):Prop:=
  (∀ c,∃ o w' es,stepG P m (G fr c) w=.ended o w' es)\/∃ fr' pre w' es,∀ c,stepG P m (G fr c) w=.go (G fr' (pre ++ c)) w' es
theorem Xd (hmode:fr.mode=.run){sem:Sem Next}(hT:G6 P (KF F) sem)(hN:Jq w)(hk:fr.kind=.normal)(hw:∀ d wr r sv k,fr.todo≠.call d wr r sv :: k)(h:∀ cs,stepG P main (G fr cs) w=stepG.apply P true fr cs none sem w):Carry P main fr w:=by
  have hkk:=QZ (es:=#[]) hT hN;have N9:(fr.kind == CallKind.early)=false:=by rw [hk];rfl
  unfold Carry;simp only [h];generalize hr:sem.runT P w #[]=r at hkk;obtain ⟨r,es⟩:=r;unfold stepG.apply;simp only [if_true,hr,N9,Bool.false_eq_true,if_false];cases r with
  | ok n w1=>
    cases n with
    | value v=>exact .inr ⟨_,[],_,_,fun c=>rfl⟩
    | skip=>exact .inr ⟨_,[],_,_,fun c=>rfl⟩
    | enter f args=>exact .inr ⟨_,[fr],_,_,fun c=>rfl⟩
    | _=>exact hkk.elim
  | halt x w1=>
    cases x with
    | panic v=>exact .inr ⟨_,[],_,_,fun c=>rfl⟩
    | stuck m=>exact .inl fun c=>⟨_,_,_,rfl⟩
    | unsupported u=>cases u <;> first | exact hkk.elim | exact .inl fun c=>⟨_,_,_,rfl⟩
    | _=>exact hkk.elim
theorem I9 {fr':Frame}(h:∀ cs,stepG P main (G fr cs) w=.go (G fr' cs) w):Carry P main fr w:=.inr ⟨fr',[],w,#[],h⟩
theorem bM (hF:∀ f,F f->Lets P f)(hN:Jq w)(h0:JZ P F fr)(hmode:fr.mode=.run)(hab:∀ o g,fr.oper?=some o->J4 o=some g->F g):Carry P main fr w:=by
  have hrnd:=h0.round;have htodo:=h0.todo;have hkind:=h0.kind;obtain ⟨fn,tmps,todo,defers,mode,kind,roundOf⟩:=fr;simp only at hmode hrnd htodo hkind;subst hmode hrnd hkind;cases todo with
  | nil=>exact I9 fun cs=>by simp [G,stepG,stepG.exec];rfl
  | cons it k=>
    have hi:=htodo it (by simp);cases it with
    | code c=>
      cases c with
      | skip=>exact I9 fun cs=>by simp [G,stepG,stepG.exec];rfl
      | label l=>exact I9 fun cs=>by simp [G,stepG,stepG.exec];rfl
      | ret=>exact I9 fun cs=>by simp [G,stepG,stepG.exec];rfl
      | refuse why=>exact .inl fun c=>⟨_,_,_,by simp [G,stepG,stepG.exec];exact ⟨rfl,rfl,rfl⟩⟩
      | seq a b=>exact I9 fun cs=>by simp [G,stepG,stepG.exec];rfl
      | cond c a b=>
        by_cases hb:∃ v,Frame.eval { fn,tmps,todo:=.code (.cond c a b) :: k,defers,mode:=.run,kind:=.normal } c=.bool v
        . obtain ⟨v,hv⟩:=hb;exact I9 fun cs=>by simp [G,stepG,stepG.exec,hv];rfl
        . refine .inl fun cs=>?_;generalize he:Frame.eval { fn,tmps,todo:=.code (.cond c a b) :: k,defers,mode:=.run,kind:=.normal } c=e at hb;cases e with
          | bool v=>exact absurd ⟨v,rfl⟩ hb
          | _=>exact ⟨_,_,_,by simp [G,stepG,stepG.exec,he];exact ⟨rfl,rfl,rfl⟩⟩
      | block id b=>exact I9 fun cs=>by simp [G,stepG,stepG.exec];rfl
      | loop b=>exact I9 fun cs=>by simp [G,stepG,stepG.exec];rfl
      | scope b=>exact I9 fun cs=>by simp [G,stepG,stepG.exec];rfl
      | exit id=>
        cases he:exitTo id k with
        | some k'=>exact I9 fun cs=>by simp [G,stepG,stepG.exec,he];rfl
        | none=>exact .inl fun c=>⟨_,_,_,by simp [G,stepG,stepG.exec,he];exact ⟨rfl,rfl,rfl⟩⟩
      | region id ops draw=>
        cases draw with
        | false=>exact I9 fun cs=>by simp [G,stepG,stepG.exec];rfl
        | true=>
          exact .inr ⟨_,[],_,_,fun cs=>by simp only [G,stepG,stepG.exec,choose,Sem.run,Question.forced,Question.cut,Bool.not_true,Bool.false_eq_true,if_false];rfl⟩
      | rangeFunc f ps a b=>exact absurd hi Bool.false_ne_true
      | goto l=>exact absurd hi Bool.false_ne_true
    | inBlock id=>exact I9 fun cs=>by simp [G,stepG,stepG.exec];rfl
    | inLoop b=>exact I9 fun cs=>by simp [G,stepG,stepG.exec];rfl
    | inScope b=>exact I9 fun cs=>by simp [G,stepG,stepG.exec];rfl
    | inRegion ops l=>
      cases l with
      | nil=>exact I9 fun cs=>by simp [G,stepG,stepG.exec];rfl
      | cons i rest=>
        cases hw:((ops[i]?).map (Region.wanted · (yielded ops tmps))).getD false with
        | false=>exact I9 (fr':=Frame.finish { fn,tmps,todo:=.inRegion ops (i :: rest) :: k,defers,mode:=.run,kind:=.normal } undef) fun cs=>by simp [G,stepG,stepG.exec,hw]
        | true=>
          cases ho:ops[i]? with
          | none=>rw [ho] at hw;cases hw
          | some o=>
            have XM:M4 P o=true:=OJ hi ho;refine Xd (F:=F) (sem:=execOp (Frame.eval { fn,tmps,todo:=.inRegion ops (i :: rest) :: k,defers,mode:=.run,kind:=.normal }) o) rfl ?_ hN rfl (fun _ _ _ _ _ h=>by cases h) (fun cs=>?_)
            . refine Sv (fun g=>rfl) (fun v=>rfl) (fun g hg=>?_) XM;have hFg:=hab o g (by simp [Frame.oper?,ho]) hg;rcases (hF g hFg).2 with ⟨f,c,h1,h2,h3,_⟩|h|h
              . exact .inl ⟨hFg,f,c,h1,h2,h3⟩
              . exact .inr h
              . rw [Nv XM hg] at h;cases h
            . have hw':Region.wanted o (yielded ops tmps)=true:=by rw [ho] at hw;exact hw
              obtain ⟨dst,op,type,pos,after,guard⟩:=o;simp [G,stepG,stepG.exec,stepG.oper,Frame.oper?,ho,hw']
    | inRangeFunc l=>exact absurd hi Bool.false_ne_true
    | endRangeFunc l=>exact absurd hi Bool.false_ne_true
    | beginRound=>exact absurd hi Bool.false_ne_true
    | call d w r sv=>exact absurd hi Bool.false_ne_true
    | extern r a=>exact absurd hi Bool.false_ne_true
inductive bD | finish (v:Value)
  | raise (chain:List PanicEntry)
def bD.on:bD->Frame->Frame
  | .finish v,c=>c.finish v
  | .raise ch,c=>c.raise ch
theorem Si (h0:JZ P F fr)(hmode:fr.mode≠.run):(∀ c cs,∃ o w' es,stepG P main (G fr (c :: cs)) w=.ended o w' es)\/∃ (bk:bD) (w':World) (es:Array Event),(∀ ch,bk=.raise ch->∀ e∈ch,e.goexit=false)/\∀ c cs,stepG P main (G fr (c :: cs)) w=.go (G (bk.on c) cs) w' es:=by
  have hdef:=h0.defers;have hkind:=h0.kind;have hno:=h0.jR;obtain ⟨fn,tmps,todo,defers,mode,kind,roundOf⟩:=fr;simp only at hmode hdef hkind hno;subst hdef hkind;cases mode with
  | run=>exact absurd rfl hmode
  | returning=>
    cases hf:P.funcs[fn]? with
    | none=>exact .inr ⟨.finish (tmps.getD 0 undef),w,#[],fun _ h=>(by cases h),fun c cs=>by simp [G,stepG,unwind,hf,doReturn,bD.on]⟩
    | some f=>
      have hst:∀ (c:Frame) (cs:List Frame),stepG P main (G { fn,tmps,todo,defers:=[],mode:=.returning,kind:=.normal,roundOf } (c :: cs)) w =
          GStep.after (seen P fn ((results f tmps).runT P w #[]).2) (match ((results f tmps).runT P w #[]).1 with
            | .ok v w=>.go (G (c.finish v) cs) w
            | .halt (.stuck s) w=>.ended (.stuck s (Frame.pos P { fn,tmps,todo,defers:=[],mode:=.returning,kind:=.normal,roundOf })) w
            | .halt _ w => .ended (.stuck "return: the result variables cannot be read" (Frame.pos P { fn, tmps, todo, defers := [], mode := .returning, kind := .normal, roundOf })) w) := fun c cs => by
        simp only [G,stepG,unwind,hf];generalize (results f tmps).runT P w #[]=r;obtain ⟨r,es⟩:=r;cases r with
        | ok v w=>rfl
        | halt x w=>cases x <;> rfl
      generalize (results f tmps).runT P w #[]=r at hst;obtain ⟨r,es⟩:=r;cases r with
      | ok v w1=>exact .inr ⟨.finish v,w1,_,fun _ h=>(by cases h),fun c cs=>(hst c cs).trans rfl⟩
      | halt x w1=>exact .inl fun c cs=>by rw [hst];cases x <;> exact ⟨_,_,_,rfl⟩
  | panicking chain=>
    by_cases hca:Frame.catches P { fn,tmps,todo,defers:=[],mode:=.panicking chain,kind:=.normal,roundOf }=true
    . exact .inl fun c cs=>by simp only [G,stepG,unwind,hca,if_true];exact ⟨_,_,_,rfl⟩
    . exact .inr ⟨.raise chain,w,#[],fun ch h=>(by cases h;exact hno chain rfl),fun c cs=>by simp only [G,stepG,unwind,hca,if_false,Bool.false_eq_true];rfl⟩
end
end
section
variable [Host]
def RR : Item := .code (.refuse "")
inductive Cv (P:Program)(k:List Item)(l2:Option (Array Oper × List Nat)):List Item->List Item->Prop
  | base (h:l2=none):Cv P k l2 [RR] k
  | reg {l':List Nat} {ops:Array Oper} {l:List Nat} (h:l2=some (ops,l')) (ho:I5 P (.inRegion ops l)=true):Cv P k l2 [.inRegion ops l,RR] (.inRegion ops (l ++ l') :: k)
  | cons {it:Item} {X Y:List Item} (h:l2=none) (hi:I5 P it=true) (hc:Cv P k l2 X Y):Cv P k l2 (it :: X) (it :: Y)
def uL (l2:Option (Array Oper × List Nat))(X:List Item):Prop:=(l2=none/\X=[RR])\/(l2≠none/\∃ ops,X=[.inRegion ops [],RR])
section
variable {P:Program}{F:FuncId->Prop}{k:List Item}{l2:Option (Array Oper × List Nat)}{X Y:List Item}
theorem Cv.ok (h:Cv P k l2 X Y):∀ it∈X,I5 P it=true:=by
  induction h with
  | base h=>intro it hit;simp only [List.mem_singleton] at hit;subst hit;rfl
  | reg h ho=>
    intro it hit;simp only [List.mem_cons,List.not_mem_nil,or_false] at hit;rcases hit with rfl|rfl
    . exact ho
    . rfl
  | cons h hi hc ih=>
    intro it hit;rcases List.mem_cons.1 hit with rfl|hit
    . exact hi
    . exact ih it hit
theorem Cv.exit {id:Nat}(h:Cv P k l2 X Y):∀ {X':List Item},exitTo id X=some X'->∃ Y',exitTo id Y=some Y'/\Cv P k l2 X' Y':=by
  induction h with
  | base h=>intro X' e;simp [exitTo,RR] at e
  | reg h ho=>intro X' e;simp [exitTo,RR] at e
  | @cons it X Y h hi hc ih=>
    intro X' e;cases it with
    | inBlock id'=>
      unfold exitTo at e ⊢;split at e
      . rename_i hid
        cases e
        exact ⟨Y,by simp [hid],hc⟩
      . rename_i hid
        simp only [hid,if_false,Bool.false_eq_true];exact ih e
    | _=>exact ih e
structure kK where
  k:List Item
  l2:Option (Array Oper × List Nat)
  ds:List Deferred
  κ:CallKind
  fn:FuncId
structure Bt (P:Program)(F:FuncId->Prop)(p:kK)(x y:Frame):Prop where
  ex:∃ tm X Y mode,Cv P p.k p.l2 X Y/\(∀ ch,mode=.panicking ch->∀ e∈ch,e.goexit=false)/\x={ fn:=p.fn,tmps:=tm,todo:=X,defers:=[],mode,kind:=.normal }/\y={ fn:=p.fn,tmps:=tm,todo:=Y,defers:=p.ds,mode,kind:=p.κ }
  fn:F p.fn
  kind:p.κ≠.early
def X5 (p:kK)(x:Frame):Prop:=x.mode≠.run\/uL p.l2 x.todo
end
section
variable {P:Program}{F:FuncId->Prop}{p:kK}{x y:Frame}
theorem Bt.ok (h:Bt P F p x y):JZ P F x:=by obtain ⟨⟨tm,X,Y,mode,hc,hm,rfl,rfl⟩,hf,_⟩:=h;exact ⟨rfl,rfl,rfl,hc.ok,hf,hm⟩
theorem Bt.running (h:¬ X5 p x):x.mode=.run:=Classical.byContradiction fun e=>h (.inl e)
theorem Bt.on (h:Bt P F p x y)(hn:¬ X5 p x)(bk:bD)(hb:∀ ch,bk=.raise ch->∀ e∈ch,e.goexit=false):Bt P F p (bk.on x) (bk.on y):=by
  have hr:=Bt.running hn;obtain ⟨⟨tm,X,Y,mode,hc,hm,rfl,rfl⟩,hf,hk⟩:=h;simp only at hr;subst hr;have hfx:¬ uL p.l2 X:=fun z=>hn (.inr z);refine ⟨?_,hf,hk⟩;cases bk with
  | raise ch=>exact ⟨tm,X,Y,.panicking ch,hc,fun c e=>by cases e;exact hb ch rfl,rfl,rfl⟩
  | finish v=>
    have hmr:∀ ch,FrameMode.run=.panicking ch->∀ e∈ch,e.goexit=false:=fun ch e=>by cases e
    cases hc with
    | base h=>exact absurd (.inl ⟨h,rfl⟩) hfx
    | @reg l' ops l h ho=>
      cases l with
      | nil=>exact absurd (.inr ⟨by rw [h];simp,ops,rfl⟩) hfx
      | cons i rest=>exact ⟨_,_,_,.run,.reg h (OH ho),hmr,rfl,rfl⟩
    | @cons it X Y h hi hc=>
      cases it with
      | inRegion ops l=>
        cases l with
        | nil=>exact ⟨tm,_,_,.run,.cons h hi hc,hmr,rfl,rfl⟩
        | cons i rest=>exact ⟨_,_,_,.run,.cons (it:=.inRegion ops rest) h (OH hi) hc,hmr,rfl,rfl⟩
      | code c=>exact ⟨tm,_,_,.run,.cons h hi hc,hmr,rfl,rfl⟩
      | inBlock b=>exact ⟨tm,_,_,.run,.cons h hi hc,hmr,rfl,rfl⟩
      | inLoop b=>exact ⟨tm,_,_,.run,.cons h hi hc,hmr,rfl,rfl⟩
      | inScope b=>exact ⟨tm,_,_,.run,.cons h hi hc,hmr,rfl,rfl⟩
      | _=>exact absurd hi Bool.false_ne_true
def StepB (P:Program)(F:FuncId->Prop)(p:kK)(B:Hid)(main:Bool)(τ:Nat->Question->Nat)(d:Nat)(x y:Frame)(cs:List Frame)(w:World):GStep->Prop
  | .go g w1 es=>(∀ i,d+i < w1.drawn->w.tape (w.drawn+i)=τ (d+i))->∃ fr' w2,w1=sh (GN B w2) τ (d+(w2.drawn - w.drawn))/\Kept B w w2/\(∀ e∈es,Lr B w2.heap.size e)/\
      ((∃ y',g=G fr' []/\Bt P F p fr' y'/\stepG P main (G y cs) w=.go (G y' cs) w2 es)\/(g=G fr' [x]/\JZ P F fr'/\stepG P main (G y cs) w=.go (G fr' (y :: cs)) w2 es))
  | .ended ..=>True
  | _=>False
variable {B:Hid}{main:Bool}{τ:Nat->Question->Nat}{d:Nat}{cs:List Frame}{w:World}
theorem PY {x' y':Frame}(hx:∀ (m:Bool) (cs:List Frame) (w:World),stepG P m (G x cs) w=.go (G x' cs) w)(hy:∀ (m:Bool) (cs:List Frame) (w:World),stepG P m (G y cs) w=.go (G y' cs) w)(hb:Bt P F p x' y') :
    StepB P F p B main τ d x y cs w (stepG P true (G x []) (sh (GN B w) τ d)):=by
  rw [hx];exact fun _=>⟨x',w,by simp,Kept.refl B w,by simp,.inl ⟨y',rfl,hb,hy _ _ _⟩⟩
theorem Wv (hF:∀ f,F f->Lets P f)(hR:Rows B w)(hb:Bt P F p x y)(hn:¬ X5 p x){sem:Sem Next}(hT:G6 P (KF (Fb F)) sem)(hwx:∀ d wr r sv k,x.todo≠.call d wr r sv :: k)(hwy:∀ d wr r sv k,y.todo≠.call d wr r sv :: k)(hx:∀ (m:Bool) (cs:List Frame) (w:World),stepG P m (G x cs) w=stepG.apply P true x cs none sem w)(hy:∀ (m:Bool) (cs:List Frame) (w:World),stepG P m (G y cs) w=stepG.apply P true y cs none sem w) :
    StepB P F p B main τ d x y cs w (stepG P true (G x []) (sh (GN B w) τ d)):=by
  have h0:=hb.ok;have N9:(x.kind == CallKind.early)=false:=by rw [h0.kind];rfl
  have RZ:(y.kind == CallKind.early)=false:=by have:=hb.kind;obtain ⟨⟨tm,X,Y,mode,hc,hm,rfl,rfl⟩,hf,hk⟩:=hb;generalize p.κ=κ at hk;cases κ <;> first | rfl | exact absurd rfl hk
  have hfn:y.fn=x.fn:=by obtain ⟨⟨tm,X,Y,mode,hc,hm,rfl,rfl⟩,hf,hk⟩:=hb;rfl
  have hk:=QZ (es:=#[]) hT (w:=sh (GN B w) τ d) (IG hR);have over:=fun x w1=>NH (es:=#[]) (τ:=τ) (d:=d) hT hR (x:=x) (w1:=w1);rw [hx];have key:∀ (z:Next ⊕ Value) w1,Jp (sem.runT P (sh (GN B w) τ d) #[]).1=some (z,w1)->(∀ i,d+i < w1.drawn->w.tape (w.drawn+i)=τ (d+i))->∃ w2,Jp (sem.runT P w #[]).1=some (z,w2)/\w1=sh (GN B w2) τ (d+(w2.drawn - w.drawn))/\Kept B w w2/\
      (∀ a,z=.inl a->KF (Fb F) a)/\(sem.runT P w #[]).2=(sem.runT P (sh (GN B w) τ d) #[]).2/\∀ e∈seen P x.fn (sem.runT P (sh (GN B w) τ d) #[]).2,Lr B w2.heap.size e:=by
    intro z w1 hz JY;obtain ⟨w2,es2,h1,h2,h3,h4,h5,h6,h7⟩:=over z w1 hz JY;refine ⟨w2,h1,h2,h3,h4,h5.trans h6.symm,fun e he=>h7 e ?_⟩;have:=mem_seen he;rw [h6] at this
    simpa using this
  generalize hr:sem.runT P (sh (GN B w) τ d) #[]=r at hk key;obtain ⟨r,es⟩:=r;unfold stepG.apply;simp only [if_true,hr,N9,Bool.false_eq_true,if_false];have noR:∀ (v:Value) ch,bD.finish v=.raise ch->∀ e∈ch,e.goexit=false:=fun _ _ h=>by cases h
  cases r with
  | ok n w1=>
    cases n with
    | value v=>
      intro JY;obtain ⟨w2,h1,h2,h3,h4,h5,h6⟩:=key (.inl (.value v)) w1 rfl JY;refine ⟨x.finish v,w2,h2,h3,by simpa [GStep.after] using h6,.inl ⟨y.finish v,rfl,hb.on hn (.finish v) (noR v),?_⟩⟩;rw [hy];unfold stepG.apply;generalize hr2:sem.runT P w #[]=r2 at h1 h5;obtain ⟨r2,es2⟩:=r2;obtain rfl:=Ld h1;obtain rfl:es2=es:=h5;simp only [if_true,hr2,RZ,Bool.false_eq_true,if_false,hfn];rfl
    | skip=>
      intro JY;obtain ⟨w2,h1,h2,h3,h4,h5,h6⟩:=key (.inl .skip) w1 rfl JY;refine ⟨x.finish undef,w2,h2,h3,by simpa [GStep.after] using h6,.inl ⟨y.finish undef,rfl,hb.on hn (.finish undef) (noR undef),?_⟩⟩;rw [hy];unfold stepG.apply;generalize hr2:sem.runT P w #[]=r2 at h1 h5;obtain ⟨r2,es2⟩:=r2;obtain rfl:=Ld h1;obtain rfl:es2=es:=h5;simp only [if_true,hr2,RZ,Bool.false_eq_true,if_false,hfn];rfl
    | enter f args=>
      intro JY;obtain ⟨w2,h1,h2,h3,h4,h5,h6⟩:=key (.inl (.enter f args)) w1 rfl JY;refine ⟨Frame.enter P f args .normal,w2,h2,h3,by simpa [GStep.after] using h6,.inr ⟨by split <;> first | rfl | (rename_i e;exact absurd e (hwx _ _ _ _ _)),JZ.enter hF (h4 _ rfl) args,?_⟩⟩;rw [hy];unfold stepG.apply;generalize hr2:sem.runT P w #[]=r2 at h1 h5;obtain ⟨r2,es2⟩:=r2;obtain rfl:=Ld h1;obtain rfl:es2=es:=h5;simp only [if_true,hr2,RZ,Bool.false_eq_true,if_false,hfn];split <;> first | rfl | (rename_i e;exact absurd e (hwy _ _ _ _ _))
    | _=>exact hk.elim
  | halt h w1=>
    cases h with
    | panic v=>
      intro JY;obtain ⟨w2,h1,h2,h3,h4,h5,h6⟩:=key (.inr v) w1 rfl JY;refine ⟨x.raise [{ v,recovered:=false }],w2,h2,h3,by simpa [GStep.after] using h6,.inl ⟨y.raise [{ v,recovered:=false }],rfl,hb.on hn (.raise [{ v,recovered:=false }]) (fun ch e=>by cases e;simp),?_⟩⟩;rw [hy];unfold stepG.apply;generalize hr2:sem.runT P w #[]=r2 at h1 h5;obtain ⟨r2,es2⟩:=r2;obtain rfl:=Oh h1;obtain rfl:es2=es:=h5;simp only [if_true,hr2,RZ,Bool.false_eq_true,if_false,hfn];rfl
    | stuck m=>exact trivial
    | unsupported u=>cases u <;> first | exact hk.elim | exact trivial
    | _=>exact hk.elim
theorem jc (hF:∀ f,F f->Lets P f)(hR:Rows B w)(hb:Bt P F p x y)(hn:¬ X5 p x)(hab:∀ o g,x.oper?=some o->J4 o=some g->F g) :
    StepB P F p B main τ d x y cs w (stepG P true (G x []) (sh (GN B w) τ d)):=by
  have hr:=Bt.running hn;have hb0:=hb;obtain ⟨⟨tm,X,Y,mode,hc,hm,rfl,rfl⟩,hf,hk⟩:=hb;simp only at hr;subst hr;have hfx:¬ uL p.l2 X:=fun z=>hn (.inr z);have hmr:∀ ch,FrameMode.run=.panicking ch->∀ e∈ch,e.goexit=false:=fun ch e=>by cases e
  have hmv:∀ {X' Y':List Item},Cv P p.k p.l2 X' Y'->(∀ (m:Bool) (cs:List Frame) (w:World),stepG P m (G { fn:=p.fn,tmps:=tm,todo:=X,defers:=[],mode:=.run,kind:=.normal } cs) w=.go (G { fn:=p.fn,tmps:=tm,todo:=X',defers:=[],mode:=.run,kind:=.normal } cs) w)->
      (∀ (m:Bool) (cs:List Frame) (w:World),stepG P m (G { fn:=p.fn,tmps:=tm,todo:=Y,defers:=p.ds,mode:=.run,kind:=p.κ } cs) w=.go (G { fn:=p.fn,tmps:=tm,todo:=Y',defers:=p.ds,mode:=.run,kind:=p.κ } cs) w)->
      StepB P F p B main τ d { fn:=p.fn,tmps:=tm,todo:=X,defers:=[],mode:=.run,kind:=.normal } { fn:=p.fn,tmps:=tm,todo:=Y,defers:=p.ds,mode:=.run,kind:=p.κ } cs w (stepG P true (G { fn:=p.fn,tmps:=tm,todo:=X,defers:=[],mode:=.run,kind:=.normal } []) (sh (GN B w) τ d)):=
    fun hc h1 h2=>PY h1 h2 ⟨⟨tm,_,_,.run,hc,hmr,rfl,rfl⟩,hf,hk⟩
  have hop:∀ {ops:Array Oper} {i:Nat} {rest YO:List Nat} {X1 Y1:List Item},X=.inRegion ops (i :: rest) :: X1->Y=.inRegion ops (i :: YO) :: Y1->I5 P (.inRegion ops (i :: rest))=true->
      StepB P F p B main τ d { fn:=p.fn,tmps:=tm,todo:=X,defers:=[],mode:=.run,kind:=.normal } { fn:=p.fn,tmps:=tm,todo:=Y,defers:=p.ds,mode:=.run,kind:=p.κ } cs w (stepG P true (G { fn:=p.fn,tmps:=tm,todo:=X,defers:=[],mode:=.run,kind:=.normal } []) (sh (GN B w) τ d)):=by
    intro ops i rest YO X1 Y1 eX eY hall;subst eX eY;cases hw:((ops[i]?).map (Region.wanted · (yielded ops tm))).getD false with
    | false=>
      refine PY (x':=Frame.finish { fn:=p.fn,tmps:=tm,todo:=.inRegion ops (i :: rest) :: X1,defers:=[],mode:=.run,kind:=.normal } undef) (y':=Frame.finish { fn:=p.fn,tmps:=tm,todo:=.inRegion ops (i :: YO) :: Y1,defers:=p.ds,mode:=.run,kind:=p.κ } undef) (fun m cs w=>?_) (fun m cs w=>?_) (hb0.on hn (.finish undef) fun _ h=>by cases h)
      . simp [G,stepG,stepG.exec,hw]
      . simp [G,stepG,stepG.exec,hw]
    | true=>
      cases ho:ops[i]? with
      | none=>rw [ho] at hw;cases hw
      | some o=>
        have XM:M4 P o=true:=OJ hall ho;have hw':Region.wanted o (yielded ops tm)=true:=by rw [ho] at hw;exact hw
        refine Wv (sem:=execOp (Frame.eval { fn:=p.fn,tmps:=tm,todo:=.inRegion ops (i :: rest) :: X1,defers:=[],mode:=.run,kind:=.normal }) o) hF hR hb0 hn ?_ (fun _ _ _ _ _ h=>by cases h) (fun _ _ _ _ _ h=>by cases h) (fun m cs w=>?_) (fun m cs w=>?_)
        . refine Sv (fun g=>rfl) (fun v=>rfl) (fun g hg=>?_) XM;have hFg:=hab o g (by simp [Frame.oper?,ho]) hg;rcases (hF g hFg).2 with ⟨f,c,h1,h2,h3,_⟩|h|h
          . exact .inl ⟨⟨hFg,Nv XM hg⟩,f,c,h1,h2,h3⟩
          . exact .inr h
          . rw [Nv XM hg] at h;cases h
        . obtain ⟨dst,op,type,pos,after,guard⟩:=o;simp [G,stepG,stepG.exec,stepG.oper,Frame.oper?,ho,hw']
        . have he:Frame.eval { fn:=p.fn,tmps:=tm,todo:=.inRegion ops (i :: YO) :: Y1,defers:=p.ds,mode:=.run,kind:=p.κ }=Frame.eval { fn:=p.fn,tmps:=tm,todo:=.inRegion ops (i :: rest) :: X1,defers:=[],mode:=.run,kind:=.normal }:=funext fun z=>by cases z <;> rfl
          rw [← he];obtain ⟨dst,op,type,pos,after,guard⟩:=o;simp [G,stepG,stepG.exec,stepG.oper,Frame.oper?,ho,hw']
  cases hc with
  | base h=>exact absurd (.inl ⟨h,rfl⟩) hfx
  | @reg l' ops l h ho=>
    cases l with
    | nil=>exact absurd (.inr ⟨by rw [h];simp,ops,rfl⟩) hfx
    | cons i rest=>exact hop rfl rfl ho
  | @cons it X Y h hi hc=>
    have cons:∀ {a:Item} {X Y:List Item},I5 P a=true->Cv P p.k p.l2 X Y->Cv P p.k p.l2 (a :: X) (a :: Y):=fun ha hc=>.cons h ha hc;cases it with
    | code c=>
      cases c with
      | skip=>exact hmv hc (fun m cs w=>by simp [G,stepG,stepG.exec]) (fun m cs w=>by simp [G,stepG,stepG.exec])
      | label l=>exact hmv hc (fun m cs w=>by simp [G,stepG,stepG.exec]) (fun m cs w=>by simp [G,stepG,stepG.exec])
      | ret=>
        exact PY (x':={ fn:=p.fn,tmps:=tm,todo:=.code .ret :: X,defers:=[],mode:=.returning,kind:=.normal }) (y':={ fn:=p.fn,tmps:=tm,todo:=.code .ret :: Y,defers:=p.ds,mode:=.returning,kind:=p.κ }) (fun m cs w=>by simp [G,stepG,stepG.exec]) (fun m cs w=>by simp [G,stepG,stepG.exec])
          ⟨⟨tm,_,_,.returning,.cons h hi hc,fun _ e=>(by cases e),rfl,rfl⟩,hf,hk⟩
      | refuse why=>
        have:∃ o w' es,stepG P true (G { fn:=p.fn,tmps:=tm,todo:=.code (.refuse why) :: X,defers:=[],mode:=.run,kind:=.normal } []) (sh (GN B w) τ d)=.ended o w' es:=⟨_,_,_,by simp [G,stepG,stepG.exec];exact ⟨rfl,rfl,rfl⟩⟩
        obtain ⟨o,w',es,e⟩:=this;rw [e];exact trivial
      | seq a b=>
        have hab':(JE P a && JE P b)=true:=hi;rw [Bool.and_eq_true] at hab';exact hmv (cons (a:=.code a) hab'.1 (cons (a:=.code b) hab'.2 hc)) (fun m cs w=>by simp [G,stepG,stepG.exec]) (fun m cs w=>by simp [G,stepG,stepG.exec])
      | cond c a b=>
        have hab':(JE P a && JE P b)=true:=hi;rw [Bool.and_eq_true] at hab';have he:∀ z,Frame.eval { fn:=p.fn,tmps:=tm,todo:=.code (.cond c a b) :: Y,defers:=p.ds,mode:=.run,kind:=p.κ } z=Frame.eval { fn:=p.fn,tmps:=tm,todo:=.code (.cond c a b) :: X,defers:=[],mode:=.run,kind:=.normal } z:=fun z=>by cases z <;> rfl
        by_cases hv:∃ v,Frame.eval { fn:=p.fn,tmps:=tm,todo:=.code (.cond c a b) :: X,defers:=[],mode:=.run,kind:=.normal } c=.bool v
        . obtain ⟨v,hv⟩:=hv;have hv2:=(he c).trans hv;refine hmv (cons (a:=.code (if v then a else b)) ?_ hc) (fun m cs w=>by simp [G,stepG,stepG.exec,hv]) (fun m cs w=>by simp [G,stepG,stepG.exec,hv2]);cases v
          . exact hab'.2
          . exact hab'.1
        . have:∃ o w' es,stepG P true (G { fn:=p.fn,tmps:=tm,todo:=.code (.cond c a b) :: X,defers:=[],mode:=.run,kind:=.normal } []) (sh (GN B w) τ d)=.ended o w' es:=by
            generalize hee:Frame.eval { fn:=p.fn,tmps:=tm,todo:=.code (.cond c a b) :: X,defers:=[],mode:=.run,kind:=.normal } c=e at hv;cases e with
            | bool v=>exact absurd ⟨v,rfl⟩ hv
            | _=>exact ⟨_,_,_,by simp [G,stepG,stepG.exec,hee];exact ⟨rfl,rfl,rfl⟩⟩
          obtain ⟨o,w',es,e⟩:=this;rw [e];exact trivial
      | block id b=>exact hmv (cons (a:=.code b) hi (cons (a:=.inBlock id) rfl hc)) (fun m cs w=>by simp [G,stepG,stepG.exec]) (fun m cs w=>by simp [G,stepG,stepG.exec])
      | loop b=>exact hmv (cons (a:=.code b) hi (cons (a:=.inLoop b) hi hc)) (fun m cs w=>by simp [G,stepG,stepG.exec]) (fun m cs w=>by simp [G,stepG,stepG.exec])
      | scope b=>exact hmv (cons (a:=.code b) hi (cons (a:=.inScope b) hi hc)) (fun m cs w=>by simp [G,stepG,stepG.exec]) (fun m cs w=>by simp [G,stepG,stepG.exec])
      | exit id=>
        cases he:exitTo id X with
        | some X'=>
          obtain ⟨Y',he2,hc'⟩:=hc.exit he;exact hmv hc' (fun m cs w=>by simp [G,stepG,stepG.exec,he]) (fun m cs w=>by simp [G,stepG,stepG.exec,he2])
        | none=>
          have:∃ o w' es,stepG P true (G { fn:=p.fn,tmps:=tm,todo:=.code (.exit id) :: X,defers:=[],mode:=.run,kind:=.normal } []) (sh (GN B w) τ d)=.ended o w' es:=⟨_,_,_,by simp [G,stepG,stepG.exec,he];exact ⟨rfl,rfl,rfl⟩⟩
          obtain ⟨o,w',es,e⟩:=this;rw [e];exact trivial
      | region id ops draw=>
        cases draw with
        | false=>exact hmv (cons (a:=.inRegion ops (List.range ops.size)) (LY hi _) hc) (fun m cs w=>by simp [G,stepG,stepG.exec]) (fun m cs w=>by simp [G,stepG,stepG.exec])
        | true=>
          have hst:∀ (m:Bool) (cs:List Frame) (w:World) (X:List Item) (ds:List Deferred) (κ:CallKind),stepG P m (G { fn:=p.fn,tmps:=tm,todo:=.code (.region id ops true) :: X,defers:=ds,mode:=.run,kind:=κ } cs) w =
              .go (G { fn:=p.fn,tmps:=tm,todo:=.inRegion ops (Region.schedule (P.follows .mixedOrders) ops (w.tape w.drawn (.order p.fn id))) :: X,defers:=ds,mode:=.run,kind:=κ } cs) { w with drawn:=w.drawn+1 }:=fun m cs w X ds κ=>by
            simp [G,stepG,stepG.exec,choose,Sem.run,Question.forced,Question.cut]
          rw [hst];intro JY;have h1:=JY 0 (by simp [sh]);refine ⟨_,{ w with drawn:=w.drawn+1 },?_,⟨rfl,rfl,rfl,Nat.le_succ _,Nat.le_refl _,fun _ _=>rfl,fun _ _ h _=>h,fun _ _ _ h=>h,fun _ _=>rfl⟩,by simp,.inl ⟨{ fn:=p.fn,tmps:=tm,todo:=.inRegion ops (Region.schedule (P.follows .mixedOrders) ops (w.tape w.drawn (.order p.fn id))) :: Y,defers:=p.ds,mode:=.run,kind:=p.κ },rfl,?_,hst _ _ _ _ _ _⟩⟩
          . simp [sh,GN]
          . simp only [Nat.add_zero] at h1;refine ⟨⟨tm,_,_,.run,cons (a:=.inRegion ops (Region.schedule (P.follows .mixedOrders) ops (w.tape w.drawn (.order p.fn id)))) (LY hi _) hc,hmr,?_,rfl⟩,hf,hk⟩;rw [h1];rfl
      | rangeFunc f ps a b=>exact absurd hi Bool.false_ne_true
      | goto l=>exact absurd hi Bool.false_ne_true
    | inBlock id=>exact hmv hc (fun m cs w=>by simp [G,stepG,stepG.exec]) (fun m cs w=>by simp [G,stepG,stepG.exec])
    | inLoop b=>exact hmv (cons (a:=.code b) hi (cons (a:=.inLoop b) hi hc)) (fun m cs w=>by simp [G,stepG,stepG.exec]) (fun m cs w=>by simp [G,stepG,stepG.exec])
    | inScope b=>exact hmv hc (fun m cs w=>by simp [G,stepG,stepG.exec]) (fun m cs w=>by simp [G,stepG,stepG.exec])
    | inRegion ops l=>
      cases l with
      | nil=>exact hmv hc (fun m cs w=>by simp [G,stepG,stepG.exec]) (fun m cs w=>by simp [G,stepG,stepG.exec])
      | cons i rest=>exact hop rfl rfl hi
    | inRangeFunc l=>exact absurd hi Bool.false_ne_true
    | endRangeFunc l=>exact absurd hi Bool.false_ne_true
    | beginRound=>exact absurd hi Bool.false_ne_true
    | call d w r sv=>exact absurd hi Bool.false_ne_true
    | extern r a=>exact absurd hi Bool.false_ne_true
end
end
section
variable [Host]
inductive VQ (P:Program)(F:FuncId->Prop)(p:kK)(cs:List Frame):Frame->List Frame->Goroutine->Prop
  | bot {x y:Frame} (h:Bt P F p x y):VQ P F p cs x [] (G y cs)
  | top {fr:Frame} {s:List Frame} {x y:Frame} (hs:∀ f∈fr :: s,JZ P F f) (h:Bt P F p x y) (hn:¬ X5 p x):VQ P F p cs fr (s ++ [x]) (G fr (s ++ y :: cs))
def bS (P:Program)(F:FuncId->Prop)(p:kK)(fr:Frame)(s:List Frame):Prop:=s=[]/\X5 p fr/\JZ P F fr
section
variable {P:Program}{F:FuncId->Prop}{p:kK}{B:Hid}{main:Bool}{cs:List Frame}
theorem XD (hF:∀ f,F f->Lets P f){fr:Frame}{s:List Frame}{w:World}{τ:Nat->Question->Nat}{d:Nat}(hall:∀ f∈fr :: s,JZ P F f)(hs:s≠[]\/fr.mode=.run)(hab:fr.mode=.run->∀ o f,fr.oper?=some o->J4 o=some f->F f) :
    Wj P TT true Self τ d (G fr s) w (stepG P true (G fr s) (sh (GN TT w) τ d)):=by
  have h:NW P F TT true τ d fr s [] w (stepG P true (G fr s) (sh (GN TT w) τ d)):=by
    by_cases hm:fr.mode=.run
    . exact XK hF (Mg w) hall hm (hab hm)
    . obtain ⟨c,l,rfl⟩:=List.exists_cons_of_ne_nil (hs.resolve_right hm);exact RY (Mg w) hall hm
  cases hst:stepG P true (G fr s) (sh (GN TT w) τ d) with
  | go g w1 es=>
    rw [hst] at h;intro JY;obtain ⟨fr',s',w2,e1,e2,e3,e4,e5,_⟩:=h JY;exact ⟨fr',s',G fr' s',w2,e1,rfl,e2,by simpa using e3,e4,e5⟩
  | ended o w1 es=>exact trivial
  | _=>rw [hst] at h;exact h.elim
theorem dY (hF:∀ f,F f->Lets P f){fr:Frame}{s:List Frame}{g:Goroutine}{w:World}{τ:Nat->Question->Nat}{d:Nat}(h:VQ P F p cs fr s g)(hn:¬ bS P F p fr s)(hR:Rows B w)(hab:fr.mode=.run->∀ o f,fr.oper?=some o->J4 o=some f->F f) :
    Wj P B main (VQ P F p cs) τ d g w (stepG P true (G fr s) (sh (GN B w) τ d)):=by
  cases h with
  | @bot y hb=>
    have hnb:¬ X5 p fr:=fun z=>hn ⟨rfl,z,hb.ok⟩;have h:=jc (main:=main) (τ:=τ) (d:=d) (cs:=cs) hF hR hb hnb (hab (Bt.running hnb));cases hst:stepG P true (G fr []) (sh (GN B w) τ d) with
    | go g w1 es=>
      rw [hst] at h;intro JY;obtain ⟨fr',w2,e1,e2,e3,e4⟩:=h JY;rcases e4 with ⟨y',rfl,hb',e5⟩|⟨rfl,hok,e5⟩
      . exact ⟨fr',[],G y' cs,w2,rfl,.bot hb',e1,e5,e2,e3⟩
      . exact ⟨fr',[fr],G fr' (y :: cs),w2,rfl,.top (s:=[]) (by simpa using hok) hb hnb,e1,e5,e2,e3⟩
    | ended o w1 es=>exact trivial
    | _=>rw [hst] at h;exact h.elim
  | @top s x y hs hb hnb=>
    have hN:Jq (sh (GN B w) τ d):=IG hR;have h0:=hs fr (by simp);by_cases hm:fr.mode=.run
    ·
      have h:=XK (main:=main) (τ:=τ) (d:=d) (t:=y :: cs) hF hR hs hm (hab hm);rcases bM (main:=true) hF hN h0 hm (hab hm) with hc|⟨fr',pre,w1,es,hc⟩
      . obtain ⟨o,w1,es,e⟩:=hc (s ++ [x]);rw [e];exact trivial
      . rw [hc] at h ⊢;intro JY;obtain ⟨oQ,s2,w2,e1,e2,e3,e4,e5,e6⟩:=h JY;simp only [G,Goroutine.mk.injEq,and_true] at e1;obtain ⟨rfl,rfl⟩:=e1;refine ⟨fr',pre ++ (s ++ [x]),G fr' ((pre ++ s) ++ y :: cs),w2,rfl,?_,e2,e3,e4,e5⟩;rw [← List.append_assoc];exact .top e6 hb hnb
    . cases s with
      | nil=>
        have h:=RY (B:=B) (main:=main) (τ:=τ) (d:=d) (t:=cs) (fr:=fr) (c:=x) (s:=[]) hR (fun f hf=>by
          simp only [List.mem_cons,List.not_mem_nil,or_false] at hf;rcases hf with rfl|rfl
          . exact h0
          . exact hb.ok) hm
        show Wj P B main (VQ P F p cs) τ d (G fr (y :: cs)) w (stepG P true (G fr [x]) (sh (GN B w) τ d));cases hst:stepG P true (G fr [x]) (sh (GN B w) τ d) with
        | go g w1 es=>
          rw [hst] at h;intro JY;obtain ⟨oQ,s2,w2,e1,e2,e3,e4,e5,e6⟩:=h JY;rcases Si (P:=P) (F:=F) (main:=main) (w:=w) h0 hm with hc|⟨bk,w3,es3,hno,hc⟩
          . obtain ⟨o,w4,es4,e⟩:=hc x cs;have:G fr ([x] ++ cs)=G fr (x :: cs):=rfl;rw [show ([x]:List Frame) ++ cs=x :: cs from rfl] at e3;rw [e] at e3;cases e3
          . rw [show ([x]:List Frame) ++ cs=x :: cs from rfl,hc] at e3;simp only [GStep.go.injEq,G,Goroutine.mk.injEq,and_true] at e3;obtain ⟨⟨hfr,hcs⟩,rfl,rfl⟩:=e3;have hs2:s2=[]:=by have:=congrArg List.length hcs;simp only [List.length_append] at this;exact List.length_eq_zero_iff.1 (by omega)
            subst hs2;subst hfr;exact ⟨bk.on x,[],G (bk.on y) cs,w3,e1,.bot (hb.on hnb bk hno),e2,hc y cs,e4,e5⟩
        | ended o w1 es=>exact trivial
        | _=>rw [hst] at h;exact h.elim
      | cons c s1=>
        have h:=RY (B:=B) (main:=main) (τ:=τ) (d:=d) (t:=y :: cs) (fr:=fr) (c:=c) (s:=s1) hR hs hm;rcases Si (P:=P) (F:=F) (main:=true) (w:=sh (GN B w) τ d) h0 hm with hc|⟨bk,w1,es,hno,hc⟩
        . obtain ⟨o,w1,es,e⟩:=hc c (s1 ++ [x]);rw [show c :: s1 ++ [x]=c :: (s1 ++ [x]) from rfl,e];exact trivial
        . rw [hc] at h;rw [show c :: s1 ++ [x]=c :: (s1 ++ [x]) from rfl,hc];intro JY;obtain ⟨oQ,s2,w2,e1,e2,e3,e4,e5,e6⟩:=h JY;simp only [G,Goroutine.mk.injEq,and_true] at e1;obtain ⟨rfl,rfl⟩:=e1;exact ⟨bk.on c,s1 ++ [x],G (bk.on c) (s1 ++ y :: cs),w2,rfl,.top e6 hb hnb,e2,e3,e4,e5⟩
theorem WZ (hF:∀ f,F f->Lets P f):pq P F B main (VQ P F p cs) (bS P F p) where
  run:=fun fr s g h=>by cases h <;> rfl
  one:=fun fr s g g' h h'=>by
    have Abu:∀ {X Y Y':List Item},Cv P p.k p.l2 X Y->Cv P p.k p.l2 X Y'->Y=Y':=by
      intro X Y Y' h;induction h generalizing Y' with
      | base h=>
        intro h';cases h' with
        | base h=>rfl
        | cons h hi hc=>cases hc
      | reg h ho=>
        intro h';cases h' with
        | reg h2 ho2=>rw [h] at h2;cases h2;rfl
        | cons h2 hi hc=>rw [h] at h2;cases h2
      | cons h hi hc ih=>
        intro h';cases h' with
        | base h=>cases hc
        | reg h2 ho2=>rw [h] at h2;cases h2
        | cons h2 hi2 hc2=>rw [ih hc2]
    have qc:∀ {x y y':Frame},Bt P F p x y->Bt P F p x y'->y=y':=by
      rintro x y y' ⟨⟨tm,X,Y,mode,hc,hm,rfl,rfl⟩,_,_⟩ ⟨⟨tm',X',Y',Agv,hc',hm',e,rfl⟩,_,_⟩;cases e
      rw [Abu hc hc']
    cases h with
    | bot hb=>
      generalize hs:([]:List Frame)=s0 at h';cases h' with
      | bot hb'=>rw [qc hb hb']
      | top hs' hb' hn'=>simp at hs
    | @top s x y hs hb hn=>
      generalize hs0:s ++ [x]=s0 at h';cases h' with
      | bot hb'=>simp at hs0
      | top hs' hb' hn'=>
        obtain ⟨rfl,e⟩:=List.append_inj' hs0 rfl;cases e
        rw [qc hb hb']
  step:=fun fr s g w τ d h hn hR hab=>dY hF h hn hR hab
  self:=fun fr s g w τ d h hn hab=>by
    cases h with
    | bot hb=>exact XD hF (by simpa using hb.ok) (.inr (Bt.running fun z=>hn ⟨rfl,z,hb.ok⟩)) hab
    | @top s x y hs hb hnb=>
      refine XD hF (fun f hf=>?_) (.inl (by simp)) hab;rcases List.mem_cons.1 hf with rfl|hf
      . exact hs _ (by simp)
      . rcases List.mem_append.1 hf with hf | hf
        . exact hs _ (by simp;exact .inr hf)
        . simp only [List.mem_singleton] at hf;subst hf;exact hb.ok
theorem PI {I Q:Machine->Prop}{m m':Machine}(h:StepsIn I P m m'):StepsIn (fun m=>I m/\¬ Q m) P m m'\/∃ m₁,StepsIn (fun m=>I m/\¬ Q m) P m m₁/\Q m₁/\I m₁/\StepsIn I P m₁ m':=by
  induction h with
  | refl m=>exact .inl (.refl m)
  | @head m m₁ m₂ hI hs h' ih=>
    by_cases hq:Q m
    . exact .inr ⟨m,.refl m,hq,hI,.head hI hs h'⟩
    . rcases ih with ih | ⟨m3,h1,h2,h3,h4⟩
      . exact .inl (.head ⟨hI,hq⟩ hs ih)
      . exact .inr ⟨m3,.head ⟨hI,hq⟩ hs h1,h2,h3,h4⟩
end
end
end Go.LT
