/-
  Part 5 of the proof that CellMeets returns true, and leaves its arguments as they were, for every input whose reading is of bulk at most 1048576. No further condition.
-/
import Derived.Test.YticecinjcajmcaaR00
import Derived.Test.YticecinjcajmcaaR01
import Derived.Test.YticecinjcajmcaaR04
import Derived.Barred
set_option linter.unusedVariables false
set_option linter.unusedSectionVars false
set_option linter.unusedSimpArgs false
noncomputable section
namespace Go.LT
open Go Go.Conc
section
inductive Way (P:Program)(main:Bool)(R:World->World->Prop)(D:World->World->Array Event->Prop)(Stop:Goroutine->World->Prop):Goroutine->World->Prop
  | stop {g:Goroutine} {w:World} (h:∀ w₁,R w w₁->Stop g w₁):Way P main R D Stop g w
  | step {g:Goroutine} {w:World} (hs:g.status=.running) (h:∀ w₁,R w w₁->∃ g' w' es,stepG P main g w₁=.go g' w' es/\D w₁ w' es)
      (k:∀ w₁ g' w' es,R w w₁->stepG P main g w₁=.go g' w' es->Way P main R D Stop g' w'):Way P main R D Stop g w
section
variable {P:Program}{main:Bool}{R:World->World->Prop}{D:World->World->Array Event->Prop}{Stop Stop':Goroutine->World->Prop}{g:Goroutine}{w:World}
theorem Way.rely (trans:∀ a b c,R a b->R b c->R a c){w₁:World}(h:Way P main R D Stop g w)(hr:R w w₁):Way P main R D Stop g w₁:=by
  cases h with
  | stop h=>exact .stop fun w₂ h₂=>h w₂ (trans _ _ _ hr h₂)
  | step hs h k=>exact .step hs (fun w₂ h₂=>h w₂ (trans _ _ _ hr h₂)) fun w₂ g' w' es h₂=>k w₂ g' w' es (trans _ _ _ hr h₂)
theorem Way.one (hs:g.status=.running)(h:∀ w₁,R w w₁->∃ g' w' es,stepG P main g w₁=.go g' w' es/\D w₁ w' es/\Way P main R D Stop g' w'):Way P main R D Stop g w:=
  .step hs (fun w₁ h₁=>let ⟨g',w',es,a,b,_⟩:=h w₁ h₁;⟨g',w',es,a,b⟩) fun w₁ g' w' es h₁ hst=>by
    obtain ⟨g2,w2,es2,a,_,c⟩:=h w₁ h₁;rw [a] at hst;cases hst
    exact c
theorem Way.bind (refl:∀ w,R w w)(h:Way P main R D Stop g w)(k:∀ g w,(∀ w₁,R w w₁->Stop g w₁)->Way P main R D Stop' g w):Way P main R D Stop' g w:=by
  induction h with
  | stop h=>exact k _ _ h
  | step hs h _ ih=>exact .step hs h ih
theorem Way.mono (h:Way P main R D Stop g w)(k:∀ g w,Stop g w->Stop' g w):Way P main R D Stop' g w:=by
  induction h with
  | stop h=>exact .stop fun w₁ h₁=>k _ _ (h w₁ h₁)
  | step hs h _ ih=>exact .step hs h ih
end
def Qe:Hid:={ hol:=fun _=>false }
theorem F7 {w:World}(h:F4 w):D7 Qe w=w:=by
  have:(D7 Qe w).heap=w.heap:=by
    apply Array.ext_getElem?;intro i;rw [Ez];cases ho:w.heap[i]? with
    | none=>rfl
    | some o=>
      simp only [Qe,Option.map_some,Bool.false_eq_true,if_false,Ja]
      congr 1
      cases o <;> first | rfl | exact absurd ho (h _ _ _)
  simp only [D7] at this ⊢;rw [this]
theorem IU (w:World):Rows Qe w:=⟨fun b h=>(by cases h),fun b h=>(by cases h)⟩
theorem Kept.TG {B:Hid}{w w':World}(h:Kept B w w')(hN:F4 w):F4 w':=fun b c e hp=>hN b c e (h.pend b c e hp)
structure Turns (B:Hid)(w w₁:World):Prop where
  tape:w₁.tape=w.tape
  same:D7 B w₁=sh (D7 B w) w.tape w₁.drawn
  rows:Rows B w->Rows B w₁
section
variable [Host]
variable {P:Program}{F:FuncId->Prop}{B:Hid}{main:Bool}{R:World->World->Prop}{D:World->World->Array Event->Prop}{t:List Frame}
structure Nd where
  fr:Frame
  s:List Frame
  w:World
def Ad (P:Program)(B:Hid)(main:Bool)(D:World->World->Array Event->Prop)(t:List Frame)(x:Nd)(w₁:World)(y:Nd):Prop:=
  ∃ es,stepG P true (G x.fr x.s) (D7 B w₁)=.go (G y.fr y.s) (D7 B y.w) es/\stepG P main (G x.fr (x.s ++ t)) w₁=.go (G y.fr (y.s ++ t)) y.w es/\D w₁ y.w es
def Bad (P:Program)(F:FuncId->Prop)(B:Hid)(main:Bool)(R:World->World->Prop)(D:World->World->Array Event->Prop)(Stop:Goroutine->World->Prop)(t:List Frame):Type:=
  { x:Nd // (∀ y∈x.fr :: x.s,GD P F y)/\Rows B x.w/\¬ Way P main R D Stop (G x.fr (x.s ++ t)) x.w }
variable {Stop:Goroutine->World->Prop}
theorem P6 (x:Bad P F B main R D Stop t):∃ w₁,R x.1.w w₁/\∀ g' w' es,stepG P main (G x.1.fr (x.1.s ++ t)) w₁=.go g' w' es->D w₁ w' es->¬ Way P main R D Stop g' w':=by apply Classical.byContradiction;intro h;refine x.2.2.2 (.one rfl fun w₁ h₁=>?_);apply Classical.byContradiction;intro h2;refine h ⟨w₁,h₁,fun g' w' es a b c=>h2 ⟨g',w',es,a,b,c⟩⟩
def EO (x:Bad P F B main R D Stop t):World:=(P6 x).choose
theorem UC (x:Bad P F B main R D Stop t):R x.1.w (EO x):=(P6 x).choose_spec.1
theorem WG (x:Bad P F B main R D Stop t):∀ g' w' es,stepG P main (G x.1.fr (x.1.s ++ t)) (EO x)=.go g' w' es->D (EO x) w' es->¬ Way P main R D Stop g' w':=(P6 x).choose_spec.2
open Classical in
def La (x:Bad P F B main R D Stop t):Option (Bad P F B main R D Stop t):=
  if h:∃ y:Bad P F B main R D Stop t,Ad P B main D t x.1 (EO x) y.1 then some h.choose else none
theorem UA {x y:Bad P F B main R D Stop t}(h:La x=some y):Ad P B main D t x.1 (EO x) y.1:=by
  unfold La at h;split at h
  . rename_i h'
    cases h
    exact h'.choose_spec
  . cases h
theorem Vg {x:Bad P F B main R D Stop t}(h:La x=none):∀ y:Bad P F B main R D Stop t,¬ Ad P B main D t x.1 (EO x) y.1:=by
  unfold La at h;split at h
  . cases h
  . rename_i h'
    exact fun y hy=>h' ⟨y,hy⟩
def IE (x:Bad P F B main R D Stop t):Nat->Option (Bad P F B main R D Stop t)
  | 0=>some x
  | k+1=>(IE x k).bind La
def Qp (x:Bad P F B main R D Stop t)(k:Nat):Nat:=
  match IE x k,IE x (k+1) with
  | some a,some b=>b.1.w.drawn - (EO a).drawn
  | _,_=>0
def posOf (x:Bad P F B main R D Stop t):Nat->Nat
  | 0=>0
  | k+1=>posOf x k+Qp x k
theorem Qt (x:Bad P F B main R D Stop t){i j:Nat}(h:i<=j):posOf x i<=posOf x j:=by
  induction h with
  | refl=>exact Nat.le_refl _
  | step _ ih=>exact Nat.le_trans ih (Nat.le_add_right _ _)
theorem Qu {x:Bad P F B main R D Stop t}{k:Nat}(h:IE x k=none):∀ j,k<=j->IE x j=none:=by
  intro j hj;induction hj with
  | refl=>exact h
  | step _ ih=>simp [IE,ih]
theorem least (p:Nat->Prop)(h:∃ n,p n):∃ n,p n/\∀ m,m < n->¬ p m:=by
  obtain ⟨n,hn⟩:=h;induction n using Nat.strongRecOn with
  | _ n ih=>
    by_cases hex:∃ m,m < n/\p m
    . obtain ⟨m,hm,hp⟩:=hex;exact ih m hm hp
    . exact ⟨n,hn,fun m hm hp=>hex ⟨m,hm,hp⟩⟩
def R4 (x:Bad P F B main R D Stop t)(k:Nat):World:=
  match IE x k with
  | some a=>EO a
  | none=>EO x
open Classical in
def idxOf (x:Bad P F B main R D Stop t)(m:Nat):Nat:=
  if h:∃ k,m < posOf x (k+1) then (least _ h).choose else if h:∃ k,IE x (k+1)=none then (least _ h).choose else 0
def EZ (x:Bad P F B main R D Stop t):Nat->Question->Nat:=fun m=>(R4 x (idxOf x m)).tape ((R4 x (idxOf x m)).drawn+(m - posOf x (idxOf x m)))
theorem Vf {x a b:Bad P F B main R D Stop t}{k:Nat}(ha:IE x k=some a)(hb:IE x (k+1)=some b){i:Nat}(hi:i < b.1.w.drawn - (EO a).drawn) :
    EZ x (posOf x k+i)=(EO a).tape ((EO a).drawn+i):=by
  have hc:Qp x k=b.1.w.drawn - (EO a).drawn:=by simp [Qp,ha,hb]
  have hlt:posOf x k+i < posOf x (k+1):=by simp only [posOf];omega
  have hex:∃ k',posOf x k+i < posOf x (k'+1):=⟨k,hlt⟩
  have hid:idxOf x (posOf x k+i)=k:=by
    unfold idxOf;rw [dif_pos hex];obtain ⟨h2,h1⟩:=(least _ hex).choose_spec;generalize (least _ hex).choose=n at h1 h2;rcases Nat.lt_or_ge n k with h|h
    . have:=Qt x (show n+1<=k from h);omega
    . rcases Nat.lt_or_ge k n with h' | h'
      . exact absurd hlt (h1 k h')
      . omega
  unfold EZ;rw [hid];have hs:R4 x k=EO a:=by simp [R4,ha]
  rw [hs,show posOf x k+i - posOf x k=i by omega]
theorem Vb {x a:Bad P F B main R D Stop t}{k:Nat}(ha:IE x k=some a)(hb:IE x (k+1)=none)(i:Nat) :
    EZ x (posOf x k+i)=(EO a).tape ((EO a).drawn+i):=by
  have hpos:∀ j,k<=j->posOf x j=posOf x k:=by
    intro j hj;induction hj with
    | refl=>rfl
    | step h ih=>
      rename_i j
      have:Qp x j=0:=by
        have:=Qu hb (j+1) (Nat.succ_le_succ h);unfold Qp;rw [this];split
        . rename_i h;cases h
        . rfl
      simp only [posOf,this,ih,Nat.add_zero]
  have hex:¬ ∃ k',posOf x k+i < posOf x (k'+1):=by
    rintro ⟨k',h⟩;rcases Nat.lt_or_ge k' k with hl|hl
    . have:=Qt x (show k'+1<=k from hl);omega
    . have:=hpos (k'+1) zOM;omega
  have Wv:∃ k,IE x (k+1)=none:=⟨k,hb⟩
  have hid:idxOf x (posOf x k+i)=k:=by
    unfold idxOf;rw [dif_neg hex,dif_pos Wv];obtain ⟨h2,h1⟩:=(least _ Wv).choose_spec;generalize (least _ Wv).choose=n at h1 h2;rcases Nat.lt_or_ge n k with h|h
    . have:=Qu h2 k zOM;rw [this] at ha;cases ha
    . rcases Nat.lt_or_ge k n with h' | h'
      . exact absurd hb (h1 k h')
      . omega
  unfold EZ;rw [hid];have hs:R4 x k=EO a:=by simp [R4,ha]
  rw [hs,show posOf x k+i - posOf x k=i by omega]
theorem Ns {fr:Frame}{cs:List Frame}{w w':World}{g':Goroutine}{es:Array Event}(h:stepG P true (G fr cs) w=.go g' w' es) :
    ∃ m1,step P (lone fr cs w)=.next m1/\g'∈m1.gs:=by
  have h':stepG P true { frame:=fr,callers:=cs,status:=.running,dying:=none } w=.go g' w' es:=h;rw [step,stepT,move_lone];simp [runT,lone,Array.swapAt!,h']
theorem Ib {fr:Frame}{cs:List Frame}{w w':World}{o:Outcome}{es:Array Event}(h:stepG P true (G fr cs) w=.ended o w' es):∃ o w',step P (lone fr cs w)=.ended o w':=by have h':stepG P true { frame:=fr,callers:=cs,status:=.running,dying:=none } w=.ended o w' es:=h;rw [step,stepT,move_lone];simp [runT,lone,h']
theorem Ox {fr fr':Frame}{cs cs':List Frame}{w w':World}{es:Array Event}(h:stepG P true (G fr cs) w=.go (G fr' cs') w' es):step P (lone fr cs w)=.next (lone fr' cs' w'):=
  step_lone_go (by have h':stepG P true { frame:=fr,callers:=cs,status:=.running,dying:=none } w=.go (G fr' cs') w' es:=h;rw [h'];rfl)
theorem dU (trans:∀ a b c,R a b->R b c->R a c)(hT:∀ w w₁,R w w₁->Turns B w w₁)(hD:∀ w w' es,Rows B w->Kept B w w'->(∀ e∈es,IG B w'.heap.size e)->D w w' es)(hF:∀ f,F f->Lets P f){Fn:Fence}(hFn:∀ f,Fn.fn f->F f)(hal:Fn.alive=true){Vr:Frame}{w0:World}(hok:GD P F Vr)(hR0:Rows B w0){Rp:(Nat->Question->Nat)->Ending->World->Prop}(hret:∀ τ e w',Rp τ e w'->∃ v,e=.returned v)(hcon:∀ τ,∃ e w' fr,Rp τ e w'/\ComesIn (Machine.fenced P Fn) P (lone Vr [] (sh (D7 B w0) τ 0)) (lone fr [] w') e/\fr.leaving P w' e) :
    Way P main R D (fun g w=>∃ fr τ d v,g=G fr t/\Rp τ (.returned v) (sh (D7 B w) τ d)/\fr.leaving P (sh (D7 B w) τ d) (.returned v)/\GD P F fr/\Rows B w) (G Vr t) w0:=by
  apply Classical.byContradiction;intro hno
  let Stop:Goroutine->World->Prop:=fun g w=>∃ fr τ d v,g=G fr t/\Rp τ (.returned v) (sh (D7 B w) τ d)/\fr.leaving P (sh (D7 B w) τ d) (.returned v)/\GD P F fr/\Rows B w
  let x0:Bad P F B main R D Stop t:=⟨⟨Vr,[],w0⟩,by simpa using hok,hR0,hno⟩
  obtain ⟨e,w',fr,zK,hC,hlv⟩:=hcon (EZ x0);obtain ⟨v,rfl⟩:=hret _ _ _ zK;obtain ⟨N,hN,jc⟩:=StepsIn.run hC;have claim:∀ k,k<=N->∃ x,IE x0 k=some x/\runN P k (lone Vr [] (sh (D7 B w0) (EZ x0) 0))=.next (lone x.1.fr x.1.s (sh (D7 B x.1.w) (EZ x0) (posOf x0 k))):=by
    intro k;induction k with
    | zero=>exact fun _=>⟨x0,rfl,rfl⟩
    | succ k ih=>
      intro hk;obtain ⟨x,hx,hrun⟩:=ih zOM;have sI:=jc k zOM _ hrun;have hnext:∃ m1,step P (lone x.1.fr x.1.s (sh (D7 B x.1.w) (EZ x0) (posOf x0 k)))=.next m1/\∀ m2,step P (lone x.1.fr x.1.s (sh (D7 B x.1.w) (EZ x0) (posOf x0 k)))=.next m2->runN P (k+1) (lone Vr [] (sh (D7 B w0) (EZ x0) 0))=.next m2:=by
        have hadd:=runN_add P k 1 (lone Vr [] (sh (D7 B w0) (EZ x0) 0));rw [hrun] at hadd;have h1:runN P 1 (lone x.1.fr x.1.s (sh (D7 B x.1.w) (EZ x0) (posOf x0 k)))=step P (lone x.1.fr x.1.s (sh (D7 B x.1.w) (EZ x0) (posOf x0 k))):=by simp only [runN];cases step P (lone x.1.fr x.1.s (sh (D7 B x.1.w) (EZ x0) (posOf x0 k))) <;> rfl
        cases hs:step P (lone x.1.fr x.1.s (sh (D7 B x.1.w) (EZ x0) (posOf x0 k))) with
        | next m1=>
          refine ⟨m1,rfl,fun m2 h2=>?_⟩;cases h2
          rw [hadd];simp only [h1,hs]
        | ended o w2=>
          exfalso
          have hE:runN P (k+1) (lone Vr [] (sh (D7 B w0) (EZ x0) 0))=.ended o w2:=by rw [hadd];simp only [h1,hs]
          have:=runN_ended hE (N - (k+1));rw [show k+1+(N - (k+1))=N by omega,hN] at this;cases this
      obtain ⟨m1,hm1,Va⟩:=hnext;have Y5:=hT _ _ (UC x);have RV:=Y5.rows x.2.2.1;have hsame:sh (D7 B (EO x)) (EZ x0) (posOf x0 k)=sh (D7 B x.1.w) (EZ x0) (posOf x0 k):=by rw [Y5.same];rfl
      have hg0:=sI (G x.1.fr x.1.s) (by simp [lone,G]);have hab:x.1.fr.mode=.run->∀ o g,x.1.fr.oper?=some o->GJ o=some g->F g:=fun hm o g ho hc=>hFn _ (hg0.2.2.1 g (Nu hm ho hc));have Aag:x.1.s≠[]\/x.1.fr.mode=.run:=by
        by_cases hs:x.1.s=[]
        . by_cases hm:x.1.fr.mode=.run
          . exact .inr hm
          . exfalso
            rw [hs] at hm1 Va;rcases bottom hF (x.2.1 x.1.fr (by simp)) hm (w:=sh (D7 B x.1.w) (EZ x0) (posOf x0 k)) with ⟨o,w2,es,hb⟩|⟨g',w2,es,hb,hdy⟩
            . obtain ⟨o,w2,h⟩:=Ib hb;rw [hm1] at h;cases h
            . obtain ⟨m2,h,hmem⟩:=Ns hb;have hr:=Va m2 h;rcases Nat.lt_or_ge (k+1) N with hlt|hge
              . have:=(jc (k+1) hlt _ hr g' hmem).1 hal;rw [this] at hdy;cases hdy
              . have hkN:k+1=N:=by omega
                rw [hkN,hN] at hr;cases hr
                simp only [lone,List.mem_toArray,List.mem_singleton] at hmem;subst hmem;cases hdy
        . exact .inl hs
      have hstep:∀ (B':Hid) (mn:Bool) (τ:Nat->Question->Nat) (d:Nat) (t':List Frame) (w:World),Rows B' w->KX P F B' mn τ d x.1.fr x.1.s t' w (stepG P true (G x.1.fr x.1.s) (sh (D7 B' w) τ d)):=by
        intro B' mn τ d t' w hRo;by_cases hm:x.1.fr.mode=.run
        . exact WU hF hRo x.2.1 hm (hab hm)
        . rcases Aag with hs | h
          . obtain ⟨c,l,hcl⟩:=List.exists_cons_of_ne_nil hs;have hfr:=x.2.1;rw [hcl] at hfr ⊢;exact Pm hRo hfr hm
          . exact absurd h hm
      cases hnx:IE x0 (k+1) with
      | none=>
        exfalso
        have hag:=Vb hx hnx;have h1:=hstep B main (EZ x0) (posOf x0 k) t (EO x) RV;have h2:=hstep Qe true (EZ x0) (posOf x0 k) [] (D7 B (EO x)) (IU _);rw [F7 (Fh RV)] at h2;cases hst:stepG P true (G x.1.fr x.1.s) (sh (D7 B (EO x)) (EZ x0) (posOf x0 k)) with
        | go g w1 es=>
          rw [hst] at h1 h2;obtain ⟨fr',s',w2,rfl,e1,e2,hK,hev,Aa2⟩:=h1 fun i _=>(hag i).symm;obtain ⟨ku,s2,w3,e3,e4,e5,hK3,_,_⟩:=h2 fun i _=>(hag i).symm;have hdw:=hD _ _ _ RV hK hev;have hw3:w3=D7 B w2:=by
            have mJ:=hK3.TG (Fh RV);rw [F7 mJ] at e4;have hh:sh w3 (EZ x0) (posOf x0 k+(w3.drawn - (EO x).drawn))=sh (D7 B w2) (EZ x0) (posOf x0 k+(w2.drawn - (EO x).drawn)):=e4.symm.trans e1;have ht3:w3.tape=(D7 B w2).tape:=by rw [hK3.tape];exact hK.tape.symm
            have hd3:w3.drawn=(D7 B w2).drawn:=by have hh':posOf x0 k+(w3.drawn - (EO x).drawn)=posOf x0 k+(w2.drawn - (EO x).drawn):=congrArg World.drawn hh;have l1:(EO x).drawn<=w3.drawn:=hK3.drawn;have l2:(EO x).drawn<=w2.drawn:=hK.drawn;show w3.drawn=w2.drawn;omega
            have:sh (sh w3 (EZ x0) (posOf x0 k+(w3.drawn - (EO x).drawn))) w3.tape w3.drawn=sh (sh (D7 B w2) (EZ x0) (posOf x0 k+(w2.drawn - (EO x).drawn))) (D7 B w2).tape (D7 B w2).drawn:=by rw [hh,ht3,hd3]
            exact this
          subst hw3;simp only [List.append_nil] at e5;have jA:G fr' s'=G ku s2:=e3;simp only [G,Goroutine.mk.injEq] at jA;obtain ⟨rfl,rfl,_⟩:=jA;have hbad:=WG x _ _ _ e2 hdw;have hs1:La x=none:=by have:IE x0 (k+1)=(IE x0 k).bind La:=rfl;rw [hx] at this;exact this.symm.trans hnx
          exact Vg hs1 ⟨⟨fr',s',w2⟩,Aa2,RV.kept hK,hbad⟩ ⟨es,e5,e2,hdw⟩
        | ended o w1 es=>
          rw [hsame] at hst;obtain ⟨o,w2,h⟩:=Ib hst;rw [hm1] at h;cases h
        | _=>rw [hst] at h1;exact h1.elim
      | some y=>
        have hs1:La x=some y:=by have:IE x0 (k+1)=(IE x0 k).bind La:=rfl;rw [hx] at this;exact this.symm.trans hnx
        obtain ⟨es,a1,a2,a3⟩:=UA hs1;refine ⟨y,rfl,?_⟩;have h2:=hstep Qe true (EO x).tape (EO x).drawn [] (sh (D7 B (EO x)) (EZ x0) (posOf x0 k)) (IU _);have hNP:F4 (sh (D7 B (EO x)) (EZ x0) (posOf x0 k)):=Fh RV;rw [F7 hNP] at h2;have hback:sh (sh (D7 B (EO x)) (EZ x0) (posOf x0 k)) (EO x).tape (EO x).drawn=D7 B (EO x):=rfl;rw [hback,a1] at h2;obtain ⟨ku,s2,w3,e3,e4,e5,hK3,_,_⟩:=h2 fun i hi=>Vf hx hnx (by have:(EO x).drawn+i < y.1.w.drawn:=hi;omega)
        simp only [G,Goroutine.mk.injEq] at e3;obtain ⟨rfl,rfl,_⟩:=e3;simp only [List.append_nil] at e5;have mJ:=hK3.TG hNP;rw [F7 mJ] at e4;have hc:Qp x0 k=y.1.w.drawn - (EO x).drawn:=by simp [Qp,hx,hnx]
        have hw3:w3=sh (D7 B y.1.w) (EZ x0) (posOf x0 (k+1)):=by
          have hd:y.1.w.drawn=(EO x).drawn+(w3.drawn - posOf x0 k):=congrArg World.drawn e4;have hl:posOf x0 k<=w3.drawn:=hK3.drawn;have ht3:w3.tape=EZ x0:=hK3.tape;have hdr:w3.drawn=posOf x0 (k+1):=by simp only [posOf,hc];omega
          have:sh (D7 B y.1.w) w3.tape w3.drawn=sh (sh w3 (EO x).tape ((EO x).drawn+(w3.drawn - posOf x0 k))) w3.tape w3.drawn:=by rw [e4];rfl
          rw [ht3,hdr] at this;rw [this];show w3={ w3 with tape:=EZ x0,drawn:=posOf x0 (k+1) }
          rw [← ht3,← hdr]
        have hst:stepG P true (G x.1.fr x.1.s) (sh (D7 B x.1.w) (EZ x0) (posOf x0 k))=.go (G y.1.fr y.1.s) w3 es:=by rw [← hsame];exact e5
        rw [← hw3];exact Va _ (Ox hst)
  obtain ⟨x,hx,hrun⟩:=claim N (Nat.le_refl _);rw [hN] at hrun;have hl:lone fr [] w'=lone x.1.fr x.1.s (sh (D7 B x.1.w) (EZ x0) (posOf x0 N)):=by injection hrun
  simp only [lone,Machine.mk.injEq] at hl;obtain ⟨hw,hgs,_⟩:=hl;simp only [Array.mk.injEq,List.cons.injEq,Goroutine.mk.injEq] at hgs;obtain ⟨⟨hfr,hcs,_⟩,_⟩:=hgs;refine x.2.2.2 (.stop fun w₁ h₁=>?_);have Y5:=hT _ _ h₁;refine ⟨x.1.fr,EZ x0,posOf x0 N,v,?_,?_,?_,x.2.1 _ (by simp),Y5.rows x.2.2.1⟩
  . rw [← hcs];rfl
  . have:sh (D7 B w₁) (EZ x0) (posOf x0 N)=w':=by rw [Y5.same,hw];rfl
    rw [this];exact zK
  . have:sh (D7 B w₁) (EZ x0) (posOf x0 N)=w':=by rw [Y5.same,hw];rfl
    rw [this,← hfr];exact hlv
theorem Y4 (refl:∀ w,R w w)(trans:∀ a b c,R a b->R b c->R a c)(hT:∀ w w₁,R w w₁->Turns B w w₁)(hD:∀ w w' es,Rows B w->Kept B w w'->(∀ e∈es,IG B w'.heap.size e)->D w w' es)(hF:∀ f,F f->Lets P f){Fn:Fence}(hFn:∀ f,Fn.fn f->F f)(hal:Fn.alive=true)(Jy:Fn.depth=none){f:FuncId}(hbar:Host.bar f=false){args:Array Value}{n:Nat}{w0:World}(hR0:Rows B w0){Rp:(Nat->Question->Nat)->Ending->World->Prop}(hret:∀ τ e w',Rp τ e w'->∃ v,e=.returned v)(hcon:∀ τ,CallsIn Fn n P f args (sh (D7 B w0) τ 0) (Rp τ)){c:Frame}{cs:List Frame}{Stop:Goroutine->World->Prop}(hk:∀ v w' τ d,Rows B w'->Rp τ (.returned v) (sh (D7 B w') τ d)->Way P main R D Stop (G (c.finish v) cs) w'):Way P main R D Stop (G (Frame.enter P f args .normal) (c :: cs)) w0:=by
  have hFf:F f:=hFn f (hcon (fun _ _=>0)).1;refine (dU (t:=c :: cs) trans hT hD hF hFn hal (GD.enter hF ⟨hFf,hbar⟩ args) hR0 hret fun τ=>?_).bind refl fun g w hst=>?_
  . obtain ⟨e,w',fr,h1,h2,_,h3⟩:=(hcon τ).2 [] (fun d hd=>by rw [Jy] at hd;cases hd)
    exact ⟨e,w',fr,h1,h2,h3⟩
  . obtain ⟨fr,_,_,_,hg,_,_,_,_⟩:=hst w (refl w);subst hg;refine .one rfl fun w₁ h₁=>?_;obtain ⟨fr',τ,d,v,hg,zK,hlv,hok,hR⟩:=hst w₁ h₁;have hfr:fr=fr':=by simpa [G] using hg
    subst hfr;obtain ⟨hm,hdf,hkd,fn,hfn,hres⟩:=hlv;have bQ:Ed P (fun _=>True) (results fn fr.tmps):=NZ fun _=>trivial;obtain ⟨w2,es2,h1,h2,h3,_,h5,_,h7⟩:=Kt (es:=#[]) (τ:=τ) (d:=d) bQ hR (x:=.inl v) (w1:=sh (D7 B w₁) τ d) (by rw [Sem.runT_fst,hres];rfl) (fun i hi=>by have:d+i < d:=hi;omega);refine ⟨G (c.finish v) cs,w2,seen P fr.fn es2,?_,hD _ _ _ hR h3 fun e he=>h7 e (mem_seen he),?_⟩
    . obtain ⟨fn',tmps,todo,defers,mode,kind,roundOf⟩:=fr;simp only at hm hdf hkd hfn;subst hm hdf hkd;simp only [G,stepG,unwind,hfn];simp only [Array.empty_append] at h5;generalize hr:(results fn tmps).runT P w₁ #[]=r at h1 h5;obtain ⟨r,es⟩:=r;obtain rfl:=IJ h1;obtain rfl:es=es2:=h5;simp [doReturn,GStep.after]
    . have hw:sh (D7 B w₁) τ d=sh (D7 B w2) τ (d+(w2.drawn - w₁.drawn)):=h2;exact hk v w2 τ _ (hR.kept h3) (by rw [← hw];exact zK)
end
end
end Go.LT
namespace Go.LC
open Go Go.Conc Go.LT
open Go.ConcN (WgLive sumTo upd sumTo_upd upd_ne upd_same)
open Go.ConcR (KK wgBlock WgAt stA smA rd wr mk)
section
structure F8 (ty:TypeId)(Wg:Nat)(w w₁:World):Prop where
  tape:w₁.tape=w.tape
  os:w₁.os=w.os
  output:w₁.output=w.output
  size:w₁.heap.size=w.heap.size
  block:∀ b,b≠Wg->w₁.heap[b]?=w.heap[b]?
  live:WgLive ty Wg w->WgLive ty Wg w₁
  dead:WgLive ty Wg w\/w₁.heap[Wg]?=w.heap[Wg]?
section
variable {ty:TypeId}{Wg:Nat}{w w₁ w₂:World}
theorem F8.refl (w:World):F8 ty Wg w w:=⟨rfl,rfl,rfl,rfl,fun _ _=>rfl,id,.inr rfl⟩
theorem F8.trans (h:F8 ty Wg w w₁)(h':F8 ty Wg w₁ w₂):F8 ty Wg w w₂:=
  ⟨h'.tape.trans h.tape,h'.os.trans h.os,h'.output.trans h.output,h'.size.trans h.size,fun b hb=>(h'.block b hb).trans (h.block b hb),h'.live ∘ h.live,h.dead.elim .inl fun e=>h'.dead.elim (fun ⟨st,sm,hl⟩=>.inl ⟨st,sm,e.symm.trans hl⟩) fun e'=>.inr (e'.trans e)⟩
theorem F8.at (w:World)(d:Nat):F8 ty Wg w (w.at d):=⟨rfl,rfl,rfl,rfl,fun _ _=>rfl,id,.inr rfl⟩
theorem F8.TD (h:Hy Wg w w₁)(hl:WgLive ty Wg w₁)(hl0:WgLive ty Wg w):F8 ty Wg w w₁:=by
  refine ⟨?_,?_,?_,h.size,fun b hb=>h.other hb,fun _=>hl,.inl hl0⟩ <;>
  . rcases h with rfl | ⟨x,rfl⟩ <;> rfl
theorem F8.turns {B:Hid}(hB:B Wg=true)(h:F8 ty Wg w w₁):Turns B w w₁:=by
  have key:∀ i:Nat,(D7 B w₁).heap[i]?=(D7 B w).heap[i]?:=by
    intro i;rw [Ez,Ez];by_cases hi:i=Wg
    . subst hi;rcases h.dead with ⟨st,sm,h0⟩|e
      . obtain ⟨st',sm',h1⟩:=h.live ⟨st,sm,h0⟩;unfold WgAt wgBlock at h0 h1;rw [h0,h1];simp [hB,KZ]
      . rw [e]
    . rw [h.block i hi]
  have row:∀ b:Nat,(∃ c e f,w.heap[b]?=some (Obj.cells c e f))->∃ c e f,w₁.heap[b]?=some (Obj.cells c e f):=fun b hr=>by
    by_cases hi:b=Wg
    . subst hi;rcases h.dead with ⟨st,sm,h0⟩|e
      . obtain ⟨st',sm',h1⟩:=h.live ⟨st,sm,h0⟩;exact ⟨_,_,_,h1⟩
      . rw [e];exact hr
    . rw [h.block b hi];exact hr
  refine ⟨h.tape,?_,fun hR=>⟨fun b hb=>row b (hR _ hb),fun b hb=>row b (hR.JJ _ hb)⟩⟩;have:(D7 B w₁).heap=(D7 B w).heap:=Array.ext_getElem? key;have e1:=h.tape;have e2:=h.os;have e3:=h.output;simp only [D7,sh] at this ⊢;rw [this];cases w₁
  cases w
  simp only at e1 e2 e3 ⊢;subst e1 e2 e3;rfl
end
def nK (Still:Nat->Loc->Prop)(Shun:Loc->Prop)(h n:Nat)(e:Event):Prop:=
  (∀ b,(MemAct.ofEvent e).touch?=some b->(∀ g,g≠h->Still g b.loc->b.write=false)/\(Shun b.loc->b.kind≠.plain))/\e.loc≠.mark .disable/\e.loc≠.mark .enable/\(MemAct.ofEvent e).low n
structure oV (K:Nat->World->Prop)(Still:Nat->Loc->Prop)(Shun:Loc->Prop)(Ch:Nat->Prop)(Wg h:Nat)(w w':World)(es:Array Event):Prop where
  keep:∀ i,i≠h->K i w->K i w'
  chan:∀ c k,Ch c->w.heap[c]?=some (.chan 0 #[] false k k false)->w'.heap[c]?=some (.chan 0 #[] false k k false)
  wg:w'.heap[Wg]?=w.heap[Wg]?
  size:w.heap.size<=w'.heap.size
  evs:∀ e∈es,nK Still Shun h w'.heap.size e
def Same (r r':Nat->EC):Prop:=∀ i,(∀ st n,r i=.seat st n->∃ n',r' i=.seat st n')/\(∀ s m d,r i=.fin s m d->∃ s' m' d',r' i=.fin s' m' d')
theorem Same.refl (r:Nat->EC):Same r r:=fun i=>⟨fun st n h=>⟨n,h⟩,fun s m d h=>⟨s,m,d,h⟩⟩
theorem Same.trans {r r' r'':Nat->EC}(h:Same r r')(h':Same r' r''):Same r r'':=fun i=>
  ⟨fun st n e=>let ⟨n',e'⟩:=(h i).1 st n e;(h' i).1 st n' e',fun s m d e=>let ⟨s',m',d',e'⟩:=(h i).2 s m d e;(h' i).2 s' m' d' e'⟩
theorem Same.back {r r':Nat->EC}(h:Same r r'){i:Nat}{st:Seat}{n:Nat}(e:r' i=.seat st n):∃ n',r i=.seat st n':=by
  cases hr:r i with
  | fin s m d=>obtain ⟨s',m',d',e'⟩:=(h i).2 s m d hr;rw [e] at e';cases e'
  | seat st' n'=>obtain ⟨n'',e'⟩:=(h i).1 st' n' hr;rw [e] at e';cases e';exact ⟨n',rfl⟩
theorem Same.upd {r:Nat->EC}{i:Nat}{r':EC}(h1:∀ st n,r i=.seat st n->∃ n',r'=.seat st n')(h2:∀ s m d,r i=.fin s m d->∃ s' m' d',r'=.fin s' m' d'):Same r (upd r i r'):=fun x=>by
  by_cases e:x=i
  . subst e;rw [upd_same];exact ⟨h1,h2⟩
  . rw [upd_ne r _ e];exact Same.refl r x
def Ll (h:Nat)(r:Nat->EC)(l l':Nat->Nat):Prop:=∀ x,(x=h\/∃ st n,r x=.seat st n)->l' x=l x
theorem Ll.refl (h:Nat)(r:Nat->EC)(l:Nat->Nat):Ll h r l l:=fun _ _=>rfl
theorem Ll.trans {h:Nat}{r r':Nat->EC}{l l' l'':Nat->Nat}(a:Ll h r l l')(s:Same r r')(b:Ll h r' l' l''):Ll h r l l'':=fun x hx=>
  (b x (hx.imp id fun ⟨st,n,e⟩=>let ⟨n',e'⟩:=(s x).1 st n e;⟨st,n',e'⟩)).trans (a x hx)
section
variable {P:Program}{ty:TypeId}{Wg:Nat}{K:Nat->World->Prop}{Still:Nat->Loc->Prop}{Bd:Nat->Nat}{Shun:Loc->Prop}{Quiet Sp Mem Loose:Nat->Prop}{Kf:Trace->Nat->Prop}{role:Nat->EC}{live:Nat->Nat}{ex h:Nat}{T:Trace}{gs:Array Goroutine}{w:World}
theorem Ni.at (E:Env Wg K Still Shun)(C:Ni P ty Wg K Still Bd Shun Quiet Sp Mem Loose Kf role live ex T gs w)(d:Nat):Ni P ty Wg K Still Bd Shun Quiet Sp Mem Loose Kf role live ex T gs (w.at d):=
  ⟨fun i g s m dd hs hg hr=>let ⟨a,b,c⟩:=C.Gz i g s m dd hs hg hr;⟨a,b.rely (Lg ty Wg ⟨_,_,C.wg⟩ ⟨_,_,C.wg⟩),c⟩,C.seats,C.seat,C.own,C.above,C.past,fun i st n e=>E.kat _ _ _ (C.keep i st n e),C.wg,C.few,C.one⟩
structure Held (P:Program)(ty:TypeId)(Wg:Nat)(K:Nat->World->Prop)(Still:Nat->Loc->Prop)(Bd:Nat->Nat)(Shun:Loc->Prop)(Quiet Mem Loose:Nat->Prop)(h:Nat)(role:Nat->EC)(live:Nat->Nat)(ex:Nat)(T:Trace)(gs:Array Goroutine)(w:World):Prop where
  JG:Ni P ty Wg K Still Bd Shun Quiet (fun x=>x=h) Mem Loose (fun T=>Knows T h) role live ex T gs w
  LZ:∀ st n,role h≠.seat st n
  tight:¬ Loose h
theorem Ni.awake (C:Ni P ty Wg K Still Bd Shun Quiet Sp Mem Loose Kf role live ex T gs w)(hS:∀ x g,Sp x->gs[x]?=some g->g.status=.running\/g.status=.blocked):∀ g∈gs,awake g:=by
  intro g hg;obtain ⟨i,hi,rfl⟩:=Array.mem_iff_getElem.1 hg;have hgi:gs[i]?=some gs[i]:=Array.getElem?_eq_getElem hi;by_cases hsp:Sp i
  . exact awake_of ((hS i _ hsp hgi).imp id .inl)
  . cases e:role i with
    | fin s m d=>exact awake_of ((C.Gz i _ s m d hsp hgi e).2.1.status.imp id .inr)
    | seat st n=>exact awake_of ((Sits.status (C.keep i st n e) (C.seats i _ st n hsp hgi e).1).elim (fun x=>.inl x.1) fun x=>.inr (.inl x.1))
theorem picked (E:Env Wg K Still Shun){a:Goroutine}(hrun:a.status=.running):∀ (m1 m2:Nat) {role:Nat->EC} {live:Nat->Nat} {T:Trace} {gs:Array Goroutine} {w:World} {sl:Option (Nat × Nat)},M1 gs.size role=m1->M2 gs.size role=m2->
    gs[h]?=some a->Held P ty Wg K Still Bd Shun Quiet Mem Loose h role live ex T gs w->
    ∃ N gs' w' d sl' sl'' T' ER Fy,runNT P N (crowd gs w sl) T=(.next (crowd gs' w' sl'),T')/\stepT P (crowd gs' w' sl')=runT P (crowd gs' (w'.at d) sl'') h/\gs'.size=gs.size/\gs'[h]?=some a/\
      Held P ty Wg K Still Bd Shun Quiet Mem Loose h ER Fy ex T' gs' (w'.at d)/\F8 ty Wg w (w'.at d)/\Same role ER/\Ll h role live Fy/\Deaf T' h=Deaf T h/\∀ x,Fy x<=live x:=by
  intro m1;induction m1 using Nat.strongRecOn with
  | _ m1 ih1=>
  intro m2;induction m2 using Nat.strongRecOn with
  | _ m2 ih2=>
  intro role live T gs w sl hm1 hm2 ha H;have hsa:∀ x gx,x=h->gs[x]?=some gx->gx=a:=fun x gx hx hg=>by subst hx;rw [ha] at hg;exact (Option.some.inj hg).symm
  obtain ⟨i,g,d,sl',hi,hg,hst⟩:=crowd_pick (P:=P) (w:=w) (sl:=sl) (H.JG.awake fun x gx hx hg=>by rw [hsa x gx hx hg];exact .inl hrun) ⟨h,a,ha,hrun⟩;have Cd:=H.JG.at E d;by_cases e:i=h
  . subst e;exact ⟨0,gs,w,d,sl,sl',T,role,live,rfl,hst,rfl,ha,⟨Cd,H.LZ,H.tight⟩,.at w d,.refl role,.refl _ role live,rfl,fun _=>Nat.le_refl _⟩
  . obtain ⟨gs',w',ops,r',Jh,hrt,hsz,hsp,hw,hog,C',hlt,k1,k2,k3⟩:=Cd.by_step (sl:=sl') E (fun t u i=>Knows.app u) hi e hg
      (fun x gx w' hx hgx _=>by rw [hsa x gx hx hgx];exact again_of_running (.inl hrun) _)
      (fun st n g₂ _ _ x gx c hx hgx _=>by rw [hsa x gx hx hgx];exact offersAt_of_not_blocked (by rw [hrun];simp) _ _)
    have H':Held P ty Wg K Still Bd Shun Quiet Mem Loose h (upd role i r') (upd live i Jh) ex (T ++ ops) gs' w':=⟨C',fun st n hh=>H.LZ st n (by rw [upd_ne role _ (fun z=>e z.symm)] at hh;exact hh),H.tight⟩
    have hr1:F8 ty Wg w w':=(F8.at w d).trans (F8.TD hw ⟨_,_,C'.wg⟩ ⟨_,_,Cd.wg⟩);have key:∃ N FY w₂ d₂ sl₂ sl₃ T₂ Jg IC,runNT P N (crowd gs' w' sl') (T ++ ops)=(.next (crowd FY w₂ sl₂),T₂)/\stepT P (crowd FY w₂ sl₂)=runT P (crowd FY (w₂.at d₂) sl₃) h/\FY.size=gs'.size/\FY[h]?=some a/\
        Held P ty Wg K Still Bd Shun Quiet Mem Loose h Jg IC ex T₂ FY (w₂.at d₂)/\F8 ty Wg w' (w₂.at d₂)/\Same (upd role i r') Jg/\Ll h (upd role i r') (upd live i Jh) IC/\Deaf T₂ h=Deaf (T ++ ops) h/\∀ x,IC x<=upd live i Jh x:=by
      have ha':gs'[h]?=some a:=by rw [hsp h rfl];exact ha
      rcases hlt with hl|⟨hl1,hl2⟩
      . exact ih1 (M1 gs'.size (upd role i r')) (by rw [hsz,← hm1];exact hl) _ rfl rfl ha' H'
      . exact ih2 (M2 gs'.size (upd role i r')) (by rw [hsz,← hm2];exact hl2) (by rw [hsz,hl1,hm1]) rfl ha' H'
    obtain ⟨N,FY,w₂,d₂,sl₂,sl₃,T₂,Jg,IC,q1,q2,q3,q4,q5,q6,q7,q8,q9,q10⟩:=key;refine ⟨N+1,FY,w₂,d₂,sl₂,sl₃,T₂,Jg,IC,by simp only [runNT,hst,hrt];exact q1,q2,q3.trans hsz,q4,q5,hr1.trans q6,(Same.upd (fun st n e=>let ⟨n',x,_⟩:=(k1 st n e).1;⟨n',x⟩) k2).trans q7,fun x hx=>?_,q9.trans (Deaf_other T (fun z=>e z) ops hog),fun x=>Nat.le_trans (q10 x) ?_⟩
    rotate_left
    . by_cases hxi:x=i
      . subst hxi;rw [upd_same];exact k3
      . rw [upd_ne live _ hxi];exact Nat.le_refl _
    by_cases hxi:x=i
    . subst hxi;rcases hx with hx|⟨st,n,hx⟩
      . exact absurd hx e
      . obtain ⟨⟨n',hr',_⟩,hlv⟩:=k1 st n hx;rw [q8 x (.inr ⟨st,n',by rw [upd_same];exact hr'⟩),upd_same,hlv]
    . rw [q8 x (hx.imp id fun ⟨st,n,hh⟩=>⟨st,n,by rw [upd_ne role _ hxi];exact hh⟩),upd_ne live _ hxi]
theorem Ka {n:Nat}{fn:FuncId}{pos:String}{es:Array Event}(he:∀ e∈es,nK Still Shun h n e) :
    (∀ op∈MemOp.ofEvents h fn pos es,op.g=h)/\(∀ op∈MemOp.ofEvents h fn pos es,∀ b,op.act.touch?=some b->(∀ g,g≠h->Still g b.loc->b.write=false)/\(Shun b.loc->b.kind≠.plain))/\(∀ op∈MemOp.ofEvents h fn pos es,op.act.low n)/\
      ∀ t:Trace,Deaf (t ++ MemOp.ofEvents h fn pos es) h=Deaf t h:=by
  refine ⟨fun op hop=>by obtain ⟨e,_,rfl⟩:=Conc.mem_ofEvents hop;rfl,fun op hop b hb=>by obtain ⟨e,h',rfl⟩:=Conc.mem_ofEvents hop;exact (he e h').1 b hb,fun op hop=>by obtain ⟨e,h',rfl⟩:=Conc.mem_ofEvents hop;exact (he e h').2.2.2,fun t=>?_⟩;rw [Deaf_own];exact deafBehind_still (fun e h'=>⟨(he e h').2.1,(he e h').2.2.1⟩) _
theorem Held.own (H:Held P ty Wg K Still Bd Shun Quiet Mem Loose h role live ex T gs w){Ch:Nat->Prop}(zL:∀ i st n c,role i=.seat st n->st.has c->Ch c){a a':Goroutine}{w':World}{es:Array Event}{fn:FuncId}{pos:String}(ha:gs[h]?=some a)(hd:oV K Still Shun Ch Wg h w w' es) :
    Held P ty Wg K Still Bd Shun Quiet Mem Loose h role live ex (T ++ MemOp.ofEvents h fn pos es) ((gs.map (woken P a a' w')).setIfInBounds h a') w'/\((gs.map (woken P a a' w')).setIfInBounds h a')[h]?=some a':=by
  have hlt:h < gs.size:=(zGE ha).1;obtain ⟨hops,hr,hl,hdf⟩:=Ka (h:=h) (fn:=fn) (pos:=pos) hd.evs;have C:=H.JG;have hch:∀ i st n c,role i=.seat st n->st.has c->∃ k,w'.heap[c]?=some (.chan 0 #[] false k k false):=fun i st n c e hc=>by obtain ⟨k,hk⟩:=(C.seat i st n e).2.2.2.2 c hc;exact ⟨k,hd.chan c k (zL i st n c e hc) hk⟩
  have hwg':WgAt ty Wg w' ((sumTo gs.size live+ex:Nat) * KK) 0:=by have:=C.wg;unfold WgAt at this ⊢;rw [hd.wg];exact this
  have hrx:=Lg ty Wg ⟨_,_,C.wg⟩ ⟨_,_,hwg'⟩;have hget:∀ x,x≠h->((gs.map (woken P a a' w')).setIfInBounds h a')[x]?=gs[x]?:=by
    intro x hx;rw [Array.getElem?_setIfInBounds_ne (fun e=>hx e.symm),Array.getElem?_map];cases e:gs[x]? with
    | none=>rfl
    | some y=>
      have:y.again w'=y:=by
        cases er:role x with
        | fin s m d=>exact again_of_running (C.Gz x y s m d hx e er).2.1.status w'
        | seat st n=>
          obtain ⟨hS,_⟩:=C.seats x y st n hx e er;exact Sits.again (hd.keep x hx (C.keep x st n er)) hS (C.seat x st n er).2.1 fun c hc=>by obtain ⟨k,hk⟩:=hch x st n c er hc;exact ⟨_,_,_,_,_,hk⟩
      simp [woken_of_again this]
  have hD:∀ x,x≠h->Deaf (T ++ MemOp.ofEvents h fn pos es) x=Deaf T x:=fun x hx=>Deaf_other T (fun z=>hx z.symm) _ hops;refine ⟨⟨⟨fun i g s m d hi hg e=>?_,fun i g st n hi hg e=>?_,fun i st n e=>?_,C.own,fun j hj=>?_,(C.past.mono hd.size).hold H.tight hops hr (fun _=>hdf T) hl,fun i st n e=>hd.keep i (fun z=>H.LZ st n (z ▸ e)) (C.keep i st n e),by simpa using hwg',by simpa using C.few,C.one⟩,H.LZ,H.tight⟩,Array.getElem?_setIfInBounds_self_of_lt (by simpa using hlt)⟩
  . rw [hget i hi] at hg;obtain ⟨h1,h2,h3,h4⟩:=C.Gz i g s m d hi hg e;exact ⟨h1,h2.rely hrx,by rw [hD i hi];exact h3,h4⟩
  . rw [hget i hi] at hg;exact C.seats i g st n hi hg e
  . obtain ⟨h1,h2,h3,h4,_⟩:=C.seat i st n e;exact ⟨by simpa using h1,h2,h3,Nat.le_trans h4 hd.size,fun c hc=>hch i st n c e hc⟩
  . have hj':gs.size<=j:=by simpa using hj
    rw [hD j zOM];exact C.above j hj'
theorem Vn (E:Env Wg K Still Shun){Ch:Nat->Prop}{D:World->World->Array Event->Prop}{Stop:Goroutine->World->Prop}(hD:∀ w w' es,D w w' es->oV K Still Shun Ch Wg h w w' es){a:Goroutine}{w:World}(hW:LT.Way P (h == 0) (F8 ty Wg) D Stop a w) :
    ∀ {role:Nat->EC} {live:Nat->Nat} {T:Trace} {gs:Array Goroutine} {sl:Option (Nat × Nat)},gs[h]?=some a->Held P ty Wg K Still Bd Shun Quiet Mem Loose h role live ex T gs w->(∀ i st n c,role i=.seat st n->st.has c->Ch c)->
    ∃ N gs' a' w' sl' T' ER Fy,runNT P N (crowd gs w sl) T=(.next (crowd gs' w' sl'),T')/\gs'.size=gs.size/\gs'[h]?=some a'/\Stop a' w'/\Held P ty Wg K Still Bd Shun Quiet Mem Loose h ER Fy ex T' gs' w'/\Same role ER/\Ll h role live Fy/\Deaf T' h=Deaf T h/\∀ x,Fy x<=live x:=by
  induction hW with
  | @stop g w hs=>
    intro role live T gs sl ha H zL;exact ⟨0,gs,_,w,sl,T,role,live,rfl,rfl,ha,hs w (.refl w),H,.refl role,.refl h role live,rfl,fun _=>Nat.le_refl _⟩
  | @step g w hrun hstep hk ih=>
    intro role live T gs sl ha H zL;obtain ⟨N,gs₁,w₁,d,sl₁,sl₂,T₁,Ew,ET,p1,p2,p3,p4,p5,p6,p7,p8,p9,nA⟩:=picked (sl:=sl) E hrun _ _ rfl rfl ha H;obtain ⟨g',w',es,hst,hd⟩:=hstep _ p6;have bN:∀ i st n c,Ew i=.seat st n->st.has c->Ch c:=fun i st n c e hc=>by obtain ⟨n',e'⟩:=p7.back e;exact zL i st n' c e' hc
    have hrt:=runT_crowd_go (P:=P) (sl:=sl₂) p4 hst;obtain ⟨H',ha'⟩:=p5.own (fn:=g.frame.fn) (pos:=g.frame.place) (a':=g') bN p4 (hD _ _ _ hd);obtain ⟨N₂,FY,a₂,w₂,sl₃,T₂,Jg,IC,q1,q2,q3,q4,q5,q6,q7,q8,q9⟩:=ih _ _ _ _ p6 hst (sl:=sl₂) ha' H' bN;refine ⟨N+(N₂+1),FY,a₂,w₂,sl₃,T₂,Jg,IC,runNT_then p1 (by simp only [runNT,p2,hrt];exact q1),?_,q3,q4,q5,p7.trans q6,p8.trans p7 q7,q8.trans (((Ka (h:=h) (fn:=g.frame.fn) (pos:=g.frame.place) (hD _ _ _ hd).evs).2.2.2 T₁).trans p9),fun x=>Nat.le_trans (q9 x) (nA x)⟩;rw [q2];simpa using p3
end
end
end Go.LC
end
