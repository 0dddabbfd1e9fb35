/-
  Part 3 of the proof that CellOrders is true of every input of bulk at most 1048576.
-/
import Derived.Test.YtdkfdedgfilhbaaQ02
import Derived.Barred
set_option linter.unusedVariables false
set_option linter.unusedSectionVars false
set_option linter.unusedSimpArgs false
noncomputable section
namespace Go.LT
open Go Go.Conc
section
inductive Way(P:Program)(main:Bool)(R:World->World->Prop)(D:World->World->Array Event->Prop)(Stop:Goroutine->World->Prop):Goroutine->World->Prop
 | stop {g:Goroutine} {w:World} (h:∀w₁,R w w₁->Stop g w₁):Way P main R D Stop g w
 | step {g:Goroutine} {w:World} (hs:g.status=.running) (h:∀w₁,R w w₁->∃g' w' es,stepG P main g w₁=.go g' w' es/\D w₁ w' es)
   (k:∀w₁ g' w' es,R w w₁->stepG P main g w₁=.go g' w' es->Way P main R D Stop g' w'):Way P main R D Stop g w
section
variable {P:Program}{main:Bool}{R:World->World->Prop}{D:World->World->Array Event->Prop}{Stop Stop':Goroutine->World->Prop}{g:Goroutine}{w:World}
theorem Way.rely(trans:∀a b c,R a b->R b c->R a c){w₁:World}(h:Way P main R D Stop g w)(hr:R w w₁):Way P main R D Stop g w₁:=by
 cases h with
 | stop h=>exact .stop fun w₂ h₂=>h w₂ (trans _ _ _ hr h₂)
 | step hs h k=>exact .step hs (fun w₂ h₂=>h w₂ (trans _ _ _ hr h₂)) fun w₂ g' w' es h₂=>k w₂ g' w' es (trans _ _ _ hr h₂)
theorem Way.one(hs:g.status=.running)(h:∀w₁,R w w₁->∃g' w' es,stepG P main g w₁=.go g' w' es/\D w₁ w' es/\Way P main R D Stop g' w'):Way P main R D Stop g w:=
 .step hs (fun w₁ h₁=>let⟨g',w',es,a,b,_⟩:=h w₁ h₁;⟨g',w',es,a,b⟩) fun w₁ g' w' es h₁ hst=>by
  obtain⟨g2,w2,es2,a,_,c⟩:=h w₁ h₁;rw[a]at hst;cases hst
  exact c
theorem Way.bind(refl:∀w,R w w)(h:Way P main R D Stop g w)(k:∀g w,(∀w₁,R w w₁->Stop g w₁)->Way P main R D Stop' g w):Way P main R D Stop' g w:=by
 induction h with
 | stop h=>exact k _ _ h
 | step hs h _ ih=>exact .step hs h ih
theorem Way.mono(h:Way P main R D Stop g w)(k:∀g w,Stop g w->Stop' g w):Way P main R D Stop' g w:=by
 induction h with
 | stop h=>exact .stop fun w₁ h₁=>k _ _ (h w₁ h₁)
 | step hs h _ ih=>exact .step hs h ih
end
def RJ:Hid:={ hol:=fun _=>false }
theorem G7{w:World}(h:GY w):EF RJ w=w:=by
 have:(EF RJ w).heap=w.heap:=by
  apply Array.ext_getElem?;intro i;rw[Fq];cases ho:w.heap[i]? with
  | none=>rfl
  | some o=>
   simp only[RJ,Option.map_some,Bool.false_eq_true,if_false,JN]
   congr 1
   cases o<;>first | rfl | exact absurd ho (h _ _ _)
 simp only[EF]at this ⊢;rw[this]
theorem JB(w:World):Rows RJ w:=⟨fun b h=>(by cases h),fun b h=>(by cases h)⟩
theorem Kept.Uz{B:Hid}{w w':World}(h:Kept B w w')(hN:GY w):GY w':=fun b c e hp=>hN b c e (h.pend b c e hp)
structure Turns(B:Hid)(w w₁:World):Prop where
 tape:w₁.tape=w.tape
 same:EF B w₁=sh (EF B w) w.tape w₁.drawn
 rows:Rows B w->Rows B w₁
section
variable [Host]
variable {P:Program}{F:FuncId->Prop}{B:Hid}{main:Bool}{R:World->World->Prop}{D:World->World->Array Event->Prop}{t:List Frame}
structure Nd where
 fr:Frame
 s:List Frame
 w:World
def Ad(P:Program)(B:Hid)(main:Bool)(D:World->World->Array Event->Prop)(t:List Frame)(x:Nd)(w₁:World)(y:Nd):Prop:=
 ∃es,stepG P true (G x.fr x.s) (EF B w₁)=.go (G y.fr y.s) (EF B y.w) es/\stepG P main (G x.fr (x.s++t)) w₁=.go (G y.fr (y.s++t)) y.w es/\D w₁ y.w es
def Bad(P:Program)(F:FuncId->Prop)(B:Hid)(main:Bool)(R:World->World->Prop)(D:World->World->Array Event->Prop)(Stop:Goroutine->World->Prop)(t:List Frame):Type:=
 { x:Nd // (∀y∈x.fr :: x.s,Ih P F y)/\Rows B x.w/\¬ Way P main R D Stop (G x.fr (x.s++t)) x.w }
variable {Stop:Goroutine->World->Prop}
theorem Rc(x:Bad P F B main R D Stop t):∃w₁,R x.1.w w₁/\∀g' w' es,stepG P main (G x.1.fr (x.1.s++t)) w₁=.go g' w' es->D w₁ w' es->¬ Way P main R D Stop g' w':=by apply Classical.byContradiction;intro h;refine x.2.2.2 (.one rfl fun w₁ h₁=>?_);apply Classical.byContradiction;intro h2;refine h ⟨w₁,h₁,fun g' w' es a b c=>h2 ⟨g',w',es,a,b,c⟩⟩
def FJ(x:Bad P F B main R D Stop t):World:=(Rc x).choose
theorem U2(x:Bad P F B main R D Stop t):R x.1.w (FJ x):=(Rc x).choose_spec.1
theorem XV(x:Bad P F B main R D Stop t):∀g' w' es,stepG P main (G x.1.fr (x.1.s++t)) (FJ x)=.go g' w' es->D (FJ x) w' es->¬ Way P main R D Stop g' w':=(Rc x).choose_spec.2
open Classical in
def Mq(x:Bad P F B main R D Stop t):Option (Bad P F B main R D Stop t):=
 if h:∃y:Bad P F B main R D Stop t,Ad P B main D t x.1 (FJ x) y.1 then some h.choose else none
theorem WK{x y:Bad P F B main R D Stop t}(h:Mq x=some y):Ad P B main D t x.1 (FJ x) y.1:=by
 unfold Mq at h;split at h
 . rename_i h'
   cases h
   exact h'.choose_spec
 . cases h
theorem Vu{x:Bad P F B main R D Stop t}(h:Mq x=none):∀y:Bad P F B main R D Stop t,¬ Ad P B main D t x.1 (FJ x) y.1:=by
 unfold Mq at h;split at h
 . cases h
 . rename_i h'
   exact fun y hy=>h' ⟨y,hy⟩
def Js(x:Bad P F B main R D Stop t):Nat->Option (Bad P F B main R D Stop t)
 | 0=>some x
 | k+1=>(Js x k).bind Mq
def QN(x:Bad P F B main R D Stop t)(k:Nat):Nat:=
 match Js x k,Js x (k+1)with
 | some a,some b=>b.1.w.drawn-(FJ a).drawn
 | _,_=>0
def posOf(x:Bad P F B main R D Stop t):Nat->Nat
 | 0=>0
 | k+1=>posOf x k+QN x k
theorem RD(x:Bad P F B main R D Stop t){i j:Nat}(h:i<=j):posOf x i<=posOf x j:=by
 induction h with
 | refl=>exact Nat.le_refl _
 | step _ ih=>exact Nat.le_trans ih (Nat.le_add_right _ _)
theorem QF{x:Bad P F B main R D Stop t}{k:Nat}(h:Js x k=none):∀j,k<=j->Js x j=none:=by
 intro j hj;induction hj with
 | refl=>exact h
 | step _ ih=>simp[Js,ih]
theorem least(p:Nat->Prop)(h:∃n,p n):∃n,p n/\∀m,m<n->¬ p m:=by
 obtain⟨n,hn⟩:=h;induction n using Nat.strongRecOn with
 | _ n ih=>
  by_cases hex:∃m,m<n/\p m
  . obtain⟨m,hm,hp⟩:=hex;exact ih m hm hp
  . exact⟨n,hn,fun m hm hp=>hex ⟨m,hm,hp⟩⟩
def SV(x:Bad P F B main R D Stop t)(k:Nat):World:=
 match Js x k with
 | some a=>FJ a
 | none=>FJ x
open Classical in
def idxOf(x:Bad P F B main R D Stop t)(m:Nat):Nat:=
 if h:∃k,m<posOf x (k+1)then(least _ h).choose else if h:∃k,Js x (k+1)=none then(least _ h).choose else 0
def FV(x:Bad P F B main R D Stop t):Nat->Question->Nat:=fun m=>(SV x (idxOf x m)).tape ((SV x (idxOf x m)).drawn+(m-posOf x (idxOf x m)))
theorem VT{x a b:Bad P F B main R D Stop t}{k:Nat}(ha:Js x k=some a)(hb:Js x (k+1)=some b){i:Nat}(hi:i<b.1.w.drawn-(FJ a).drawn) :
  FV x (posOf x k+i)=(FJ a).tape ((FJ a).drawn+i):=by
 have hc:QN x k=b.1.w.drawn-(FJ a).drawn:=by simp[QN,ha,hb]
 have hlt:posOf x k+i<posOf x (k+1):=by simp only[posOf];omega
 have hex:∃k',posOf x k+i<posOf x (k'+1):=⟨k,hlt⟩
 have hid:idxOf x (posOf x k+i)=k:=by
  unfold idxOf;rw[dif_pos hex];obtain⟨h2,h1⟩:=(least _ hex).choose_spec;generalize(least _ hex).choose=n at h1 h2;rcases Nat.lt_or_ge n k with h|h
  . have:=RD x (show n+1<=k from h);omega
  . rcases Nat.lt_or_ge k n with h' | h'
    . exact absurd hlt (h1 k h')
    . omega
 unfold FV;rw[hid];have hs:SV x k=FJ a:=by simp[SV,ha]
 rw[hs,show posOf x k+i-posOf x k=i by omega]
theorem Ve{x a:Bad P F B main R D Stop t}{k:Nat}(ha:Js x k=some a)(hb:Js x (k+1)=none)(i:Nat) :
  FV x (posOf x k+i)=(FJ a).tape ((FJ a).drawn+i):=by
 have hpos:∀j,k<=j->posOf x j=posOf x k:=by
  intro j hj;induction hj with
  | refl=>rfl
  | step h ih=>
    rename_i j
    have:QN x j=0:=by
      have:=QF hb (j+1) (Nat.succ_le_succ h);unfold QN;rw[this];split
      . rename_i h;cases h
      . rfl
    simp only[posOf,this,ih,Nat.add_zero]
 have hex:¬ ∃k',posOf x k+i<posOf x (k'+1):=by
  rintro⟨k',h⟩;rcases Nat.lt_or_ge k' k with hl|hl
  . have:=RD x (show k'+1<=k from hl);omega
  . have:=hpos (k'+1) zOM;omega
 have Xo:∃k,Js x (k+1)=none:=⟨k,hb⟩
 have hid:idxOf x (posOf x k+i)=k:=by
  unfold idxOf;rw[dif_neg hex,dif_pos Xo];obtain⟨h2,h1⟩:=(least _ Xo).choose_spec;generalize(least _ Xo).choose=n at h1 h2;rcases Nat.lt_or_ge n k with h|h
  . have:=QF h2 k zOM;rw[this]at ha;cases ha
  . rcases Nat.lt_or_ge k n with h' | h'
    . exact absurd hb (h1 k h')
    . omega
 unfold FV;rw[hid];have hs:SV x k=FJ a:=by simp[SV,ha]
 rw[hs,show posOf x k+i-posOf x k=i by omega]
theorem Ou{fr:Frame}{cs:List Frame}{w w':World}{g':Goroutine}{es:Array Event}(h:stepG P true (G fr cs) w=.go g' w' es) :
  ∃m1,step P (lone fr cs w)=.next m1/\g'∈m1.gs:=by
 have h':stepG P true { frame:=fr,callers:=cs,status:=.running,dying:=none } w=.go g' w' es:=h;rw[step,stepT,move_lone];simp[runT,lone,Array.swapAt!,h']
theorem I5{fr:Frame}{cs:List Frame}{w w':World}{o:Outcome}{es:Array Event}(h:stepG P true (G fr cs) w=.ended o w' es):∃o w',step P (lone fr cs w)=.ended o w':=by have h':stepG P true { frame:=fr,callers:=cs,status:=.running,dying:=none } w=.ended o w' es:=h;rw[step,stepT,move_lone];simp[runT,lone,h']
theorem PI{fr fr':Frame}{cs cs':List Frame}{w w':World}{es:Array Event}(h:stepG P true (G fr cs) w=.go (G fr' cs') w' es):step P (lone fr cs w)=.next (lone fr' cs' w'):=
 step_lone_go (by have h':stepG P true { frame:=fr,callers:=cs,status:=.running,dying:=none } w=.go (G fr' cs') w' es:=h;rw[h'];rfl)
theorem gD(trans:∀a b c,R a b->R b c->R a c)(hT:∀w w₁,R w w₁->Turns B w w₁)(hD:∀w w' es,Rows B w->Kept B w w'->(∀e∈es,Jv B w'.heap.size e)->D w w' es)(hF:∀f,F f->Lets P f){Fn:Fence}(hFn:∀f,Fn.fn f->F f)(hal:Fn.alive=true){WR:Frame}{w0:World}(hok:Ih P F WR)(hR0:Rows B w0){Rp:(Nat->Question->Nat)->Ending->World->Prop}(hret:∀τ e w',Rp τ e w'->∃v,e=.returned v)(hcon:∀τ,∃e w' fr,Rp τ e w'/\ComesIn (Machine.fenced P Fn) P (lone WR [] (sh (EF B w0) τ 0)) (lone fr [] w') e/\fr.leaving P w' e) :
   Way P main R D (fun g w=>∃fr τ d v,g=G fr t/\Rp τ (.returned v) (sh (EF B w) τ d)/\fr.leaving P (sh (EF B w) τ d) (.returned v)/\Ih P F fr/\Rows B w) (G WR t) w0:=by
 apply Classical.byContradiction;intro hno
 let Stop:Goroutine->World->Prop:=fun g w=>∃fr τ d v,g=G fr t/\Rp τ (.returned v) (sh (EF B w) τ d)/\fr.leaving P (sh (EF B w) τ d) (.returned v)/\Ih P F fr/\Rows B w
 let x0:Bad P F B main R D Stop t:=⟨⟨WR,[],w0⟩,by simpa using hok,hR0,hno⟩
 obtain⟨e,w',fr,hRp,hC,hlv⟩:=hcon (FV x0);obtain⟨v,rfl⟩:=hret _ _ _ hRp;obtain⟨N,hN,kZ⟩:=StepsIn.run hC;have claim:∀k,k<=N->∃x,Js x0 k=some x/\runN P k (lone WR [] (sh (EF B w0) (FV x0) 0))=.next (lone x.1.fr x.1.s (sh (EF B x.1.w) (FV x0) (posOf x0 k))):=by
   intro k;induction k with
   | zero=>exact fun _=>⟨x0,rfl,rfl⟩
   | succ k ih=>
    intro hk;obtain⟨x,hx,hrun⟩:=ih zOM;have xk:=kZ k zOM _ hrun;have hnext:∃m1,step P (lone x.1.fr x.1.s (sh (EF B x.1.w) (FV x0) (posOf x0 k)))=.next m1/\∀m2,step P (lone x.1.fr x.1.s (sh (EF B x.1.w) (FV x0) (posOf x0 k)))=.next m2->runN P (k+1) (lone WR [] (sh (EF B w0) (FV x0) 0))=.next m2:=by
     have hadd:=runN_add P k 1 (lone WR [] (sh (EF B w0) (FV x0) 0));rw[hrun]at hadd;have h1:runN P 1 (lone x.1.fr x.1.s (sh (EF B x.1.w) (FV x0) (posOf x0 k)))=step P (lone x.1.fr x.1.s (sh (EF B x.1.w) (FV x0) (posOf x0 k))):=by simp only[runN];cases step P (lone x.1.fr x.1.s (sh (EF B x.1.w) (FV x0) (posOf x0 k)))<;>rfl
     cases hs:step P (lone x.1.fr x.1.s (sh (EF B x.1.w) (FV x0) (posOf x0 k)))with
     | next m1=>
       refine⟨m1,rfl,fun m2 h2=>?_⟩;cases h2
       rw[hadd];simp only[h1,hs]
     | ended o w2=>
       exfalso
       have hE:runN P (k+1) (lone WR [] (sh (EF B w0) (FV x0) 0))=.ended o w2:=by rw[hadd];simp only[h1,hs]
       have:=runN_ended hE (N-(k+1));rw[show k+1+(N-(k+1))=N by omega,hN]at this;cases this
    obtain⟨m1,hm1,Ws⟩:=hnext;have aV:=hT _ _ (U2 x);have S9:=aV.rows x.2.2.1;have hsame:sh (EF B (FJ x)) (FV x0) (posOf x0 k)=sh (EF B x.1.w) (FV x0) (posOf x0 k):=by rw[aV.same];rfl
    have hg0:=xk (G x.1.fr x.1.s) (by simp[lone,G]);have hab:x.1.fr.mode=.run->∀o g,x.1.fr.oper?=some o->Ij o=some g->F g:=fun hm o g ho hc=>hFn _ (hg0.2.2.1 g (O1 hm ho hc));have Aex:x.1.s≠[]\/x.1.fr.mode=.run:=by
     by_cases hs:x.1.s=[]
     . by_cases hm:x.1.fr.mode=.run
       . exact .inr hm
       . exfalso
         rw[hs]at hm1 Ws;rcases bottom hF (x.2.1 x.1.fr (by simp)) hm (w:=sh (EF B x.1.w) (FV x0) (posOf x0 k))with⟨o,w2,es,hb⟩|⟨g',w2,es,hb,hdy⟩
         . obtain⟨o,w2,h⟩:=I5 hb;rw[hm1]at h;cases h
         . obtain⟨m2,h,hmem⟩:=Ou hb;have hr:=Ws m2 h;rcases Nat.lt_or_ge (k+1) N with hlt|hge
           . have:=(kZ (k+1) hlt _ hr g' hmem).1 hal;rw[this]at hdy;cases hdy
           . have hkN:k+1=N:=by omega
             rw[hkN,hN]at hr;cases hr
             simp only[lone,List.mem_toArray,List.mem_singleton]at hmem;subst hmem;cases hdy
     . exact .inl hs
    have hstep:∀(B':Hid) (mn:Bool) (τ:Nat->Question->Nat) (d:Nat) (t':List Frame) (w:World),Rows B' w->Ms P F B' mn τ d x.1.fr x.1.s t' w (stepG P true (G x.1.fr x.1.s) (sh (EF B' w) τ d)):=by
     intro B' mn τ d t' w hRo;by_cases hm:x.1.fr.mode=.run
     . exact Xv hF hRo x.2.1 hm (hab hm)
     . rcases Aex with hs | h
       . obtain⟨c,l,hcl⟩:=List.exists_cons_of_ne_nil hs;have hfr:=x.2.1;rw[hcl]at hfr ⊢;exact Qs hRo hfr hm
       . exact absurd h hm
    cases hnx:Js x0 (k+1)with
    | none=>
     exfalso
     have hag:=Ve hx hnx;have h1:=hstep B main (FV x0) (posOf x0 k) t (FJ x) S9;have h2:=hstep RJ true (FV x0) (posOf x0 k) [] (EF B (FJ x)) (JB _);rw[G7 (F6 S9)]at h2;cases hst:stepG P true (G x.1.fr x.1.s) (sh (EF B (FJ x)) (FV x0) (posOf x0 k))with
     | go g w1 es=>
       rw[hst]at h1 h2;obtain⟨fr',s',w2,rfl,e1,e2,hK,hev,Afy⟩:=h1 fun i _=>(hag i).symm;obtain⟨oF,s2,w3,e3,e4,e5,hK3,_,_⟩:=h2 fun i _=>(hag i).symm;have hdw:=hD _ _ _ S9 hK hev;have hw3:w3=EF B w2:=by
         have uo:=hK3.Uz (F6 S9);rw[G7 uo]at e4;have hh:sh w3 (FV x0) (posOf x0 k+(w3.drawn-(FJ x).drawn))=sh (EF B w2) (FV x0) (posOf x0 k+(w2.drawn-(FJ x).drawn)):=e4.symm.trans e1;have ht3:w3.tape=(EF B w2).tape:=by rw[hK3.tape];exact hK.tape.symm
         have hd3:w3.drawn=(EF B w2).drawn:=by have hh':posOf x0 k+(w3.drawn-(FJ x).drawn)=posOf x0 k+(w2.drawn-(FJ x).drawn):=congrArg World.drawn hh;have l1:(FJ x).drawn<=w3.drawn:=hK3.drawn;have l2:(FJ x).drawn<=w2.drawn:=hK.drawn;show w3.drawn=w2.drawn;omega
         have:sh (sh w3 (FV x0) (posOf x0 k+(w3.drawn-(FJ x).drawn))) w3.tape w3.drawn=sh (sh (EF B w2) (FV x0) (posOf x0 k+(w2.drawn-(FJ x).drawn))) (EF B w2).tape (EF B w2).drawn:=by rw[hh,ht3,hd3]
         exact this
       subst hw3;simp only[List.append_nil]at e5;have nW:G fr' s'=G oF s2:=e3;simp only[G,Goroutine.mk.injEq]at nW;obtain⟨rfl,rfl,_⟩:=nW;have hbad:=XV x _ _ _ e2 hdw;have hs1:Mq x=none:=by have:Js x0 (k+1)=(Js x0 k).bind Mq:=rfl;rw[hx]at this;exact this.symm.trans hnx
       exact Vu hs1 ⟨⟨fr',s',w2⟩,Afy,S9.kept hK,hbad⟩ ⟨es,e5,e2,hdw⟩
     | ended o w1 es=>
       rw[hsame]at hst;obtain⟨o,w2,h⟩:=I5 hst;rw[hm1]at h;cases h
     | _=>rw[hst]at h1;exact h1.elim
    | some y=>
     have hs1:Mq x=some y:=by have:Js x0 (k+1)=(Js x0 k).bind Mq:=rfl;rw[hx]at this;exact this.symm.trans hnx
     obtain⟨es,a1,a2,a3⟩:=WK hs1;refine⟨y,rfl,?_⟩;have h2:=hstep RJ true (FJ x).tape (FJ x).drawn [] (sh (EF B (FJ x)) (FV x0) (posOf x0 k)) (JB _);have hNP:GY (sh (EF B (FJ x)) (FV x0) (posOf x0 k)):=F6 S9;rw[G7 hNP]at h2;have hback:sh (sh (EF B (FJ x)) (FV x0) (posOf x0 k)) (FJ x).tape (FJ x).drawn=EF B (FJ x):=rfl;rw[hback,a1]at h2;obtain⟨oF,s2,w3,e3,e4,e5,hK3,_,_⟩:=h2 fun i hi=>VT hx hnx (by have:(FJ x).drawn+i<y.1.w.drawn:=hi;omega)
     simp only[G,Goroutine.mk.injEq]at e3;obtain⟨rfl,rfl,_⟩:=e3;simp only[List.append_nil]at e5;have uo:=hK3.Uz hNP;rw[G7 uo]at e4;have hc:QN x0 k=y.1.w.drawn-(FJ x).drawn:=by simp[QN,hx,hnx]
     have hw3:w3=sh (EF B y.1.w) (FV x0) (posOf x0 (k+1)):=by
       have hd:y.1.w.drawn=(FJ x).drawn+(w3.drawn-posOf x0 k):=congrArg World.drawn e4;have hl:posOf x0 k<=w3.drawn:=hK3.drawn;have ht3:w3.tape=FV x0:=hK3.tape;have hdr:w3.drawn=posOf x0 (k+1):=by simp only[posOf,hc];omega
       have:sh (EF B y.1.w) w3.tape w3.drawn=sh (sh w3 (FJ x).tape ((FJ x).drawn+(w3.drawn-posOf x0 k))) w3.tape w3.drawn:=by rw[e4];rfl
       rw[ht3,hdr]at this;rw[this];show w3={ w3 with tape:=FV x0,drawn:=posOf x0 (k+1) }
       rw[← ht3,← hdr]
     have hst:stepG P true (G x.1.fr x.1.s) (sh (EF B x.1.w) (FV x0) (posOf x0 k))=.go (G y.1.fr y.1.s) w3 es:=by rw[← hsame];exact e5
     rw[← hw3];exact Ws _ (PI hst)
 obtain⟨x,hx,hrun⟩:=claim N (Nat.le_refl _);rw[hN]at hrun;have hl:lone fr [] w'=lone x.1.fr x.1.s (sh (EF B x.1.w) (FV x0) (posOf x0 N)):=by injection hrun
 simp only[lone,Machine.mk.injEq]at hl;obtain⟨hw,hgs,_⟩:=hl;simp only[Array.mk.injEq,List.cons.injEq,Goroutine.mk.injEq]at hgs;obtain⟨⟨hfr,hcs,_⟩,_⟩:=hgs;refine x.2.2.2 (.stop fun w₁ h₁=>?_);have aV:=hT _ _ h₁;refine⟨x.1.fr,FV x0,posOf x0 N,v,?_,?_,?_,x.2.1 _ (by simp),aV.rows x.2.2.1⟩
 . rw[← hcs];rfl
 . have:sh (EF B w₁) (FV x0) (posOf x0 N)=w':=by rw[aV.same,hw];rfl
   rw[this];exact hRp
 . have:sh (EF B w₁) (FV x0) (posOf x0 N)=w':=by rw[aV.same,hw];rfl
   rw[this,← hfr];exact hlv
theorem Zu(refl:∀w,R w w)(trans:∀a b c,R a b->R b c->R a c)(hT:∀w w₁,R w w₁->Turns B w w₁)(hD:∀w w' es,Rows B w->Kept B w w'->(∀e∈es,Jv B w'.heap.size e)->D w w' es)(hF:∀f,F f->Lets P f){Fn:Fence}(hFn:∀f,Fn.fn f->F f)(hal:Fn.alive=true)(Kt:Fn.depth=none){f:FuncId}(hbar:Host.bar f=false){args:Array Value}{n:Nat}{w0:World}(hR0:Rows B w0){Rp:(Nat->Question->Nat)->Ending->World->Prop}(hret:∀τ e w',Rp τ e w'->∃v,e=.returned v)(hcon:∀τ,CallsIn Fn n P f args (sh (EF B w0) τ 0) (Rp τ)){c:Frame}{cs:List Frame}{Stop:Goroutine->World->Prop}(hk:∀v w' τ d,Rows B w'->Rp τ (.returned v) (sh (EF B w') τ d)->Way P main R D Stop (G (c.finish v) cs) w'):Way P main R D Stop (G (Frame.enter P f args .normal) (c :: cs)) w0:=by
 have hFf:F f:=hFn f (hcon (fun _ _=>0)).1;refine(gD (t:=c :: cs) trans hT hD hF hFn hal (Ih.enter hF ⟨hFf,hbar⟩ args) hR0 hret fun τ=>?_).bind refl fun g w hst=>?_
 . obtain⟨e,w',fr,h1,h2,_,h3⟩:=(hcon τ).2 [] (fun d hd=>by rw[Kt]at hd;cases hd)
   exact⟨e,w',fr,h1,h2,h3⟩
 . obtain⟨fr,_,_,_,hg,_,_,_,_⟩:=hst w (refl w);subst hg;refine .one rfl fun w₁ h₁=>?_;obtain⟨fr',τ,d,v,hg,hRp,hlv,hok,hR⟩:=hst w₁ h₁;have hfr:fr=fr':=by simpa [G]using hg
   subst hfr;obtain⟨hm,hdf,hkd,fn,hfn,hres⟩:=hlv;have fT:EL P (fun _=>True) (results fn fr.tmps):=Pz fun _=>trivial;obtain⟨w2,es2,h1,h2,h3,_,h5,_,h7⟩:=LM (es:=#[]) (τ:=τ) (d:=d) fT hR (x:=.inl v) (w1:=sh (EF B w₁) τ d) (by rw[Sem.runT_fst,hres];rfl) (fun i hi=>by have:d+i<d:=hi;omega);refine⟨G (c.finish v) cs,w2,seen P fr.fn es2,?_,hD _ _ _ hR h3 fun e he=>h7 e (mem_seen he),?_⟩
   . obtain⟨fn',tmps,todo,defers,mode,kind,roundOf⟩:=fr;simp only at hm hdf hkd hfn;subst hm hdf hkd;simp only[G,stepG,unwind,hfn];simp only[Array.empty_append]at h5;generalize hr:(results fn tmps).runT P w₁ #[]=r at h1 h5;obtain⟨r,es⟩:=r;obtain rfl:=Jy h1;obtain rfl:es=es2:=h5;simp[doReturn,GStep.after]
   . have hw:sh (EF B w₁) τ d=sh (EF B w2) τ (d+(w2.drawn-w₁.drawn)):=h2;exact hk v w2 τ _ (hR.kept h3) (by rw[← hw];exact hRp)
end
end
end Go.LT
namespace Go.LC
open Go Go.Conc Go.LT
open Go.ConcN (WgLive sumTo upd sumTo_upd upd_ne upd_same)
open Go.ConcR (KK wgBlock WgAt stA smA rd wr mk)
section
structure G9(ty:TypeId)(Wg:Nat)(w w₁:World):Prop where
 tape:w₁.tape=w.tape
 os:w₁.os=w.os
 output:w₁.output=w.output
 size:w₁.heap.size=w.heap.size
 block:∀b,b≠Wg->w₁.heap[b]?=w.heap[b]?
 live:WgLive ty Wg w->WgLive ty Wg w₁
 dead:WgLive ty Wg w\/w₁.heap[Wg]?=w.heap[Wg]?
section
variable {ty:TypeId}{Wg:Nat}{w w₁ w₂:World}
theorem G9.refl(w:World):G9 ty Wg w w:=⟨rfl,rfl,rfl,rfl,fun _ _=>rfl,id,.inr rfl⟩
theorem G9.trans(h:G9 ty Wg w w₁)(h':G9 ty Wg w₁ w₂):G9 ty Wg w w₂:=
 ⟨h'.tape.trans h.tape,h'.os.trans h.os,h'.output.trans h.output,h'.size.trans h.size,fun b hb=>(h'.block b hb).trans (h.block b hb),h'.live ∘ h.live,h.dead.elim .inl fun e=>h'.dead.elim (fun⟨st,sm,hl⟩=>.inl ⟨st,sm,e.symm.trans hl⟩) fun e'=>.inr (e'.trans e)⟩
theorem G9.at(w:World)(d:Nat):G9 ty Wg w (w.at d):=⟨rfl,rfl,rfl,rfl,fun _ _=>rfl,id,.inr rfl⟩
theorem G9.Uv(h:IX Wg w w₁)(hl:WgLive ty Wg w₁)(hl0:WgLive ty Wg w):G9 ty Wg w w₁:=by
 refine⟨?_,?_,?_,h.size,fun b hb=>h.other hb,fun _=>hl,.inl hl0⟩ <;>
 . rcases h with rfl | ⟨x,rfl⟩<;>rfl
theorem G9.turns{B:Hid}(hB:B Wg=true)(h:G9 ty Wg w w₁):Turns B w w₁:=by
 have key:∀i:Nat,(EF B w₁).heap[i]?=(EF B w).heap[i]?:=by
  intro i;rw[Fq,Fq];by_cases hi:i=Wg
  . subst hi;rcases h.dead with⟨st,sm,h0⟩|e
    . obtain⟨st',sm',h1⟩:=h.live ⟨st,sm,h0⟩;unfold WgAt wgBlock at h0 h1;rw[h0,h1];simp[hB,Mk]
    . rw[e]
  . rw[h.block i hi]
 have row:∀b:Nat,(∃c e f,w.heap[b]?=some (Obj.cells c e f))->∃c e f,w₁.heap[b]?=some (Obj.cells c e f):=fun b hr=>by
  by_cases hi:b=Wg
  . subst hi;rcases h.dead with⟨st,sm,h0⟩|e
    . obtain⟨st',sm',h1⟩:=h.live ⟨st,sm,h0⟩;exact⟨_,_,_,h1⟩
    . rw[e];exact hr
  . rw[h.block b hi];exact hr
 refine⟨h.tape,?_,fun hR=>⟨fun b hb=>row b (hR _ hb),fun b hb=>row b (hR.KH _ hb)⟩⟩;have:(EF B w₁).heap=(EF B w).heap:=Array.ext_getElem? key;have e1:=h.tape;have e2:=h.os;have e3:=h.output;simp only[EF,sh]at this ⊢;rw[this];cases w₁
 cases w
 simp only at e1 e2 e3 ⊢;subst e1 e2 e3;rfl
end
def vK(Still:Nat->Loc->Prop)(Shun:Loc->Prop)(h n:Nat)(e:Event):Prop:=
 (∀b,(MemAct.ofEvent e).touch?=some b->(∀g,g≠h->Still g b.loc->b.write=false)/\(Shun b.loc->b.kind≠.plain))/\e.loc≠.mark .disable/\e.loc≠.mark .enable/\(MemAct.ofEvent e).low n
structure vO(K:Nat->World->Prop)(Still:Nat->Loc->Prop)(Shun:Loc->Prop)(Ch:Nat->Prop)(Wg h:Nat)(w w':World)(es:Array Event):Prop where
 keep:∀i,i≠h->K i w->K i w'
 chan:∀c k,Ch c->w.heap[c]?=some (.chan 0 #[] false k k false)->w'.heap[c]?=some (.chan 0 #[] false k k false)
 wg:w'.heap[Wg]?=w.heap[Wg]?
 size:w.heap.size<=w'.heap.size
 evs:∀e∈es,vK Still Shun h w'.heap.size e
def Same(r r':Nat->Fv):Prop:=∀i,(∀st n,r i=.seat st n->∃n',r' i=.seat st n')/\(∀s m d,r i=.fin s m d->∃s' m' d',r' i=.fin s' m' d')
theorem Same.refl(r:Nat->Fv):Same r r:=fun i=>⟨fun st n h=>⟨n,h⟩,fun s m d h=>⟨s,m,d,h⟩⟩
theorem Same.trans{r r' r'':Nat->Fv}(h:Same r r')(h':Same r' r''):Same r r'':=fun i=>
 ⟨fun st n e=>let⟨n',e'⟩:=(h i).1 st n e;(h' i).1 st n' e',fun s m d e=>let⟨s',m',d',e'⟩:=(h i).2 s m d e;(h' i).2 s' m' d' e'⟩
theorem Same.back{r r':Nat->Fv}(h:Same r r'){i:Nat}{st:Seat}{n:Nat}(e:r' i=.seat st n):∃n',r i=.seat st n':=by
 cases hr:r i with
 | fin s m d=>obtain⟨s',m',d',e'⟩:=(h i).2 s m d hr;rw[e]at e';cases e'
 | seat st' n'=>obtain⟨n'',e'⟩:=(h i).1 st' n' hr;rw[e]at e';cases e';exact⟨n',rfl⟩
theorem Same.upd{r:Nat->Fv}{i:Nat}{r':Fv}(h1:∀st n,r i=.seat st n->∃n',r'=.seat st n')(h2:∀s m d,r i=.fin s m d->∃s' m' d',r'=.fin s' m' d'):Same r (upd r i r'):=fun x=>by
 by_cases e:x=i
 . subst e;rw[upd_same];exact⟨h1,h2⟩
 . rw[upd_ne r _ e];exact Same.refl r x
def MB(h:Nat)(r:Nat->Fv)(l l':Nat->Nat):Prop:=∀x,(x=h\/∃st n,r x=.seat st n)->l' x=l x
theorem MB.refl(h:Nat)(r:Nat->Fv)(l:Nat->Nat):MB h r l l:=fun _ _=>rfl
theorem MB.trans{h:Nat}{r r':Nat->Fv}{l l' l'':Nat->Nat}(a:MB h r l l')(s:Same r r')(b:MB h r' l' l''):MB h r l l'':=fun x hx=>
 (b x (hx.imp id fun⟨st,n,e⟩=>let⟨n',e'⟩:=(s x).1 st n e;⟨st,n',e'⟩)).trans (a x hx)
section
variable {P:Program}{ty:TypeId}{Wg:Nat}{K:Nat->World->Prop}{Still:Nat->Loc->Prop}{Bd:Nat->Nat}{Shun:Loc->Prop}{Quiet Sp Mem Loose:Nat->Prop}{Kf:Trace->Nat->Prop}{role:Nat->Fv}{live:Nat->Nat}{ex h:Nat}{T:Trace}{gs:Array Goroutine}{w:World}
theorem Ol.at(E:Env Wg K Still Shun)(C:Ol P ty Wg K Still Bd Shun Quiet Sp Mem Loose Kf role live ex T gs w)(d:Nat):Ol P ty Wg K Still Bd Shun Quiet Sp Mem Loose Kf role live ex T gs (w.at d):=
 ⟨fun i g s m dd hs hg hr=>let⟨a,b,c⟩:=C.Ie i g s m dd hs hg hr;⟨a,b.rely (Mw ty Wg ⟨_,_,C.wg⟩ ⟨_,_,C.wg⟩),c⟩,C.seats,C.seat,C.own,C.above,C.past,fun i st n e=>E.kat _ _ _ (C.keep i st n e),C.wg,C.few,C.one⟩
structure Held(P:Program)(ty:TypeId)(Wg:Nat)(K:Nat->World->Prop)(Still:Nat->Loc->Prop)(Bd:Nat->Nat)(Shun:Loc->Prop)(Quiet Mem Loose:Nat->Prop)(h:Nat)(role:Nat->Fv)(live:Nat->Nat)(ex:Nat)(T:Trace)(gs:Array Goroutine)(w:World):Prop where
 KS:Ol P ty Wg K Still Bd Shun Quiet (fun x=>x=h) Mem Loose (fun T=>Knows T h) role live ex T gs w
 M4:∀st n,role h≠.seat st n
 tight:¬ Loose h
theorem Ol.awake(C:Ol P ty Wg K Still Bd Shun Quiet Sp Mem Loose Kf role live ex T gs w)(hS:∀x g,Sp x->gs[x]?=some g->g.status=.running\/g.status=.blocked):∀g∈gs,awake g:=by
 intro g hg;obtain⟨i,hi,rfl⟩:=Array.mem_iff_getElem.1 hg;have hgi:gs[i]?=some gs[i]:=Array.getElem?_eq_getElem hi;by_cases hsp:Sp i
 . exact awake_of ((hS i _ hsp hgi).imp id .inl)
 . cases e:role i with
   | fin s m d=>exact awake_of ((C.Ie i _ s m d hsp hgi e).2.1.status.imp id .inr)
   | seat st n=>exact awake_of ((Sits.status (C.keep i st n e) (C.seats i _ st n hsp hgi e).1).elim (fun x=>.inl x.1) fun x=>.inr (.inl x.1))
theorem picked(E:Env Wg K Still Shun){a:Goroutine}(hrun:a.status=.running):∀(m1 m2:Nat) {role:Nat->Fv} {live:Nat->Nat} {T:Trace} {gs:Array Goroutine} {w:World} {sl:Option (Nat × Nat)},M1 gs.size role=m1->M2 gs.size role=m2->
   gs[h]?=some a->Held P ty Wg K Still Bd Shun Quiet Mem Loose h role live ex T gs w->
   ∃N gs' w' d sl' sl'' T' FK Gc,runNT P N (crowd gs w sl) T=(.next (crowd gs' w' sl'),T')/\stepT P (crowd gs' w' sl')=runT P (crowd gs' (w'.at d) sl'') h/\gs'.size=gs.size/\gs'[h]?=some a/\
     Held P ty Wg K Still Bd Shun Quiet Mem Loose h FK Gc ex T' gs' (w'.at d)/\G9 ty Wg w (w'.at d)/\Same role FK/\MB h role live Gc/\Deaf T' h=Deaf T h/\∀x,Gc x<=live x:=by
 intro m1;induction m1 using Nat.strongRecOn with
 | _ m1 ih1=>
 intro m2;induction m2 using Nat.strongRecOn with
 | _ m2 ih2=>
 intro role live T gs w sl hm1 hm2 ha H;have hsa:∀x gx,x=h->gs[x]?=some gx->gx=a:=fun x gx hx hg=>by subst hx;rw[ha]at hg;exact(Option.some.inj hg).symm
 obtain⟨i,g,d,sl',hi,hg,hst⟩:=crowd_pick (P:=P) (w:=w) (sl:=sl) (H.KS.awake fun x gx hx hg=>by rw[hsa x gx hx hg];exact .inl hrun) ⟨h,a,ha,hrun⟩;have Cd:=H.KS.at E d;by_cases e:i=h
 . subst e;exact⟨0,gs,w,d,sl,sl',T,role,live,rfl,hst,rfl,ha,⟨Cd,H.M4,H.tight⟩,.at w d,.refl role,.refl _ role live,rfl,fun _=>Nat.le_refl _⟩
 . obtain⟨gs',w',ops,r',J2,hrt,hsz,hsp,hw,hog,C',hlt,k1,k2,k3⟩:=Cd.by_step (sl:=sl') E (fun t u i=>Knows.app u) hi e hg
     (fun x gx w' hx hgx _=>by rw[hsa x gx hx hgx];exact again_of_running (.inl hrun) _)
     (fun st n g₂ _ _ x gx c hx hgx _=>by rw[hsa x gx hx hgx];exact offersAt_of_not_blocked (by rw[hrun];simp) _ _)
   have H':Held P ty Wg K Still Bd Shun Quiet Mem Loose h (upd role i r') (upd live i J2) ex (T++ops) gs' w':=⟨C',fun st n hh=>H.M4 st n (by rw[upd_ne role _ (fun z=>e z.symm)]at hh;exact hh),H.tight⟩
   have hr1:G9 ty Wg w w':=(G9.at w d).trans (G9.Uv hw ⟨_,_,C'.wg⟩ ⟨_,_,Cd.wg⟩);have key:∃N GN w₂ d₂ sl₂ sl₃ T₂ JX Ju,runNT P N (crowd gs' w' sl') (T++ops)=(.next (crowd GN w₂ sl₂),T₂)/\stepT P (crowd GN w₂ sl₂)=runT P (crowd GN (w₂.at d₂) sl₃) h/\GN.size=gs'.size/\GN[h]?=some a/\
       Held P ty Wg K Still Bd Shun Quiet Mem Loose h JX Ju ex T₂ GN (w₂.at d₂)/\G9 ty Wg w' (w₂.at d₂)/\Same (upd role i r') JX/\MB h (upd role i r') (upd live i J2) Ju/\Deaf T₂ h=Deaf (T++ops) h/\∀x,Ju x<=upd live i J2 x:=by
     have ha':gs'[h]?=some a:=by rw[hsp h rfl];exact ha
     rcases hlt with hl|⟨hl1,hl2⟩
     . exact ih1 (M1 gs'.size (upd role i r')) (by rw[hsz,← hm1];exact hl) _ rfl rfl ha' H'
     . exact ih2 (M2 gs'.size (upd role i r')) (by rw[hsz,← hm2];exact hl2) (by rw[hsz,hl1,hm1]) rfl ha' H'
   obtain⟨N,GN,w₂,d₂,sl₂,sl₃,T₂,JX,Ju,q1,q2,q3,q4,q5,q6,q7,q8,q9,q10⟩:=key;refine⟨N+1,GN,w₂,d₂,sl₂,sl₃,T₂,JX,Ju,by simp only[runNT,hst,hrt];exact q1,q2,q3.trans hsz,q4,q5,hr1.trans q6,(Same.upd (fun st n e=>let⟨n',x,_⟩:=(k1 st n e).1;⟨n',x⟩) k2).trans q7,fun x hx=>?_,q9.trans (Deaf_other T (fun z=>e z) ops hog),fun x=>Nat.le_trans (q10 x) ?_⟩
   rotate_left
   . by_cases hxi:x=i
     . subst hxi;rw[upd_same];exact k3
     . rw[upd_ne live _ hxi];exact Nat.le_refl _
   by_cases hxi:x=i
   . subst hxi;rcases hx with hx|⟨st,n,hx⟩
     . exact absurd hx e
     . obtain⟨⟨n',hr',_⟩,hlv⟩:=k1 st n hx;rw[q8 x (.inr ⟨st,n',by rw[upd_same];exact hr'⟩),upd_same,hlv]
   . rw[q8 x (hx.imp id fun⟨st,n,hh⟩=>⟨st,n,by rw[upd_ne role _ hxi];exact hh⟩),upd_ne live _ hxi]
theorem Lb{n:Nat}{fn:FuncId}{pos:String}{es:Array Event}(he:∀e∈es,vK Still Shun h n e) :
  (∀op∈MemOp.ofEvents h fn pos es,op.g=h)/\(∀op∈MemOp.ofEvents h fn pos es,∀b,op.act.touch?=some b->(∀g,g≠h->Still g b.loc->b.write=false)/\(Shun b.loc->b.kind≠.plain))/\(∀op∈MemOp.ofEvents h fn pos es,op.act.low n)/\
   ∀t:Trace,Deaf (t++MemOp.ofEvents h fn pos es) h=Deaf t h:=by
 refine⟨fun op hop=>by obtain⟨e,_,rfl⟩:=Conc.mem_ofEvents hop;rfl,fun op hop b hb=>by obtain⟨e,h',rfl⟩:=Conc.mem_ofEvents hop;exact(he e h').1 b hb,fun op hop=>by obtain⟨e,h',rfl⟩:=Conc.mem_ofEvents hop;exact(he e h').2.2.2,fun t=>?_⟩;rw[Deaf_own];exact deafBehind_still (fun e h'=>⟨(he e h').2.1,(he e h').2.2.1⟩) _
theorem Held.own(H:Held P ty Wg K Still Bd Shun Quiet Mem Loose h role live ex T gs w){Ch:Nat->Prop}(hCh:∀i st n c,role i=.seat st n->st.has c->Ch c){a a':Goroutine}{w':World}{es:Array Event}{fn:FuncId}{pos:String}(ha:gs[h]?=some a)(hd:vO K Still Shun Ch Wg h w w' es) :
   Held P ty Wg K Still Bd Shun Quiet Mem Loose h role live ex (T++MemOp.ofEvents h fn pos es) ((gs.map (woken P a a' w')).setIfInBounds h a') w'/\((gs.map (woken P a a' w')).setIfInBounds h a')[h]?=some a':=by
 have hlt:h<gs.size:=(zGE ha).1;obtain⟨hops,hr,hl,hdf⟩:=Lb (h:=h) (fn:=fn) (pos:=pos) hd.evs;have C:=H.KS;have hch:∀i st n c,role i=.seat st n->st.has c->∃k,w'.heap[c]?=some (.chan 0 #[] false k k false):=fun i st n c e hc=>by obtain⟨k,hk⟩:=(C.seat i st n e).2.2.2.2 c hc;exact⟨k,hd.chan c k (hCh i st n c e hc) hk⟩
 have hwg':WgAt ty Wg w' ((sumTo gs.size live+ex:Nat)*KK) 0:=by have:=C.wg;unfold WgAt at this ⊢;rw[hd.wg];exact this
 have hrx:=Mw ty Wg ⟨_,_,C.wg⟩ ⟨_,_,hwg'⟩;have hget:∀x,x≠h->((gs.map (woken P a a' w')).setIfInBounds h a')[x]?=gs[x]?:=by
   intro x hx;rw[Array.getElem?_setIfInBounds_ne (fun e=>hx e.symm),Array.getElem?_map];cases e:gs[x]? with
   | none=>rfl
   | some y=>
    have:y.again w'=y:=by
     cases er:role x with
     | fin s m d=>exact again_of_running (C.Ie x y s m d hx e er).2.1.status w'
     | seat st n=>
      obtain⟨hS,_⟩:=C.seats x y st n hx e er;exact Sits.again (hd.keep x hx (C.keep x st n er)) hS (C.seat x st n er).2.1 fun c hc=>by obtain⟨k,hk⟩:=hch x st n c er hc;exact⟨_,_,_,_,_,hk⟩
    simp[woken_of_again this]
 have hD:∀x,x≠h->Deaf (T++MemOp.ofEvents h fn pos es) x=Deaf T x:=fun x hx=>Deaf_other T (fun z=>hx z.symm) _ hops;refine⟨⟨⟨fun i g s m d hi hg e=>?_,fun i g st n hi hg e=>?_,fun i st n e=>?_,C.own,fun j hj=>?_,(C.past.mono hd.size).hold H.tight hops hr (fun _=>hdf T) hl,fun i st n e=>hd.keep i (fun z=>H.M4 st n (z ▸ e)) (C.keep i st n e),by simpa using hwg',by simpa using C.few,C.one⟩,H.M4,H.tight⟩,Array.getElem?_setIfInBounds_self_of_lt (by simpa using hlt)⟩
 . rw[hget i hi]at hg;obtain⟨h1,h2,h3,h4⟩:=C.Ie i g s m d hi hg e;exact⟨h1,h2.rely hrx,by rw[hD i hi];exact h3,h4⟩
 . rw[hget i hi]at hg;exact C.seats i g st n hi hg e
 . obtain⟨h1,h2,h3,h4,_⟩:=C.seat i st n e;exact⟨by simpa using h1,h2,h3,Nat.le_trans h4 hd.size,fun c hc=>hch i st n c e hc⟩
 . have hj':gs.size<=j:=by simpa using hj
   rw[hD j zOM];exact C.above j hj'
theorem U6(E:Env Wg K Still Shun){Ch:Nat->Prop}{D:World->World->Array Event->Prop}{Stop:Goroutine->World->Prop}(hD:∀w w' es,D w w' es->vO K Still Shun Ch Wg h w w' es){a:Goroutine}{w:World}(hW:LT.Way P (h==0) (G9 ty Wg) D Stop a w) :
  ∀{role:Nat->Fv} {live:Nat->Nat} {T:Trace} {gs:Array Goroutine} {sl:Option (Nat × Nat)},gs[h]?=some a->Held P ty Wg K Still Bd Shun Quiet Mem Loose h role live ex T gs w->(∀i st n c,role i=.seat st n->st.has c->Ch c)->
  ∃N gs' a' w' sl' T' FK Gc,runNT P N (crowd gs w sl) T=(.next (crowd gs' w' sl'),T')/\gs'.size=gs.size/\gs'[h]?=some a'/\Stop a' w'/\Held P ty Wg K Still Bd Shun Quiet Mem Loose h FK Gc ex T' gs' w'/\Same role FK/\MB h role live Gc/\Deaf T' h=Deaf T h/\∀x,Gc x<=live x:=by
 induction hW with
 | @stop g w hs=>
  intro role live T gs sl ha H hCh;exact⟨0,gs,_,w,sl,T,role,live,rfl,rfl,ha,hs w (.refl w),H,.refl role,.refl h role live,rfl,fun _=>Nat.le_refl _⟩
 | @step g w hrun hstep hk ih=>
  intro role live T gs sl ha H hCh;obtain⟨N,gs₁,w₁,d,sl₁,sl₂,T₁,Fj,FQ,p1,p2,p3,p4,p5,p6,p7,p8,p9,uK⟩:=picked (sl:=sl) E hrun _ _ rfl rfl ha H;obtain⟨g',w',es,hst,hd⟩:=hstep _ p6;have gQ:∀i st n c,Fj i=.seat st n->st.has c->Ch c:=fun i st n c e hc=>by obtain⟨n',e'⟩:=p7.back e;exact hCh i st n' c e' hc
  have hrt:=runT_crowd_go (P:=P) (sl:=sl₂) p4 hst;obtain⟨H',ha'⟩:=p5.own (fn:=g.frame.fn) (pos:=g.frame.place) (a':=g') gQ p4 (hD _ _ _ hd);obtain⟨N₂,GN,a₂,w₂,sl₃,T₂,JX,Ju,q1,q2,q3,q4,q5,q6,q7,q8,q9⟩:=ih _ _ _ _ p6 hst (sl:=sl₂) ha' H' gQ;refine⟨N+(N₂+1),GN,a₂,w₂,sl₃,T₂,JX,Ju,runNT_then p1 (by simp only[runNT,p2,hrt];exact q1),?_,q3,q4,q5,p7.trans q6,p8.trans p7 q7,q8.trans (((Lb (h:=h) (fn:=g.frame.fn) (pos:=g.frame.place) (hD _ _ _ hd).evs).2.2.2 T₁).trans p9),fun x=>Nat.le_trans (q9 x) (uK x)⟩;rw[q2];simpa using p3
end
end
section
theorem LU{cs:Array CommCase}{g:Goroutine}{sh:CommShape}{c k:Nat}{v z:Value}(hk:cs[k]?=some (scase c v z))(ho:∀(m:Nat) (cc:CommCase),m≠k->cs[m]?=some cc->cc.send=none):offersAt (parked g cs sh) c true=[k]:=by
 have hz:∀m:Nat,cs.zipIdx.toList[m]?=(cs[m]?).map fun x=>(x,m):=by intro m;simp
 unfold offersAt parked;simp only[];refine congrArg (List.map fun x:CommCase × Nat=>x.2) (a₂:=[(scase c v z,k)]) ?_;rw[← List.map_id' cs.zipIdx.toList];refine filter_map_one (fun x=>x) _ cs.zipIdx.toList k (scase c v z,k) (by rw[hz,hk];rfl) (by simp[scase]) (fun m x hm hx=>?_);rw[hz]at hx;cases e:cs[m]? with
 | none=>rw[e]at hx;cases hx
 | some y=>
  rw[e]at hx;simp only[Option.map_some,Option.some.injEq]at hx;subst hx;simp[ho m y hm e]
theorem I7{cs:Array CommCase}{g:Goroutine}{sh:CommShape}{c c' k:Nat}{v z:Value}(hk:cs[k]?=some (scase c v z))(ho:∀(m:Nat) (cc:CommCase),m≠k->cs[m]?=some cc->cc.send=none)(hne:c'≠c):offersAt (parked g cs sh) c' true=[]:=by
 unfold offersAt parked;simp only[List.map_eq_nil_iff,List.filter_eq_nil_iff];rintro⟨cc,m⟩ hm;have hm':=mem_of_zipIdx hm;by_cases e:m=k
 . subst e;rw[hk]at hm';obtain rfl:=Option.some.inj hm';simp[scase,Ne.symm hne]
 . simp[ho m cc e hm']
theorem WU{cs:Array CommCase}{g:Goroutine}{sh:CommShape}{w:World}(h:∀cc∈cs,∃c cap buf s r tm,cc.chan=.chan (some c)/\w.heap[c]?=some (.chan cap buf false s r tm)):(parked g cs sh).again w=parked g cs sh:=by unfold Goroutine.again parked;simp only[];rw[if_neg];rw[Bool.not_eq_true,Array.any_eq_false];intro i hi;obtain⟨c,cap,buf,s,r,tm,e,hc⟩:=h cs[i] (Array.getElem_mem hi);simp[e,hc]
section
variable {P:Program}{ty:TypeId}{Wg:Nat}{K:Nat->World->Prop}{Still:Nat->Loc->Prop}{Bd:Nat->Nat}{Shun:Loc->Prop}{Quiet Sp Mem Loose:Nat->Prop}{Kf:Trace->Nat->Prop}{role:Nat->Fv}{live:Nat->Nat}{ex h j:Nat}{T:Trace}{gs:Array Goroutine}{w:World}
theorem Ol.note(C:Ol P ty Wg K Still Bd Shun Quiet Sp Mem Loose Kf role live ex T gs w){i:Nat}{ops:Trace}(hops:∀op∈ops,op.g=i)(hd:Deaf (T++ops) i=Deaf T i)(hlt:i<gs.size)(hp:Gr Still Shun Mem Loose w.heap.size (Kf (T++ops)) (T++ops)) :
  Ol P ty Wg K Still Bd Shun Quiet Sp Mem Loose Kf role live ex (T++ops) gs w:=by
 have hD:∀x,Deaf (T++ops) x=Deaf T x:=fun x=>by
  by_cases e:x=i
  . subst e;exact hd
  . exact Deaf_other T (fun z=>e z.symm) _ hops
 exact⟨fun i g s m d a b c=>by rw[hD];exact C.Ie i g s m d a b c,C.seats,C.seat,C.own,fun j hj=>by rw[hD];exact C.above j hj,hp,C.keep,C.wg,C.few,C.one⟩
structure After(P:Program)(ty:TypeId)(Wg:Nat)(K:Nat->World->Prop)(Still:Nat->Loc->Prop)(Bd:Nat->Nat)(Quiet Mem' Loose':Nat->Prop)(role:Nat->Fv)(live:Nat->Nat)(h c:Nat)(w:World)(a':Goroutine)(rh:Fv):Prop where
 fin:∀s m d,rh=.fin s m d->0<h/\(∀w',WgLive ty Wg w'->Fs P ty Wg s m d a' w')/\d=0/\¬ Mem' h/\live h=cn s/\(s=7\/s=6\/s=5\/s=1)
 seat:∀st n,rh=.seat st n->Sits P (h==0) (K h) (Still h) (Bd h) st n a'/\Loose' h/\st.Wf/\Mem' h/\Bd h<=w.heap.size/\(∀c',st.has c'->c'≠c/\∃k,w.heap[c']?=some (.chan 0 #[] false k k false))/\
  (∀i st' n' c',i≠h->role i=.seat st' n'->st.has c'->st'.has c'->Quiet c')/\K h w
theorem Ol.pass(hKc:∀i w c k,w.heap[c]?=some (.chan 0 #[] false k k false)->K i w->K i (w.setChan c 0 #[] false (k+1) (k+1) false))(C:Ol P ty Wg K Still Bd Shun Quiet (fun x=>x=h) Mem Loose (fun T=>Knows T h) role live ex T gs w)(hMh:Mem h)(PD:h<gs.size){c k n:Nat}{st:Seat}(hjh:j≠h)(hj:role j=.seat st n)(hsc:st.has c)(jC:¬ Quiet c)(hc:w.heap[c]?=some (.chan 0 #[] false k k false)){Mem' Loose':Nat->Prop}(hM1:∀g,Mem' g->Mem g)(hM2:∀g,Mem g->g≠h->Mem' g)(hL:∀g,Loose g->g≠j->Loose' g)(xA:¬ Loose' j){a':Goroutine}{rh:Fv}(hA:After P ty Wg K Still Bd Quiet Mem' Loose' role live h c w a' rh){gs':Array Goroutine}(hsz:gs'.size=gs.size)(hother:∀x,x≠h->x≠j->gs'[x]?=gs[x]?)(hgh:gs'[h]?=some a')(fh:FuncId)(ph:String)(fj:FuncId)(pj:String) :
   Held P ty Wg K Still Bd Shun Quiet Mem' Loose' j (upd (upd role j (.fin 0 0 0)) h rh) live ex (T++met h j fh ph fj pj c k 0) gs' (w.setChan c 0 #[] false (k+1) (k+1) false):=by
 have hD:∀x,Deaf (T++met h j fh ph fj pj c k 0) x=Deaf T x:=fun x=>Deaf_quiet (met_quiet _ _ _ _ _ _ _ _ _ x);obtain⟨hjlt,Alv,hMj,hBj,Am0⟩:=C.seat j st n hj;have hcB:c<w.heap.size:=(zGE hc).1;have hcW:c≠Wg:=by rintro rfl;have:=C.wg;unfold WgAt wgBlock at this;rw[this]at hc;cases hc
 have hwg:WgAt ty Wg (w.setChan c 0 #[] false (k+1) (k+1) false) ((sumTo gs.size live+ex:Nat)*KK) 0:=by have:=C.wg;unfold WgAt at this ⊢;rw[heap_setChan_ne _ _ _ _ _ _ _ hcW];exact this
 have hlive:WgLive ty Wg (w.setChan c 0 #[] false (k+1) (k+1) false):=⟨_,_,hwg⟩
 have hrx:=Mw ty Wg ⟨_,_,C.wg⟩ hlive;have hsize:(w.setChan c 0 #[] false (k+1) (k+1) false).heap.size=w.heap.size:=by simp[World.setChan]
 have FK:∀{x:Nat} {st':Seat} {n':Nat},upd (upd role j (.fin 0 0 0)) h rh x=.seat st' n'->(x=h/\rh=.seat st' n')\/(x≠h/\x≠j/\role x=.seat st' n'):=fun{x st' n'} e=>by
   by_cases e1:x=h
   . subst e1;rw[upd_same]at e;exact .inl ⟨rfl,e⟩
   . rw[upd_ne _ _ e1]at e;by_cases e2:x=j
     . subst e2;rw[upd_same]at e;cases e
     . rw[upd_ne _ _ e2]at e;exact .inr ⟨e1,e2,e⟩
 have pg:=C.past.give hMh hMj fh ph fj pj k 0 hcB;refine⟨⟨fun i g s m d hi hg e=>?_,fun i g st' n' hi hg e=>?_,fun i st' n' e=>?_,fun i i' s1 s2 n1 n2 c' e1 e2 h1 h2=>?_,fun x hx=>?_,?_,fun i st' n' e=>?_,by rw[hsz];exact hwg,by rw[hsz];exact C.few,C.one⟩,fun st' n' e=>?_,xA⟩
 . by_cases e1:i=h
   . subst e1;rw[upd_same]at e;rw[hgh]at hg;obtain rfl:=Option.some.inj hg;obtain⟨a1,a2,a3,a4,a5,a6⟩:=hA.fin s m d e;exact⟨a1,a2 _ hlive,by rw[hD,a3];exact C.past.hears i hMh,a4,a5,a6⟩
   . rw[upd_ne _ _ e1,upd_ne _ _ hi]at e;rw[hother i e1 hi]at hg;obtain⟨a1,a2,a3,a4,a5,a6⟩:=C.Ie i g s m d e1 hg e;exact⟨a1,a2.rely hrx,by rw[hD];exact a3,fun h=>a4 (hM1 _ h),a5,a6⟩
 . rcases FK e with⟨rfl,e0⟩ | ⟨e1,e2,e⟩
   . rw[hgh]at hg;obtain rfl:=Option.some.inj hg;obtain⟨a1,a2,_⟩:=hA.seat st' n' e0;exact⟨a1,a2⟩
   . rw[hother i e1 e2]at hg;obtain⟨a1,a2⟩:=C.seats i g st' n' e1 hg e;exact⟨a1,hL i a2 e2⟩
 . rcases FK e with⟨rfl,e0⟩ | ⟨e1,e2,e⟩
   . obtain⟨_,_,a3,a4,a5,a6,_⟩:=hA.seat st' n' e0;refine⟨by rw[hsz];exact PD,a3,a4,by rw[hsize];exact a5,fun c' hc'=>?_⟩;obtain⟨b1,k',b2⟩:=a6 c' hc';exact⟨k',by rw[heap_setChan_ne _ _ _ _ _ _ _ (Ne.symm b1)];exact b2⟩
   . obtain⟨a1,a2,a3,a4,a5⟩:=C.seat i st' n' e;refine⟨by rw[hsz];exact a1,a2,hM2 i a3 e1,by rw[hsize];exact a4,fun c' hc'=>?_⟩;obtain⟨k',b2⟩:=a5 c' hc';have hne:c≠c':=by
       rintro rfl;rcases C.own i j st' st n' n c e hj hc' hsc with z|z
       . exact e2 z
       . exact jC z
     exact⟨k',by rw[heap_setChan_ne _ _ _ _ _ _ _ hne];exact b2⟩
 . rcases FK e1 with⟨x0,e3⟩ | ⟨x1,x2,e3⟩<;>rcases FK e2 with⟨y0,e4⟩ | ⟨y1,y2,e4⟩
   . exact .inl (x0.trans y0.symm)
   . obtain⟨_,_,_,_,_,_,a7⟩:=hA.seat s1 n1 e3;exact .inr (a7.1 i' s2 n2 c' y1 e4 h1 h2)
   . obtain⟨_,_,_,_,_,_,a7⟩:=hA.seat s2 n2 e4;exact .inr (a7.1 i s1 n1 c' x1 e3 h2 h1)
   . exact C.own i i' s1 s2 n1 n2 c' e3 e4 h1 h2
 . rw[hD];exact C.above x zOM
 . rw[hsize];exact(pg.fewer hM1).loosen fun g ⟨hg,hgj⟩=>hL g hg hgj
 . rcases FK e with⟨rfl,e0⟩ | ⟨e1,e2,e⟩
   . exact hKc _ _ _ _ hc (hA.seat st' n' e0).2.2.2.2.2.2.2
   . exact hKc _ _ _ _ hc (C.keep i st' n' e)
 . rcases FK e with⟨rfl,_⟩ | ⟨_,e2,_⟩
   . exact hjh rfl
   . exact e2 rfl
structure Kj(cases:Array CommCase)(k c:Nat)(v:Value)(w:World):Prop where
 send:∃z,cases[k]?=some (scase c v z)
 recv:∀(m:Nat) (cc:CommCase),m≠k->cases[m]?=some cc->∃q z kq,cc=rcase q z/\w.heap[q]?=some (.chan 0 #[] false kq kq false)
theorem MU{w w':World}(h:G9 ty Wg w w')(hl:WgLive ty Wg w){c k:Nat}(hc:w.heap[c]?=some (.chan 0 #[] false k k false)):w'.heap[c]?=some (.chan 0 #[] false k k false):=by
 have:c≠Wg:=by rintro rfl;obtain⟨st,sm,h⟩:=hl;unfold WgAt wgBlock at h;rw[h]at hc;cases hc
 rw[h.block _ this];exact hc
theorem Kj.keep{cases:Array CommCase}{k c:Nat}{v:Value}{w w':World}(h:Kj cases k c v w)(hr:G9 ty Wg w w')(hl:WgLive ty Wg w):Kj cases k c v w':=
 ⟨h.send,fun m cc hm hc=>let⟨q,z,kq,e,hq⟩:=h.recv m cc hm hc;⟨q,z,kq,e,MU hr hl hq⟩⟩
theorem Kj.recvs{cases:Array CommCase}{k c:Nat}{v:Value}{w:World}(h:Kj cases k c v w):∀(m:Nat) (cc:CommCase),m≠k->cases[m]?=some cc->cc.send=none:=fun m cc hm hc=>by obtain⟨q,z,kq,rfl,_⟩:=h.recv m cc hm hc;rfl
theorem Kj.open{cases:Array CommCase}{k c kc:Nat}{v:Value}{w:World}(h:Kj cases k c v w)(hc:w.heap[c]?=some (.chan 0 #[] false kc kc false)):∀cc∈cases,∃c cap buf s r tm,cc.chan=.chan (some c)/\w.heap[c]?=some (.chan cap buf false s r tm):=by
 intro cc hcc;obtain⟨m,hm,e⟩:=Array.mem_iff_getElem.1 hcc;have hm':cases[m]?=some cc:=by rw[← e];exact Array.getElem?_eq_getElem hm
 by_cases hmk:m=k
 . subst hmk;obtain⟨z,hz⟩:=h.send;rw[hz]at hm';obtain rfl:=Option.some.inj hm';exact⟨c,_,_,_,_,_,rfl,hc⟩
 . obtain⟨q,z,kq,rfl,hq⟩:=h.recv m cc hmk hm';exact⟨q,_,_,_,_,_,rfl,hq⟩
theorem After.keep(E:Env Wg K Still Shun){Mem' Loose':Nat->Prop}{c:Nat}{a':Goroutine}{rh:Fv}{w':World}{FK:Nat->Fv}{Gc:Nat->Nat}(hA:After P ty Wg K Still Bd Quiet Mem' Loose' role live h c w a' rh)(hS:Same role FK)(hl:Gc h=live h)(hr:G9 ty Wg w w')(hw:WgLive ty Wg w) :
   After P ty Wg K Still Bd Quiet Mem' Loose' FK Gc h c w' a' rh:=by
 refine⟨fun s m d e=>?_,fun st n e=>?_⟩
 . obtain⟨a1,a2,a3,a4,a5,a6⟩:=hA.fin s m d e;exact⟨a1,a2,a3,a4,hl.trans a5,a6⟩
 . obtain⟨a1,a2,a3,a4,a5,a6,a7⟩:=hA.seat st n e;refine⟨a1,a2,a3,a4,by rw[hr.size];exact a5,fun c' hc'=>?_,fun i st' n' c' hi e' h1 h2=>?_,E.blk _ _ _ hr.block a7.2⟩
   . obtain⟨b1,k',b2⟩:=a6 c' hc';exact⟨b1,k',MU hr hw b2⟩
   . obtain⟨n'',e''⟩:=hS.back e';exact a7.1 i st' n'' c' hi e'' h1 h2
structure xD(ty:TypeId)(Wg c:Nat)(w w':World):Prop where
 tape:w'.tape=w.tape
 os:w'.os=w.os
 output:w'.output=w.output
 size:w'.heap.size=w.heap.size
 block:∀b,b≠Wg->b≠c->w'.heap[b]?=w.heap[b]?
 chan:∃k,w.heap[c]?=some (.chan 0 #[] false k k false)/\w'.heap[c]?=some (.chan 0 #[] false (k+1) (k+1) false)
 live:WgLive ty Wg w'
theorem xD.of{w w₁:World}(hr:G9 ty Wg w w₁)(hl:WgLive ty Wg w){c k:Nat}(hc:w.heap[c]?=some (.chan 0 #[] false k k false)):xD ty Wg c w (w₁.setChan c 0 #[] false (k+1) (k+1) false):=by
 have hcW:c≠Wg:=by rintro rfl;obtain⟨st,sm,h⟩:=hl;unfold WgAt wgBlock at h;rw[h]at hc;cases hc
 have hc1:=MU hr hl hc;obtain⟨st,sm,hl1⟩:=hr.live hl;refine⟨hr.tape,hr.os,hr.output,by rw[← hr.size];simp[World.setChan],fun b hb hbc=>?_,⟨k,hc,heap_setChan_self _ hc1 _ _ _ _ _ _⟩,⟨st,sm,?_⟩⟩
 . rw[heap_setChan_ne _ _ _ _ _ _ _ (Ne.symm hbc)];exact hr.block b hb
 . unfold WgAt at hl1 ⊢;rw[heap_setChan_ne _ _ _ _ _ _ _ hcW];exact hl1
theorem Ol.setH(C:Ol P ty Wg K Still Bd Shun Quiet (fun x=>x=h) Mem Loose Kf role live ex T gs w)(y:Goroutine):Ol P ty Wg K Still Bd Shun Quiet (fun x=>x=h) Mem Loose Kf role live ex T (gs.setIfInBounds h y) w:=by have hget:∀x,x≠h->(gs.setIfInBounds h y)[x]?=gs[x]?:=fun x hx=>Array.getElem?_setIfInBounds_ne (fun e=>hx e.symm);exact⟨fun i g s m d hi hg e=>C.Ie i g s m d hi (by rw[← hget i hi];exact hg) e,fun i g st n hi hg e=>C.seats i g st n hi (by rw[← hget i hi];exact hg) e,fun i st n e=>by simpa using C.seat i st n e,C.own,fun j hj=>C.above j (by simpa using hj),C.past,C.keep,by simpa using C.wg,by simpa using C.few,C.one⟩
def Got(P:Program)(ty:TypeId)(Wg:Nat)(K:Nat->World->Prop)(Still:Nat->Loc->Prop)(Bd:Nat->Nat)(Shun:Loc->Prop)(Quiet Mem' Loose':Nat->Prop)(h j c:Nat)(st:Seat)(kk:Nat)(v:Value)(role:Nat->Fv)(live:Nat->Nat)(ex:Nat)(rh:Fv)(n:Nat)(w:World)(m:Machine)(T':Trace):Prop:=
 ∃gs' gj w' sl' FK Gc,m=crowd gs' w' sl'/\gs'.size=n/\gs'[j]?=some (gj.finishComm P st.cases st.shape kk v true)/\st.home gj/\Held P ty Wg K Still Bd Shun Quiet Mem' Loose' j FK Gc ex T' gs' w'/\xD ty Wg c w w'/\
  Same (upd (upd role j (.fin 0 0 0)) h rh) FK/\∀x,(x=h\/∃st n,role x=.seat st n)->Gc x=live x
theorem Ot(C:Ol P ty Wg K Still Bd Shun Quiet Sp Mem Loose Kf role live ex T gs w){c c' n n' i:Nat}{st st':Seat}(hj:role j=.seat st n)(hsc:st.has c)(jC:¬ Quiet c)(hi:role i=.seat st' n')(hc':st'.has c')(hij:i≠j):c'≠c:=by
 rintro rfl;rcases C.own i j st' st n' n c' hi hj hc' hsc with z|z
 . exact hij z
 . exact jC z
theorem flight(E:Env Wg K Still Shun)(hKc:∀i w c k,w.heap[c]?=some (.chan 0 #[] false k k false)->K i w->K i (w.setChan c 0 #[] false (k+1) (k+1) false)){Ru:Goroutine}{cases:Array CommCase}{shape:CommShape}{k c kk:Nat}{v zj:Value}{st:Seat}(hMh:Mem h)(hjh:j≠h)(hkk:st.cases[kk]?=some (rcase c zj))(jC:¬ Quiet c){Mem' Loose':Nat->Prop}(hM1:∀g,Mem' g->Mem g)(hM2:∀g,Mem g->g≠h->Mem' g)(hL:∀g,Loose g->g≠j->Loose' g)(xA:¬ Loose' j){rh:Fv}:∀(m1 m2:Nat) {role:Nat->Fv} {live:Nat->Nat} {T:Trace} {gs:Array Goroutine} {w:World} {sl:Option (Nat × Nat)},M1 gs.size role=m1->M2 gs.size role=m2->
   Ol P ty Wg K Still Bd Shun Quiet (fun x=>x=h) Mem Loose (fun T=>Knows T h) role live ex T gs w->gs[h]?=some (parked Ru cases shape)->Kj cases k c v w->(∃n,role j=.seat st (n+1))->
   After P ty Wg K Still Bd Quiet Mem' Loose' role live h c w (Ru.finishComm P cases shape k undef false) rh->
   ∃N m' T',runNT P N (crowd gs w sl) T=(.next m',T')/\Got P ty Wg K Still Bd Shun Quiet Mem' Loose' h j c st kk v role live ex rh gs.size w m' T':=by
 intro m1;induction m1 using Nat.strongRecOn with
 | _ m1 ih1=>
 intro m2;induction m2 using Nat.strongRecOn with
 | _ m2 ih2=>
 intro role live T gs w sl hm1 hm2 C hgh hO ⟨n,hj⟩ hA;obtain⟨hjlt,hwf,hMj,hBj,hch⟩:=C.seat j st _ hj;have hsc:st.has c:=⟨kk,zj,hkk⟩
 obtain⟨kc,hc⟩:=hch c hsc;have PD:h<gs.size:=(zGE hgh).1;obtain⟨gj,hgj⟩:∃gj,gs[j]?=some gj:=⟨gs[j],Array.getElem?_eq_getElem hjlt⟩
 have xX:gj.status=.running:=(Sits.status (C.keep j st _ hj) (C.seats j gj st _ hjh hgj hj).1).elim (·.1) (fun x=>by omega);have hsa:∀x gx,x=h->gs[x]?=some gx->gx=parked Ru cases shape:=fun x gx hx hg=>by subst hx;rw[hgh]at hg;exact(Option.some.inj hg).symm
 obtain⟨i,g,d,sl',hi,hg,hst⟩:=crowd_pick (P:=P) (w:=w) (sl:=sl) (C.awake fun x gx hx hg=>by rw[hsa x gx hx hg];exact .inr rfl) ⟨j,gj,hgj,xX⟩;have Cd:=C.at E d;have hlive:WgLive ty Wg w:=⟨_,_,C.wg⟩
 have hOd:Kj cases k c v (w.at d):=hO.keep (G9.at w d) hlive;have hih:i≠h:=by rintro rfl;rw[hsa i g rfl hi]at hg;cases hg
 obtain⟨zs,hzs⟩:=hO.send;by_cases hat:i=j/\∃g₂,AtIn P (i==0) (K i) (Still i) (Bd i) st g g₂
 . obtain⟨rfl,g₂,hat⟩:=hat;obtain⟨_,_,_,_,hhome,es,hes,hstp⟩:=id hat;obtain⟨hops,hr,hl,hd⟩:=NA (fn:=g.frame.fn) (pos:=g.frame.place) hBj E hes;have hno:∀(m:Nat) (c':CommCase),m≠kk->st.cases[m]?=some c'->NoWays (w.at d) (gs.setIfInBounds i ph) c':=by
     intro m c' hm hcm;obtain⟨c'',z,rfl⟩:=hwf.recvs c' (Array.mem_of_getElem? hcm);have Ahm:st.has c'':=⟨m,z,hcm⟩
     obtain⟨k'',hc''⟩:=hch c'' Ahm;have hne:c''≠c:=by rintro rfl;exact hm (hwf.apart m kk c'' z zj hcm hkk)
     refine ways_recv_none (show(w.at d).heap[c'']?=_ from hc'') (partners_nil fun x y hy=>?_);rcases getElem?_stand gs i x y hy with⟨_,rfl⟩|⟨hx,hy'⟩
     . exact offersAt_ph _ _
     . by_cases hxh:x=h
       . rw[hsa x y hxh hy'];exact I7 hzs hO.recvs hne
       . exact C.noSend hxh hy' _
   have hp:partners (gs.setIfInBounds i ph) c true=[(h,k)]:=by
     rw[partners_one (stand_get (Ne.symm hjh) hgh) fun x y hxh hy=>?_,LU hzs hO.recvs]
     . rfl
     . rcases getElem?_stand gs i x y hy with⟨_,rfl⟩ | ⟨hx,hy'⟩
       . exact offersAt_ph _ _
       . exact C.noSend hxh hy' _
   have hrt:=QK (sl:=sl') (P:=P) hi (hstp (w.at d) (Cd.keep i st _ hj)) hkk hno (show(w.at d).heap[c]?=_ from hc) (Ne.symm hjh) hgh hzs hp;have Cn:=Cd.note hops (hd T) hjlt (Cd.past.read (fun i=>Knows.app _) hMj (C.seats i g st _ hjh hi hj).2 hops hr (hd T) hl);have Hn:=Cn.pass (gs':=(gs.setIfInBounds h (Ru.finishComm P cases shape k undef false)).setIfInBounds i (g₂.finishComm P st.cases st.shape kk v true)) hKc hMh PD hjh hj hsc jC hc hM1 hM2 hL xA (hA.keep E (Same.refl role) rfl (G9.at w d) hlive) (by simp)
     (fun x hx hxj=>by rw[Array.getElem?_setIfInBounds_ne (fun e=>hxj e.symm),Array.getElem?_setIfInBounds_ne (fun e=>hx e.symm)])
     (by rw[Array.getElem?_setIfInBounds_ne hjh,Array.getElem?_setIfInBounds_self_of_lt PD]) Ru.frame.fn Ru.frame.place g₂.frame.fn g₂.frame.place
   refine⟨0+1,_,_,runNT_succ_of (m₁:=crowd gs w sl) (t₁:=T) rfl (hst.trans hrt),_,g₂,_,sl',_,live,rfl,by simp,by rw[Array.getElem?_setIfInBounds_self_of_lt (by simpa using hjlt)],hhome,by rw[← Array.append_assoc];exact Hn,xD.of (G9.at w d) hlive hc,Same.refl _,fun _ _=>rfl⟩
 . obtain⟨gs',w',ops,r',J2,hrt,hsz,hsp,hw,_,C',hlt,k1,k2,_⟩:=Cd.by_step (sl:=sl') E (fun t u i=>Knows.app u) hi hih hg
     (fun x gx w' hx hgx hw=>by
       rw[hsa x gx hx hgx];exact WU ((hOd.keep (G9.Uv hw (by
         rcases hw with rfl|⟨z,rfl⟩
         . exact⟨_,_,C.wg⟩
         . exact⟨_,_,(show WgAt ty Wg (w.at d) _ _ from C.wg).setSt z⟩) ⟨_,_,Cd.wg⟩) ⟨_,_,C.wg⟩).open (Ny hw ⟨_,_,C.wg⟩ (show(w.at d).heap[c]?=_ from hc))))
     (fun st' n' g₂ hr hin x gx c' hx hgx hc'=>by
       rw[hsa x gx hx hgx];refine I7 hzs hO.recvs ?_;by_cases hij:i=j
       . subst hij;rw[hj]at hr;cases hr
         exact absurd ⟨rfl,g₂,hin⟩ hat
       . exact Ot C hj hsc jC hr hc' hij)
   have hr1:G9 ty Wg w w':=(G9.at w d).trans (G9.Uv hw ⟨_,_,C'.wg⟩ ⟨_,_,Cd.wg⟩);have dR:=Same.upd (fun st n e=>let⟨n',x,_⟩:=(k1 st n e).1;⟨n',x⟩) k2;have hj':∃n',upd role i r' j=.seat st (n'+1):=by
     by_cases hij:i=j
     . subst hij;obtain⟨⟨n',hr',h0⟩,_⟩:=k1 st _ hj;rw[upd_same];cases n' with
       | zero=>exact absurd ⟨rfl,h0 rfl⟩ hat
       | succ n'=>exact⟨n',hr'⟩
     . rw[upd_ne role _ (fun e=>hij e.symm)];exact⟨n,hj⟩
   have gT:∀x,(x=h\/∃st n,role x=.seat st n)->upd live i J2 x=live x:=fun x hx=>by
     by_cases hxi:x=i
     . subst hxi;rcases hx with hx|⟨st,n,hx⟩
       . exact absurd hx hih
       . rw[upd_same];exact(k1 st n hx).2
     . rw[upd_ne live _ hxi]
   have key:∃N m' T',runNT P N (crowd gs' w' sl') (T++ops)=(.next m',T')/\Got P ty Wg K Still Bd Shun Quiet Mem' Loose' h j c st kk v (upd role i r') (upd live i J2) ex rh gs'.size w' m' T':=by
     have Abi:gs'[h]?=some (parked Ru cases shape):=by rw[hsp h rfl];exact hgh
     have hA':=hA.keep E dR (gT h (.inl rfl)) hr1 hlive;rcases hlt with hl|⟨hl1,hl2⟩
     . exact ih1 (M1 gs'.size (upd role i r')) (by rw[hsz,← hm1];exact hl) _ rfl rfl C' Abi (hO.keep hr1 hlive) hj' hA'
     . exact ih2 (M2 gs'.size (upd role i r')) (by rw[hsz,← hm2];exact hl2) (by rw[hsz,hl1,hm1]) rfl C' Abi (hO.keep hr1 hlive) hj' hA'
   obtain⟨N,m',T',q1,GN,gu,w₂,sl₂,JX,Ju,q2,q3,q4,q5,q6,q7,q8,q9⟩:=key;refine⟨N+1,m',T',by simp only[runNT,hst,hrt];exact q1,GN,gu,w₂,sl₂,JX,Ju,q2,q3.trans hsz,q4,q5,q6,?_,?_,fun x hx=>?_⟩
   . obtain⟨k',hc',hc2⟩:=q7.chan;have hcW:c≠Wg:=by rintro rfl;obtain⟨s1,s2,hl⟩:=hlive;unfold WgAt wgBlock at hl;rw[hl]at hc;cases hc
     refine⟨q7.tape.trans hr1.tape,q7.os.trans hr1.os,q7.output.trans hr1.output,q7.size.trans hr1.size,fun b hb hbc=>(q7.block b hb hbc).trans (hr1.block b hb),⟨k',by rw[← hr1.block c hcW];exact hc',hc2⟩,q7.live⟩
   . refine Same.trans (fun x=>?_) q8;by_cases e1:x=h
     . subst e1;rw[upd_same,upd_same];exact⟨fun st n e=>⟨n,e⟩,fun s m d e=>⟨s,m,d,e⟩⟩
     . rw[upd_ne _ _ e1,upd_ne _ _ e1];by_cases e2:x=j
       . subst e2;rw[upd_same,upd_same];exact⟨fun st n e=>⟨n,e⟩,fun s m d e=>⟨s,m,d,e⟩⟩
       . rw[upd_ne _ _ e2,upd_ne _ _ e2];exact dR x
   . refine(q9 x (hx.imp id fun⟨st,n,e⟩=>?_)).trans (gT x hx);obtain⟨n',e'⟩:=(dR x).1 st n e;exact⟨st,n',e'⟩
end
end
section
section
variable {P:Program}{ty:TypeId}{Wg:Nat}{K:Nat->World->Prop}{Still:Nat->Loc->Prop}{Bd:Nat->Nat}{Shun:Loc->Prop}{Quiet Sp Mem Loose:Nat->Prop}{Kf:Trace->Nat->Prop}{role:Nat->Fv}{live:Nat->Nat}{ex h j:Nat}{T:Trace}{gs:Array Goroutine}{w:World}
theorem Got.back{Mem' Loose':Nat->Prop}{c kk n:Nat}{st:Seat}{v:Value}{rh:Fv}{FK:Nat->Fv}{Gc:Nat->Nat}{w':World}{m:Machine}{T':Trace}(hS:Same role FK)(hl:MB h role live Gc)(hr:G9 ty Wg w w')(hw:WgLive ty Wg w){kc:Nat}(hc:w.heap[c]?=some (.chan 0 #[] false kc kc false))(hG:Got P ty Wg K Still Bd Shun Quiet Mem' Loose' h j c st kk v FK Gc ex rh n w' m T'):Got P ty Wg K Still Bd Shun Quiet Mem' Loose' h j c st kk v role live ex rh n w m T':=by
 obtain⟨GN,gu,w₂,sl₂,JX,Ju,q2,q3,q4,q5,q6,q7,q8,q9⟩:=hG;refine⟨GN,gu,w₂,sl₂,JX,Ju,q2,q3,q4,q5,q6,?_,?_,fun x hx=>?_⟩
 . obtain⟨k',hc',hc2⟩:=q7.chan;have hcW:c≠Wg:=by rintro rfl;obtain⟨s1,s2,hl⟩:=hw;unfold WgAt wgBlock at hl;rw[hl]at hc;cases hc
   exact⟨q7.tape.trans hr.tape,q7.os.trans hr.os,q7.output.trans hr.output,q7.size.trans hr.size,fun b hb hbc=>(q7.block b hb hbc).trans (hr.block b hb),⟨k',by rw[← hr.block c hcW];exact hc',hc2⟩,q7.live⟩
 . refine Same.trans (fun x=>?_) q8;by_cases e1:x=h
   . subst e1;rw[upd_same,upd_same];exact⟨fun st n e=>⟨n,e⟩,fun s m d e=>⟨s,m,d,e⟩⟩
   . rw[upd_ne _ _ e1,upd_ne _ _ e1];by_cases e2:x=j
     . subst e2;rw[upd_same,upd_same];exact⟨fun st n e=>⟨n,e⟩,fun s m d e=>⟨s,m,d,e⟩⟩
     . rw[upd_ne _ _ e2,upd_ne _ _ e2];exact hS x
 . exact(q9 x (hx.imp id fun⟨st,n,e⟩=>let⟨n',e'⟩:=(hS x).1 st n e;⟨st,n',e'⟩)).trans (hl x hx)
theorem give(E:Env Wg K Still Shun)(hKc:∀i w c k,w.heap[c]?=some (.chan 0 #[] false k k false)->K i w->K i (w.setChan c 0 #[] false (k+1) (k+1) false)){a g₂:Goroutine}{cases:Array CommCase}{shape:CommShape}{k c kk n:Nat}{v zj:Value}{st:Seat}{es:Array Event}{sl:Option (Nat × Nat)}(ha:gs[h]?=some a)(hrun:a.status=.running)(hstep:∀w₁,G9 ty Wg w w₁->stepG P (h==0) a w₁=.comm g₂ cases true shape w₁ es)(hes:∀e∈es,vK Still Shun h w.heap.size e)(hO:Kj cases k c v w)(H:Held P ty Wg K Still Bd Shun Quiet Mem Loose h role live ex T gs w)(hMh:Mem h)(hjh:j≠h)(hj:role j=.seat st n)(hkk:st.cases[kk]?=some (rcase c zj))(jC:¬ Quiet c){Mem' Loose':Nat->Prop}(hM1:∀g,Mem' g->Mem g)(hM2:∀g,Mem g->g≠h->Mem' g)(hL:∀g,Loose g->g≠j->Loose' g)(xA:¬ Loose' j){rh:Fv}(hA:After P ty Wg K Still Bd Quiet Mem' Loose' role live h c w (g₂.finishComm P cases shape k undef false) rh) :
  ∃N m' T',runNT P N (crowd gs w sl) T=(.next m',T')/\Got P ty Wg K Still Bd Shun Quiet Mem' Loose' h j c st kk v role live ex rh gs.size w m' T':=by
 have hlive:WgLive ty Wg w:=⟨_,_,H.KS.wg⟩
 obtain⟨kc,hc⟩:=(H.KS.seat j st n hj).2.2.2.2 c ⟨kk,zj,hkk⟩;obtain⟨N,gs₁,w₁,d,sl₁,sl₂,T₁,Fj,FQ,p1,p2,p3,p4,p5,p6,p7,p8,_,_⟩:=picked (sl:=sl) E hrun _ _ rfl rfl ha H;have hst:=hstep _ p6;have C:=p5.KS;obtain⟨n₁,hj₁⟩:=(p7 j).1 st n hj;obtain⟨hjlt,hwf,hMj,hBj,hch⟩:=C.seat j st _ hj₁;have hsc:st.has c:=⟨kk,zj,hkk⟩
 have hc₁:(w₁.at d).heap[c]?=some (.chan 0 #[] false kc kc false):=MU p6 hlive hc;have o9:=hO.keep p6 hlive;obtain⟨zs,hzs⟩:=hO.send;have PD:h<gs₁.size:=(zGE p4).1;obtain⟨gj,hgj⟩:∃gj,gs₁[j]?=some gj:=⟨gs₁[j],Array.getElem?_eq_getElem hjlt⟩
 have qc:=hA.keep E p7 (p8 h (.inl rfl)) p6 hlive;obtain⟨o1,o2,o3,o4⟩:=Lb (h:=h) (fn:=a.frame.fn) (pos:=a.frame.place) (fun e he=>by have:=hes e he;rw[← p6.size]at this;exact this)
 have Cn:=C.note o1 (o4 T₁) PD (C.past.hold p5.tight o1 o2 (fun _=>o4 T₁) o3);have hoff:∀x y,x≠j->(gs₁.setIfInBounds h ph)[x]?=some y->offersAt y c false=[]:=fun x y hx hy=>by
  rcases getElem?_stand gs₁ h x y hy with⟨_,rfl⟩|⟨hxh,hy'⟩
  . exact offersAt_ph _ _
  . exact C.uf hxh hy' fun st' n' e hc'=>Ot C hj₁ hsc jC e hc' hx rfl
 have hno:∀(m:Nat) (c':CommCase),m≠k->cases[m]?=some c'->NoWays (w₁.at d) (gs₁.setIfInBounds h ph) c':=by
  intro m c' hm hcm;obtain⟨q,z,kq,rfl,hq⟩:=o9.recv m c' hm hcm;refine ways_recv_none hq (partners_nil fun x y hy=>?_);rcases getElem?_stand gs₁ h x y hy with⟨_,rfl⟩|⟨hxh,hy'⟩
  . exact offersAt_ph _ _
  . exact C.noSend hxh hy' _
 have fin:∃N' m' T',runNT P N' (crowd gs₁ w₁ sl₁) T₁=(.next m',T')/\Got P ty Wg K Still Bd Shun Quiet Mem' Loose' h j c st kk v Fj FQ ex rh gs₁.size (w₁.at d) m' T':=by
  rcases(C.seats j gj st _ hjh hgj hj₁).1 with⟨k',w0,hn,hG⟩|⟨_,g₀,Yv,rfl,hat⟩
  ·
    have hjr:=(Sits.status (C.keep j st _ hj₁) (.inl ⟨k',w0,hn,hG⟩)).elim (·.1) (fun z=>by omega);have hall:∀cc∈cases,NoWays (w₁.at d) (gs₁.setIfInBounds h ph) cc:=by
     intro cc hcc;obtain⟨m,hm,e⟩:=Array.mem_iff_getElem.1 hcc;have hm':cases[m]?=some cc:=by rw[← e];exact Array.getElem?_eq_getElem hm
     by_cases hmk:m=k
     . subst hmk;rw[hzs]at hm';obtain rfl:=Option.some.inj hm';refine ways_send_none hc₁ (by simp) (partners_nil fun x y hy=>?_);by_cases hxj:x=j
       . subst hxj;rw[stand_get hjh hgj]at hy;obtain rfl:=Option.some.inj hy;exact offersAt_of_not_blocked (by rw[hjr];simp) _ _
       . exact hoff x y hxj hy
     . exact hno m cc hmk hm'
    have hrt:=crowd_waits (sl:=sl₂) p4 hst hall;have Cf:=Cn.setH (parked g₂ cases shape);obtain⟨N',m',T',r1,r2⟩:=flight (sl:=sl₂) E hKc hMh hjh hkk jC hM1 hM2 hL xA _ _ rfl rfl Cf (Array.getElem?_setIfInBounds_self_of_lt PD) o9 ⟨k',hn ▸ hj₁⟩ qc;exact⟨N'+1,m',T',by simp only[runNT,p2,hrt];exact r1,by simpa using r2⟩
  ·
    obtain⟨_,_,_,_,hhome,_⟩:=id hat;have hp:partners (gs₁.setIfInBounds h ph) c false=[(j,kk)]:=by
     rw[partners_one (stand_get hjh hgj) fun x y hx hy=>hoff x y hx hy,offersAt_parked_at hkk fun m cc hm hcm hch'=>?_]
     . rfl
     . obtain⟨c'',z,rfl⟩:=hwf.recvs cc (Array.mem_of_getElem? hcm);simp only[rcase,Value.chan.injEq,Option.some.injEq]at hch';subst hch';exact hm (hwf.apart m kk c'' z zj hcm hkk)
    have hrt:=Q9 (sl:=sl₂) p4 hst hzs hno hc₁ hjh hgj hkk hp;have Hn:=Cn.pass (gs':=(gs₁.setIfInBounds j (Yv.finishComm P st.cases st.shape kk v true)).setIfInBounds h (g₂.finishComm P cases shape k undef false)) hKc hMh PD hjh hj₁ hsc jC hc₁ hM1 hM2 hL xA qc (by simp)
     (fun x hx hxj=>by rw[Array.getElem?_setIfInBounds_ne (fun e=>hx e.symm),Array.getElem?_setIfInBounds_ne (fun e=>hxj e.symm)])
     (by rw[Array.getElem?_setIfInBounds_self_of_lt (by simpa using PD)]) g₂.frame.fn g₂.frame.place Yv.frame.fn Yv.frame.place
    exact⟨0+1,_,_,runNT_succ_of (m₁:=crowd gs₁ w₁ sl₁) (t₁:=T₁) rfl (p2.trans hrt),_,Yv,_,sl₂,_,FQ,rfl,by simp,by rw[Array.getElem?_setIfInBounds_ne (fun e=>hjh e.symm),Array.getElem?_setIfInBounds_self_of_lt hjlt],hhome,
     by rw[← Array.append_assoc];exact Hn,xD.of (.refl _) ⟨_,_,C.wg⟩ hc₁,Same.refl _,fun _ _=>rfl⟩
 obtain⟨N',m',T',r1,r2⟩:=fin;exact⟨N+N',m',T',runNT_then p1 r1,by rw[← p3];exact r2.back p7 p8 p6 hlive hc⟩
theorem hire(E:Env Wg K Still Shun){Still':Nat->Loc->Prop}{pJ:Nat->Nat}(E':Env Wg K Still' Shun)(hKn:∀w₁,G9 ty Wg w w₁->K h w₁)(hLn:¬ Loose gs.size)(hSt:∀g,g≠gs.size->Still' g=Still g)(hBd:∀g,g≠gs.size->pJ g=Bd g)(hS0:∀l,¬ Still gs.size l)(hmem:∀g l,Still' g l->l.isMemory=true){a a' child:Goroutine}{es:Array Event}{sl:Option (Nat × Nat)}(ha:gs[h]?=some a)(hrun:a.status=.running)(hgo:∀w₁,G9 ty Wg w w₁->stepG P (h==0) a w₁=.spawn a' child w₁ es)(hes:∀e∈es,vK Still Shun h w.heap.size e)(H:Held P ty Wg K Still Bd Shun Quiet Mem Loose h role live (ex+1) T gs w)(hMh:Mem h){st:Seat}{n:Nat}(hsit:Sits P (h==0) (K h) (Still h) (Bd h) st n a')(hwf:st.Wf)(hbd:Bd h<=w.heap.size)(hch:∀c,st.has c->∃k,w.heap[c]?=some (.chan 0 #[] false k k false))(hown:∀i st' n' c,i≠h->role i=.seat st' n'->st.has c->st'.has c->Quiet c) :
   ∃N gs' w' sl' T' FK Gc,runNT P N (crowd gs w sl) T=(.next (crowd gs' w' sl'),T')/\gs'.size=gs.size+1/\gs'[gs.size]?=some child/\
     Held P ty Wg K Still' pJ Shun Quiet (fun g=>Mem g\/g=gs.size) (fun g=>Loose g\/g=h) gs.size FK Gc ex T' gs' w'/\G9 ty Wg w w'/\Same (upd (upd role gs.size (.fin 0 0 0)) h (.seat st n)) FK/\Gc gs.size=1/\MB h role live Gc:=by
 have hlive:WgLive ty Wg w:=⟨_,_,H.KS.wg⟩
 obtain⟨N,gs₁,w₁,d,sl₁,sl₂,T₁,Fj,FQ,p1,p2,p3,p4,p5,p6,p7,p8,_,_⟩:=picked (sl:=sl) E hrun _ _ rfl rfl ha H;have hst:=hgo _ p6;have C:=p5.KS;have PD:h<gs₁.size:=(zGE p4).1;obtain⟨o1,o2,o3,o4⟩:=Lb (h:=h) (fn:=a.frame.fn) (pos:=a.frame.place) (fun e he=>by have:=hes e he;rw[← p6.size]at this;exact this)
 have hrt:=runT_crowd_spawn (P:=P) (sl:=sl₂) p4 hst;have hpush:((MemOp.ofEvents h a.frame.fn a.frame.place es).push { g:=h,fn:=a.frame.fn,pos:=a.frame.place,act:=.go gs₁.size } |>.push { g:=gs₁.size,fn:=child.frame.fn,pos:=a.frame.place,act:=.start }) =
     MemOp.ofEvents h a.frame.fn a.frame.place es++#[{ g:=h,fn:=a.frame.fn,pos:=a.frame.place,act:=.go gs₁.size },{ g:=gs₁.size,fn:=child.frame.fn,pos:=a.frame.place,act:=.start }]:=by
   apply Array.ext';simp
 rw[hpush]at hrt;have Cn:=C.note o1 (o4 T₁) PD (C.past.hold p5.tight o1 o2 (fun _=>o4 T₁) o3);rw[p3]at hrt PD;have Af1:∀l,¬ Still gs.size l:=hS0;have hq:∀x,Deaf (T₁++MemOp.ofEvents h a.frame.fn a.frame.place es++#[{ g:=h,fn:=a.frame.fn,pos:=a.frame.place,act:=.go gs.size },{ g:=gs.size,fn:=child.frame.fn,pos:=a.frame.place,act:=.start }]) x=Deaf (T₁++MemOp.ofEvents h a.frame.fn a.frame.place es) x:=fun x=>Deaf_quiet (fun op hop dd=>by simp only[List.mem_toArray,List.mem_cons,List.not_mem_nil,or_false]at hop;rcases hop with rfl|rfl<;>rfl)
 have pg:=(Cn.past.hire hMh (Cn.above gs.size (by rw[p3];exact Nat.le_refl _)) Af1 a.frame.fn a.frame.place child.frame.fn)
 have hget:∀x,x≠h->x<gs.size->((gs₁.setIfInBounds h a').push child)[x]?=gs₁[x]?:=fun x hx hlt=>by rw[Array.getElem?_push,if_neg (by simp;omega),Array.getElem?_setIfInBounds_ne (fun e=>hx e.symm)]
 have NG:∀{x:Nat} {st':Seat} {n':Nat},upd (upd Fj gs.size (.fin 0 0 0)) h (.seat st n) x=.seat st' n'->(x=h/\st'=st/\n'=n)\/(x≠h/\x≠gs.size/\Fj x=.seat st' n'):=fun{x st' n'} e=>by
   by_cases e1:x=h
   . subst e1;rw[upd_same]at e;cases e;exact .inl ⟨rfl,rfl,rfl⟩
   . rw[upd_ne _ _ e1]at e;by_cases e2:x=gs.size
     . subst e2;rw[upd_same]at e;cases e
     . rw[upd_ne _ _ e2]at e;exact .inr ⟨e1,e2,e⟩
 have hsum:sumTo (gs.size+1) (upd FQ gs.size 1)+ex=sumTo gs₁.size FQ+(ex+1):=by have h1:sumTo gs.size (upd FQ gs.size 1)=sumTo gs.size FQ:=Go.ConcN.sumTo_congr fun i hi=>upd_ne FQ _ zOM;rw[p3];simp only[sumTo,upd_same,h1];omega
 have wW:∀c,st.has c->∃k,(w₁.at d).heap[c]?=some (.chan 0 #[] false k k false):=fun c hc=>by obtain⟨k,hk⟩:=hch c hc;exact⟨k,MU p6 hlive hk⟩
 have VQ:((gs₁.setIfInBounds h a').push child).size=gs.size+1:=by simp[p3]
 refine⟨N+1,_,_,sl₂,_,upd (upd Fj gs.size (.fin 0 0 0)) h (.seat st n),upd FQ gs.size 1,runNT_succ_of p1 (p2.trans hrt),VQ,?_,⟨⟨fun i g s m dd hi hg e=>?_,fun i g st' n' hi hg e=>?_,fun i st' n' e=>?_,fun i i' s1 s2 n1 n2 c' e1 e2 h1 h2=>?_,fun x hx=>?_,?_,fun i st' n' e=>?_,?_,?_,fun i=>?_⟩,fun st' n' e=>?_,fun z=>z.elim hLn fun z=>by omega⟩,p6,?_,upd_same _ _ _,fun x hx=>?_⟩
 . rw[← p3,Array.getElem?_push,if_pos (by simp)]
 . by_cases e1:i=h
   . subst e1;rw[upd_same]at e;cases e
   . rw[upd_ne _ _ e1,upd_ne _ _ hi]at e;have hlt:i<gs.size:=by have:=(zGE hg).1;rw[VQ]at this;omega
     rw[hget i e1 hlt]at hg;obtain⟨a1,a2,a3,a4,a5,a6⟩:=Cn.Ie i g s m dd e1 hg e;exact⟨a1,a2,by rw[← Array.append_assoc,hq];exact a3,fun hM=>hM.elim a4 hi,by rw[upd_ne _ _ hi];exact a5,a6⟩
 . rcases NG e with⟨rfl,rfl,rfl⟩ | ⟨e1,e2,e⟩
   . rw[Array.getElem?_push,if_neg (by simp;omega),Array.getElem?_setIfInBounds_self_of_lt (by rw[p3];exact PD)]at hg
     obtain rfl:=Option.some.inj hg;rw[hSt _ zOM,hBd _ zOM];exact⟨hsit,.inr rfl⟩
   . have hlt:i<gs.size:=by have:=(zGE hg).1;rw[VQ]at this;omega
     rw[hget i e1 hlt]at hg;obtain⟨a1,a2⟩:=Cn.seats i g st' n' e1 hg e;rw[hSt _ e2,hBd _ e2];exact⟨a1,.inl a2⟩
 . rcases NG e with⟨rfl,rfl,rfl⟩ | ⟨e1,e2,e⟩
   . exact⟨by rw[VQ];omega,hwf,.inl hMh,by rw[hBd _ zOM,p6.size];exact hbd,wW⟩
   . obtain⟨a1,a2,a3,a4,a5⟩:=C.seat i st' n' e;exact⟨by rw[VQ];omega,a2,.inl a3,by rw[hBd _ e2];exact a4,a5⟩
 . rcases NG e1 with⟨x0,rfl,rfl⟩ | ⟨x1,x2,e3⟩<;>rcases NG e2 with⟨y0,z1,z2⟩ | ⟨y1,y2,e4⟩
   . exact .inl (x0.trans y0.symm)
   . obtain⟨n'',e4⟩:=p7.back e4;exact .inr (hown i' s2 _ c' y1 e4 h1 h2)
   . subst z1 z2;obtain⟨n'',e3⟩:=p7.back e3;exact .inr (hown i s1 _ c' x1 e3 h2 h1)
   . exact C.own i i' s1 s2 n1 n2 c' e3 e4 h1 h2
 . rw[← Array.append_assoc,hq];rw[VQ]at hx;exact Cn.above x (by rw[p3];omega)
 . rw[← Array.append_assoc];refine(pg.loosen (Loose':=fun g=>Loose g\/g=h) fun g hg=>.inl hg).still (fun g l hS=>?_) (fun i x hx hw g hg hS=>?_)
   . by_cases e:g=gs.size
     . subst e;exact absurd hS (hS0 l)
     . rw[hSt g e];exact hS
   . by_cases e:g=gs.size
     . subst e;right
       rcases pg.known i x hx (hmem _ _ hS)with hk|⟨h0,_⟩|⟨hs,_⟩
       . exact hk
       . rw[hw]at h0;cases h0
       . exact absurd hs (E'.apart _ _ hS)
     . left
       rw[← hSt g e];exact hS
 . rcases NG e with⟨rfl,rfl,rfl⟩ | ⟨e1,e2,e⟩
   . exact hKn _ p6
   . exact C.keep i st' n' e
 . rw[VQ,hsum];exact C.wg
 . rw[VQ,hsum];exact C.few
 . by_cases e:i=gs.size
   . subst e;rw[upd_same];exact Nat.le_refl _
   . rw[upd_ne _ _ e];exact C.one i
 . rcases NG e with⟨e1,_⟩ | ⟨_,e2,_⟩
   . omega
   . exact e2 rfl
 . intro x;by_cases e1:x=h
   . subst e1;rw[upd_same,upd_same];exact⟨fun st n e=>⟨n,e⟩,fun s m d e=>⟨s,m,d,e⟩⟩
   . rw[upd_ne _ _ e1,upd_ne _ _ e1];by_cases e2:x=gs.size
     . subst e2;rw[upd_same,upd_same];exact⟨fun st n e=>⟨n,e⟩,fun s m d e=>⟨s,m,d,e⟩⟩
     . rw[upd_ne _ _ e2,upd_ne _ _ e2];exact p7 x
 . have:x≠gs.size:=by
     rcases hx with rfl|⟨st',n',hx⟩
     . omega
     . have:=(H.KS.seat x st' n' hx).1;omega
   rw[upd_ne _ _ this];exact p8 x hx
end
end
section
inductive LV(P:Program)(main:Bool)(ty:TypeId)(Wg n:Nat)(D:World->World->Array Event->Prop)(Stop:Nat->Goroutine->World->Prop):Bool->Nat->Goroutine->World->Prop
 | stop {ex:Nat} {g:Goroutine} {w:World} (h:∀w₁,G9 ty Wg w w₁->Stop ex g w₁):LV P main ty Wg n D Stop false ex g w
 | step {b:Bool} {ex:Nat} {g:Goroutine} {w:World} (hs:g.status=.running) (h:∀w₁,G9 ty Wg w w₁->∃g' w' es,stepG P main g w₁=.go g' w' es/\D w₁ w' es)
   (k:∀w₁ g' w' es,G9 ty Wg w w₁->stepG P main g w₁=.go g' w' es->LV P main ty Wg n D Stop b ex g' w'):LV P main ty Wg n D Stop b ex g w
 | aU {ex:Nat} {g:Goroutine} {w:World} (hs:g.status=.running) (h:∀w₁,G9 ty Wg w w₁->∃g',stepG P main g w₁=.go g' w₁ #[mk .disable])
   (k:∀w₁ g',G9 ty Wg w w₁->stepG P main g w₁=.go g' w₁ #[mk .disable]->LV P main ty Wg n D Stop true ex g' w₁):LV P main ty Wg n D Stop false ex g w
 | en {ex:Nat} {g:Goroutine} {w:World} (hs:g.status=.running) (h:∀w₁,G9 ty Wg w w₁->∃g',stepG P main g w₁=.go g' w₁ #[mk .enable])
   (k:∀w₁ g',G9 ty Wg w w₁->stepG P main g w₁=.go g' w₁ #[mk .enable]->LV P main ty Wg n D Stop false ex g' w₁):LV P main ty Wg n D Stop true ex g w
 | add {ex:Nat} {g:Goroutine} {w:World} (hs:g.status=.running) (hn:n+ex+1<2147483648)
   (h:∀w₁ (v:Nat),G9 ty Wg w w₁->v+1<2147483648->WgAt ty Wg w₁ (v*KK) 0->∃g',stepG P main g w₁=.go g' (w₁.setCell (stA Wg) (.int .u64 ((v+1:Nat)*KK))) #[rd (stA Wg),wr (stA Wg)])
   (k:∀w₁ (v:Nat) g',G9 ty Wg w w₁->v+1<2147483648->WgAt ty Wg w₁ (v*KK) 0->stepG P main g w₁=.go g' (w₁.setCell (stA Wg) (.int .u64 ((v+1:Nat)*KK))) #[rd (stA Wg),wr (stA Wg)]->
    LV P main ty Wg n D Stop true (ex+1) g' (w₁.setCell (stA Wg) (.int .u64 ((v+1:Nat)*KK)))):LV P main ty Wg n D Stop true ex g w
section
variable {P:Program}{main:Bool}{ty:TypeId}{Wg n:Nat}{D:World->World->Array Event->Prop}{Stop Stop':Nat->Goroutine->World->Prop}{b:Bool}{ex:Nat}{g:Goroutine}{w w₁:World}
theorem LV.rely(h:LV P main ty Wg n D Stop b ex g w)(hr:G9 ty Wg w w₁):LV P main ty Wg n D Stop b ex g w₁:=by
 cases h with
 | stop h=>exact .stop fun w₂ h₂=>h w₂ (hr.trans h₂)
 | step hs h k=>exact .step hs (fun w₂ h₂=>h w₂ (hr.trans h₂)) fun w₂ g' w' es h₂=>k w₂ g' w' es (hr.trans h₂)
 | aU hs h k=>exact .aU hs (fun w₂ h₂=>h w₂ (hr.trans h₂)) fun w₂ g' h₂=>k w₂ g' (hr.trans h₂)
 | en hs h k=>exact .en hs (fun w₂ h₂=>h w₂ (hr.trans h₂)) fun w₂ g' h₂=>k w₂ g' (hr.trans h₂)
 | add hs hn h k=>exact .add hs hn (fun w₂ v h₂=>h w₂ v (hr.trans h₂)) fun w₂ v g' h₂=>k w₂ v g' (hr.trans h₂)
theorem LV.of{S:Goroutine->World->Prop}(h:LT.Way P main (G9 ty Wg) D S g w)(k:∀g w,(∀w₁,G9 ty Wg w w₁->S g w₁)->LV P main ty Wg n D Stop b ex g w):LV P main ty Wg n D Stop b ex g w:=by
 induction h with
 | stop h=>exact k _ _ h
 | step hs h _ ih=>exact .step hs h ih
theorem LV.one(hs:g.status=.running)(h:∀w₁,G9 ty Wg w w₁->∃g' w' es,stepG P main g w₁=.go g' w' es/\D w₁ w' es/\LV P main ty Wg n D Stop b ex g' w'):LV P main ty Wg n D Stop b ex g w:=
 .step hs (fun w₁ h₁=>let⟨g',w',es,a,b,_⟩:=h w₁ h₁;⟨g',w',es,a,b⟩) fun w₁ g' w' es h₁ hst=>by
  obtain⟨g2,w2,es2,a,_,c⟩:=h w₁ h₁;rw[a]at hst;cases hst
  exact c
end
section
variable {P:Program}{ty:TypeId}{Wg:Nat}{K:Nat->World->Prop}{Still:Nat->Loc->Prop}{Bd:Nat->Nat}{Shun:Loc->Prop}{Quiet Sp Mem Loose:Nat->Prop}{Kf:Trace->Nat->Prop}{role:Nat->Fv}{live:Nat->Nat}{ex h j:Nat}{T:Trace}{gs:Array Goroutine}{w:World}
def mK(Mem:Nat->Prop)(h:Nat):Bool->Nat->Prop
 | false=>Mem
 | true=>fun g=>Mem g/\g≠h
theorem Held.plain(H:Held P ty Wg K Still Bd Shun Quiet Mem Loose h role live ex T gs w)(E:Env Wg K Still Shun){a a':Goroutine}{w':World}{ops:Trace}{ex':Nat}(hw:IX Wg w w')(ha:gs[h]?=some a)(hops:∀op∈ops,op.g=h)(hp:Gr Still Shun Mem Loose w.heap.size (Knows (T++ops) h) (T++ops))(hwg:WgAt ty Wg w' ((sumTo gs.size live+ex':Nat)*KK) 0)(Qe:sumTo gs.size live+ex'<2147483648) :
   Held P ty Wg K Still Bd Shun Quiet Mem Loose h role live ex' (T++ops) ((gs.map (woken P a a' w')).setIfInBounds h a') w'/\((gs.map (woken P a a' w')).setIfInBounds h a')[h]?=some a':=by
 have hlt:h<gs.size:=(zGE ha).1;have C:=H.KS;have hlive:WgLive ty Wg w:=⟨_,_,C.wg⟩
 have hrx:=Mw ty Wg hlive ⟨_,_,hwg⟩;have hget:∀x,x≠h->((gs.map (woken P a a' w')).setIfInBounds h a')[x]?=gs[x]?:=by
   intro x hx;rw[Array.getElem?_setIfInBounds_ne (fun e=>hx e.symm),Array.getElem?_map];cases e:gs[x]? with
   | none=>rfl
   | some y=>simp[woken_of_again (C.fixed E hw hx e)]
 have hD:∀x,x≠h->Deaf (T++ops) x=Deaf T x:=fun x hx=>Deaf_other T (fun z=>hx z.symm) _ hops;refine⟨⟨⟨fun i g s m d hi hg e=>?_,fun i g st n hi hg e=>?_,fun i st n e=>?_,C.own,fun j hj=>?_,by rw[hw.size];exact hp,fun i st n e=>E.kwg _ _ _ hw (C.keep i st n e),by simpa using hwg,by simpa using Qe,C.one⟩,H.M4,H.tight⟩,Array.getElem?_setIfInBounds_self_of_lt (by simpa using hlt)⟩
 . rw[hget i hi]at hg;obtain⟨h1,h2,h3,h4⟩:=C.Ie i g s m d hi hg e;exact⟨h1,h2.rely hrx,by rw[hD i hi];exact h3,h4⟩
 . rw[hget i hi]at hg;exact C.seats i g st n hi hg e
 . obtain⟨h1,h2,h3,h4,h5⟩:=C.seat i st n e;refine⟨by simpa using h1,h2,h3,by rw[hw.size];exact h4,fun c hc=>?_⟩;obtain⟨k,hk⟩:=h5 c hc;exact⟨k,Ny hw hlive hk⟩
 . have hj':gs.size<=j:=by simpa using hj
   rw[hD j zOM];exact C.above j hj'
theorem Held.mark(H:Held P ty Wg K Still Bd Shun Quiet Mem Loose h role live ex T gs w)(E:Env Wg K Still Shun)(hMh:¬ Mem h){a a':Goroutine}{fn:FuncId}{pos:String}(ha:gs[h]?=some a){m:Mark}(hm:m=.disable\/m=.enable) :
   Held P ty Wg K Still Bd Shun Quiet Mem Loose h role live ex (T++MemOp.ofEvents h fn pos #[Go.ConcR.mk m]) ((gs.map (woken P a a' w)).setIfInBounds h a') w/\((gs.map (woken P a a' w)).setIfInBounds h a')[h]?=some a':=by
 have hops:∀op∈MemOp.ofEvents h fn pos #[Go.ConcR.mk m],op.g=h:=fun op hop=>by obtain⟨e,_,rfl⟩:=Conc.mem_ofEvents hop;rfl
 refine H.plain E (.inl rfl) ha hops (H.KS.past.mute (fun i=>Knows.app _) hops (fun op hop=>?_) (fun z=>absurd z hMh) fun op hop=>?_) H.KS.wg H.KS.few <;>
 . obtain⟨e,he,rfl⟩:=Conc.mem_ofEvents hop;simp only[List.mem_toArray,List.mem_cons,List.not_mem_nil,or_false]at he;subst he;rcases hm with rfl|rfl<;>first|rfl|trivial
theorem Held.count(H:Held P ty Wg K Still Bd Shun Quiet Mem Loose h role live ex T gs w)(E:Env Wg K Still Shun)(hMh:¬ Mem h){a a':Goroutine}{fn:FuncId}{pos:String}(ha:gs[h]?=some a)(hv:sumTo gs.size live+ex+1<2147483648) :
   Held P ty Wg K Still Bd Shun Quiet Mem Loose h role live (ex+1) (T++MemOp.ofEvents h fn pos #[rd (stA Wg),wr (stA Wg)]) ((gs.map (woken P a a' (w.setCell (stA Wg) (.int .u64 ((sumTo gs.size live+ex+1:Nat)*KK))))).setIfInBounds h a') (w.setCell (stA Wg) (.int .u64 ((sumTo gs.size live+ex+1:Nat)*KK)))/\
    ((gs.map (woken P a a' (w.setCell (stA Wg) (.int .u64 ((sumTo gs.size live+ex+1:Nat)*KK))))).setIfInBounds h a')[h]?=some a':=by
 have hops:∀op∈MemOp.ofEvents h fn pos #[rd (stA Wg),wr (stA Wg)],op.g=h:=fun op hop=>by obtain⟨e,_,rfl⟩:=Conc.mem_ofEvents hop;rfl
 have hev:∀e∈(#[rd (stA Wg),wr (stA Wg)]:Array Event),e=rd (stA Wg)\/e=wr (stA Wg):=fun e he=>by simpa using he
 have hlow:=H.KS.mY;refine H.plain E (.inr ⟨_,rfl⟩) ha hops (H.KS.past.hold H.tight hops (fun op hop b hb=>?_) (fun z=>absurd z hMh) fun op hop=>?_) ?_ zOM
 . obtain⟨e,he,rfl⟩:=Conc.mem_ofEvents hop;have hloc:b.loc=.cell (stA Wg)/\b.kind=.atomic:=by rcases hev e he with rfl|rfl<;>(simp only[rd,wr,MemAct.ofEvent,MemAct.touch?,Option.some.injEq]at hb;subst hb;exact⟨rfl,rfl⟩)
   exact⟨fun g _ hS=>absurd E.shun (by rw[← hloc.1];exact E.apart g _ hS),fun _=>by rw[hloc.2];simp⟩
 . obtain⟨e,he,rfl⟩:=Conc.mem_ofEvents hop;rcases hev e he with rfl|rfl<;>exact hlow
 . have:=H.KS.wg.setSt ((sumTo gs.size live+ex+1:Nat)*KK);exact this
end
end
end Go.LC
end
