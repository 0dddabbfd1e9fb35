/-
  Part 5 of the proof that CellAlone returns true for every input and leaves its arguments as they were. No further condition.
-/
import Derived.Test.YtkdhnbcdbnpmhaaQ04
import Derived.Conc.Own
import Derived.Conc.Listed
import Derived.CallsIn
import Derived.Barred
set_option linter.unusedVariables false
set_option linter.unusedSectionVars false
set_option maxHeartbeats 1000000
namespace Go.LT
open Go Go.Conc
section
variable [Host]
def JE (P:Program):Code->Bool
  | .skip | .ret | .exit _ | .label _ | .refuse _=>true
  | .region _ ops _=>ops.all (M4 P)
  | .seq a b | .cond _ a b=>JE P a && JE P b
  | .block _ b | .loop b | .scope b=>JE P b
  | _=>false
def I5 (P:Program):Item->Bool
  | .code c=>JE P c
  | .inBlock _=>true
  | .inLoop b | .inScope b=>JE P b
  | .inRegion ops l=>l.all fun i=>(ops[i]?).all (M4 P)
  | _=>false
theorem LY {P:Program}{ops:Array Oper}(h:ops.all (M4 P)=true)(l:List Nat):I5 P (.inRegion ops l)=true:=by
  show (l.all fun i=>(ops[i]?).all (M4 P))=true;rw [List.all_eq_true];intro i _;cases ho:ops[i]? with
  | none=>rfl
  | some o=>
    rw [Array.all_eq_true] at h;obtain ⟨hlt,he⟩:=Array.getElem?_eq_some_iff.1 ho
    simpa [← he] using h i hlt
theorem OJ {P:Program}{ops:Array Oper}{i:Nat}{rest:List Nat}{o:Oper}(h:I5 P (.inRegion ops (i :: rest))=true)(ho:ops[i]?=some o):M4 P o=true:=by have h':((i :: rest).all fun i=>(ops[i]?).all (M4 P))=true:=h;simp only [List.all_cons,ho,Option.all_some,Bool.and_eq_true] at h';exact h'.1
theorem OH {P:Program}{ops:Array Oper}{i:Nat}{rest:List Nat}(h:I5 P (.inRegion ops (i :: rest))=true):I5 P (.inRegion ops rest)=true:=by have h':((i :: rest).all fun i=>(ops[i]?).all (M4 P))=true:=h;rw [List.all_cons,Bool.and_eq_true] at h';exact h'.2
def Lets (P:Program)(f:FuncId):Prop:=
  P.inits.idxOf? f = none /\ ((∃ fn c, P.funcs[f]? = some fn /\ (fn.name == "runtime.NumGoroutine") = false /\ fn.body = some c /\ JE P c = true) \/ Qk P f \/ Host.bar f = true)
def Fb (F:FuncId->Prop)(f:FuncId):Prop:=F f/\Host.bar f=false
structure JZ (P:Program)(F:FuncId->Prop)(fr:Frame):Prop where
  kind:fr.kind=.normal
  round:fr.roundOf=none
  defers:fr.defers=[]
  todo:∀ it∈fr.todo,I5 P it=true
  fn:F fr.fn
  jR:∀ chain,fr.mode=.panicking chain->∀ e∈chain,e.goexit=false
section
variable {P:Program}{F:FuncId->Prop}
theorem JZ.finish {fr:Frame}(h:JZ P F fr)(v:Value):JZ P F (fr.finish v):=by
  obtain ⟨fn,tmps,todo,defers,mode,kind,roundOf⟩:=fr;obtain ⟨h1,h2,h3,h4,h5,h6⟩:=h;unfold Frame.finish;cases todo with
  | nil=>exact ⟨h1,h2,h3,h4,h5,h6⟩
  | cons it k=>
    have hi:=h4 it (by simp);have hk:∀ x∈k,I5 P x=true:=fun x hx=>h4 x (by simp at hx ⊢;exact .inr hx);cases it with
    | inRegion ops l=>
      cases l with
      | nil=>exact ⟨h1,h2,h3,h4,h5,h6⟩
      | cons i rest=>
        refine ⟨h1,h2,h3,fun x hx=>?_,h5,h6⟩;rcases List.mem_cons.1 hx with rfl|hx
        . exact OH hi
        . exact hk x hx
    | code c=>exact ⟨h1,h2,h3,h4,h5,h6⟩
    | inBlock b=>exact ⟨h1,h2,h3,h4,h5,h6⟩
    | inLoop b=>exact ⟨h1,h2,h3,h4,h5,h6⟩
    | inScope b=>exact ⟨h1,h2,h3,h4,h5,h6⟩
    | _=>exact absurd hi Bool.false_ne_true
theorem JZ.raise {fr:Frame}(h:JZ P F fr){vs:List PanicEntry}(hv:∀ e∈vs,e.goexit=false):JZ P F (fr.raise vs):=by
  unfold Frame.raise;split
  . rename_i chain hm
    exact ⟨h.kind,h.round,h.defers,h.todo,h.fn,fun c hc e he=>by
      cases hc
      rcases List.mem_append.1 he with he|he
      . exact hv e he
      . exact h.jR _ hm e he⟩
  . exact ⟨h.kind,h.round,h.defers,h.todo,h.fn,fun c hc e he=>by cases hc;exact hv e he⟩
theorem JZ.enter (hF:∀ f,F f->Lets P f){f:FuncId}(hf:Fb F f)(args:Array Value):JZ P F (Frame.enter P f args .normal):=by
  refine ⟨rfl,rfl,rfl,fun it hit=>?_,hf.1,fun c hc=>by cases hc⟩;simp only [Frame.enter,List.mem_singleton] at hit;subst hit;rcases (hF f hf.1).2 with ⟨fn,c,h1,_,h2,h3⟩|⟨fn,e,h1,_,h2,_⟩|hb
  . simp [h1,h2,I5,h3]
  . have:fn.body=none:=by simpa using h2
    simp [h1,this,I5,JE]
  . rw [hf.2] at hb;cases hb
theorem aO {id:Nat}:∀ {k k':List Item},exitTo id k=some k'->(∀ x∈k,I5 P x=true)->∀ x∈k',I5 P x=true:=by
  intro k;induction k with
  | nil=>intro k' h;cases h
  | cons it k ih=>
    intro k' h hk;have hk':∀ x∈k,I5 P x=true:=fun x hx=>hk x (by simp;exact .inr hx);unfold exitTo at h;split at h
    . rename_i heq
      cases heq
      split at h
      . cases h;exact hk'
      . exact ih h hk'
    . rename_i heq
      cases heq
      exact ih h hk'
    . cases ‹_›
theorem Qt {fr:Frame}{o:Oper}{g:FuncId}{w:World}(hm:fr.mode=.run)(XM:fr.oper?=some o)(hc:J4 o=some g) :
    fr.about P w=some g:=by
  have:∃ ops i rest k,fr.todo=.inRegion ops (i :: rest) :: k/\ops[i]?=some o:=by
    unfold Frame.oper? at XM;split at XM
    . exact ⟨_,_,_,_,by assumption,XM⟩
    . cases XM
  obtain ⟨ops,i,rest,k,ht,ho⟩:=this;obtain ⟨dst,op,type,pos,after,guard⟩:=o;unfold Frame.about;simp only [hm,ht,ho];cases op with
  | call c=>
    obtain ⟨callee,qm,ats⟩:=c;cases callee with
    | value f=>
      cases f with
      | func g'=>cases hc;rfl
      | _=>cases hc
    | _=>cases hc
  | _=>cases hc
def NW (P:Program)(F:FuncId->Prop)(B:Hid)(main:Bool)(τ:Nat->Question->Nat)(d:Nat)(fr:Frame)(s t:List Frame)(w:World):GStep->Prop
  | .go g w1 es=>(∀ i,d+i < w1.drawn->w.tape (w.drawn+i)=τ (d+i))->∃ fr' s' w2,g=G fr' s'/\w1=sh (GN B w2) τ (d+(w2.drawn - w.drawn))/\
      stepG P main (G fr (s ++ t)) w=.go (G fr' (s' ++ t)) w2 es/\Kept B w w2/\(∀ e∈es,Lr B w2.heap.size e)/\∀ x∈fr' :: s',JZ P F x
  | .ended ..=>True
  | _=>False
section
variable {B:Hid}{main:Bool}{τ:Nat->Question->Nat}{d:Nat}{fr:Frame}{s t:List Frame}{w:World}
theorem OL {fr':Frame}(h:∀ (m:Bool) (cs:List Frame) (w:World),stepG P m (G fr cs) w=.go (G fr' cs) w)(hok:∀ x∈fr' :: s,JZ P F x):NW P F B main τ d fr s t w (stepG P true (G fr s) (sh (GN B w) τ d)):=by rw [h];exact fun _=>⟨fr',s,w,rfl,by simp,h _ _ _,Kept.refl B w,by simp,hok⟩
theorem Vi (hF:∀ f,F f->Lets P f)(hR:Rows B w)(hfr:∀ x∈fr :: s,JZ P F x)(hmode:fr.mode=.run){sem:Sem Next}(hT:G6 P (KF (Fb F)) sem)(hw:∀ d wr r sv k,fr.todo≠.call d wr r sv :: k)(h:∀ (m:Bool) (cs:List Frame) (w:World),stepG P m (G fr cs) w=stepG.apply P true fr cs none sem w):NW P F B main τ d fr s t w (stepG P true (G fr s) (sh (GN B w) τ d)):=by
  have h0:=hfr fr (by simp);have hs:∀ x∈s,JZ P F x:=fun x hx=>hfr x (by simp;exact .inr hx);have N9:(fr.kind == CallKind.early)=false:=by rw [h0.kind];rfl
  have hk:=QZ (es:=#[]) hT (w:=sh (GN B w) τ d) (IG hR);have over:=fun x w1=>NH (es:=#[]) (τ:=τ) (d:=d) hT hR (x:=x) (w1:=w1);rw [h];have key:∀ (x:Next ⊕ Value) w1,Jp (sem.runT P (sh (GN B w) τ d) #[]).1=some (x,w1)->(∀ i,d+i < w1.drawn->w.tape (w.drawn+i)=τ (d+i))->∃ w2,Jp (sem.runT P w #[]).1=some (x,w2)/\w1=sh (GN B w2) τ (d+(w2.drawn - w.drawn))/\Kept B w w2/\
      (∀ a,x=.inl a->KF (Fb F) a)/\(sem.runT P w #[]).2=(sem.runT P (sh (GN B w) τ d) #[]).2/\∀ e∈seen P fr.fn (sem.runT P (sh (GN B w) τ d) #[]).2,Lr B w2.heap.size e:=by
    intro x w1 hx JY;obtain ⟨w2,es2,h1,h2,h3,h4,h5,h6,h7⟩:=over x w1 hx JY;refine ⟨w2,h1,h2,h3,h4,h5.trans h6.symm,fun e he=>h7 e ?_⟩;have:=mem_seen he;rw [h6] at this
    simpa using this
  generalize hr:sem.runT P (sh (GN B w) τ d) #[]=r at hk key;obtain ⟨r,es⟩:=r;unfold stepG.apply;simp only [if_true,hr,N9,Bool.false_eq_true,if_false];cases r with
  | ok n w1=>
    cases n with
    | value v=>
      intro JY;obtain ⟨w2,h1,h2,h3,h4,h5,h6⟩:=key (.inl (.value v)) w1 rfl JY;refine ⟨fr.finish v,s,w2,rfl,h2,?_,h3,by simpa [GStep.after] using h6,fun x hx=>?_⟩
      . rw [h];unfold stepG.apply;generalize hr2:sem.runT P w #[]=r2 at h1 h5;obtain ⟨r2,es2⟩:=r2;obtain rfl:=Ld h1;obtain rfl:es2=es:=h5;simp only [if_true,hr2,N9,Bool.false_eq_true,if_false];rfl
      . rcases List.mem_cons.1 hx with rfl | hx
        . exact h0.finish v
        . exact hs x hx
    | skip=>
      intro JY;obtain ⟨w2,h1,h2,h3,h4,h5,h6⟩:=key (.inl .skip) w1 rfl JY;refine ⟨fr.finish undef,s,w2,rfl,h2,?_,h3,by simpa [GStep.after] using h6,fun x hx=>?_⟩
      . rw [h];unfold stepG.apply;generalize hr2:sem.runT P w #[]=r2 at h1 h5;obtain ⟨r2,es2⟩:=r2;obtain rfl:=Ld h1;obtain rfl:es2=es:=h5;simp only [if_true,hr2,N9,Bool.false_eq_true,if_false];rfl
      . rcases List.mem_cons.1 hx with rfl | hx
        . exact h0.finish undef
        . exact hs x hx
    | enter f args=>
      intro JY;obtain ⟨w2,h1,h2,h3,h4,h5,h6⟩:=key (.inl (.enter f args)) w1 rfl JY;refine ⟨Frame.enter P f args .normal,fr :: s,w2,by split <;> first | rfl | (rename_i e;exact absurd e (hw _ _ _ _ _)),h2,?_,h3,by simpa [GStep.after] using h6,fun x hx=>?_⟩
      . rw [h];unfold stepG.apply;generalize hr2:sem.runT P w #[]=r2 at h1 h5;obtain ⟨r2,es2⟩:=r2;obtain rfl:=Ld h1;obtain rfl:es2=es:=h5;simp only [if_true,hr2,N9,Bool.false_eq_true,if_false];split <;> first | rfl | (rename_i e;exact absurd e (hw _ _ _ _ _))
      . rcases List.mem_cons.1 hx with rfl | hx
        . exact JZ.enter hF (h4 _ rfl) args
        . exact hfr x hx
    | _=>exact hk.elim
  | halt x w1=>
    cases x with
    | panic v=>
      intro JY;obtain ⟨w2,h1,h2,h3,h4,h5,h6⟩:=key (.inr v) w1 rfl JY;refine ⟨fr.raise [{ v,recovered:=false }],s,w2,rfl,h2,?_,h3,by simpa [GStep.after] using h6,fun x hx=>?_⟩
      . rw [h];unfold stepG.apply;generalize hr2:sem.runT P w #[]=r2 at h1 h5;obtain ⟨r2,es2⟩:=r2;obtain rfl:=Oh h1;obtain rfl:es2=es:=h5;simp only [if_true,hr2,N9,Bool.false_eq_true,if_false];rfl
      . rcases List.mem_cons.1 hx with rfl | hx
        . exact h0.raise (by simp)
        . exact hs x hx
    | stuck m=>exact trivial
    | unsupported u=>cases u <;> first | exact hk.elim | exact trivial
    | _=>exact hk.elim
theorem bC {fr:Frame}(h:JZ P F fr){todo:List Item}(ht:∀ x∈todo,I5 P x=true):JZ P F { fr with todo }:=⟨h.kind,h.round,h.defers,ht,h.fn,h.jR⟩
theorem XK (hF:∀ f,F f->Lets P f)(hR:Rows B w)(hfr:∀ x∈fr :: s,JZ P F x)(hmode:fr.mode=.run)(hab:∀ o g,fr.oper?=some o->J4 o=some g->F g) :
    NW P F B main τ d fr s t w (stepG P true (G fr s) (sh (GN B w) τ d)):=by
  have h0:=hfr fr (by simp);have hs:∀ x∈s,JZ P F x:=fun x hx=>hfr x (by simp;exact .inr hx);have hto:∀ {fr':Frame},JZ P F fr'->∀ x∈fr' :: s,JZ P F x:=fun h x hx=>by
    rcases List.mem_cons.1 hx with rfl|hx
    . exact h
    . exact hs x hx
  have hrnd:=h0.round;have htodo:=h0.todo;have hmv:∀ todo,(∀ (m:Bool) (cs:List Frame) (w:World),stepG P m (G fr cs) w=.go (G { fr with todo } cs) w)->(∀ x∈todo,I5 P x=true)->NW P F B main τ d fr s t w (stepG P true (G fr s) (sh (GN B w) τ d)):=
    fun todo h hk=>OL h (hto (bC h0 hk))
  have hret:(∀ (m:Bool) (cs:List Frame) (w:World),stepG P m (G fr cs) w=.go (G { fr with mode:=.returning } cs) w)->NW P F B main τ d fr s t w (stepG P true (G fr s) (sh (GN B w) τ d)):=
    fun h=>OL h (hto ⟨h0.kind,h0.round,h0.defers,h0.todo,h0.fn,fun c hc=>by cases hc⟩)
  have hend:(∃ o w' es,stepG P true (G fr s) (sh (GN B w) τ d)=.ended o w' es)->NW P F B main τ d fr s t w (stepG P true (G fr s) (sh (GN B w) τ d)):=by rintro ⟨o,w',es,h⟩;rw [h];exact trivial
  obtain ⟨fn,tmps,todo,defers,mode,kind,roundOf⟩:=fr;simp only at hmode hrnd htodo;subst hmode hrnd;cases todo with
  | nil=>exact hret fun m cs w=>by simp [G,stepG,stepG.exec]
  | cons it k=>
    have hi:=htodo it (by simp);have hk:∀ x∈k,I5 P x=true:=fun x hx=>htodo x (by simp;exact .inr hx);have cons:∀ {a:Item} {l:List Item},I5 P a=true->(∀ x∈l,I5 P x=true)->∀ x∈a :: l,I5 P x=true:=fun ha hl x hx=>by
      rcases List.mem_cons.1 hx with rfl|hx
      . exact ha
      . exact hl x hx
    cases it with
    | code c=>
      cases c with
      | skip=>exact hmv k (fun m cs w=>by simp [G,stepG,stepG.exec]) hk
      | label l=>exact hmv k (fun m cs w=>by simp [G,stepG,stepG.exec]) hk
      | ret=>exact hret fun m cs w=>by simp [G,stepG,stepG.exec]
      | refuse why=>exact hend ⟨_,_,_,by simp [G,stepG,stepG.exec];exact ⟨rfl,rfl,rfl⟩⟩
      | seq a b=>
        have hab':(JE P a && JE P b)=true:=hi;rw [Bool.and_eq_true] at hab';exact hmv (.code a :: .code b :: k) (fun m cs w=>by simp [G,stepG,stepG.exec]) (cons hab'.1 (cons hab'.2 hk))
      | cond c a b=>
        have hab':(JE P a && JE P b)=true:=hi;rw [Bool.and_eq_true] at hab';by_cases hb:∃ v,Frame.eval { fn,tmps,todo:=.code (.cond c a b) :: k,defers,mode:=.run,kind } c=.bool v
        . obtain ⟨v,hv⟩:=hb;refine hmv (.code (if v then a else b) :: k) (fun m cs w=>by simp [G,stepG,stepG.exec,hv]) (cons ?_ hk);cases v
          . exact hab'.2
          . exact hab'.1
        . refine hend ?_;generalize he:Frame.eval { fn,tmps,todo:=.code (.cond c a b) :: k,defers,mode:=.run,kind } c=e at hb;cases e with
          | bool v=>exact absurd ⟨v,rfl⟩ hb
          | _=>exact ⟨_,_,_,by simp [G,stepG,stepG.exec,he];exact ⟨rfl,rfl,rfl⟩⟩
      | block id b=>exact hmv (.code b :: .inBlock id :: k) (fun m cs w=>by simp [G,stepG,stepG.exec]) (cons hi (cons rfl hk))
      | loop b=>exact hmv (.code b :: .inLoop b :: k) (fun m cs w=>by simp [G,stepG,stepG.exec]) (cons hi (cons hi hk))
      | scope b=>exact hmv (.code b :: .inScope b :: k) (fun m cs w=>by simp [G,stepG,stepG.exec]) (cons hi (cons hi hk))
      | exit id=>
        cases he:exitTo id k with
        | some k'=>exact hmv k' (fun m cs w=>by simp [G,stepG,stepG.exec,he]) (aO he hk)
        | none=>exact hend ⟨_,_,_,by simp [G,stepG,stepG.exec,he];exact ⟨rfl,rfl,rfl⟩⟩
      | region id ops draw=>
        cases draw with
        | false=>exact hmv (.inRegion ops (List.range ops.size) :: k) (fun m cs w=>by simp [G,stepG,stepG.exec]) (cons (LY hi _) hk)
        | true=>
          have hst:∀ (m:Bool) (cs:List Frame) (w:World),stepG P m (G { fn,tmps,todo:=.code (.region id ops true) :: k,defers,mode:=.run,kind } cs) w =
              .go (G { fn,tmps,todo:=.inRegion ops (Region.schedule (P.follows .mixedOrders) ops (w.tape w.drawn (.order fn id))) :: k,defers,mode:=.run,kind } cs) { w with drawn:=w.drawn+1 }:=fun m cs w=>by
            simp [G,stepG,stepG.exec,choose,Sem.run,Question.forced,Question.cut]
          rw [hst];intro JY;have h1:=JY 0 (by simp [sh]);refine ⟨_,s,{ w with drawn:=w.drawn+1 },rfl,?_,(hst _ _ _).trans ?_,⟨rfl,rfl,rfl,Nat.le_succ _,Nat.le_refl _,fun _ _=>rfl,fun _ _ h _=>h,fun _ _ _ h=>h,fun _ _=>rfl⟩,by simp,hto ⟨h0.kind,rfl,h0.defers,cons (LY hi _) hk,h0.fn,fun c hc=>by cases hc⟩⟩
          . simp [sh,GN]
          . simp only [Nat.add_zero] at h1;rw [h1];rfl
      | rangeFunc f ps a b=>exact absurd hi Bool.false_ne_true
      | goto l=>exact absurd hi Bool.false_ne_true
    | inBlock id=>exact hmv k (fun m cs w=>by simp [G,stepG,stepG.exec]) hk
    | inLoop b=>exact hmv (.code b :: .inLoop b :: k) (fun m cs w=>by simp [G,stepG,stepG.exec]) (cons hi (cons hi hk))
    | inScope b=>exact hmv k (fun m cs w=>by simp [G,stepG,stepG.exec]) hk
    | inRegion ops l=>
      cases l with
      | nil=>exact hmv k (fun m cs w=>by simp [G,stepG,stepG.exec]) hk
      | cons i rest=>
        cases hw:((ops[i]?).map (Region.wanted · (yielded ops tmps))).getD false with
        | false=>
          refine OL (fr':=Frame.finish { fn,tmps,todo:=.inRegion ops (i :: rest) :: k,defers,mode:=.run,kind } undef) (fun m cs w=>?_) (hto (h0.finish undef));simp [G,stepG,stepG.exec,hw]
        | true=>
          cases ho:ops[i]? with
          | none=>rw [ho] at hw;cases hw
          | some o=>
            have XM:M4 P o=true:=OJ hi ho;refine Vi (sem:=execOp (Frame.eval { fn,tmps,todo:=.inRegion ops (i :: rest) :: k,defers,mode:=.run,kind }) o) hF hR hfr rfl ?_ (fun _ _ _ _ _ h=>by cases h) (fun m cs w=>?_)
            . refine Sv (fun g=>rfl) (fun v=>rfl) (fun g hg=>?_) XM;have hFg:=hab o g (by simp [Frame.oper?,ho]) hg;rcases (hF g hFg).2 with ⟨f,c,h1,h2,h3,_⟩|h|h
              . exact .inl ⟨⟨hFg,Nv XM hg⟩,f,c,h1,h2,h3⟩
              . exact .inr h
              . rw [Nv XM hg] at h;cases h
            . have hw':Region.wanted o (yielded ops tmps)=true:=by rw [ho] at hw;exact hw
              obtain ⟨dst,op,type,pos,after,guard⟩:=o;simp [G,stepG,stepG.exec,stepG.oper,Frame.oper?,ho,hw']
    | inRangeFunc l=>exact absurd hi Bool.false_ne_true
    | endRangeFunc l=>exact absurd hi Bool.false_ne_true
    | beginRound=>exact absurd hi Bool.false_ne_true
    | call d w r sv=>exact absurd hi Bool.false_ne_true
    | extern r a=>exact absurd hi Bool.false_ne_true
theorem RY {c:Frame}{s:List Frame}(hR:Rows B w)(hfr:∀ x∈fr :: c :: s,JZ P F x)(hmode:fr.mode≠.run) :
    NW P F B main τ d fr (c :: s) t w (stepG P true (G fr (c :: s)) (sh (GN B w) τ d)):=by
  have h0:=hfr fr (by simp);have hc:=hfr c (by simp);have hs:∀ x∈s,JZ P F x:=fun x hx=>hfr x (by simp;exact .inr (.inr hx));have hto:∀ {c':Frame},JZ P F c'->∀ x∈c' :: s,JZ P F x:=fun h x hx=>by
    rcases List.mem_cons.1 hx with rfl|hx
    . exact h
    . exact hs x hx
  have hdef:=h0.defers;have hkind:=h0.kind;obtain ⟨fn,tmps,todo,defers,mode,kind,roundOf⟩:=fr;simp only at hmode hdef hkind;subst hdef hkind;cases mode with
  | run=>exact absurd rfl hmode
  | returning=>
    cases hf:P.funcs[fn]? with
    | none=>
      have hst:∀ (m:Bool) (cs:List Frame) (w:World),stepG P m (G { fn,tmps,todo,defers:=[],mode:=.returning,kind:=.normal,roundOf } (c :: cs)) w=.go (G (c.finish (tmps.getD 0 undef)) cs) w:=fun m cs w=>by simp [G,stepG,unwind,hf,doReturn]
      rw [hst];exact fun _=>⟨_,s,w,rfl,by simp,hst _ _ _,Kept.refl B w,by simp,hto (hc.finish _)⟩
    | some f=>
      have hT:G6 P (fun _=>True) (results f tmps):=QN fun _=>trivial;have hst:∀ (m:Bool) (cs:List Frame) (w:World),stepG P m (G { fn,tmps,todo,defers:=[],mode:=.returning,kind:=.normal,roundOf } (c :: cs)) w =
          GStep.after (seen P fn ((results f tmps).runT P w #[]).2) (match ((results f tmps).runT P w #[]).1 with
            | .ok v w=>.go (G (c.finish v) cs) w
            | .halt (.stuck s) w=>.ended (.stuck s (Frame.pos P { fn,tmps,todo,defers:=[],mode:=.returning,kind:=.normal,roundOf })) w
            | .halt _ w => .ended (.stuck "return: the result variables cannot be read" (Frame.pos P { fn, tmps, todo, defers := [], mode := .returning, kind := .normal, roundOf })) w) := fun m cs w => by
        simp only [G,stepG,unwind,hf];generalize (results f tmps).runT P w #[]=r;obtain ⟨r,es⟩:=r;cases r with
        | ok v w=>rfl
        | halt x w=>cases x <;> rfl
      rw [hst];have over:=fun x w1=>NH (es:=#[]) (τ:=τ) (d:=d) hT hR (x:=x) (w1:=w1);generalize hr:(results f tmps).runT P (sh (GN B w) τ d) #[]=r at over;obtain ⟨r,es⟩:=r;cases r with
      | ok v w1=>
        intro JY;obtain ⟨w2,es2,h1,h2,h3,h4,h5,h6,h7⟩:=over (.inl v) w1 rfl JY;simp only [Array.empty_append] at h5 h6;subst h6;refine ⟨_,s,w2,rfl,h2,(hst _ _ _).trans ?_,h3,fun e he=>h7 e (mem_seen (by simpa [GStep.after] using he)),hto (hc.finish v)⟩;generalize hr2:(results f tmps).runT P w #[]=r2 at h1 h5;obtain ⟨r2,es2⟩:=r2;obtain rfl:=Ld h1;obtain rfl:es2=es:=h5;rfl
      | halt x w1=>cases x <;> exact trivial
  | panicking chain=>
    by_cases hca:Frame.catches P { fn,tmps,todo,defers:=[],mode:=.panicking chain,kind:=.normal,roundOf }=true
    . have:∃ o w' es,stepG P true (G { fn,tmps,todo,defers:=[],mode:=.panicking chain,kind:=.normal,roundOf } (c :: s)) (sh (GN B w) τ d)=.ended o w' es:=by simp only [G,stepG,unwind,hca,if_true];exact ⟨_,_,_,rfl⟩
      obtain ⟨o,w',es,h⟩:=this;rw [h];exact trivial
    . have hst:∀ (m:Bool) (cs:List Frame) (w:World),stepG P m (G { fn,tmps,todo,defers:=[],mode:=.panicking chain,kind:=.normal,roundOf } (c :: cs)) w=.go (G (c.raise chain) cs) w:=fun m cs w=>by simp only [G,stepG,unwind,hca,if_false,Bool.false_eq_true]
      rw [hst];exact fun _=>⟨_,s,w,rfl,by simp,hst _ _ _,Kept.refl B w,by simp,hto (hc.raise (h0.jR chain rfl))⟩
theorem bottom (hF:∀ f,F f->Lets P f)(h0:JZ P F fr)(hmode:fr.mode≠.run) :
    (∃ o w' es,stepG P true (G fr []) w=.ended o w' es)\/∃ g' w' es,stepG P true (G fr []) w=.go g' w' es/\g'.dying.isNone=false:=by
  have hdef:=h0.defers;have hkind:=h0.kind;have hfn:=(hF _ h0.fn).1;have hno:=h0.jR;obtain ⟨fn,tmps,todo,defers,mode,kind,roundOf⟩:=fr;simp only at hmode hdef hkind hfn hno;subst hdef hkind;cases mode with
  | run=>exact absurd rfl hmode
  | returning=>
    left
    cases hf:P.funcs[fn]? with
    | none=>exact ⟨_,_,_,by simp only [G,stepG,unwind,hf,doReturn,hfn];rfl⟩
    | some f=>
      simp only [G,stepG,unwind,hf];generalize (results f tmps).runT P w #[]=r;obtain ⟨r,es⟩:=r;cases r with
      | ok v w=>exact ⟨_,_,_,by simp only [doReturn,hfn];rfl⟩
      | halt x w=>cases x <;> exact ⟨_,_,_,rfl⟩
  | panicking chain=>
    have hg:(chain.head?.any (·.goexit))=false:=by
      cases chain with
      | nil=>rfl
      | cons e l=>simpa using hno _ rfl e (by simp)
    simp only [G,stepG,unwind,hg,Bool.false_eq_true,if_false];split
    . exact .inl ⟨_,_,_,rfl⟩
    . split
      . exact .inr ⟨_,_,_,rfl,rfl⟩
      . exact .inl ⟨_,_,_,rfl⟩
      . exact .inl ⟨_,_,_,rfl⟩
end
end
end
section
inductive Way (P:Program)(main:Bool)(R:World->World->Prop)(D:World->World->Array Event->Prop)(Stop:Goroutine->World->Prop):Goroutine->World->Prop
  | stop {g:Goroutine} {w:World} (h:∀ w₁,R w w₁->Stop g w₁):Way P main R D Stop g w
  | step {g:Goroutine} {w:World} (hs:g.status=.running) (h:∀ w₁,R w w₁->∃ g' w' es,stepG P main g w₁=.go g' w' es/\D w₁ w' es)
      (k:∀ w₁ g' w' es,R w w₁->stepG P main g w₁=.go g' w' es->Way P main R D Stop g' w'):Way P main R D Stop g w
section
variable {P:Program}{main:Bool}{R:World->World->Prop}{D:World->World->Array Event->Prop}{Stop Stop':Goroutine->World->Prop}{g:Goroutine}{w:World}
theorem Way.rely (trans:∀ a b c,R a b->R b c->R a c){w₁:World}(h:Way P main R D Stop g w)(hr:R w w₁):Way P main R D Stop g w₁:=by
  cases h with
  | stop h=>exact .stop fun w₂ h₂=>h w₂ (trans _ _ _ hr h₂)
  | step hs h k=>exact .step hs (fun w₂ h₂=>h w₂ (trans _ _ _ hr h₂)) fun w₂ g' w' es h₂=>k w₂ g' w' es (trans _ _ _ hr h₂)
theorem Way.one (hs:g.status=.running)(h:∀ w₁,R w w₁->∃ g' w' es,stepG P main g w₁=.go g' w' es/\D w₁ w' es/\Way P main R D Stop g' w'):Way P main R D Stop g w:=
  .step hs (fun w₁ h₁=>let ⟨g',w',es,a,b,_⟩:=h w₁ h₁;⟨g',w',es,a,b⟩) fun w₁ g' w' es h₁ hst=>by
    obtain ⟨g2,w2,es2,a,_,c⟩:=h w₁ h₁;rw [a] at hst;cases hst
    exact c
theorem Way.bind (refl:∀ w,R w w)(h:Way P main R D Stop g w)(k:∀ g w,(∀ w₁,R w w₁->Stop g w₁)->Way P main R D Stop' g w):Way P main R D Stop' g w:=by
  induction h with
  | stop h=>exact k _ _ h
  | step hs h _ ih=>exact .step hs h ih
theorem Way.mono (h:Way P main R D Stop g w)(k:∀ g w,Stop g w->Stop' g w):Way P main R D Stop' g w:=by
  induction h with
  | stop h=>exact .stop fun w₁ h₁=>k _ _ (h w₁ h₁)
  | step hs h _ ih=>exact .step hs h ih
end
def TT:Hid:={ hol:=fun _=>false }
theorem Jt {w:World}(h:Jq w):GN TT w=w:=by
  have:(GN TT w).heap=w.heap:=by
    apply Array.ext_getElem?;intro i;rw [H8];cases ho:w.heap[i]? with
    | none=>rfl
    | some o=>
      simp only [TT,Option.map_some,Bool.false_eq_true,if_false,LD]
      congr 1
      cases o <;> first | rfl | exact absurd ho (h _ _ _)
  simp only [GN] at this ⊢;rw [this]
theorem Mg (w:World):Rows TT w:=⟨fun b h=>(by cases h),fun b h=>(by cases h)⟩
theorem Kept.Vv {B:Hid}{w w':World}(h:Kept B w w')(hN:Jq w):Jq w':=fun b c e hp=>hN b c e (h.pend b c e hp)
structure Turns (B:Hid)(w w₁:World):Prop where
  tape:w₁.tape=w.tape
  same:GN B w₁=sh (GN B w) w.tape w₁.drawn
  rows:Rows B w->Rows B w₁
section
variable [Host]
variable {P:Program}{F:FuncId->Prop}{B:Hid}{main:Bool}{R:World->World->Prop}{D:World->World->Array Event->Prop}{t:List Frame}
structure Nd where
  fr:Frame
  s:List Frame
  w:World
def Ad (P:Program)(B:Hid)(main:Bool)(D:World->World->Array Event->Prop)(t:List Frame)(x:Nd)(w₁:World)(y:Nd):Prop:=
  ∃ es,stepG P true (G x.fr x.s) (GN B w₁)=.go (G y.fr y.s) (GN B y.w) es/\stepG P main (G x.fr (x.s ++ t)) w₁=.go (G y.fr (y.s ++ t)) y.w es/\D w₁ y.w es
def Bad (P:Program)(F:FuncId->Prop)(B:Hid)(main:Bool)(R:World->World->Prop)(D:World->World->Array Event->Prop)(Stop:Goroutine->World->Prop)(t:List Frame):Type:=
  { x:Nd // (∀ y∈x.fr :: x.s,JZ P F y)/\Rows B x.w/\¬ Way P main R D Stop (G x.fr (x.s ++ t)) x.w }
variable {Stop:Goroutine->World->Prop}
theorem SE (x:Bad P F B main R D Stop t):∃ w₁,R x.1.w w₁/\∀ g' w' es,stepG P main (G x.1.fr (x.1.s ++ t)) w₁=.go g' w' es->D w₁ w' es->¬ Way P main R D Stop g' w':=by apply Classical.byContradiction;intro h;refine x.2.2.2 (.one rfl fun w₁ h₁=>?_);apply Classical.byContradiction;intro h2;refine h ⟨w₁,h₁,fun g' w' es a b c=>h2 ⟨g',w',es,a,b,c⟩⟩
noncomputable def Im (x:Bad P F B main R D Stop t):World:=(SE x).choose
theorem WT (x:Bad P F B main R D Stop t):R x.1.w (Im x):=(SE x).choose_spec.1
theorem X8 (x:Bad P F B main R D Stop t):∀ g' w' es,stepG P main (G x.1.fr (x.1.s ++ t)) (Im x)=.go g' w' es->D (Im x) w' es->¬ Way P main R D Stop g' w':=(SE x).choose_spec.2
open Classical in
noncomputable def Oc (x:Bad P F B main R D Stop t):Option (Bad P F B main R D Stop t):=
  if h:∃ y:Bad P F B main R D Stop t,Ad P B main D t x.1 (Im x) y.1 then some h.choose else none
theorem XC {x y:Bad P F B main R D Stop t}(h:Oc x=some y):Ad P B main D t x.1 (Im x) y.1:=by
  unfold Oc at h;split at h
  . rename_i h'
    cases h
    exact h'.choose_spec
  . cases h
theorem Wn {x:Bad P F B main R D Stop t}(h:Oc x=none):∀ y:Bad P F B main R D Stop t,¬ Ad P B main D t x.1 (Im x) y.1:=by
  unfold Oc at h;split at h
  . cases h
  . rename_i h'
    exact fun y hy=>h' ⟨y,hy⟩
noncomputable def Ll (x:Bad P F B main R D Stop t):Nat->Option (Bad P F B main R D Stop t)
  | 0=>some x
  | k+1=>(Ll x k).bind Oc
noncomputable def Tp (x:Bad P F B main R D Stop t)(k:Nat):Nat:=
  match Ll x k,Ll x (k+1) with
  | some a,some b=>b.1.w.drawn - (Im a).drawn
  | _,_=>0
noncomputable def posOf (x:Bad P F B main R D Stop t):Nat->Nat
  | 0=>0
  | k+1=>posOf x k+Tp x k
theorem SX (x:Bad P F B main R D Stop t){i j:Nat}(h:i<=j):posOf x i<=posOf x j:=by
  induction h with
  | refl=>exact Nat.le_refl _
  | step _ ih=>exact Nat.le_trans ih (Nat.le_add_right _ _)
theorem R9 {x:Bad P F B main R D Stop t}{k:Nat}(h:Ll x k=none):∀ j,k<=j->Ll x j=none:=by
  intro j hj;induction hj with
  | refl=>exact h
  | step _ ih=>simp [Ll,ih]
theorem least (p:Nat->Prop)(h:∃ n,p n):∃ n,p n/\∀ m,m < n->¬ p m:=by
  obtain ⟨n,hn⟩:=h;induction n using Nat.strongRecOn with
  | _ n ih=>
    by_cases hex:∃ m,m < n/\p m
    . obtain ⟨m,hm,hp⟩:=hex;exact ih m hm hp
    . exact ⟨n,hn,fun m hm hp=>hex ⟨m,hm,hp⟩⟩
noncomputable def UR (x:Bad P F B main R D Stop t)(k:Nat):World:=
  match Ll x k with
  | some a=>Im a
  | none=>Im x
open Classical in
noncomputable def idxOf (x:Bad P F B main R D Stop t)(m:Nat):Nat:=
  if h:∃ k,m < posOf x (k+1) then (least _ h).choose else if h:∃ k,Ll x (k+1)=none then (least _ h).choose else 0
noncomputable def Iy (x:Bad P F B main R D Stop t):Nat->Question->Nat:=fun m=>(UR x (idxOf x m)).tape ((UR x (idxOf x m)).drawn+(m - posOf x (idxOf x m)))
theorem Xe {x a b:Bad P F B main R D Stop t}{k:Nat}(ha:Ll x k=some a)(hb:Ll x (k+1)=some b){i:Nat}(hi:i < b.1.w.drawn - (Im a).drawn) :
    Iy x (posOf x k+i)=(Im a).tape ((Im a).drawn+i):=by
  have hc:Tp x k=b.1.w.drawn - (Im a).drawn:=by simp [Tp,ha,hb]
  have hlt:posOf x k+i < posOf x (k+1):=by simp only [posOf];omega
  have hex:∃ k',posOf x k+i < posOf x (k'+1):=⟨k,hlt⟩
  have hid:idxOf x (posOf x k+i)=k:=by
    unfold idxOf;rw [dif_pos hex];obtain ⟨h2,h1⟩:=(least _ hex).choose_spec;generalize (least _ hex).choose=n at h1 h2;rcases Nat.lt_or_ge n k with h|h
    . have:=SX x (show n+1<=k from h);omega
    . rcases Nat.lt_or_ge k n with h' | h'
      . exact absurd hlt (h1 k h')
      . omega
  unfold Iy;rw [hid];have hs:UR x k=Im a:=by simp [UR,ha]
  rw [hs,show posOf x k+i - posOf x k=i by omega]
theorem WI {x a:Bad P F B main R D Stop t}{k:Nat}(ha:Ll x k=some a)(hb:Ll x (k+1)=none)(i:Nat) :
    Iy x (posOf x k+i)=(Im a).tape ((Im a).drawn+i):=by
  have hpos:∀ j,k<=j->posOf x j=posOf x k:=by
    intro j hj;induction hj with
    | refl=>rfl
    | step h ih=>
      rename_i j
      have:Tp x j=0:=by
        have:=R9 hb (j+1) (Nat.succ_le_succ h);unfold Tp;rw [this];split
        . rename_i h;cases h
        . rfl
      simp only [posOf,this,ih,Nat.add_zero]
  have hex:¬ ∃ k',posOf x k+i < posOf x (k'+1):=by
    rintro ⟨k',h⟩;rcases Nat.lt_or_ge k' k with hl|hl
    . have:=SX x (show k'+1<=k from hl);omega
    . have:=hpos (k'+1) (by omega);omega
  have Ya:∃ k,Ll x (k+1)=none:=⟨k,hb⟩
  have hid:idxOf x (posOf x k+i)=k:=by
    unfold idxOf;rw [dif_neg hex,dif_pos Ya];obtain ⟨h2,h1⟩:=(least _ Ya).choose_spec;generalize (least _ Ya).choose=n at h1 h2;rcases Nat.lt_or_ge n k with h|h
    . have:=R9 h2 k (by omega);rw [this] at ha;cases ha
    . rcases Nat.lt_or_ge k n with h' | h'
      . exact absurd hb (h1 k h')
      . omega
  unfold Iy;rw [hid];have hs:UR x k=Im a:=by simp [UR,ha]
  rw [hs,show posOf x k+i - posOf x k=i by omega]
theorem Qj {fr:Frame}{cs:List Frame}{w w':World}{g':Goroutine}{es:Array Event}(h:stepG P true (G fr cs) w=.go g' w' es) :
    ∃ m1,step P (lone fr cs w)=.next m1/\g'∈m1.gs:=by
  have h':stepG P true { frame:=fr,callers:=cs,status:=.running,dying:=none } w=.go g' w' es:=h;rw [step,stepT,move_lone];simp [runT,lone,Array.swapAt!,h']
theorem KI {fr:Frame}{cs:List Frame}{w w':World}{o:Outcome}{es:Array Event}(h:stepG P true (G fr cs) w=.ended o w' es):∃ o w',step P (lone fr cs w)=.ended o w':=by have h':stepG P true { frame:=fr,callers:=cs,status:=.running,dying:=none } w=.ended o w' es:=h;rw [step,stepT,move_lone];simp [runT,lone,h']
theorem Rt {fr fr':Frame}{cs cs':List Frame}{w w':World}{es:Array Event}(h:stepG P true (G fr cs) w=.go (G fr' cs') w' es):step P (lone fr cs w)=.next (lone fr' cs' w'):=
  step_lone_go (by have h':stepG P true { frame:=fr,callers:=cs,status:=.running,dying:=none } w=.go (G fr' cs') w' es:=h;rw [h'];rfl)
theorem fT (trans:∀ a b c,R a b->R b c->R a c)(hT:∀ w w₁,R w w₁->Turns B w w₁)(hD:∀ w w' es,Rows B w->Kept B w w'->(∀ e∈es,Lr B w'.heap.size e)->D w w' es)(hF:∀ f,F f->Lets P f){Fn:Fence}(hFn:∀ f,Fn.fn f->F f)(hal:Fn.alive=true){XF:Frame}{w0:World}(hok:JZ P F XF)(hR0:Rows B w0){Rp:(Nat->Question->Nat)->Ending->World->Prop}(hret:∀ τ e w',Rp τ e w'->∃ v,e=.returned v)(hcon:∀ τ,∃ e w' fr,Rp τ e w'/\ComesIn (Machine.fenced P Fn) P (lone XF [] (sh (GN B w0) τ 0)) (lone fr [] w') e/\fr.leaving P w' e) :
    Way P main R D (fun g w=>∃ fr τ d v,g=G fr t/\Rp τ (.returned v) (sh (GN B w) τ d)/\fr.leaving P (sh (GN B w) τ d) (.returned v)/\JZ P F fr/\Rows B w) (G XF t) w0:=by
  apply Classical.byContradiction;intro hno
  let Stop:Goroutine->World->Prop:=fun g w=>∃ fr τ d v,g=G fr t/\Rp τ (.returned v) (sh (GN B w) τ d)/\fr.leaving P (sh (GN B w) τ d) (.returned v)/\JZ P F fr/\Rows B w
  let x0:Bad P F B main R D Stop t:=⟨⟨XF,[],w0⟩,by simpa using hok,hR0,hno⟩
  obtain ⟨e,w',fr,hRp,hC,hlv⟩:=hcon (Iy x0);obtain ⟨v,rfl⟩:=hret _ _ _ hRp;obtain ⟨N,hN,mX⟩:=StepsIn.run hC;have claim:∀ k,k<=N->∃ x,Ll x0 k=some x/\runN P k (lone XF [] (sh (GN B w0) (Iy x0) 0))=.next (lone x.1.fr x.1.s (sh (GN B x.1.w) (Iy x0) (posOf x0 k))):=by
    intro k;induction k with
    | zero=>exact fun _=>⟨x0,rfl,rfl⟩
    | succ k ih=>
      intro hk;obtain ⟨x,hx,hrun⟩:=ih (by omega);have hfk:=mX k (by omega) _ hrun;have hnext:∃ m1,step P (lone x.1.fr x.1.s (sh (GN B x.1.w) (Iy x0) (posOf x0 k)))=.next m1/\∀ m2,step P (lone x.1.fr x.1.s (sh (GN B x.1.w) (Iy x0) (posOf x0 k)))=.next m2->runN P (k+1) (lone XF [] (sh (GN B w0) (Iy x0) 0))=.next m2:=by
        have hadd:=runN_add P k 1 (lone XF [] (sh (GN B w0) (Iy x0) 0));rw [hrun] at hadd;have h1:runN P 1 (lone x.1.fr x.1.s (sh (GN B x.1.w) (Iy x0) (posOf x0 k)))=step P (lone x.1.fr x.1.s (sh (GN B x.1.w) (Iy x0) (posOf x0 k))):=by simp only [runN];cases step P (lone x.1.fr x.1.s (sh (GN B x.1.w) (Iy x0) (posOf x0 k))) <;> rfl
        cases hs:step P (lone x.1.fr x.1.s (sh (GN B x.1.w) (Iy x0) (posOf x0 k))) with
        | next m1=>
          refine ⟨m1,rfl,fun m2 h2=>?_⟩;cases h2
          rw [hadd];simp only [h1,hs]
        | ended o w2=>
          exfalso
          have hE:runN P (k+1) (lone XF [] (sh (GN B w0) (Iy x0) 0))=.ended o w2:=by rw [hadd];simp only [h1,hs]
          have:=runN_ended hE (N - (k+1));rw [show k+1+(N - (k+1))=N by omega,hN] at this;cases this
      obtain ⟨m1,hm1,Wq⟩:=hnext;have cO:=hT _ _ (WT x);have Uw:=cO.rows x.2.2.1;have hsame:sh (GN B (Im x)) (Iy x0) (posOf x0 k)=sh (GN B x.1.w) (Iy x0) (posOf x0 k):=by rw [cO.same];rfl
      have hg0:=hfk (G x.1.fr x.1.s) (by simp [lone,G]);have hab:x.1.fr.mode=.run->∀ o g,x.1.fr.oper?=some o->J4 o=some g->F g:=fun hm o g ho hc=>hFn _ (hg0.2.2.1 g (Qt hm ho hc));have Afp:x.1.s≠[]\/x.1.fr.mode=.run:=by
        by_cases hs:x.1.s=[]
        . by_cases hm:x.1.fr.mode=.run
          . exact .inr hm
          . exfalso
            rw [hs] at hm1 Wq;rcases bottom hF (x.2.1 x.1.fr (by simp)) hm (w:=sh (GN B x.1.w) (Iy x0) (posOf x0 k)) with ⟨o,w2,es,hb⟩|⟨g',w2,es,hb,hdy⟩
            . obtain ⟨o,w2,h⟩:=KI hb;rw [hm1] at h;cases h
            . obtain ⟨m2,h,hmem⟩:=Qj hb;have hr:=Wq m2 h;rcases Nat.lt_or_ge (k+1) N with hlt|hge
              . have:=(mX (k+1) hlt _ hr g' hmem).1 hal;rw [this] at hdy;cases hdy
              . have hkN:k+1=N:=by omega
                rw [hkN,hN] at hr;cases hr
                simp only [lone,List.mem_toArray,List.mem_singleton] at hmem;subst hmem;cases hdy
        . exact .inl hs
      have hstep:∀ (B':Hid) (mn:Bool) (τ:Nat->Question->Nat) (d:Nat) (t':List Frame) (w:World),Rows B' w->NW P F B' mn τ d x.1.fr x.1.s t' w (stepG P true (G x.1.fr x.1.s) (sh (GN B' w) τ d)):=by
        intro B' mn τ d t' w hRo;by_cases hm:x.1.fr.mode=.run
        . exact XK hF hRo x.2.1 hm (hab hm)
        . rcases Afp with hs | h
          . obtain ⟨c,l,hcl⟩:=List.exists_cons_of_ne_nil hs;have hfr:=x.2.1;rw [hcl] at hfr ⊢;exact RY hRo hfr hm
          . exact absurd h hm
      cases hnx:Ll x0 (k+1) with
      | none=>
        exfalso
        have hag:=WI hx hnx;have h1:=hstep B main (Iy x0) (posOf x0 k) t (Im x) Uw;have h2:=hstep TT true (Iy x0) (posOf x0 k) [] (GN B (Im x)) (Mg _);rw [Jt (IG Uw)] at h2;cases hst:stepG P true (G x.1.fr x.1.s) (sh (GN B (Im x)) (Iy x0) (posOf x0 k)) with
        | go g w1 es=>
          rw [hst] at h1 h2;obtain ⟨fr',s',w2,rfl,e1,e2,hK,hev,Adu⟩:=h1 fun i _=>(hag i).symm;obtain ⟨oQ,s2,w3,e3,e4,e5,hK3,_,_⟩:=h2 fun i _=>(hag i).symm;have hdw:=hD _ _ _ Uw hK hev;have hw3:w3=GN B w2:=by
            have tK:=hK3.Vv (IG Uw);rw [Jt tK] at e4;have hh:sh w3 (Iy x0) (posOf x0 k+(w3.drawn - (Im x).drawn))=sh (GN B w2) (Iy x0) (posOf x0 k+(w2.drawn - (Im x).drawn)):=e4.symm.trans e1;have ht3:w3.tape=(GN B w2).tape:=by rw [hK3.tape];exact hK.tape.symm
            have hd3:w3.drawn=(GN B w2).drawn:=by have hh':posOf x0 k+(w3.drawn - (Im x).drawn)=posOf x0 k+(w2.drawn - (Im x).drawn):=congrArg World.drawn hh;have l1:(Im x).drawn<=w3.drawn:=hK3.drawn;have l2:(Im x).drawn<=w2.drawn:=hK.drawn;show w3.drawn=w2.drawn;omega
            have:sh (sh w3 (Iy x0) (posOf x0 k+(w3.drawn - (Im x).drawn))) w3.tape w3.drawn=sh (sh (GN B w2) (Iy x0) (posOf x0 k+(w2.drawn - (Im x).drawn))) (GN B w2).tape (GN B w2).drawn:=by rw [hh,ht3,hd3]
            exact this
          subst hw3;simp only [List.append_nil] at e5;have kP:G fr' s'=G oQ s2:=e3;simp only [G,Goroutine.mk.injEq] at kP;obtain ⟨rfl,rfl,_⟩:=kP;have hbad:=X8 x _ _ _ e2 hdw;have hs1:Oc x=none:=by have:Ll x0 (k+1)=(Ll x0 k).bind Oc:=rfl;rw [hx] at this;exact this.symm.trans hnx
          exact Wn hs1 ⟨⟨fr',s',w2⟩,Adu,Uw.kept hK,hbad⟩ ⟨es,e5,e2,hdw⟩
        | ended o w1 es=>
          rw [hsame] at hst;obtain ⟨o,w2,h⟩:=KI hst;rw [hm1] at h;cases h
        | _=>rw [hst] at h1;exact h1.elim
      | some y=>
        have hs1:Oc x=some y:=by have:Ll x0 (k+1)=(Ll x0 k).bind Oc:=rfl;rw [hx] at this;exact this.symm.trans hnx
        obtain ⟨es,a1,a2,a3⟩:=XC hs1;refine ⟨y,rfl,?_⟩;have h2:=hstep TT true (Im x).tape (Im x).drawn [] (sh (GN B (Im x)) (Iy x0) (posOf x0 k)) (Mg _);have hNP:Jq (sh (GN B (Im x)) (Iy x0) (posOf x0 k)):=IG Uw;rw [Jt hNP] at h2;have hback:sh (sh (GN B (Im x)) (Iy x0) (posOf x0 k)) (Im x).tape (Im x).drawn=GN B (Im x):=rfl;rw [hback,a1] at h2;obtain ⟨oQ,s2,w3,e3,e4,e5,hK3,_,_⟩:=h2 fun i hi=>Xe hx hnx (by have:(Im x).drawn+i < y.1.w.drawn:=hi;omega)
        simp only [G,Goroutine.mk.injEq] at e3;obtain ⟨rfl,rfl,_⟩:=e3;simp only [List.append_nil] at e5;have tK:=hK3.Vv hNP;rw [Jt tK] at e4;have hc:Tp x0 k=y.1.w.drawn - (Im x).drawn:=by simp [Tp,hx,hnx]
        have hw3:w3=sh (GN B y.1.w) (Iy x0) (posOf x0 (k+1)):=by
          have hd:y.1.w.drawn=(Im x).drawn+(w3.drawn - posOf x0 k):=congrArg World.drawn e4;have hl:posOf x0 k<=w3.drawn:=hK3.drawn;have ht3:w3.tape=Iy x0:=hK3.tape;have hdr:w3.drawn=posOf x0 (k+1):=by simp only [posOf,hc];omega
          have:sh (GN B y.1.w) w3.tape w3.drawn=sh (sh w3 (Im x).tape ((Im x).drawn+(w3.drawn - posOf x0 k))) w3.tape w3.drawn:=by rw [e4];rfl
          rw [ht3,hdr] at this;rw [this];show w3={ w3 with tape:=Iy x0,drawn:=posOf x0 (k+1) }
          rw [← ht3,← hdr]
        have hst:stepG P true (G x.1.fr x.1.s) (sh (GN B x.1.w) (Iy x0) (posOf x0 k))=.go (G y.1.fr y.1.s) w3 es:=by rw [← hsame];exact e5
        rw [← hw3];exact Wq _ (Rt hst)
  obtain ⟨x,hx,hrun⟩:=claim N (Nat.le_refl _);rw [hN] at hrun;have hl:lone fr [] w'=lone x.1.fr x.1.s (sh (GN B x.1.w) (Iy x0) (posOf x0 N)):=by injection hrun
  simp only [lone,Machine.mk.injEq] at hl;obtain ⟨hw,hgs,_⟩:=hl;simp only [Array.mk.injEq,List.cons.injEq,Goroutine.mk.injEq] at hgs;obtain ⟨⟨hfr,hcs,_⟩,_⟩:=hgs;refine x.2.2.2 (.stop fun w₁ h₁=>?_);have cO:=hT _ _ h₁;refine ⟨x.1.fr,Iy x0,posOf x0 N,v,?_,?_,?_,x.2.1 _ (by simp),cO.rows x.2.2.1⟩
  . rw [← hcs];rfl
  . have:sh (GN B w₁) (Iy x0) (posOf x0 N)=w':=by rw [cO.same,hw];rfl
    rw [this];exact hRp
  . have:sh (GN B w₁) (Iy x0) (posOf x0 N)=w':=by rw [cO.same,hw];rfl
    rw [this,← hfr];exact hlv
theorem aj (refl:∀ w,R w w)(trans:∀ a b c,R a b->R b c->R a c)(hT:∀ w w₁,R w w₁->Turns B w w₁)(hD:∀ w w' es,Rows B w->Kept B w w'->(∀ e∈es,Lr B w'.heap.size e)->D w w' es)(hF:∀ f,F f->Lets P f){Fn:Fence}(hFn:∀ f,Fn.fn f->F f)(hal:Fn.alive=true)(Mv:Fn.depth=none){f:FuncId}(hbar:Host.bar f=false){args:Array Value}{n:Nat}{w0:World}(hR0:Rows B w0){Rp:(Nat->Question->Nat)->Ending->World->Prop}(hret:∀ τ e w',Rp τ e w'->∃ v,e=.returned v)(hcon:∀ τ,CallsIn Fn n P f args (sh (GN B w0) τ 0) (Rp τ)){c:Frame}{cs:List Frame}{Stop:Goroutine->World->Prop}(hk:∀ v w' τ d,Rows B w'->Rp τ (.returned v) (sh (GN B w') τ d)->Way P main R D Stop (G (c.finish v) cs) w'):Way P main R D Stop (G (Frame.enter P f args .normal) (c :: cs)) w0:=by
  have hFf:F f:=hFn f (hcon (fun _ _=>0)).1;refine (fT (t:=c :: cs) trans hT hD hF hFn hal (JZ.enter hF ⟨hFf,hbar⟩ args) hR0 hret fun τ=>?_).bind refl fun g w hst=>?_
  . obtain ⟨e,w',fr,h1,h2,_,h3⟩:=(hcon τ).2 [] (fun d hd=>by rw [Mv] at hd;cases hd)
    exact ⟨e,w',fr,h1,h2,h3⟩
  . obtain ⟨fr,_,_,_,hg,_,_,_,_⟩:=hst w (refl w);subst hg;refine .one rfl fun w₁ h₁=>?_;obtain ⟨fr',τ,d,v,hg,hRp,hlv,hok,hR⟩:=hst w₁ h₁;have hfr:fr=fr':=by simpa [G] using hg
    subst hfr;obtain ⟨hm,hdf,hkd,fn,hfn,hres⟩:=hlv;have eD:G6 P (fun _=>True) (results fn fr.tmps):=QN fun _=>trivial;obtain ⟨w2,es2,h1,h2,h3,_,h5,_,h7⟩:=NH (es:=#[]) (τ:=τ) (d:=d) eD hR (x:=.inl v) (w1:=sh (GN B w₁) τ d) (by rw [Sem.runT_fst,hres];rfl) (fun i hi=>by have:d+i < d:=hi;omega);refine ⟨G (c.finish v) cs,w2,seen P fr.fn es2,?_,hD _ _ _ hR h3 fun e he=>h7 e (mem_seen he),?_⟩
    . obtain ⟨fn',tmps,todo,defers,mode,kind,roundOf⟩:=fr;simp only at hm hdf hkd hfn;subst hm hdf hkd;simp only [G,stepG,unwind,hfn];simp only [Array.empty_append] at h5;generalize hr:(results fn tmps).runT P w₁ #[]=r at h1 h5;obtain ⟨r,es⟩:=r;obtain rfl:=Ld h1;obtain rfl:es=es2:=h5;simp [doReturn,GStep.after]
    . have hw:sh (GN B w₁) τ d=sh (GN B w2) τ (d+(w2.drawn - w₁.drawn)):=h2;exact hk v w2 τ _ (hR.kept h3) (by rw [← hw];exact hRp)
end
end
end Go.LT
