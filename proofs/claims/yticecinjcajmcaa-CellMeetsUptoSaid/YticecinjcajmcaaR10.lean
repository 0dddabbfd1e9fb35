/-
  Part 10 of the proof that CellMeets returns true, and leaves its arguments as they were, for every input whose reading is of bulk at most 1048576. No further condition.
-/
import Derived.Test.YticecinjcajmcaaR00
import Derived.Test.YticecinjcajmcaaR09
import Derived.TacticsIn
set_option linter.unusedVariables false
set_option linter.unusedSectionVars false
set_option linter.unusedSimpArgs false
set_option maxHeartbeats 2000000
noncomputable section
namespace Go.LT
open Go Go.Conc
section
variable [Host]
def RR : Item := .code (.refuse "")
inductive Cv (P:Program)(k:List Item)(l2:Option (Array Oper × List Nat)):List Item->List Item->Prop
  | base (h:l2=none):Cv P k l2 [RR] k
  | reg {l':List Nat} {ops:Array Oper} {l:List Nat} (h:l2=some (ops,l')) (ho:FH P (.inRegion ops l)=true):Cv P k l2 [.inRegion ops l,RR] (.inRegion ops (l ++ l') :: k)
  | cons {it:Item} {X Y:List Item} (h:l2=none) (hi:FH P it=true) (hc:Cv P k l2 X Y):Cv P k l2 (it :: X) (it :: Y)
def qY (l2:Option (Array Oper × List Nat))(X:List Item):Prop:=(l2=none/\X=[RR])\/(l2≠none/\∃ ops,X=[.inRegion ops [],RR])
section
variable {P:Program}{F:FuncId->Prop}{k:List Item}{l2:Option (Array Oper × List Nat)}{X Y:List Item}
theorem Cv.ok (h:Cv P k l2 X Y):∀ it∈X,FH P it=true:=by
  induction h with
  | base h=>intro it hit;simp only [List.mem_singleton] at hit;subst hit;rfl
  | reg h ho=>
    intro it hit;simp only [List.mem_cons,List.not_mem_nil,or_false] at hit;rcases hit with rfl|rfl
    . exact ho
    . rfl
  | cons h hi hc ih=>
    intro it hit;rcases List.mem_cons.1 hit with rfl|hit
    . exact hi
    . exact ih it hit
theorem Cv.exit {id:Nat}(h:Cv P k l2 X Y):∀ {X':List Item},exitTo id X=some X'->∃ Y',exitTo id Y=some Y'/\Cv P k l2 X' Y':=by
  induction h with
  | base h=>intro X' e;simp [exitTo,RR] at e
  | reg h ho=>intro X' e;simp [exitTo,RR] at e
  | @cons it X Y h hi hc ih=>
    intro X' e;cases it with
    | inBlock id'=>
      unfold exitTo at e ⊢;split at e
      . rename_i hid
        cases e
        exact ⟨Y,by simp [hid],hc⟩
      . rename_i hid
        simp only [hid,if_false,Bool.false_eq_true];exact ih e
    | _=>exact ih e
structure eF where
  k:List Item
  l2:Option (Array Oper × List Nat)
  ds:List Deferred
  κ:CallKind
  fn:FuncId
structure Bt (P:Program)(F:FuncId->Prop)(p:eF)(x y:Frame):Prop where
  ex:∃ tm X Y mode,Cv P p.k p.l2 X Y/\(∀ ch,mode=.panicking ch->∀ e∈ch,e.goexit=false)/\x={ fn:=p.fn,tmps:=tm,todo:=X,defers:=[],mode,kind:=.normal }/\y={ fn:=p.fn,tmps:=tm,todo:=Y,defers:=p.ds,mode,kind:=p.κ }
  fn:F p.fn
  kind:p.κ≠.early
def WC (p:eF)(x:Frame):Prop:=x.mode≠.run\/qY p.l2 x.todo
end
section
variable {P:Program}{F:FuncId->Prop}{p:eF}{x y:Frame}
theorem Bt.ok (h:Bt P F p x y):GD P F x:=by obtain ⟨⟨tm,X,Y,mode,hc,hm,rfl,rfl⟩,hf,_⟩:=h;exact ⟨rfl,rfl,rfl,hc.ok,hf,hm⟩
theorem Bt.running (h:¬ WC p x):x.mode=.run:=Classical.byContradiction fun e=>h (.inl e)
theorem Bt.on (h:Bt P F p x y)(hn:¬ WC p x)(bk:Yx)(hb:∀ ch,bk=.raise ch->∀ e∈ch,e.goexit=false):Bt P F p (bk.on x) (bk.on y):=by
  have hr:=Bt.running hn;obtain ⟨⟨tm,X,Y,mode,hc,hm,rfl,rfl⟩,hf,hk⟩:=h;simp only at hr;subst hr;have hfx:¬ qY p.l2 X:=fun z=>hn (.inr z);refine ⟨?_,hf,hk⟩;cases bk with
  | raise ch=>exact ⟨tm,X,Y,.panicking ch,hc,fun c e=>by cases e;exact hb ch rfl,rfl,rfl⟩
  | finish v=>
    have hmr:∀ ch,FrameMode.run=.panicking ch->∀ e∈ch,e.goexit=false:=fun ch e=>by cases e
    cases hc with
    | base h=>exact absurd (.inl ⟨h,rfl⟩) hfx
    | @reg l' ops l h ho=>
      cases l with
      | nil=>exact absurd (.inr ⟨by rw [h];simp,ops,rfl⟩) hfx
      | cons i rest=>exact ⟨_,_,_,.run,.reg h (LQ ho),hmr,rfl,rfl⟩
    | @cons it X Y h hi hc=>
      cases it with
      | inRegion ops l=>
        cases l with
        | nil=>exact ⟨tm,_,_,.run,.cons h hi hc,hmr,rfl,rfl⟩
        | cons i rest=>exact ⟨_,_,_,.run,.cons (it:=.inRegion ops rest) h (LQ hi) hc,hmr,rfl,rfl⟩
      | code c=>exact ⟨tm,_,_,.run,.cons h hi hc,hmr,rfl,rfl⟩
      | inBlock b=>exact ⟨tm,_,_,.run,.cons h hi hc,hmr,rfl,rfl⟩
      | inLoop b=>exact ⟨tm,_,_,.run,.cons h hi hc,hmr,rfl,rfl⟩
      | inScope b=>exact ⟨tm,_,_,.run,.cons h hi hc,hmr,rfl,rfl⟩
      | _=>exact absurd hi Bool.false_ne_true
def StepB (P:Program)(F:FuncId->Prop)(p:eF)(B:Hid)(main:Bool)(τ:Nat->Question->Nat)(d:Nat)(x y:Frame)(cs:List Frame)(w:World):GStep->Prop
  | .go g w1 es=>(∀ i,d+i < w1.drawn->w.tape (w.drawn+i)=τ (d+i))->∃ fr' w2,w1=sh (D7 B w2) τ (d+(w2.drawn - w.drawn))/\Kept B w w2/\(∀ e∈es,IG B w2.heap.size e)/\
      ((∃ y',g=G fr' []/\Bt P F p fr' y'/\stepG P main (G y cs) w=.go (G y' cs) w2 es)\/(g=G fr' [x]/\GD P F fr'/\stepG P main (G y cs) w=.go (G fr' (y :: cs)) w2 es))
  | .ended ..=>True
  | _=>False
variable {B:Hid}{main:Bool}{τ:Nat->Question->Nat}{d:Nat}{cs:List Frame}{w:World}
theorem MZ {x' y':Frame}(hx:∀ (m:Bool) (cs:List Frame) (w:World),stepG P m (G x cs) w=.go (G x' cs) w)(hy:∀ (m:Bool) (cs:List Frame) (w:World),stepG P m (G y cs) w=.go (G y' cs) w)(hb:Bt P F p x' y') :
    StepB P F p B main τ d x y cs w (stepG P true (G x []) (sh (D7 B w) τ d)):=by
  rw [hx];exact fun _=>⟨x',w,by simp,Kept.refl B w,by simp,.inl ⟨y',rfl,hb,hy _ _ _⟩⟩
theorem U5 (hF:∀ f,F f->Lets P f)(hR:Rows B w)(hb:Bt P F p x y)(hn:¬ WC p x){sem:Sem Next}(hT:Ed P (Hz (Fb F)) sem)(hwx:∀ d wr r sv k,x.todo≠.call d wr r sv :: k)(hwy:∀ d wr r sv k,y.todo≠.call d wr r sv :: k)(hx:∀ (m:Bool) (cs:List Frame) (w:World),stepG P m (G x cs) w=stepG.apply P true x cs none sem w)(hy:∀ (m:Bool) (cs:List Frame) (w:World),stepG P m (G y cs) w=stepG.apply P true y cs none sem w) :
    StepB P F p B main τ d x y cs w (stepG P true (G x []) (sh (D7 B w) τ d)):=by
  have h0:=hb.ok;have K7:(x.kind == CallKind.early)=false:=by rw [h0.kind];rfl
  have Pp:(y.kind == CallKind.early)=false:=by have:=hb.kind;obtain ⟨⟨tm,X,Y,mode,hc,hm,rfl,rfl⟩,hf,hk⟩:=hb;generalize p.κ=κ at hk;cases κ <;> first | rfl | exact absurd rfl hk
  have hfn:y.fn=x.fn:=by obtain ⟨⟨tm,X,Y,mode,hc,hm,rfl,rfl⟩,hf,hk⟩:=hb;rfl
  have hk:=Od (es:=#[]) hT (w:=sh (D7 B w) τ d) (Fh hR);have over:=fun x w1=>Kt (es:=#[]) (τ:=τ) (d:=d) hT hR (x:=x) (w1:=w1);rw [hx];have key:∀ (z:Next ⊕ Value) w1,F3 (sem.runT P (sh (D7 B w) τ d) #[]).1=some (z,w1)->(∀ i,d+i < w1.drawn->w.tape (w.drawn+i)=τ (d+i))->∃ w2,F3 (sem.runT P w #[]).1=some (z,w2)/\w1=sh (D7 B w2) τ (d+(w2.drawn - w.drawn))/\Kept B w w2/\
      (∀ a,z=.inl a->Hz (Fb F) a)/\(sem.runT P w #[]).2=(sem.runT P (sh (D7 B w) τ d) #[]).2/\∀ e∈seen P x.fn (sem.runT P (sh (D7 B w) τ d) #[]).2,IG B w2.heap.size e:=by
    intro z w1 hz hτ;obtain ⟨w2,es2,h1,h2,h3,h4,h5,h6,h7⟩:=over z w1 hz hτ;refine ⟨w2,h1,h2,h3,h4,h5.trans h6.symm,fun e he=>h7 e ?_⟩;have:=mem_seen he;rw [h6] at this
    simpa using this
  generalize hr:sem.runT P (sh (D7 B w) τ d) #[]=r at hk key;obtain ⟨r,es⟩:=r;unfold stepG.apply;simp only [if_true,hr,K7,Bool.false_eq_true,if_false];have noR:∀ (v:Value) ch,Yx.finish v=.raise ch->∀ e∈ch,e.goexit=false:=fun _ _ h=>by cases h
  cases r with
  | ok n w1=>
    cases n with
    | value v=>
      intro hτ;obtain ⟨w2,h1,h2,h3,h4,h5,h6⟩:=key (.inl (.value v)) w1 rfl hτ;refine ⟨x.finish v,w2,h2,h3,by simpa [GStep.after] using h6,.inl ⟨y.finish v,rfl,hb.on hn (.finish v) (noR v),?_⟩⟩;rw [hy];unfold stepG.apply;generalize hr2:sem.runT P w #[]=r2 at h1 h5;obtain ⟨r2,es2⟩:=r2;obtain rfl:=IJ h1;obtain rfl:es2=es:=h5;simp only [if_true,hr2,Pp,Bool.false_eq_true,if_false,hfn];rfl
    | skip=>
      intro hτ;obtain ⟨w2,h1,h2,h3,h4,h5,h6⟩:=key (.inl .skip) w1 rfl hτ;refine ⟨x.finish undef,w2,h2,h3,by simpa [GStep.after] using h6,.inl ⟨y.finish undef,rfl,hb.on hn (.finish undef) (noR undef),?_⟩⟩;rw [hy];unfold stepG.apply;generalize hr2:sem.runT P w #[]=r2 at h1 h5;obtain ⟨r2,es2⟩:=r2;obtain rfl:=IJ h1;obtain rfl:es2=es:=h5;simp only [if_true,hr2,Pp,Bool.false_eq_true,if_false,hfn];rfl
    | enter f args=>
      intro hτ;obtain ⟨w2,h1,h2,h3,h4,h5,h6⟩:=key (.inl (.enter f args)) w1 rfl hτ;refine ⟨Frame.enter P f args .normal,w2,h2,h3,by simpa [GStep.after] using h6,.inr ⟨by split <;> first | rfl | (rename_i e;exact absurd e (hwx _ _ _ _ _)),GD.enter hF (h4 _ rfl) args,?_⟩⟩;rw [hy];unfold stepG.apply;generalize hr2:sem.runT P w #[]=r2 at h1 h5;obtain ⟨r2,es2⟩:=r2;obtain rfl:=IJ h1;obtain rfl:es2=es:=h5;simp only [if_true,hr2,Pp,Bool.false_eq_true,if_false,hfn];split <;> first | rfl | (rename_i e;exact absurd e (hwy _ _ _ _ _))
    | _=>exact hk.elim
  | halt h w1=>
    cases h with
    | panic v=>
      intro hτ;obtain ⟨w2,h1,h2,h3,h4,h5,h6⟩:=key (.inr v) w1 rfl hτ;refine ⟨x.raise [{ v,recovered:=false }],w2,h2,h3,by simpa [GStep.after] using h6,.inl ⟨y.raise [{ v,recovered:=false }],rfl,hb.on hn (.raise [{ v,recovered:=false }]) (fun ch e=>by cases e;simp),?_⟩⟩;rw [hy];unfold stepG.apply;generalize hr2:sem.runT P w #[]=r2 at h1 h5;obtain ⟨r2,es2⟩:=r2;obtain rfl:=K9 h1;obtain rfl:es2=es:=h5;simp only [if_true,hr2,Pp,Bool.false_eq_true,if_false,hfn];rfl
    | stuck m=>exact trivial
    | unsupported u=>cases u <;> first | exact hk.elim | exact trivial
    | _=>exact hk.elim
theorem Zo (hF:∀ f,F f->Lets P f)(hR:Rows B w)(hb:Bt P F p x y)(hn:¬ WC p x)(hab:∀ o g,x.oper?=some o->GJ o=some g->F g) :
    StepB P F p B main τ d x y cs w (stepG P true (G x []) (sh (D7 B w) τ d)):=by
  have hr:=Bt.running hn;have hb0:=hb;obtain ⟨⟨tm,X,Y,mode,hc,hm,rfl,rfl⟩,hf,hk⟩:=hb;simp only at hr;subst hr;have hfx:¬ qY p.l2 X:=fun z=>hn (.inr z);have hmr:∀ ch,FrameMode.run=.panicking ch->∀ e∈ch,e.goexit=false:=fun ch e=>by cases e
  have hmv:∀ {X' Y':List Item},Cv P p.k p.l2 X' Y'->(∀ (m:Bool) (cs:List Frame) (w:World),stepG P m (G { fn:=p.fn,tmps:=tm,todo:=X,defers:=[],mode:=.run,kind:=.normal } cs) w=.go (G { fn:=p.fn,tmps:=tm,todo:=X',defers:=[],mode:=.run,kind:=.normal } cs) w)->
      (∀ (m:Bool) (cs:List Frame) (w:World),stepG P m (G { fn:=p.fn,tmps:=tm,todo:=Y,defers:=p.ds,mode:=.run,kind:=p.κ } cs) w=.go (G { fn:=p.fn,tmps:=tm,todo:=Y',defers:=p.ds,mode:=.run,kind:=p.κ } cs) w)->
      StepB P F p B main τ d { fn:=p.fn,tmps:=tm,todo:=X,defers:=[],mode:=.run,kind:=.normal } { fn:=p.fn,tmps:=tm,todo:=Y,defers:=p.ds,mode:=.run,kind:=p.κ } cs w (stepG P true (G { fn:=p.fn,tmps:=tm,todo:=X,defers:=[],mode:=.run,kind:=.normal } []) (sh (D7 B w) τ d)):=
    fun hc h1 h2=>MZ h1 h2 ⟨⟨tm,_,_,.run,hc,hmr,rfl,rfl⟩,hf,hk⟩
  have hop:∀ {ops:Array Oper} {i:Nat} {rest Xi:List Nat} {X1 Y1:List Item},X=.inRegion ops (i :: rest) :: X1->Y=.inRegion ops (i :: Xi) :: Y1->FH P (.inRegion ops (i :: rest))=true->
      StepB P F p B main τ d { fn:=p.fn,tmps:=tm,todo:=X,defers:=[],mode:=.run,kind:=.normal } { fn:=p.fn,tmps:=tm,todo:=Y,defers:=p.ds,mode:=.run,kind:=p.κ } cs w (stepG P true (G { fn:=p.fn,tmps:=tm,todo:=X,defers:=[],mode:=.run,kind:=.normal } []) (sh (D7 B w) τ d)):=by
    intro ops i rest Xi X1 Y1 eX eY hall;subst eX eY;cases hw:((ops[i]?).map (Region.wanted · (yielded ops tm))).getD false with
    | false=>
      refine MZ (x':=Frame.finish { fn:=p.fn,tmps:=tm,todo:=.inRegion ops (i :: rest) :: X1,defers:=[],mode:=.run,kind:=.normal } undef) (y':=Frame.finish { fn:=p.fn,tmps:=tm,todo:=.inRegion ops (i :: Xi) :: Y1,defers:=p.ds,mode:=.run,kind:=p.κ } undef) (fun m cs w=>?_) (fun m cs w=>?_) (hb0.on hn (.finish undef) fun _ h=>by cases h)
      . simp [G,stepG,stepG.exec,hw]
      . simp [G,stepG,stepG.exec,hw]
    | true=>
      cases ho:ops[i]? with
      | none=>rw [ho] at hw;cases hw
      | some o=>
        have VR:J5 P o=true:=Mk hall ho;have hw':Region.wanted o (yielded ops tm)=true:=by rw [ho] at hw;exact hw
        refine U5 (sem:=execOp (Frame.eval { fn:=p.fn,tmps:=tm,todo:=.inRegion ops (i :: rest) :: X1,defers:=[],mode:=.run,kind:=.normal }) o) hF hR hb0 hn ?_ (fun _ _ _ _ _ h=>by cases h) (fun _ _ _ _ _ h=>by cases h) (fun m cs w=>?_) (fun m cs w=>?_)
        . refine PS (fun g=>rfl) (fun v=>rfl) (fun g hg=>?_) VR;have hFg:=hab o g (by simp [Frame.oper?,ho]) hg;rcases (hF g hFg).2 with ⟨f,c,h1,h2,h3,_⟩|h|h
          . exact .inl ⟨⟨hFg,Ky VR hg⟩,f,c,h1,h2,h3⟩
          . exact .inr h
          . rw [Ky VR hg] at h;cases h
        . obtain ⟨dst,op,type,pos,after,guard⟩:=o;simp [G,stepG,stepG.exec,stepG.oper,Frame.oper?,ho,hw']
        . have he:Frame.eval { fn:=p.fn,tmps:=tm,todo:=.inRegion ops (i :: Xi) :: Y1,defers:=p.ds,mode:=.run,kind:=p.κ }=Frame.eval { fn:=p.fn,tmps:=tm,todo:=.inRegion ops (i :: rest) :: X1,defers:=[],mode:=.run,kind:=.normal }:=funext fun z=>by cases z <;> rfl
          rw [← he];obtain ⟨dst,op,type,pos,after,guard⟩:=o;simp [G,stepG,stepG.exec,stepG.oper,Frame.oper?,ho,hw']
  cases hc with
  | base h=>exact absurd (.inl ⟨h,rfl⟩) hfx
  | @reg l' ops l h ho=>
    cases l with
    | nil=>exact absurd (.inr ⟨by rw [h];simp,ops,rfl⟩) hfx
    | cons i rest=>exact hop rfl rfl ho
  | @cons it X Y h hi hc=>
    have cons:∀ {a:Item} {X Y:List Item},FH P a=true->Cv P p.k p.l2 X Y->Cv P p.k p.l2 (a :: X) (a :: Y):=fun ha hc=>.cons h ha hc;cases it with
    | code c=>
      cases c with
      | skip=>exact hmv hc (fun m cs w=>by simp [G,stepG,stepG.exec]) (fun m cs w=>by simp [G,stepG,stepG.exec])
      | label l=>exact hmv hc (fun m cs w=>by simp [G,stepG,stepG.exec]) (fun m cs w=>by simp [G,stepG,stepG.exec])
      | ret=>
        exact MZ (x':={ fn:=p.fn,tmps:=tm,todo:=.code .ret :: X,defers:=[],mode:=.returning,kind:=.normal }) (y':={ fn:=p.fn,tmps:=tm,todo:=.code .ret :: Y,defers:=p.ds,mode:=.returning,kind:=p.κ }) (fun m cs w=>by simp [G,stepG,stepG.exec]) (fun m cs w=>by simp [G,stepG,stepG.exec])
          ⟨⟨tm,_,_,.returning,.cons h hi hc,fun _ e=>(by cases e),rfl,rfl⟩,hf,hk⟩
      | refuse why=>
        have:∃ o w' es,stepG P true (G { fn:=p.fn,tmps:=tm,todo:=.code (.refuse why) :: X,defers:=[],mode:=.run,kind:=.normal } []) (sh (D7 B w) τ d)=.ended o w' es:=⟨_,_,_,by simp [G,stepG,stepG.exec];exact ⟨rfl,rfl,rfl⟩⟩
        obtain ⟨o,w',es,e⟩:=this;rw [e];exact trivial
      | seq a b=>
        have hab':(Gg P a && Gg P b)=true:=hi;rw [Bool.and_eq_true] at hab';exact hmv (cons (a:=.code a) hab'.1 (cons (a:=.code b) hab'.2 hc)) (fun m cs w=>by simp [G,stepG,stepG.exec]) (fun m cs w=>by simp [G,stepG,stepG.exec])
      | cond c a b=>
        have hab':(Gg P a && Gg P b)=true:=hi;rw [Bool.and_eq_true] at hab';have he:∀ z,Frame.eval { fn:=p.fn,tmps:=tm,todo:=.code (.cond c a b) :: Y,defers:=p.ds,mode:=.run,kind:=p.κ } z=Frame.eval { fn:=p.fn,tmps:=tm,todo:=.code (.cond c a b) :: X,defers:=[],mode:=.run,kind:=.normal } z:=fun z=>by cases z <;> rfl
        by_cases hv:∃ v,Frame.eval { fn:=p.fn,tmps:=tm,todo:=.code (.cond c a b) :: X,defers:=[],mode:=.run,kind:=.normal } c=.bool v
        . obtain ⟨v,hv⟩:=hv;have hv2:=(he c).trans hv;refine hmv (cons (a:=.code (if v then a else b)) ?_ hc) (fun m cs w=>by simp [G,stepG,stepG.exec,hv]) (fun m cs w=>by simp [G,stepG,stepG.exec,hv2]);cases v
          . exact hab'.2
          . exact hab'.1
        . have:∃ o w' es,stepG P true (G { fn:=p.fn,tmps:=tm,todo:=.code (.cond c a b) :: X,defers:=[],mode:=.run,kind:=.normal } []) (sh (D7 B w) τ d)=.ended o w' es:=by
            generalize hee:Frame.eval { fn:=p.fn,tmps:=tm,todo:=.code (.cond c a b) :: X,defers:=[],mode:=.run,kind:=.normal } c=e at hv;cases e with
            | bool v=>exact absurd ⟨v,rfl⟩ hv
            | _=>exact ⟨_,_,_,by simp [G,stepG,stepG.exec,hee];exact ⟨rfl,rfl,rfl⟩⟩
          obtain ⟨o,w',es,e⟩:=this;rw [e];exact trivial
      | block id b=>exact hmv (cons (a:=.code b) hi (cons (a:=.inBlock id) rfl hc)) (fun m cs w=>by simp [G,stepG,stepG.exec]) (fun m cs w=>by simp [G,stepG,stepG.exec])
      | loop b=>exact hmv (cons (a:=.code b) hi (cons (a:=.inLoop b) hi hc)) (fun m cs w=>by simp [G,stepG,stepG.exec]) (fun m cs w=>by simp [G,stepG,stepG.exec])
      | scope b=>exact hmv (cons (a:=.code b) hi (cons (a:=.inScope b) hi hc)) (fun m cs w=>by simp [G,stepG,stepG.exec]) (fun m cs w=>by simp [G,stepG,stepG.exec])
      | exit id=>
        cases he:exitTo id X with
        | some X'=>
          obtain ⟨Y',he2,hc'⟩:=hc.exit he;exact hmv hc' (fun m cs w=>by simp [G,stepG,stepG.exec,he]) (fun m cs w=>by simp [G,stepG,stepG.exec,he2])
        | none=>
          have:∃ o w' es,stepG P true (G { fn:=p.fn,tmps:=tm,todo:=.code (.exit id) :: X,defers:=[],mode:=.run,kind:=.normal } []) (sh (D7 B w) τ d)=.ended o w' es:=⟨_,_,_,by simp [G,stepG,stepG.exec,he];exact ⟨rfl,rfl,rfl⟩⟩
          obtain ⟨o,w',es,e⟩:=this;rw [e];exact trivial
      | region id ops draw=>
        cases draw with
        | false=>exact hmv (cons (a:=.inRegion ops (List.range ops.size)) (Jd hi _) hc) (fun m cs w=>by simp [G,stepG,stepG.exec]) (fun m cs w=>by simp [G,stepG,stepG.exec])
        | true=>
          have hst:∀ (m:Bool) (cs:List Frame) (w:World) (X:List Item) (ds:List Deferred) (κ:CallKind),stepG P m (G { fn:=p.fn,tmps:=tm,todo:=.code (.region id ops true) :: X,defers:=ds,mode:=.run,kind:=κ } cs) w =
              .go (G { fn:=p.fn,tmps:=tm,todo:=.inRegion ops (Region.schedule (P.follows .mixedOrders) ops (w.tape w.drawn (.order p.fn id))) :: X,defers:=ds,mode:=.run,kind:=κ } cs) { w with drawn:=w.drawn+1 }:=fun m cs w X ds κ=>by
            simp [G,stepG,stepG.exec,choose,Sem.run,Question.forced,Question.cut]
          rw [hst];intro hτ;have h1:=hτ 0 (by simp [sh]);refine ⟨_,{ w with drawn:=w.drawn+1 },?_,⟨rfl,rfl,rfl,Nat.le_succ _,Nat.le_refl _,fun _ _=>rfl,fun _ _ h _=>h,fun _ _ _ h=>h,fun _ _=>rfl⟩,by simp,.inl ⟨{ fn:=p.fn,tmps:=tm,todo:=.inRegion ops (Region.schedule (P.follows .mixedOrders) ops (w.tape w.drawn (.order p.fn id))) :: Y,defers:=p.ds,mode:=.run,kind:=p.κ },rfl,?_,hst _ _ _ _ _ _⟩⟩
          . simp [sh,D7]
          . simp only [Nat.add_zero] at h1;refine ⟨⟨tm,_,_,.run,cons (a:=.inRegion ops (Region.schedule (P.follows .mixedOrders) ops (w.tape w.drawn (.order p.fn id)))) (Jd hi _) hc,hmr,?_,rfl⟩,hf,hk⟩;rw [h1];rfl
      | rangeFunc f ps a b=>exact absurd hi Bool.false_ne_true
      | goto l=>exact absurd hi Bool.false_ne_true
    | inBlock id=>exact hmv hc (fun m cs w=>by simp [G,stepG,stepG.exec]) (fun m cs w=>by simp [G,stepG,stepG.exec])
    | inLoop b=>exact hmv (cons (a:=.code b) hi (cons (a:=.inLoop b) hi hc)) (fun m cs w=>by simp [G,stepG,stepG.exec]) (fun m cs w=>by simp [G,stepG,stepG.exec])
    | inScope b=>exact hmv hc (fun m cs w=>by simp [G,stepG,stepG.exec]) (fun m cs w=>by simp [G,stepG,stepG.exec])
    | inRegion ops l=>
      cases l with
      | nil=>exact hmv hc (fun m cs w=>by simp [G,stepG,stepG.exec]) (fun m cs w=>by simp [G,stepG,stepG.exec])
      | cons i rest=>exact hop rfl rfl hi
    | inRangeFunc l=>exact absurd hi Bool.false_ne_true
    | endRangeFunc l=>exact absurd hi Bool.false_ne_true
    | beginRound=>exact absurd hi Bool.false_ne_true
    | call d w r sv=>exact absurd hi Bool.false_ne_true
    | extern r a=>exact absurd hi Bool.false_ne_true
end
end
section
variable [Host]
inductive Sn (P:Program)(F:FuncId->Prop)(p:eF)(cs:List Frame):Frame->List Frame->Goroutine->Prop
  | bot {x y:Frame} (h:Bt P F p x y):Sn P F p cs x [] (G y cs)
  | top {fr:Frame} {s:List Frame} {x y:Frame} (hs:∀ f∈fr :: s,GD P F f) (h:Bt P F p x y) (hn:¬ WC p x):Sn P F p cs fr (s ++ [x]) (G fr (s ++ y :: cs))
def X5 (P:Program)(F:FuncId->Prop)(p:eF)(fr:Frame)(s:List Frame):Prop:=s=[]/\WC p fr/\GD P F fr
section
variable {P:Program}{F:FuncId->Prop}{p:eF}{B:Hid}{main:Bool}{cs:List Frame}
theorem TT (hF:∀ f,F f->Lets P f){fr:Frame}{s:List Frame}{w:World}{τ:Nat->Question->Nat}{d:Nat}(hall:∀ f∈fr :: s,GD P F f)(hs:s≠[]\/fr.mode=.run)(hab:fr.mode=.run->∀ o f,fr.oper?=some o->GJ o=some f->F f) :
    Uo P Qe true Self τ d (G fr s) w (stepG P true (G fr s) (sh (D7 Qe w) τ d)):=by
  have h:KX P F Qe true τ d fr s [] w (stepG P true (G fr s) (sh (D7 Qe w) τ d)):=by
    by_cases hm:fr.mode=.run
    . exact WU hF (IU w) hall hm (hab hm)
    . obtain ⟨c,l,rfl⟩:=List.exists_cons_of_ne_nil (hs.resolve_right hm);exact Pm (IU w) hall hm
  cases hst:stepG P true (G fr s) (sh (D7 Qe w) τ d) with
  | go g w1 es=>
    rw [hst] at h;intro hτ;obtain ⟨fr',s',w2,e1,e2,e3,e4,e5,_⟩:=h hτ;exact ⟨fr',s',G fr' s',w2,e1,rfl,e2,by simpa using e3,e4,e5⟩
  | ended o w1 es=>exact trivial
  | _=>rw [hst] at h;exact h.elim
theorem au (hF:∀ f,F f->Lets P f){fr:Frame}{s:List Frame}{g:Goroutine}{w:World}{τ:Nat->Question->Nat}{d:Nat}(h:Sn P F p cs fr s g)(hn:¬ X5 P F p fr s)(hR:Rows B w)(hab:fr.mode=.run->∀ o f,fr.oper?=some o->GJ o=some f->F f) :
    Uo P B main (Sn P F p cs) τ d g w (stepG P true (G fr s) (sh (D7 B w) τ d)):=by
  cases h with
  | @bot y hb=>
    have hnb:¬ WC p fr:=fun z=>hn ⟨rfl,z,hb.ok⟩;have h:=Zo (main:=main) (τ:=τ) (d:=d) (cs:=cs) hF hR hb hnb (hab (Bt.running hnb));cases hst:stepG P true (G fr []) (sh (D7 B w) τ d) with
    | go g w1 es=>
      rw [hst] at h;intro hτ;obtain ⟨fr',w2,e1,e2,e3,e4⟩:=h hτ;rcases e4 with ⟨y',rfl,hb',e5⟩|⟨rfl,hok,e5⟩
      . exact ⟨fr',[],G y' cs,w2,rfl,.bot hb',e1,e5,e2,e3⟩
      . exact ⟨fr',[fr],G fr' (y :: cs),w2,rfl,.top (s:=[]) (by simpa using hok) hb hnb,e1,e5,e2,e3⟩
    | ended o w1 es=>exact trivial
    | _=>rw [hst] at h;exact h.elim
  | @top s x y hs hb hnb=>
    have hN:F4 (sh (D7 B w) τ d):=Fh hR;have h0:=hs fr (by simp);by_cases hm:fr.mode=.run
    ·
      have h:=WU (main:=main) (τ:=τ) (d:=d) (t:=y :: cs) hF hR hs hm (hab hm);rcases Yj (main:=true) hF hN h0 hm (hab hm) with hc|⟨fr',pre,w1,es,hc⟩
      . obtain ⟨o,w1,es,e⟩:=hc (s ++ [x]);rw [e];exact trivial
      . rw [hc] at h ⊢;intro hτ;obtain ⟨ku,s2,w2,e1,e2,e3,e4,e5,e6⟩:=h hτ;simp only [G,Goroutine.mk.injEq,and_true] at e1;obtain ⟨rfl,rfl⟩:=e1;refine ⟨fr',pre ++ (s ++ [x]),G fr' ((pre ++ s) ++ y :: cs),w2,rfl,?_,e2,e3,e4,e5⟩;rw [← List.append_assoc];exact .top e6 hb hnb
    . cases s with
      | nil=>
        have h:=Pm (B:=B) (main:=main) (τ:=τ) (d:=d) (t:=cs) (fr:=fr) (c:=x) (s:=[]) hR (fun f hf=>by
          simp only [List.mem_cons,List.not_mem_nil,or_false] at hf;rcases hf with rfl|rfl
          . exact h0
          . exact hb.ok) hm
        show Uo P B main (Sn P F p cs) τ d (G fr (y :: cs)) w (stepG P true (G fr [x]) (sh (D7 B w) τ d));cases hst:stepG P true (G fr [x]) (sh (D7 B w) τ d) with
        | go g w1 es=>
          rw [hst] at h;intro hτ;obtain ⟨ku,s2,w2,e1,e2,e3,e4,e5,e6⟩:=h hτ;rcases Pt (P:=P) (F:=F) (main:=main) (w:=w) h0 hm with hc|⟨bk,w3,es3,hno,hc⟩
          . obtain ⟨o,w4,es4,e⟩:=hc x cs;have:G fr ([x] ++ cs)=G fr (x :: cs):=rfl;rw [show ([x]:List Frame) ++ cs=x :: cs from rfl] at e3;rw [e] at e3;cases e3
          . rw [show ([x]:List Frame) ++ cs=x :: cs from rfl,hc] at e3;simp only [GStep.go.injEq,G,Goroutine.mk.injEq,and_true] at e3;obtain ⟨⟨hfr,hcs⟩,rfl,rfl⟩:=e3;have hs2:s2=[]:=by have:=congrArg List.length hcs;simp only [List.length_append] at this;exact List.length_eq_zero_iff.1 zOM
            subst hs2;subst hfr;exact ⟨bk.on x,[],G (bk.on y) cs,w3,e1,.bot (hb.on hnb bk hno),e2,hc y cs,e4,e5⟩
        | ended o w1 es=>exact trivial
        | _=>rw [hst] at h;exact h.elim
      | cons c s1=>
        have h:=Pm (B:=B) (main:=main) (τ:=τ) (d:=d) (t:=y :: cs) (fr:=fr) (c:=c) (s:=s1) hR hs hm;rcases Pt (P:=P) (F:=F) (main:=true) (w:=sh (D7 B w) τ d) h0 hm with hc|⟨bk,w1,es,hno,hc⟩
        . obtain ⟨o,w1,es,e⟩:=hc c (s1 ++ [x]);rw [show c :: s1 ++ [x]=c :: (s1 ++ [x]) from rfl,e];exact trivial
        . rw [hc] at h;rw [show c :: s1 ++ [x]=c :: (s1 ++ [x]) from rfl,hc];intro hτ;obtain ⟨ku,s2,w2,e1,e2,e3,e4,e5,e6⟩:=h hτ;simp only [G,Goroutine.mk.injEq,and_true] at e1;obtain ⟨rfl,rfl⟩:=e1;exact ⟨bk.on c,s1 ++ [x],G (bk.on c) (s1 ++ y :: cs),w2,rfl,.top e6 hb hnb,e2,e3,e4,e5⟩
theorem Um (hF:∀ f,F f->Lets P f):kW P F B main (Sn P F p cs) (X5 P F p) where
  run:=fun fr s g h=>by cases h <;> rfl
  one:=fun fr s g g' h h'=>by
    have yj:∀ {X Y Y':List Item},Cv P p.k p.l2 X Y->Cv P p.k p.l2 X Y'->Y=Y':=by
      intro X Y Y' h;induction h generalizing Y' with
      | base h=>
        intro h';cases h' with
        | base h=>rfl
        | cons h hi hc=>cases hc
      | reg h ho=>
        intro h';cases h' with
        | reg h2 ho2=>rw [h] at h2;cases h2;rfl
        | cons h2 hi hc=>rw [h] at h2;cases h2
      | cons h hi hc ih=>
        intro h';cases h' with
        | base h=>cases hc
        | reg h2 ho2=>rw [h] at h2;cases h2
        | cons h2 hi2 hc2=>rw [ih hc2]
    have lF:∀ {x y y':Frame},Bt P F p x y->Bt P F p x y'->y=y':=by
      rintro x y y' ⟨⟨tm,X,Y,mode,hc,hm,rfl,rfl⟩,_,_⟩ ⟨⟨tm',X',Y',Ae1,hc',hm',e,rfl⟩,_,_⟩;cases e
      rw [yj hc hc']
    cases h with
    | bot hb=>
      generalize hs:([]:List Frame)=s0 at h';cases h' with
      | bot hb'=>rw [lF hb hb']
      | top hs' hb' hn'=>simp at hs
    | @top s x y hs hb hn=>
      generalize hs0:s ++ [x]=s0 at h';cases h' with
      | bot hb'=>simp at hs0
      | top hs' hb' hn'=>
        obtain ⟨rfl,e⟩:=List.append_inj' hs0 rfl;cases e
        rw [lF hb hb']
  step:=fun fr s g w τ d h hn hR hab=>au hF h hn hR hab
  self:=fun fr s g w τ d h hn hab=>by
    cases h with
    | bot hb=>exact TT hF (by simpa using hb.ok) (.inr (Bt.running fun z=>hn ⟨rfl,z,hb.ok⟩)) hab
    | @top s x y hs hb hnb=>
      refine TT hF (fun f hf=>?_) (.inl (by simp)) hab;rcases List.mem_cons.1 hf with rfl|hf
      . exact hs _ (by simp)
      . rcases List.mem_append.1 hf with hf | hf
        . exact hs _ (by simp;exact .inr hf)
        . simp only [List.mem_singleton] at hf;subst hf;exact hb.ok
theorem MO {I Q:Machine->Prop}{m m':Machine}(h:StepsIn I P m m'):StepsIn (fun m=>I m/\¬ Q m) P m m'\/∃ m₁,StepsIn (fun m=>I m/\¬ Q m) P m m₁/\Q m₁/\I m₁/\StepsIn I P m₁ m':=by
  induction h with
  | refl m=>exact .inl (.refl m)
  | @head m m₁ m₂ hI hs h' ih=>
    by_cases hq:Q m
    . exact .inr ⟨m,.refl m,hq,hI,.head hI hs h'⟩
    . rcases ih with ih | ⟨m3,h1,h2,h3,h4⟩
      . exact .inl (.head ⟨hI,hq⟩ hs ih)
      . exact .inr ⟨m3,.head ⟨hI,hq⟩ hs h1,h2,h3,h4⟩
end
end
section
variable [Host]
abbrev FT (fn:FuncId)(tm:Array Value)(Y:List Item)(ds:List Deferred)(mode:FrameMode)(κ:CallKind):Frame:={ fn,tmps:=tm,todo:=Y,defers:=ds,mode,kind:=κ }
def aK (fn:FuncId)(k:List Item)(ds:List Deferred)(κ:CallKind)(cs:List Frame)(e:Exit)(tm:Array Value)(g:Goroutine):Prop:=
  match e with
  | .normal=>g=G (FT fn tm k ds .run κ) cs
  | .ret=>∃ Y,g=G (FT fn tm Y ds .returning κ) cs
  | .panic ch=>∃ Y,g=G (FT fn tm Y ds (.panicking ch) κ) cs
  | _=>False
section
variable {P:Program}{F:FuncId->Prop}{B:Hid}{main:Bool}{R:World->World->Prop}{D:World->World->Array Event->Prop}
theorem Wj {Fn:Fence}(hal:Fn.alive=true){m₁ m':Machine}{fr:Frame}{cs:List Frame}{w':World}(hm:m'=lone fr cs w')(h:StepsIn (Machine.fenced P Fn) P m₁ m'){g:Goroutine}(hg:g∈m₁.gs)(hd:g.dying.isNone=false):False:=by
  cases h with
  | refl=>
    subst hm;simp only [lone,List.mem_toArray,List.mem_singleton] at hg;subst hg;cases hd
  | head hI _ _=>have:=(hI g hg).1 hal;rw [this] at hd;cases hd
theorem Qa (hF:∀ f,F f->Lets P f){Fn:Fence}(hal:Fn.alive=true){fr fr':Frame}{w w':World}{cs:List Frame}(h0:GD P F fr)(hm:fr.mode≠.run)(h:StepsIn (Machine.fenced P Fn) P (lone fr [] w) (lone fr' cs w')):lone fr [] w=lone fr' cs w':=by
  generalize e:lone fr' cs w'=m' at h;cases h with
  | refl=>rfl
  | @head _ m₁ _ hI hs h'=>
    exfalso
    rcases bottom hF h0 hm (w:=w) with ⟨o,w2,es,hb⟩|⟨g',w2,es,hb,hdy⟩
    . obtain ⟨o,w2,h⟩:=Ib hb;rw [hs] at h;cases h
    . obtain ⟨m2,h,hmem⟩:=Ns hb;rw [hs] at h;cases h
      exact Wj hal e.symm h' hmem hdy
theorem RG {Fn:Fence}{fn:FuncId}{tm:Array Value}{ds:List Deferred}{w:World}{m':Machine}(h:StepsIn (Machine.fenced P Fn) P (lone { fn,tmps:=tm,todo:=[RR],defers:=ds,mode:=.run,kind:=.normal } [] w) m'):lone { fn,tmps:=tm,todo:=[RR],defers:=ds,mode:=.run,kind:=.normal } [] w=m':=by
  cases h with
  | refl=>rfl
  | head hI hs h'=>
    exfalso
    have:∃ o w' es,stepG P true (G { fn,tmps:=tm,todo:=[RR],defers:=ds,mode:=.run,kind:=.normal } []) w=.ended o w' es:=⟨_,_,_,by simp [G,stepG,stepG.exec,RR];exact ⟨rfl,rfl,rfl⟩⟩
    obtain ⟨o,w',es,e⟩:=this;obtain ⟨o,w2,h⟩:=Ib e;rw [hs] at h;cases h
theorem kC {k Y:List Item}{l2:Option (Array Oper × List Nat)}(h:Cv P k l2 [RR] Y):l2=none/\Y=k:=by
  cases h with
  | base h=>exact ⟨h,rfl⟩
  | cons h hi hc=>cases hc
theorem Xt {p:eF}{cs:List Frame}{fr:Frame}{s:List Frame}{g:Goroutine}(hR:Sn P F p cs fr s g)(hs:s=[]):∃ tm X Y mode,Cv P p.k p.l2 X Y/\fr={ fn:=p.fn,tmps:=tm,todo:=X,defers:=[],mode,kind:=.normal }/\g=G (FT p.fn tm Y p.ds mode p.κ) cs:=by
  cases hR with
  | bot h=>obtain ⟨⟨tm,X,Y,mode,hc,hm,rfl,rfl⟩,_,_⟩:=h;exact ⟨tm,X,Y,mode,hc,rfl,rfl⟩
  | top=>simp at hs
theorem aG (hT:∀ w w₁,R w w₁->Turns B w w₁)(hD:∀ w w' es,Rows B w->Kept B w w'->(∀ e∈es,IG B w'.heap.size e)->D w w' es)(hF:∀ f,F f->Lets P f){Fn:Fence}(hFn:∀ f,Fn.fn f->F f)(hal:Fn.alive=true)(Jy:Fn.depth=none)(VY:Fn.round=none){fn:FuncId}(hf:Fn.fn fn){κ:CallKind}(hκ:κ≠.early){c:Code}(hc:Gg P c=true){n:Nat}{tm:Array Value}{k:List Item}{ds:List Deferred}{cs:List Frame}{w0:World}(hR0:Rows B w0){Q:Exit->Act->World->Prop}(hQ:∀ e a w,Q e a w->e=.normal\/e=.ret\/∃ ch,e=.panic ch)(hwp:∀ τ,c.wpIn Fn n P Q ⟨tm,[]⟩ (sh (D7 B w0) τ 0)) :
    Way P main R D (fun g w=>∃ e tm' τ d,Rows B w/\Q e ⟨tm',[]⟩ (sh (D7 B w) τ d)/\aK fn k ds κ cs e tm' g) (G (FT fn tm (.code c :: k) ds .run κ) cs) w0:=by
  let p:eF:=⟨k,none,ds,κ,fn⟩
  let En:(Nat->Question->Nat)->Frame->List Frame->World->Prop:=fun τ fr s W=>s=[]/\∃ e a,Q e a W/\match e with
    | .normal=>fr={ fn,tmps:=a.tmps,todo:=[RR],defers:=a.defers,mode:=.run,kind:=.normal }
    | .ret=>∃ todo,fr={ fn,tmps:=a.tmps,todo,defers:=a.defers,mode:=.returning,kind:=.normal }
    | .panic ch=>∃ todo,fr={ fn,tmps:=a.tmps,todo,defers:=a.defers,mode:=.panicking ch,kind:=.normal }
    | _=>False
  have h0:Sn P F p cs { fn,tmps:=tm,todo:=[.code c,RR],defers:=[],mode:=.run,kind:=.normal } [] (G (FT fn tm (.code c :: k) ds .run κ) cs):=
    .bot ⟨⟨tm,[.code c,RR],.code c :: k,.run,.cons rfl hc (.base rfl),fun ch e=>(by cases e),rfl,rfl⟩,hFn _ hf,hκ⟩
  refine (Vd (En:=En) hT hD (Um (p:=p) (cs:=cs) hF) hFn h0 hR0 fun τ=>?_).mono fun g w hst=>?_
  . obtain ⟨e,a,w',hq,harr⟩:=hwp τ { (default:Frame) with fn:=fn,kind:=.normal,roundOf:=none } [RR] [] VY.symm hf (fun d hd=>by rw [Jy] at hd;cases hd)
    have key:∀ fr,En τ fr [] w'->StepsIn (Machine.fenced P Fn) P (lone { fn,tmps:=tm,todo:=[.code c,RR],defers:=[],mode:=.run,kind:=.normal } [] (sh (D7 B w0) τ 0)) (lone fr [] w')->
        ∃ fr s w',En τ fr s w'/\StepsIn (fun m=>Machine.fenced P Fn m/\¬ aV (X5 P F p) m) P (lone { fn,tmps:=tm,todo:=[.code c,RR],defers:=[],mode:=.run,kind:=.normal } [] (sh (D7 B w0) τ 0)) (lone fr s w'):=by
      intro fr hE hS;rcases MO (Q:=aV (X5 P F p)) hS with h|⟨m₁,h1,⟨sj,s1,w1,rfl,rfl,hfin,hok⟩,_,h4⟩
      . exact ⟨fr,[],w',hE,h⟩
      . have hsame:lone sj [] w1=lone fr [] w':=by
          by_cases hm:sj.mode=.run
          . rcases hfin with hx | hx | hx
            . exact absurd hm hx
            . obtain ⟨_,hx⟩:=hx;obtain ⟨zm,U1,wN,ds1,tH,vK,ro1⟩:=sj;have e1:=hok.kind;have e2:=hok.round;simp only at hm hx e1 e2;subst hm hx e1 e2;exact RG h4
            . exact absurd rfl hx.1
          . exact Qa hF hal hok hm h4
        exact ⟨fr,[],w',hE,by rw [← hsame];exact h1⟩
    rcases hQ _ _ _ hq with rfl|rfl|⟨ch,rfl⟩
    . exact key _ ⟨rfl,.normal,a,hq,rfl⟩ harr
    . obtain ⟨todo,hs⟩:=harr.1 rfl;exact key _ ⟨rfl,.ret,a,hq,todo,rfl⟩ hs
    . obtain ⟨todo,hs⟩:=harr;exact key _ ⟨rfl,.panic ch,a,hq,todo,rfl⟩ hs
  . obtain ⟨fr,s,τ,d,hRl,⟨rfl,e,a,hq,hm⟩,RV⟩:=hst;obtain ⟨tm',X,Y,mode,hcv,rfl,rfl⟩:=Xt hRl rfl;obtain ⟨atm,eB⟩:=a;rcases hQ _ _ _ hq with rfl|rfl|⟨ch,rfl⟩
    . simp only [Frame.mk.injEq,true_and,and_true] at hm;obtain ⟨_,rfl,rfl,rfl,rfl⟩:=hm;obtain ⟨_,rfl⟩:=kC hcv;exact ⟨.normal,_,τ,d,RV,hq,rfl⟩
    . obtain ⟨todo,hm⟩:=hm;simp only [Frame.mk.injEq,true_and,and_true] at hm;obtain ⟨_,rfl,rfl,rfl,rfl⟩:=hm;exact ⟨.ret,_,τ,d,RV,hq,_,rfl⟩
    . obtain ⟨todo,hm⟩:=hm;simp only [Frame.mk.injEq,true_and,and_true] at hm;obtain ⟨_,rfl,rfl,rfl,rfl⟩:=hm;exact ⟨.panic ch,_,τ,d,RV,hq,_,rfl⟩
theorem SL (hT:∀ w w₁,R w w₁->Turns B w w₁)(hD:∀ w w' es,Rows B w->Kept B w w'->(∀ e∈es,IG B w'.heap.size e)->D w w' es)(hF:∀ f,F f->Lets P f){Fn:Fence}(hFn:∀ f,Fn.fn f->F f)(hal:Fn.alive=true)(Jy:Fn.depth=none)(VY:Fn.round=none){fn:FuncId}(hf:Fn.fn fn){κ:CallKind}(hκ:κ≠.early){ops:Array Oper}{l l':List Nat}(hc:FH P (.inRegion ops l)=true){n:Nat}{tm:Array Value}{k:List Item}{ds:List Deferred}{cs:List Frame}{w0:World}(hR0:Rows B w0){Q:Exit->Act->World->Prop}(hQ:∀ e a w,Q e a w->e=.normal\/∃ ch,e=.panic ch)(hwp:∀ τ,wpOpsIn Fn n P ops Q l ⟨tm,[]⟩ (sh (D7 B w0) τ 0)) :
    Way P main R D (fun g w=>∃ e tm' τ d,Rows B w/\Q e ⟨tm',[]⟩ (sh (D7 B w) τ d)/\aK fn (.inRegion ops l' :: k) ds κ cs e tm' g) (G (FT fn tm (.inRegion ops (l ++ l') :: k) ds .run κ) cs) w0:=by
  let p:eF:=⟨k,some (ops,l'),ds,κ,fn⟩
  let En:(Nat->Question->Nat)->Frame->List Frame->World->Prop:=fun τ fr s W=>s=[]/\∃ e a,Q e a W/\match e with
    | .normal=>fr={ fn,tmps:=a.tmps,todo:=[RR],defers:=a.defers,mode:=.run,kind:=.normal }\/∃ ops',fr={ fn,tmps:=a.tmps,todo:=[.inRegion ops' [],RR],defers:=a.defers,mode:=.run,kind:=.normal }
    | .panic ch=>∃ todo,fr={ fn,tmps:=a.tmps,todo,defers:=a.defers,mode:=.panicking ch,kind:=.normal }
    | _=>False
  have h0:Sn P F p cs { fn,tmps:=tm,todo:=[.inRegion ops l,RR],defers:=[],mode:=.run,kind:=.normal } [] (G (FT fn tm (.inRegion ops (l ++ l') :: k) ds .run κ) cs):=
    .bot ⟨⟨tm,[.inRegion ops l,RR],.inRegion ops (l ++ l') :: k,.run,.reg rfl hc,fun ch e=>(by cases e),rfl,rfl⟩,hFn _ hf,hκ⟩
  refine (Vd (En:=En) hT hD (Um (p:=p) (cs:=cs) hF) hFn h0 hR0 fun τ=>?_).mono fun g w hst=>?_
  . obtain ⟨e,a,w',hq,harr⟩:=wp_opsIn l _ _ (hwp τ) { (default:Frame) with fn:=fn,kind:=.normal,roundOf:=none } [RR] [] VY.symm hf (fun d hd=>by rw [Jy] at hd;cases hd)
    have key:∀ fr,En τ fr [] w'->(∀ tm ds,fr={ fn,tmps:=tm,todo:=[RR],defers:=ds,mode:=.run,kind:=.normal }->Q .normal ⟨tm,ds⟩ w')->StepsIn (Machine.fenced P Fn) P (lone { fn,tmps:=tm,todo:=[.inRegion ops l,RR],defers:=[],mode:=.run,kind:=.normal } [] (sh (D7 B w0) τ 0)) (lone fr [] w')->
        ∃ fr s w',En τ fr s w'/\StepsIn (fun m=>Machine.fenced P Fn m/\¬ aV (X5 P F p) m) P (lone { fn,tmps:=tm,todo:=[.inRegion ops l,RR],defers:=[],mode:=.run,kind:=.normal } [] (sh (D7 B w0) τ 0)) (lone fr s w'):=by
      intro fr hE xL hS;rcases MO (Q:=aV (X5 P F p)) hS with h|⟨m₁,h1,⟨sj,s1,w1,rfl,rfl,hfin,hok⟩,_,h4⟩
      . exact ⟨fr,[],w',hE,h⟩
      . by_cases hm:sj.mode=.run
        . rcases hfin with hx | hx | hx
          . exact absurd hm hx
          . exact absurd hx.1 (by simp [p])
          . obtain ⟨_,ops',hx⟩:=hx;obtain ⟨zm,U1,wN,ds1,tH,vK,ro1⟩:=sj;have e1:=hok.kind;have e2:=hok.round;simp only at hm hx e1 e2;subst hm hx e1 e2;refine ⟨_,[],w1,?_,h1⟩;have hst:step P (lone { fn:=zm,tmps:=U1,todo:=[.inRegion ops' [],RR],defers:=ds1,mode:=.run,kind:=.normal } [] w1)=.next (lone { fn:=zm,tmps:=U1,todo:=[RR],defers:=ds1,mode:=.run,kind:=.normal } [] w1):=
              step_lone_go (by simp [stepG,stepG.exec])
            generalize hend:lone fr [] w'=m' at h4;cases h4 with
            | refl=>
              obtain ⟨_,e,a,hq,hm⟩:=hE;simp only [lone,Machine.mk.injEq,Array.mk.injEq,List.cons.injEq,Goroutine.mk.injEq,and_true,true_and] at hend;obtain ⟨rfl,rfl⟩:=hend;exact ⟨rfl,e,a,hq,hm⟩
            | head hI hs h'=>
              rw [hst] at hs;cases hs
              have:=RG h';rw [← hend] at this;simp only [lone,Machine.mk.injEq,Array.mk.injEq,List.cons.injEq,Goroutine.mk.injEq,and_true,true_and] at this;obtain ⟨rfl,rfl⟩:=this;have hfn:zm=fn:=by
                obtain ⟨_,e,a,hq,hm⟩:=hE;cases e with
                | normal=>
                  rcases hm with hm|⟨o,hm⟩
                  . exact congrArg Frame.fn hm
                  . exact congrArg Frame.fn hm
                | panic ch=>obtain ⟨todo,hm⟩:=hm;exact congrArg Frame.fn hm
                | _=>exact hm.elim
              subst hfn;exact ⟨rfl,.normal,⟨U1,ds1⟩,xL U1 ds1 rfl,.inr ⟨ops',rfl⟩⟩
        . have hsame:=Qa hF hal hok hm h4;exact ⟨fr,[],w',hE,by rw [← hsame];exact h1⟩
    rcases hQ _ _ _ hq with rfl|⟨ch,rfl⟩
    . refine key _ ⟨rfl,.normal,a,hq,.inl rfl⟩ (fun tm ds e=>?_) harr;obtain ⟨atm,eB⟩:=a;simp only [Frame.mk.injEq,true_and,and_true] at e;obtain ⟨rfl,rfl⟩:=e;exact hq
    . obtain ⟨todo,hs⟩:=harr;refine key _ ⟨rfl,.panic ch,a,hq,todo,rfl⟩ (fun tm ds e=>?_) hs;simp only [Frame.atR,Frame.mk.injEq] at e;obtain ⟨_,_,_,_,e,_⟩:=e;cases e
  . obtain ⟨fr,s,τ,d,hRl,⟨rfl,e,a,hq,hm⟩,RV⟩:=hst;obtain ⟨tm',X,Y,mode,hcv,rfl,rfl⟩:=Xt hRl rfl;obtain ⟨atm,eB⟩:=a;rcases hQ _ _ _ hq with rfl|⟨ch,rfl⟩
    . rcases hm with hm | ⟨ops',hm⟩
      . simp only [Frame.mk.injEq,true_and,and_true] at hm;obtain ⟨_,rfl,rfl,rfl,rfl⟩:=hm;exact absurd (kC hcv).1 (by simp [p])
      . simp only [Frame.mk.injEq,true_and,and_true] at hm;obtain ⟨_,rfl,rfl,rfl,rfl⟩:=hm;cases hcv with
        | reg h ho=>
          simp only [p,Option.some.injEq,Prod.mk.injEq] at h;obtain ⟨rfl,rfl⟩:=h;exact ⟨.normal,_,τ,d,RV,hq,rfl⟩
        | cons h hi hc=>exact absurd h (by simp [p])
    . obtain ⟨todo,hm⟩:=hm;simp only [Frame.mk.injEq,true_and,and_true] at hm;obtain ⟨_,rfl,rfl,rfl,rfl⟩:=hm;exact ⟨.panic ch,_,τ,d,RV,hq,_,rfl⟩
end
end
end Go.LT
end
