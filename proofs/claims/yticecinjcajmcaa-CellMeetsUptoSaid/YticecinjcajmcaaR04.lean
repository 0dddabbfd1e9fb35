/-
  Part 4 of the proof that CellMeets returns true, and leaves its arguments as they were, for every input whose reading is of bulk at most 1048576. No further condition.
-/
import Derived.Test.YticecinjcajmcaaR00
import Derived.Test.YticecinjcajmcaaR03
import Derived.Conc.Own
import Derived.Conc.Listed
import Derived.CallsIn
set_option linter.unusedVariables false
set_option linter.unusedSectionVars false
set_option linter.unusedSimpArgs false
set_option maxHeartbeats 1000000
noncomputable section
namespace Go.LT
open Go
section
def sh (w:World)(τ:Nat->Question->Nat)(d:Nat):World:={ w with tape:=τ,drawn:=d }
def Vt {α:Type}:Result α->World
  | .ok _ w=>w
  | .halt _ w=>w
def eP {α:Type}(r:Result α)(τ:Nat->Question->Nat)(d:Nat):Result α:=
  match r with
  | .ok a w=>.ok a (sh w τ d)
  | .halt h w=>.halt h (sh w τ d)
section
variable {P:Program}{τ:Nat->Question->Nat}{d:Nat}{w:World}
@[simp] theorem XC:(sh w τ d).heap=w.heap:=rfl
@[simp] theorem fO:(sh w τ d).tape=τ:=rfl
@[simp] theorem dO:(sh w τ d).drawn=d:=rfl
theorem Xx (a:Addr):(sh w τ d).cell? a=w.cell? a:=rfl
theorem eZ (at_:Addr)(u:TypeId)(k:Addr)(b:Bool):(sh w τ d).seen P at_ u k b=w.seen P at_ u k b:=rfl
theorem Wu (a:Addr)(b:Bool):(sh w τ d).farLoad P a b=w.farLoad P a b:=rfl
theorem VB (a:Addr)(v:Value):(sh w τ d).setCell a v=sh (w.setCell a v) τ d:=rfl
theorem OZ {ε α β:Type}(x:Except ε α)(f g:α->Except ε β)(h:β->β)(e:∀ a,f a=(g a).map h):x.bind f=(x.bind g).map h:=by
  cases x with
  | error e=>rfl
  | ok a=>exact e a
theorem Vo (a:Addr)(v:Value)(b:Bool):(sh w τ d).farStore P a v b=match w.farStore P a v b with
    | .ok (w',ts)=>.ok (sh w' τ d,ts)
    | .error h=>.error h:=by
  have key:∀ at_ u,(sh w τ d).viewStore P at_ u a v b=(w.viewStore P at_ u a v b).map fun r=>(sh r.1 τ d,r.2):=by
    intro at_ u;unfold World.viewStore;rw [eZ];cases ht:!tight P P.depth u with
    | true=>rfl
    | false=>
      cases hs:w.seen P at_ u a b with
      | error e=>rfl
      | ok r=>
        obtain ⟨c,e,frozen,first,like,cells⟩:=r;simp only [Bool.false_eq_true,if_false];cases hb:v.bytes? with
        | none=>rfl
        | some bytes=>
          by_cases hl:some bytes.length≠Option.map (fun x=>x.length) like.bytes?
          . show (if _ then _ else _)=Except.map _ (if _ then _ else _);rw [if_pos hl,if_pos hl];rfl
          . show (if _ then _ else _)=Except.map _ (if _ then _ else _);rw [if_neg hl,if_neg hl];exact OZ _ _ _ _ fun _=>rfl
  unfold World.farStore;simp only [XC];cases ho:w.heap[a.block]? with
  | none=>rfl
  | some o=>
    cases o with
    | view at_ u=>
      simp only [key];cases w.viewStore P at_ u a v b <;> rfl
    | _=>rfl
theorem JZ {a:Addr}{v:Value}{b:Bool}{w':World}{ts:List Addr}(h:w.farStore P a v b=.ok (w',ts)):w'.drawn=w.drawn/\w'.tape=w.tape:=by
  unfold World.farStore at h;cases ho:w.heap[a.block]? with
  | none=>rw [ho] at h;cases h
  | some o=>
    rw [ho] at h;cases o with
    | view at_ u=>
      simp only [] at h;cases hv:w.viewStore P at_ u a v b with
      | error e=>rw [hv] at h;cases h
      | ok r=>
        rw [hv] at h;cases h
        unfold World.viewStore at hv;simp only [bind,Except.bind,pure,Except.pure,throw,throwThe,MonadExceptOf.throw] at hv;repeat' split at hv
        all_goals first | (cases hv;done) | (cases hv;exact ⟨rfl,rfl⟩)
    | _=>cases h
variable {α:Type}{Q:α->Prop}
theorem SK (v:Value):(∃ cs,v=.agg cs)\/(∃ cs,v=.tuple cs)\/((∀ cs,v≠.agg cs)/\∀ cs,v≠.tuple cs):=by cases v <;> simp
theorem JD {m:Mode}{a:Addr}{v:Value}{k:Sem α}(n1:∀ cs,v≠.agg cs)(n2:∀ cs,v≠.tuple cs){es:Array Event}(w:World):(Sem.store m a v k).runT P w es=match w.cell? a with
        | some _ => if w.frozen? a then (.halt (.unsupported (.unsafePointer "a write to bytes that a string shares")) w, es) else k.runT P (w.setCell a v) (es.push ⟨.cell a, true, m == .atomic⟩)
        | none=>match w.farStore P a v (m == .atomic) with
          | .ok (w,touched)=>k.runT P w (es ++ touched.toArray.map (⟨.cell ·,true,m == .atomic⟩))
          | .error h=>(.halt h w,es):=by
  cases v <;> first | (exact absurd rfl (n1 _)) | (exact absurd rfl (n2 _)) | (simp only [Sem.runT] <;> rfl)
theorem UZ:∀ {m:Sem α} {w:World} {es:Array Event},Ed P Q m->w.drawn<=(Vt (m.runT P w es).1).drawn:=by
  intro m;induction m with
  | pure a=>intro w es _;exact Nat.le_refl _
  | load m a k ih=>
    intro w es ht;simp only [Sem.runT];split
    . exact ih _ (ht _)
    . split
      . exact ih _ (ht _)
      . exact Nat.le_refl _
  | store m a v k ih=>
    intro w es ht;rcases SK v with ⟨cs,rfl⟩|⟨cs,rfl⟩|⟨n1,n2⟩
    . exact Nat.le_refl _
    . exact Nat.le_refl _
    rw [JD n1 n2];split
    . split
      . exact Nat.le_refl _
      . exact ih ht (w:=w.setCell a v)
    . split
      . rename_i h
        exact Nat.le_trans (Nat.le_of_eq (JZ h).1.symm) (ih ht)
      . exact Nat.le_refl _
  | new o k ih=>intro w es ht;exact ih _ (ht.2 _) (w:={ w with heap:=w.heap.push o })
  | shape r k ih=>intro w es ht;exact ih _ (ht.1 _)
  | freeze a n k ih=>intro w es ht;exact ht.elim
  | frozen a k ih=>intro w es ht;exact ih _ (ht.1 _)
  | getObj r k ih=>
    intro w es ht;simp only [Sem.runT];split
    . exact Nat.le_refl _
    . exact ih _ (ht.1 _)
    . exact Nat.le_refl _
  | setObj r o k ih=>intro w es ht;exact ht.elim
  | choose q k ih=>
    intro w es ht;simp only [Sem.runT];split
    . exact ih _ (ht _)
    . exact Nat.le_trans (Nat.le_succ _) (ih _ (ht _) (w:={ w with drawn:=w.drawn+1 }))
  | sys c k ih=>intro w es ht;exact ht.elim
  | program k ih=>intro w es ht;exact ih _ ht
  | mark m k ih=>intro w es ht;exact ih ht.2
  | halt x=>intro w es _;exact Nat.le_refl _
theorem Wh:∀ {m:Sem α} {w:World} {es:Array Event} {τ:Nat->Question->Nat} {d:Nat},Ed P Q m->
    (∀ i,w.drawn+i < (Vt (m.runT P w es).1).drawn->τ (d+i)=w.tape (w.drawn+i))->
    m.runT P (sh w τ d) es=(eP (m.runT P w es).1 τ (d+((Vt (m.runT P w es).1).drawn - w.drawn)),(m.runT P w es).2):=by
  intro m;induction m with
  | pure a=>intro w es τ d _ _;simp [Sem.runT,-Sem.runT_eq,eP,Vt]
  | load m a k ih=>
    intro w es τ d ht hτ;simp only [Sem.runT,Xx,Wu] at hτ ⊢;cases hc:w.cell? a with
    | some v=>rw [hc] at hτ;exact ih _ (ht _) hτ
    | none=>
      rw [hc] at hτ;simp only [] at hτ ⊢;cases hf:w.farLoad P a (m == .atomic) with
      | ok r=>rw [hf] at hτ;exact ih _ (ht _) hτ
      | error h=>simp [eP,Vt]
  | store m a v k ih=>
    intro w es τ d ht hτ;rcases SK v with ⟨cs,rfl⟩|⟨cs,rfl⟩|⟨n1,n2⟩
    . simp [Sem.runT,-Sem.runT_eq,eP,Vt]
    . simp [Sem.runT,-Sem.runT_eq,eP,Vt]
    rw [JD n1 n2] at hτ;rw [JD n1 n2,JD n1 n2];simp only [Xx,VB,Vo];cases hc:w.cell? a with
    | some x=>
      rw [hc] at hτ;simp only [] at hτ ⊢;by_cases hf:w.frozen? a=true
      . rw [if_pos (show (sh w τ d).frozen? a=true from hf),if_pos hf];simp [eP,Vt]
      . rw [if_neg hf] at hτ;rw [if_neg (show ¬ (sh w τ d).frozen? a=true from hf),if_neg hf];exact ih ht hτ
    | none=>
      rw [hc] at hτ;simp only [] at hτ ⊢;cases hf:w.farStore P a v (m == .atomic) with
      | ok r=>
        obtain ⟨w',ts⟩:=r;rw [hf] at hτ;simp only [] at hτ ⊢;obtain ⟨e1,e2⟩:=JZ hf;rw [← e1,← e2] at hτ;rw [← e1];exact ih ht hτ
      | error h=>simp [eP,Vt]
  | new o k ih=>intro w es τ d ht hτ;exact ih _ (ht.2 _) (w:={ w with heap:=w.heap.push o }) hτ
  | shape r k ih=>intro w es τ d ht hτ;exact ih _ (ht.1 _) hτ
  | freeze a n k ih=>intro w es τ d ht;exact ht.elim
  | frozen a k ih=>intro w es τ d ht hτ;exact ih _ (ht.1 _) hτ
  | getObj r k ih=>
    intro w es τ d ht hτ;simp only [Sem.runT,XC] at hτ ⊢;cases ho:w.heap[r]? with
    | none=>simp [eP,Vt]
    | some o=>
      rw [ho] at hτ;cases o <;> first | (exact ih _ (ht.1 _) hτ) | simp [eP,Vt]
  | setObj r o k ih=>intro w es τ d ht;exact ht.elim
  | choose q k ih=>
    intro w es τ d ht hτ;simp only [Sem.runT,fO,dO] at hτ ⊢;cases hq:q.forced with
    | true=>simp only [hq,if_true] at hτ ⊢;exact ih _ (ht _) hτ
    | false=>
      simp only [hq,Bool.false_eq_true,if_false] at hτ ⊢;have hle:=UZ (ht (q.cut (w.tape w.drawn q))) (w:={ w with drawn:=w.drawn+1 }) (es:=es);have h0:τ d=w.tape w.drawn:=hτ 0 (by simp only [Nat.add_zero];exact hle);rw [h0];have:=ih (q.cut (w.tape w.drawn q)) (ht _) (w:={ w with drawn:=w.drawn+1 }) (es:=es) (τ:=τ) (d:=d+1) (fun i hi=>by have:=hτ (i+1) (by simp only [] at hi ⊢;omega);rw [show d+1+i=d+(i+1) by omega,this];show w.tape (w.drawn+(i+1))=w.tape (w.drawn+1+i);rw [show w.drawn+(i+1)=w.drawn+1+i by omega])
      rw [show d+((Vt (Sem.runT P (k (q.cut (w.tape w.drawn q))) { w with drawn:=w.drawn+1 } es).1).drawn - w.drawn)=d+1+((Vt (Sem.runT P (k (q.cut (w.tape w.drawn q))) { w with drawn:=w.drawn+1 } es).1).drawn - (w.drawn+1)) by simp only [] at hle;omega];exact this
  | sys c k ih=>intro w es τ d ht;exact ht.elim
  | program k ih=>intro w es τ d ht hτ;exact ih _ ht hτ
  | mark m k ih=>intro w es τ d ht hτ;exact ih ht.2 hτ
  | halt x=>intro w es τ d _ _;simp [Sem.runT,-Sem.runT_eq,eP,Vt]
def F4 (w:World):Prop:=∀ (b:Nat) c e,w.heap[b]?≠some (Obj.pending c e)
theorem Fh {B:Hid}{w:World}(hR:Rows B w):F4 (D7 B w):=by
  intro b c e h;cases hB:B b with
  | true=>
    obtain ⟨c',e',f',hc⟩:=hR b hB;rw [Gu hB hc] at h;cases h
  | false=>
    rw [EA hB] at h;cases ho:w.heap[b]? with
    | none=>rw [ho] at h;cases h
    | some o=>
      rw [ho] at h;cases o <;> simp [dep] at h
def XU:Halt->Prop
  | .panic _=>True
  | .stuck _=>True
  | .unsupported u=>XE u
  | _=>False
def kindOk (Q:α->Prop):Result α->Prop
  | .ok a _=>Q a
  | .halt h _=>XU h
theorem Oz (hN:F4 w)(a:Addr)(s:String):XU (w.noCell a s):=by
  unfold World.noCell;split
  . rename_i h;exact absurd h (hN _ _ _)
  . exact trivial
  . exact trivial
theorem Sb (hN:F4 w){a:Addr}{b:Bool}{h:Halt}(e:w.farLoad P a b=.error h):XU h:=by
  unfold World.farLoad at e;split at e
  . split at e
    . cases e
    . cases e;exact trivial
  . cases e;exact Oz hN _ _
theorem Q6 (hN:F4 w){a:Addr}{v:Value}{b:Bool}{h:Halt}(e:w.farStore P a v b=.error h):XU h:=by
  unfold World.farStore at e;split at e
  . split at e
    . cases e
    . cases e;exact trivial
  . cases e;exact Oz hN _ _
theorem F4.setObj (hN:F4 w){r:Nat}{o:Obj}(ho:∀ c e,o≠.pending c e):F4 { w with heap:=w.heap.setIfInBounds r o }:=by
  intro b c e h;simp only [Array.getElem?_setIfInBounds] at h;split at h
  . split at h
    . exact ho _ _ (Option.some.inj h)
    . cases h
  . exact hN _ _ _ h
theorem F4.setCell (hN:F4 w){a:Addr}{v:Value}:F4 (w.setCell a v):=by
  intro b c e h;simp only [World.setCell,Array.getElem?_modify] at h;split at h
  . cases ho:w.heap[b]? with
    | none=>rw [ho] at h;cases h
    | some o=>
      rw [ho] at h;cases o with
      | pending c' e'=>exact hN _ _ _ ho
      | _=>simp at h
  . exact hN _ _ _ h
theorem F4.far (hN:F4 w){a:Addr}{v:Value}{b:Bool}{w':World}{ts:List Addr}(h:w.farStore P a v b=.ok (w',ts)):F4 w':=by
  unfold World.farStore at h;cases ho:w.heap[a.block]? with
  | none=>rw [ho] at h;cases h
  | some o=>
    rw [ho] at h;cases o with
    | view at_ u=>
      simp only [] at h;cases hv:w.viewStore P at_ u a v b with
      | error e=>rw [hv] at h;cases h
      | ok r=>
        rw [hv] at h;cases h
        unfold World.viewStore at hv;simp only [bind,Except.bind,pure,Except.pure,throw,throwThe,MonadExceptOf.throw] at hv;repeat' split at hv
        all_goals first | (cases hv;done) | (cases hv;exact hN.setObj (fun _ _=>nofun))
    | _=>cases h
theorem Od:∀ {m:Sem α} {w:World} {es:Array Event},Ed P Q m->F4 w->kindOk Q (m.runT P w es).1:=by
  intro m;induction m with
  | pure a=>intro w es ht _;exact ht
  | load m a k ih=>
    intro w es ht hN;simp only [Sem.runT];cases hc:w.cell? a with
    | some v=>exact ih _ (ht _) hN
    | none=>
      simp only [];cases hf:w.farLoad P a (m == .atomic) with
      | ok r=>exact ih _ (ht _) hN
      | error h=>exact Sb hN hf
  | store m a v k ih=>
    intro w es ht hN;rcases SK v with ⟨cs,rfl⟩|⟨cs,rfl⟩|⟨n1,n2⟩
    . exact trivial
    . exact trivial
    rw [JD n1 n2];cases hc:w.cell? a with
    | some x=>
      simp only [];split
      . exact trivial
      . exact ih ht hN.setCell
    | none=>
      simp only [];cases hf:w.farStore P a v (m == .atomic) with
      | ok r=>exact ih ht (hN.far hf)
      | error h=>exact Q6 hN hf
  | new o k ih=>
    intro w es ht hN;refine ih _ (ht.2 _) (w:={ w with heap:=w.heap.push o }) fun b c e h=>?_;simp only [Array.getElem?_push] at h;split at h
    . obtain rfl:=Option.some.inj h;exact ht.1
    . exact hN _ _ _ h
  | shape r k ih=>intro w es ht hN;exact ih _ (ht.1 _) hN
  | freeze a n k ih=>intro w es ht;exact ht.elim
  | frozen a k ih=>intro w es ht hN;exact ih _ (ht.1 _) hN
  | getObj r k ih=>
    intro w es ht hN;simp only [Sem.runT];cases ho:w.heap[r]? with
    | none=>exact trivial
    | some o=>cases o <;> first | exact ih _ (ht.1 _) hN | exact trivial
  | setObj r o k ih=>intro w es ht;exact ht.elim
  | choose q k ih=>
    intro w es ht hN;simp only [Sem.runT];split
    . exact ih _ (ht _) hN
    . exact ih _ (ht _) (w:={ w with drawn:=w.drawn+1 }) hN
  | sys c k ih=>intro w es ht;exact ht.elim
  | program k ih=>intro w es ht hN;exact ih _ ht hN
  | mark m k ih=>intro w es ht hN;exact ih ht.2 hN
  | halt x=>
    intro w es ht hN;cases x <;> first | exact trivial | exact ht
theorem VL:∀ {m:Sem α} {w:World} {es:Array Event},Ed P Q m->(Vt (m.runT P w es).1).tape=w.tape:=by
  intro m;induction m with
  | pure a=>intro w es _;rfl
  | load m a k ih=>
    intro w es ht;simp only [Sem.runT];cases hc:w.cell? a with
    | some v=>exact ih _ (ht _)
    | none=>
      simp only [];cases hf:w.farLoad P a (m == .atomic) with
      | ok r=>exact ih _ (ht _)
      | error h=>rfl
  | store m a v k ih=>
    intro w es ht;rcases SK v with ⟨cs,rfl⟩|⟨cs,rfl⟩|⟨n1,n2⟩
    . rfl
    . rfl
    rw [JD n1 n2];cases hc:w.cell? a with
    | some x=>
      simp only [];split
      . rfl
      . exact ih ht (w:=w.setCell a v)
    | none=>
      simp only [];cases hf:w.farStore P a v (m == .atomic) with
      | ok r=>exact (ih ht).trans (JZ hf).2
      | error h=>rfl
  | new o k ih=>intro w es ht;exact ih _ (ht.2 _) (w:={ w with heap:=w.heap.push o })
  | shape r k ih=>intro w es ht;exact ih _ (ht.1 _)
  | freeze a n k ih=>intro w es ht;exact ht.elim
  | frozen a k ih=>intro w es ht;exact ih _ (ht.1 _)
  | getObj r k ih=>
    intro w es ht;simp only [Sem.runT];cases ho:w.heap[r]? with
    | none=>rfl
    | some o=>cases o <;> first | exact ih _ (ht.1 _) | rfl
  | setObj r o k ih=>intro w es ht;exact ht.elim
  | choose q k ih=>
    intro w es ht;simp only [Sem.runT];split
    . exact ih _ (ht _)
    . exact ih _ (ht _) (w:={ w with drawn:=w.drawn+1 })
  | sys c k ih=>intro w es ht;exact ht.elim
  | program k ih=>intro w es ht;exact ih _ ht
  | mark m k ih=>intro w es ht;exact ih ht.2
  | halt x=>intro w es ht;rfl
theorem Kt {B:Hid}{m:Sem α}{w:World}{es:Array Event}{τ:Nat->Question->Nat}{d:Nat}(ht:Ed P Q m)(hR:Rows B w){x:α ⊕ Value}{w1:World}(h:F3 (m.runT P (sh (D7 B w) τ d) es).1=some (x,w1))(hτ:∀ i,d+i < w1.drawn->w.tape (w.drawn+i)=τ (d+i)) :
    ∃ w2 es2,F3 (m.runT P w es).1=some (x,w2)/\w1=sh (D7 B w2) τ (d+(w2.drawn - w.drawn))/\Kept B w w2/\(∀ a,x=.inl a->Q a)/\
      (m.runT P w es).2=es ++ es2/\(m.runT P (sh (D7 B w) τ d) es).2=es ++ es2/\∀ e∈es2,IG B w2.heap.size e:=by
  have hw1:Vt (m.runT P (sh (D7 B w) τ d) es).1=w1:=by
    cases x with
    | inl a=>rw [IJ h];rfl
    | inr v=>rw [K9 h];rfl
  have hs:=Wh (w:=sh (D7 B w) τ d) (es:=es) (τ:=w.tape) (d:=w.drawn) ht (fun i hi=>by rw [hw1] at hi;exact hτ i hi);have he:sh (sh (D7 B w) τ d) w.tape w.drawn=D7 B w:=rfl;rw [he,hw1] at hs;have hd:d<=w1.drawn:=by rw [← hw1];exact UZ (w:=sh (D7 B w) τ d) (es:=es) ht
  have hx:F3 (m.runT P (D7 B w) es).1=some (x,sh w1 w.tape (w.drawn+(w1.drawn - d))):=by
    rw [hs];cases x with
    | inl a=>rw [IJ h];rfl
    | inr v=>rw [K9 h];rfl
  obtain ⟨w2,es2,h1,h2,h3,h4,h5,h6,h7⟩:=bW ht hR x _ hx;refine ⟨w2,es2,h1,?_,h3,h4,h5,?_,h7⟩
  . have e1:w2.drawn=w.drawn+(w1.drawn - d):=by rw [show w2.drawn=(D7 B w2).drawn from rfl,← h2];rfl
    have e2:w1.tape=τ:=by
      have:=(VL (P:=P) (w:=sh (D7 B w) τ d) (es:=es) ht)
      rw [hw1] at this;exact this
    have:sh (D7 B w2) τ (d+(w2.drawn - w.drawn))=sh (sh w1 w.tape (w.drawn+(w1.drawn - d))) τ (d+(w2.drawn - w.drawn)):=by rw [h2]
    rw [this,e1];show w1={ w1 with tape:=τ,drawn:=_ }
    rw [show d+(w.drawn+(w1.drawn - d) - w.drawn)=w1.drawn by omega,← e2]
  . rw [← h6,hs]
end
end
end Go.LT
namespace Go.LT
open Go Go.Conc
section
variable [Host]
def Gg (P:Program):Code->Bool
  | .skip | .ret | .exit _ | .label _ | .refuse _=>true
  | .region _ ops _=>ops.all (J5 P)
  | .seq a b | .cond _ a b=>Gg P a && Gg P b
  | .block _ b | .loop b | .scope b=>Gg P b
  | _=>false
def FH (P:Program):Item->Bool
  | .code c=>Gg P c
  | .inBlock _=>true
  | .inLoop b | .inScope b=>Gg P b
  | .inRegion ops l=>l.all fun i=>(ops[i]?).all (J5 P)
  | _=>false
theorem Jd {P:Program}{ops:Array Oper}(h:ops.all (J5 P)=true)(l:List Nat):FH P (.inRegion ops l)=true:=by
  show (l.all fun i=>(ops[i]?).all (J5 P))=true;rw [List.all_eq_true];intro i _;cases ho:ops[i]? with
  | none=>rfl
  | some o=>
    rw [Array.all_eq_true] at h;obtain ⟨hlt,he⟩:=zGE ho
    simpa [← he] using h i hlt
theorem Mk {P:Program}{ops:Array Oper}{i:Nat}{rest:List Nat}{o:Oper}(h:FH P (.inRegion ops (i :: rest))=true)(ho:ops[i]?=some o):J5 P o=true:=by have h':((i :: rest).all fun i=>(ops[i]?).all (J5 P))=true:=h;simp only [List.all_cons,ho,Option.all_some,Bool.and_eq_true] at h';exact h'.1
theorem LQ {P:Program}{ops:Array Oper}{i:Nat}{rest:List Nat}(h:FH P (.inRegion ops (i :: rest))=true):FH P (.inRegion ops rest)=true:=by have h':((i :: rest).all fun i=>(ops[i]?).all (J5 P))=true:=h;rw [List.all_cons,Bool.and_eq_true] at h';exact h'.2
def Lets (P:Program)(f:FuncId):Prop:=
  P.inits.idxOf? f = none /\ ((∃ fn c, P.funcs[f]? = some fn /\ (fn.name == "runtime.NumGoroutine") = false /\ fn.body = some c /\ Gg P c = true) \/ NR P f \/ Host.bar f = true)
def Fb (F:FuncId->Prop)(f:FuncId):Prop:=F f/\Host.bar f=false
structure GD (P:Program)(F:FuncId->Prop)(fr:Frame):Prop where
  kind:fr.kind=.normal
  round:fr.roundOf=none
  defers:fr.defers=[]
  todo:∀ it∈fr.todo,FH P it=true
  fn:F fr.fn
  bL:∀ chain,fr.mode=.panicking chain->∀ e∈chain,e.goexit=false
section
variable {P:Program}{F:FuncId->Prop}
theorem GD.finish {fr:Frame}(h:GD P F fr)(v:Value):GD P F (fr.finish v):=by
  obtain ⟨fn,tmps,todo,defers,mode,kind,roundOf⟩:=fr;obtain ⟨h1,h2,h3,h4,h5,h6⟩:=h;unfold Frame.finish;cases todo with
  | nil=>exact ⟨h1,h2,h3,h4,h5,h6⟩
  | cons it k=>
    have hi:=h4 it (by simp);have hk:∀ x∈k,FH P x=true:=fun x hx=>h4 x (by simp at hx ⊢;exact .inr hx);cases it with
    | inRegion ops l=>
      cases l with
      | nil=>exact ⟨h1,h2,h3,h4,h5,h6⟩
      | cons i rest=>
        refine ⟨h1,h2,h3,fun x hx=>?_,h5,h6⟩;rcases List.mem_cons.1 hx with rfl|hx
        . exact LQ hi
        . exact hk x hx
    | code c=>exact ⟨h1,h2,h3,h4,h5,h6⟩
    | inBlock b=>exact ⟨h1,h2,h3,h4,h5,h6⟩
    | inLoop b=>exact ⟨h1,h2,h3,h4,h5,h6⟩
    | inScope b=>exact ⟨h1,h2,h3,h4,h5,h6⟩
    | _=>exact absurd hi Bool.false_ne_true
theorem GD.raise {fr:Frame}(h:GD P F fr){vs:List PanicEntry}(hv:∀ e∈vs,e.goexit=false):GD P F (fr.raise vs):=by
  unfold Frame.raise;split
  . rename_i chain hm
    exact ⟨h.kind,h.round,h.defers,h.todo,h.fn,fun c hc e he=>by
      cases hc
      rcases List.mem_append.1 he with he|he
      . exact hv e he
      . exact h.bL _ hm e he⟩
  . exact ⟨h.kind,h.round,h.defers,h.todo,h.fn,fun c hc e he=>by cases hc;exact hv e he⟩
theorem GD.enter (hF:∀ f,F f->Lets P f){f:FuncId}(hf:Fb F f)(args:Array Value):GD P F (Frame.enter P f args .normal):=by
  refine ⟨rfl,rfl,rfl,fun it hit=>?_,hf.1,fun c hc=>by cases hc⟩;simp only [Frame.enter,List.mem_singleton] at hit;subst hit;rcases (hF f hf.1).2 with ⟨fn,c,h1,_,h2,h3⟩|⟨fn,e,h1,_,h2,_⟩|hb
  . simp [h1,h2,FH,h3]
  . have:fn.body=none:=by simpa using h2
    simp [h1,this,FH,Gg]
  . rw [hf.2] at hb;cases hb
theorem Yc {id:Nat}:∀ {k k':List Item},exitTo id k=some k'->(∀ x∈k,FH P x=true)->∀ x∈k',FH P x=true:=by
  intro k;induction k with
  | nil=>intro k' h;cases h
  | cons it k ih=>
    intro k' h hk;have hk':∀ x∈k,FH P x=true:=fun x hx=>hk x (by simp;exact .inr hx);unfold exitTo at h;split at h
    . rename_i heq
      cases heq
      split at h
      . cases h;exact hk'
      . exact ih h hk'
    . rename_i heq
      cases heq
      exact ih h hk'
    . cases ‹_›
theorem Nu {fr:Frame}{o:Oper}{g:FuncId}{w:World}(hm:fr.mode=.run)(VR:fr.oper?=some o)(hc:GJ o=some g) :
    fr.about P w=some g:=by
  have:∃ ops i rest k,fr.todo=.inRegion ops (i :: rest) :: k/\ops[i]?=some o:=by
    unfold Frame.oper? at VR;split at VR
    . exact ⟨_,_,_,_,by assumption,VR⟩
    . cases VR
  obtain ⟨ops,i,rest,k,ht,ho⟩:=this;obtain ⟨dst,op,type,pos,after,guard⟩:=o;unfold Frame.about;simp only [hm,ht,ho];cases op with
  | call c=>
    obtain ⟨callee,kI,ats⟩:=c;cases callee with
    | value f=>
      cases f with
      | func g'=>cases hc;rfl
      | _=>cases hc
    | _=>cases hc
  | _=>cases hc
def KX (P:Program)(F:FuncId->Prop)(B:Hid)(main:Bool)(τ:Nat->Question->Nat)(d:Nat)(fr:Frame)(s t:List Frame)(w:World):GStep->Prop
  | .go g w1 es=>(∀ i,d+i < w1.drawn->w.tape (w.drawn+i)=τ (d+i))->∃ fr' s' w2,g=G fr' s'/\w1=sh (D7 B w2) τ (d+(w2.drawn - w.drawn))/\
      stepG P main (G fr (s ++ t)) w=.go (G fr' (s' ++ t)) w2 es/\Kept B w w2/\(∀ e∈es,IG B w2.heap.size e)/\∀ x∈fr' :: s',GD P F x
  | .ended ..=>True
  | _=>False
section
variable {B:Hid}{main:Bool}{τ:Nat->Question->Nat}{d:Nat}{fr:Frame}{s t:List Frame}{w:World}
theorem L8 {fr':Frame}(h:∀ (m:Bool) (cs:List Frame) (w:World),stepG P m (G fr cs) w=.go (G fr' cs) w)(hok:∀ x∈fr' :: s,GD P F x):KX P F B main τ d fr s t w (stepG P true (G fr s) (sh (D7 B w) τ d)):=by rw [h];exact fun _=>⟨fr',s,w,rfl,by simp,h _ _ _,Kept.refl B w,by simp,hok⟩
theorem Tc (hF:∀ f,F f->Lets P f)(hR:Rows B w)(hfr:∀ x∈fr :: s,GD P F x)(hmode:fr.mode=.run){sem:Sem Next}(hT:Ed P (Hz (Fb F)) sem)(hw:∀ d wr r sv k,fr.todo≠.call d wr r sv :: k)(h:∀ (m:Bool) (cs:List Frame) (w:World),stepG P m (G fr cs) w=stepG.apply P true fr cs none sem w):KX P F B main τ d fr s t w (stepG P true (G fr s) (sh (D7 B w) τ d)):=by
  have h0:=hfr fr (by simp);have hs:∀ x∈s,GD P F x:=fun x hx=>hfr x (by simp;exact .inr hx);have K7:(fr.kind == CallKind.early)=false:=by rw [h0.kind];rfl
  have hk:=Od (es:=#[]) hT (w:=sh (D7 B w) τ d) (Fh hR);have over:=fun x w1=>Kt (es:=#[]) (τ:=τ) (d:=d) hT hR (x:=x) (w1:=w1);rw [h];have key:∀ (x:Next ⊕ Value) w1,F3 (sem.runT P (sh (D7 B w) τ d) #[]).1=some (x,w1)->(∀ i,d+i < w1.drawn->w.tape (w.drawn+i)=τ (d+i))->∃ w2,F3 (sem.runT P w #[]).1=some (x,w2)/\w1=sh (D7 B w2) τ (d+(w2.drawn - w.drawn))/\Kept B w w2/\
      (∀ a,x=.inl a->Hz (Fb F) a)/\(sem.runT P w #[]).2=(sem.runT P (sh (D7 B w) τ d) #[]).2/\∀ e∈seen P fr.fn (sem.runT P (sh (D7 B w) τ d) #[]).2,IG B w2.heap.size e:=by
    intro x w1 hx hτ;obtain ⟨w2,es2,h1,h2,h3,h4,h5,h6,h7⟩:=over x w1 hx hτ;refine ⟨w2,h1,h2,h3,h4,h5.trans h6.symm,fun e he=>h7 e ?_⟩;have:=mem_seen he;rw [h6] at this
    simpa using this
  generalize hr:sem.runT P (sh (D7 B w) τ d) #[]=r at hk key;obtain ⟨r,es⟩:=r;unfold stepG.apply;simp only [if_true,hr,K7,Bool.false_eq_true,if_false];cases r with
  | ok n w1=>
    cases n with
    | value v=>
      intro hτ;obtain ⟨w2,h1,h2,h3,h4,h5,h6⟩:=key (.inl (.value v)) w1 rfl hτ;refine ⟨fr.finish v,s,w2,rfl,h2,?_,h3,by simpa [GStep.after] using h6,fun x hx=>?_⟩
      . rw [h];unfold stepG.apply;generalize hr2:sem.runT P w #[]=r2 at h1 h5;obtain ⟨r2,es2⟩:=r2;obtain rfl:=IJ h1;obtain rfl:es2=es:=h5;simp only [if_true,hr2,K7,Bool.false_eq_true,if_false];rfl
      . rcases List.mem_cons.1 hx with rfl | hx
        . exact h0.finish v
        . exact hs x hx
    | skip=>
      intro hτ;obtain ⟨w2,h1,h2,h3,h4,h5,h6⟩:=key (.inl .skip) w1 rfl hτ;refine ⟨fr.finish undef,s,w2,rfl,h2,?_,h3,by simpa [GStep.after] using h6,fun x hx=>?_⟩
      . rw [h];unfold stepG.apply;generalize hr2:sem.runT P w #[]=r2 at h1 h5;obtain ⟨r2,es2⟩:=r2;obtain rfl:=IJ h1;obtain rfl:es2=es:=h5;simp only [if_true,hr2,K7,Bool.false_eq_true,if_false];rfl
      . rcases List.mem_cons.1 hx with rfl | hx
        . exact h0.finish undef
        . exact hs x hx
    | enter f args=>
      intro hτ;obtain ⟨w2,h1,h2,h3,h4,h5,h6⟩:=key (.inl (.enter f args)) w1 rfl hτ;refine ⟨Frame.enter P f args .normal,fr :: s,w2,by split <;> first | rfl | (rename_i e;exact absurd e (hw _ _ _ _ _)),h2,?_,h3,by simpa [GStep.after] using h6,fun x hx=>?_⟩
      . rw [h];unfold stepG.apply;generalize hr2:sem.runT P w #[]=r2 at h1 h5;obtain ⟨r2,es2⟩:=r2;obtain rfl:=IJ h1;obtain rfl:es2=es:=h5;simp only [if_true,hr2,K7,Bool.false_eq_true,if_false];split <;> first | rfl | (rename_i e;exact absurd e (hw _ _ _ _ _))
      . rcases List.mem_cons.1 hx with rfl | hx
        . exact GD.enter hF (h4 _ rfl) args
        . exact hfr x hx
    | _=>exact hk.elim
  | halt x w1=>
    cases x with
    | panic v=>
      intro hτ;obtain ⟨w2,h1,h2,h3,h4,h5,h6⟩:=key (.inr v) w1 rfl hτ;refine ⟨fr.raise [{ v,recovered:=false }],s,w2,rfl,h2,?_,h3,by simpa [GStep.after] using h6,fun x hx=>?_⟩
      . rw [h];unfold stepG.apply;generalize hr2:sem.runT P w #[]=r2 at h1 h5;obtain ⟨r2,es2⟩:=r2;obtain rfl:=K9 h1;obtain rfl:es2=es:=h5;simp only [if_true,hr2,K7,Bool.false_eq_true,if_false];rfl
      . rcases List.mem_cons.1 hx with rfl | hx
        . exact h0.raise (by simp)
        . exact hs x hx
    | stuck m=>exact trivial
    | unsupported u=>cases u <;> first | exact hk.elim | exact trivial
    | _=>exact hk.elim
theorem Yy {fr:Frame}(h:GD P F fr){todo:List Item}(ht:∀ x∈todo,FH P x=true):GD P F { fr with todo }:=⟨h.kind,h.round,h.defers,ht,h.fn,h.bL⟩
theorem WU (hF:∀ f,F f->Lets P f)(hR:Rows B w)(hfr:∀ x∈fr :: s,GD P F x)(hmode:fr.mode=.run)(hab:∀ o g,fr.oper?=some o->GJ o=some g->F g) :
    KX P F B main τ d fr s t w (stepG P true (G fr s) (sh (D7 B w) τ d)):=by
  have h0:=hfr fr (by simp);have hs:∀ x∈s,GD P F x:=fun x hx=>hfr x (by simp;exact .inr hx);have hto:∀ {fr':Frame},GD P F fr'->∀ x∈fr' :: s,GD P F x:=fun h x hx=>by
    rcases List.mem_cons.1 hx with rfl|hx
    . exact h
    . exact hs x hx
  have hrnd:=h0.round;have htodo:=h0.todo;have hmv:∀ todo,(∀ (m:Bool) (cs:List Frame) (w:World),stepG P m (G fr cs) w=.go (G { fr with todo } cs) w)->(∀ x∈todo,FH P x=true)->KX P F B main τ d fr s t w (stepG P true (G fr s) (sh (D7 B w) τ d)):=
    fun todo h hk=>L8 h (hto (Yy h0 hk))
  have hret:(∀ (m:Bool) (cs:List Frame) (w:World),stepG P m (G fr cs) w=.go (G { fr with mode:=.returning } cs) w)->KX P F B main τ d fr s t w (stepG P true (G fr s) (sh (D7 B w) τ d)):=
    fun h=>L8 h (hto ⟨h0.kind,h0.round,h0.defers,h0.todo,h0.fn,fun c hc=>by cases hc⟩)
  have hend:(∃ o w' es,stepG P true (G fr s) (sh (D7 B w) τ d)=.ended o w' es)->KX P F B main τ d fr s t w (stepG P true (G fr s) (sh (D7 B w) τ d)):=by rintro ⟨o,w',es,h⟩;rw [h];exact trivial
  obtain ⟨fn,tmps,todo,defers,mode,kind,roundOf⟩:=fr;simp only at hmode hrnd htodo;subst hmode hrnd;cases todo with
  | nil=>exact hret fun m cs w=>by simp [G,stepG,stepG.exec]
  | cons it k=>
    have hi:=htodo it (by simp);have hk:∀ x∈k,FH P x=true:=fun x hx=>htodo x (by simp;exact .inr hx);have cons:∀ {a:Item} {l:List Item},FH P a=true->(∀ x∈l,FH P x=true)->∀ x∈a :: l,FH P x=true:=fun ha hl x hx=>by
      rcases List.mem_cons.1 hx with rfl|hx
      . exact ha
      . exact hl x hx
    cases it with
    | code c=>
      cases c with
      | skip=>exact hmv k (fun m cs w=>by simp [G,stepG,stepG.exec]) hk
      | label l=>exact hmv k (fun m cs w=>by simp [G,stepG,stepG.exec]) hk
      | ret=>exact hret fun m cs w=>by simp [G,stepG,stepG.exec]
      | refuse why=>exact hend ⟨_,_,_,by simp [G,stepG,stepG.exec];exact ⟨rfl,rfl,rfl⟩⟩
      | seq a b=>
        have hab':(Gg P a && Gg P b)=true:=hi;rw [Bool.and_eq_true] at hab';exact hmv (.code a :: .code b :: k) (fun m cs w=>by simp [G,stepG,stepG.exec]) (cons hab'.1 (cons hab'.2 hk))
      | cond c a b=>
        have hab':(Gg P a && Gg P b)=true:=hi;rw [Bool.and_eq_true] at hab';by_cases hb:∃ v,Frame.eval { fn,tmps,todo:=.code (.cond c a b) :: k,defers,mode:=.run,kind } c=.bool v
        . obtain ⟨v,hv⟩:=hb;refine hmv (.code (if v then a else b) :: k) (fun m cs w=>by simp [G,stepG,stepG.exec,hv]) (cons ?_ hk);cases v
          . exact hab'.2
          . exact hab'.1
        . refine hend ?_;generalize he:Frame.eval { fn,tmps,todo:=.code (.cond c a b) :: k,defers,mode:=.run,kind } c=e at hb;cases e with
          | bool v=>exact absurd ⟨v,rfl⟩ hb
          | _=>exact ⟨_,_,_,by simp [G,stepG,stepG.exec,he];exact ⟨rfl,rfl,rfl⟩⟩
      | block id b=>exact hmv (.code b :: .inBlock id :: k) (fun m cs w=>by simp [G,stepG,stepG.exec]) (cons hi (cons rfl hk))
      | loop b=>exact hmv (.code b :: .inLoop b :: k) (fun m cs w=>by simp [G,stepG,stepG.exec]) (cons hi (cons hi hk))
      | scope b=>exact hmv (.code b :: .inScope b :: k) (fun m cs w=>by simp [G,stepG,stepG.exec]) (cons hi (cons hi hk))
      | exit id=>
        cases he:exitTo id k with
        | some k'=>exact hmv k' (fun m cs w=>by simp [G,stepG,stepG.exec,he]) (Yc he hk)
        | none=>exact hend ⟨_,_,_,by simp [G,stepG,stepG.exec,he];exact ⟨rfl,rfl,rfl⟩⟩
      | region id ops draw=>
        cases draw with
        | false=>exact hmv (.inRegion ops (List.range ops.size) :: k) (fun m cs w=>by simp [G,stepG,stepG.exec]) (cons (Jd hi _) hk)
        | true=>
          have hst:∀ (m:Bool) (cs:List Frame) (w:World),stepG P m (G { fn,tmps,todo:=.code (.region id ops true) :: k,defers,mode:=.run,kind } cs) w =
              .go (G { fn,tmps,todo:=.inRegion ops (Region.schedule (P.follows .mixedOrders) ops (w.tape w.drawn (.order fn id))) :: k,defers,mode:=.run,kind } cs) { w with drawn:=w.drawn+1 }:=fun m cs w=>by
            simp [G,stepG,stepG.exec,choose,Sem.run,Question.forced,Question.cut]
          rw [hst];intro hτ;have h1:=hτ 0 (by simp [sh]);refine ⟨_,s,{ w with drawn:=w.drawn+1 },rfl,?_,(hst _ _ _).trans ?_,⟨rfl,rfl,rfl,Nat.le_succ _,Nat.le_refl _,fun _ _=>rfl,fun _ _ h _=>h,fun _ _ _ h=>h,fun _ _=>rfl⟩,by simp,hto ⟨h0.kind,rfl,h0.defers,cons (Jd hi _) hk,h0.fn,fun c hc=>by cases hc⟩⟩
          . simp [sh,D7]
          . simp only [Nat.add_zero] at h1;rw [h1];rfl
      | rangeFunc f ps a b=>exact absurd hi Bool.false_ne_true
      | goto l=>exact absurd hi Bool.false_ne_true
    | inBlock id=>exact hmv k (fun m cs w=>by simp [G,stepG,stepG.exec]) hk
    | inLoop b=>exact hmv (.code b :: .inLoop b :: k) (fun m cs w=>by simp [G,stepG,stepG.exec]) (cons hi (cons hi hk))
    | inScope b=>exact hmv k (fun m cs w=>by simp [G,stepG,stepG.exec]) hk
    | inRegion ops l=>
      cases l with
      | nil=>exact hmv k (fun m cs w=>by simp [G,stepG,stepG.exec]) hk
      | cons i rest=>
        cases hw:((ops[i]?).map (Region.wanted · (yielded ops tmps))).getD false with
        | false=>
          refine L8 (fr':=Frame.finish { fn,tmps,todo:=.inRegion ops (i :: rest) :: k,defers,mode:=.run,kind } undef) (fun m cs w=>?_) (hto (h0.finish undef));simp [G,stepG,stepG.exec,hw]
        | true=>
          cases ho:ops[i]? with
          | none=>rw [ho] at hw;cases hw
          | some o=>
            have VR:J5 P o=true:=Mk hi ho;refine Tc (sem:=execOp (Frame.eval { fn,tmps,todo:=.inRegion ops (i :: rest) :: k,defers,mode:=.run,kind }) o) hF hR hfr rfl ?_ (fun _ _ _ _ _ h=>by cases h) (fun m cs w=>?_)
            . refine PS (fun g=>rfl) (fun v=>rfl) (fun g hg=>?_) VR;have hFg:=hab o g (by simp [Frame.oper?,ho]) hg;rcases (hF g hFg).2 with ⟨f,c,h1,h2,h3,_⟩|h|h
              . exact .inl ⟨⟨hFg,Ky VR hg⟩,f,c,h1,h2,h3⟩
              . exact .inr h
              . rw [Ky VR hg] at h;cases h
            . have hw':Region.wanted o (yielded ops tmps)=true:=by rw [ho] at hw;exact hw
              obtain ⟨dst,op,type,pos,after,guard⟩:=o;simp [G,stepG,stepG.exec,stepG.oper,Frame.oper?,ho,hw']
    | inRangeFunc l=>exact absurd hi Bool.false_ne_true
    | endRangeFunc l=>exact absurd hi Bool.false_ne_true
    | beginRound=>exact absurd hi Bool.false_ne_true
    | call d w r sv=>exact absurd hi Bool.false_ne_true
    | extern r a=>exact absurd hi Bool.false_ne_true
theorem Pm {c:Frame}{s:List Frame}(hR:Rows B w)(hfr:∀ x∈fr :: c :: s,GD P F x)(hmode:fr.mode≠.run) :
    KX P F B main τ d fr (c :: s) t w (stepG P true (G fr (c :: s)) (sh (D7 B w) τ d)):=by
  have h0:=hfr fr (by simp);have hc:=hfr c (by simp);have hs:∀ x∈s,GD P F x:=fun x hx=>hfr x (by simp;exact .inr (.inr hx));have hto:∀ {c':Frame},GD P F c'->∀ x∈c' :: s,GD P F x:=fun h x hx=>by
    rcases List.mem_cons.1 hx with rfl|hx
    . exact h
    . exact hs x hx
  have hdef:=h0.defers;have hkind:=h0.kind;obtain ⟨fn,tmps,todo,defers,mode,kind,roundOf⟩:=fr;simp only at hmode hdef hkind;subst hdef hkind;cases mode with
  | run=>exact absurd rfl hmode
  | returning=>
    cases hf:P.funcs[fn]? with
    | none=>
      have hst:∀ (m:Bool) (cs:List Frame) (w:World),stepG P m (G { fn,tmps,todo,defers:=[],mode:=.returning,kind:=.normal,roundOf } (c :: cs)) w=.go (G (c.finish (tmps.getD 0 undef)) cs) w:=fun m cs w=>by simp [G,stepG,unwind,hf,doReturn]
      rw [hst];exact fun _=>⟨_,s,w,rfl,by simp,hst _ _ _,Kept.refl B w,by simp,hto (hc.finish _)⟩
    | some f=>
      have hT:Ed P (fun _=>True) (results f tmps):=NZ fun _=>trivial;have hst:∀ (m:Bool) (cs:List Frame) (w:World),stepG P m (G { fn,tmps,todo,defers:=[],mode:=.returning,kind:=.normal,roundOf } (c :: cs)) w =
          GStep.after (seen P fn ((results f tmps).runT P w #[]).2) (match ((results f tmps).runT P w #[]).1 with
            | .ok v w=>.go (G (c.finish v) cs) w
            | .halt (.stuck s) w=>.ended (.stuck s (Frame.pos P { fn,tmps,todo,defers:=[],mode:=.returning,kind:=.normal,roundOf })) w
            | .halt _ w => .ended (.stuck "return: the result variables cannot be read" (Frame.pos P { fn, tmps, todo, defers := [], mode := .returning, kind := .normal, roundOf })) w) := fun m cs w => by
        simp only [G,stepG,unwind,hf];generalize (results f tmps).runT P w #[]=r;obtain ⟨r,es⟩:=r;cases r with
        | ok v w=>rfl
        | halt x w=>cases x <;> rfl
      rw [hst];have over:=fun x w1=>Kt (es:=#[]) (τ:=τ) (d:=d) hT hR (x:=x) (w1:=w1);generalize hr:(results f tmps).runT P (sh (D7 B w) τ d) #[]=r at over;obtain ⟨r,es⟩:=r;cases r with
      | ok v w1=>
        intro hτ;obtain ⟨w2,es2,h1,h2,h3,h4,h5,h6,h7⟩:=over (.inl v) w1 rfl hτ;simp only [Array.empty_append] at h5 h6;subst h6;refine ⟨_,s,w2,rfl,h2,(hst _ _ _).trans ?_,h3,fun e he=>h7 e (mem_seen (by simpa [GStep.after] using he)),hto (hc.finish v)⟩;generalize hr2:(results f tmps).runT P w #[]=r2 at h1 h5;obtain ⟨r2,es2⟩:=r2;obtain rfl:=IJ h1;obtain rfl:es2=es:=h5;rfl
      | halt x w1=>cases x <;> exact trivial
  | panicking chain=>
    by_cases hca:Frame.catches P { fn,tmps,todo,defers:=[],mode:=.panicking chain,kind:=.normal,roundOf }=true
    . have:∃ o w' es,stepG P true (G { fn,tmps,todo,defers:=[],mode:=.panicking chain,kind:=.normal,roundOf } (c :: s)) (sh (D7 B w) τ d)=.ended o w' es:=by simp only [G,stepG,unwind,hca,if_true];exact ⟨_,_,_,rfl⟩
      obtain ⟨o,w',es,h⟩:=this;rw [h];exact trivial
    . have hst:∀ (m:Bool) (cs:List Frame) (w:World),stepG P m (G { fn,tmps,todo,defers:=[],mode:=.panicking chain,kind:=.normal,roundOf } (c :: cs)) w=.go (G (c.raise chain) cs) w:=fun m cs w=>by simp only [G,stepG,unwind,hca,if_false,Bool.false_eq_true]
      rw [hst];exact fun _=>⟨_,s,w,rfl,by simp,hst _ _ _,Kept.refl B w,by simp,hto (hc.raise (h0.bL chain rfl))⟩
theorem bottom (hF:∀ f,F f->Lets P f)(h0:GD P F fr)(hmode:fr.mode≠.run) :
    (∃ o w' es,stepG P true (G fr []) w=.ended o w' es)\/∃ g' w' es,stepG P true (G fr []) w=.go g' w' es/\g'.dying.isNone=false:=by
  have hdef:=h0.defers;have hkind:=h0.kind;have hfn:=(hF _ h0.fn).1;have hno:=h0.bL;obtain ⟨fn,tmps,todo,defers,mode,kind,roundOf⟩:=fr;simp only at hmode hdef hkind hfn hno;subst hdef hkind;cases mode with
  | run=>exact absurd rfl hmode
  | returning=>
    left
    cases hf:P.funcs[fn]? with
    | none=>exact ⟨_,_,_,by simp only [G,stepG,unwind,hf,doReturn,hfn];rfl⟩
    | some f=>
      simp only [G,stepG,unwind,hf];generalize (results f tmps).runT P w #[]=r;obtain ⟨r,es⟩:=r;cases r with
      | ok v w=>exact ⟨_,_,_,by simp only [doReturn,hfn];rfl⟩
      | halt x w=>cases x <;> exact ⟨_,_,_,rfl⟩
  | panicking chain=>
    have hg:(chain.head?.any (·.goexit))=false:=by
      cases chain with
      | nil=>rfl
      | cons e l=>simpa using hno _ rfl e (by simp)
    simp only [G,stepG,unwind,hg,Bool.false_eq_true,if_false];split
    . exact .inl ⟨_,_,_,rfl⟩
    . split
      . exact .inr ⟨_,_,_,rfl,rfl⟩
      . exact .inl ⟨_,_,_,rfl⟩
      . exact .inl ⟨_,_,_,rfl⟩
end
end
end
end Go.LT
end
