/-
  Part 4 of the proof that CellAlone returns true for every input and leaves its arguments as they were. No further condition.
-/
import Derived.Test.YtkdhnbcdbnpmhaaQ03
import GoSem.Step
set_option linter.unusedVariables false
set_option linter.unusedSectionVars false
namespace Go.LT
open Go
section
theorem iJ {P:Program}{α β:Type}{f:α->Sem β}(hf:∀ (Q':β->Prop) a,(∀ v,Q' v)->G6 P Q' (f a)){Q:Array β->Prop}(h:∀ v,Q v){a:Array α}:G6 P Q (a.mapM f):=by
  rw [Array.mapM_eq_mapM_toList];refine Uy ?_;have key:∀ (l:List α) (Q:List β->Prop),(∀ v,Q v)->G6 P Q (l.mapM f):=by
    intro l;induction l with
    | nil=>intro Q h;rw [List.mapM_nil];exact GZ (h _)
    | cons x l ih=>
      intro Q h;rw [List.mapM_cons];exact GV (hf _ _ fun _=>GV (ih _ fun _=>GZ (h _)))
  exact key _ _ fun _=>h _
theorem QN {P:Program}{Q:Value->Prop}{fn:Func}{tmps:Array Value}(h:∀ v,Q v):G6 P Q (results fn tmps):=by
  unfold results;refine GV (iJ (fun Q' x h=>?_) fun _=>GZ (h _));cases x with
  | tmp t=>exact GZ (h _)
  | cell a t=>exact GV (Km fun _=>ME h)
theorem RJ {P:Program}{Q:Value->Prop}{t:TypeId}{ps:Array (Nat × Value)}(h:∀ v,Q v):G6 P Q (Instr.build t ps):=by
  unfold Instr.build
  repeat' first | with_reducible assumption | with_reducible exact G8 | ((with_reducible refine G9 ?_);exact True.intro) | with_reducible exact Nw | with_reducible refine GZ (h _) | with_reducible refine iJ (fun _ _ h=>GV (Ja fun _=>GZ (h _))) (fun _=>?_) | with_reducible apply O4 | with_reducible apply Xv | with_reducible apply VZ | with_reducible apply Ta | with_reducible apply Tq | with_reducible apply TA | with_reducible apply KC | with_reducible apply Pm | with_reducible apply WG | with_reducible apply Xa | with_reducible apply Kw | with_reducible apply KL | with_reducible apply La | with_reducible apply ND | with_reducible apply Nt | with_reducible apply NQ | with_reducible apply K9 | with_reducible apply Mc | with_reducible apply L8 | with_reducible apply Lp | with_reducible apply MJ | with_reducible apply QC | with_reducible apply QT | with_reducible apply Mf | with_reducible apply Kk | with_reducible apply QB | with_reducible apply K4 | with_reducible apply LJ | with_reducible apply KD | with_reducible apply O5 | with_reducible apply Qo | with_reducible apply MC | with_reducible apply OY | with_reducible apply KY | with_reducible apply MW | with_reducible apply J3 | with_reducible apply L9 | with_reducible apply Nu | with_reducible apply Qg | with_reducible apply J8 | with_reducible apply Lg | with_reducible apply NK | with_reducible apply Qs | with_reducible apply Qy | with_reducible apply NM | with_reducible apply Xg | with_reducible apply Qw | with_reducible apply Ny | with_reducible apply Nz | with_reducible apply OO | with_reducible apply Lh | with_reducible apply OZ | with_reducible apply Me | with_reducible apply O6 | with_reducible apply Jk | with_reducible apply LU | with_reducible apply MN | with_reducible apply MG | with_reducible apply JU | with_reducible apply Km | with_reducible apply Qv | with_reducible apply Oi | with_reducible apply Ma | with_reducible apply LZ | with_reducible apply Lb | with_reducible apply JB | with_reducible apply Ih | with_reducible apply PV | with_reducible apply MR | with_reducible apply MS | with_reducible apply MK | with_reducible apply LP | with_reducible apply ME | with_reducible apply Ju | with_reducible apply K5 | with_reducible apply J5 | with_reducible apply Pb | with_reducible apply Pf | with_reducible apply Ja | with_reducible apply JM | with_reducible apply Pp | with_reducible apply IJ | with_reducible apply Hy | with_reducible apply Kn | with_reducible apply Ni | with_reducible apply QF | with_reducible apply Qu | with_reducible apply JI | with_reducible apply Uy | with_reducible refine GV ?_ | with_reducible apply GZ | with_reducible intro _ | split | dsimp only
theorem Ob {P:Program}{Q:Value->Prop}{t:TypeId}{n:Nat}{ps:Array (Nat × Value)}(h:∀ v,Q v):G6 P Q (Instr.buildSlice t n ps):=by
  unfold Instr.buildSlice
  repeat' first | with_reducible assumption | with_reducible exact G8 | ((with_reducible refine G9 ?_);exact True.intro) | with_reducible exact Nw | with_reducible refine GZ (h _) | with_reducible apply RJ | with_reducible apply O4 | with_reducible apply Xv | with_reducible apply VZ | with_reducible apply Ta | with_reducible apply Tq | with_reducible apply TA | with_reducible apply KC | with_reducible apply Pm | with_reducible apply WG | with_reducible apply Xa | with_reducible apply Kw | with_reducible apply KL | with_reducible apply La | with_reducible apply ND | with_reducible apply Nt | with_reducible apply NQ | with_reducible apply K9 | with_reducible apply Mc | with_reducible apply L8 | with_reducible apply Lp | with_reducible apply MJ | with_reducible apply QC | with_reducible apply QT | with_reducible apply Mf | with_reducible apply Kk | with_reducible apply QB | with_reducible apply K4 | with_reducible apply LJ | with_reducible apply KD | with_reducible apply O5 | with_reducible apply Qo | with_reducible apply MC | with_reducible apply OY | with_reducible apply KY | with_reducible apply MW | with_reducible apply J3 | with_reducible apply L9 | with_reducible apply Nu | with_reducible apply Qg | with_reducible apply J8 | with_reducible apply Lg | with_reducible apply NK | with_reducible apply Qs | with_reducible apply Qy | with_reducible apply NM | with_reducible apply Xg | with_reducible apply Qw | with_reducible apply Ny | with_reducible apply Nz | with_reducible apply OO | with_reducible apply Lh | with_reducible apply OZ | with_reducible apply Me | with_reducible apply O6 | with_reducible apply Jk | with_reducible apply LU | with_reducible apply MN | with_reducible apply MG | with_reducible apply JU | with_reducible apply Km | with_reducible apply Qv | with_reducible apply Oi | with_reducible apply Ma | with_reducible apply LZ | with_reducible apply Lb | with_reducible apply JB | with_reducible apply Ih | with_reducible apply PV | with_reducible apply MR | with_reducible apply MS | with_reducible apply MK | with_reducible apply LP | with_reducible apply ME | with_reducible apply Ju | with_reducible apply K5 | with_reducible apply J5 | with_reducible apply Pb | with_reducible apply Pf | with_reducible apply Ja | with_reducible apply JM | with_reducible apply Pp | with_reducible apply IJ | with_reducible apply Hy | with_reducible apply Kn | with_reducible apply Ni | with_reducible apply QF | with_reducible apply Qu | with_reducible apply JI | with_reducible apply Uy | with_reducible refine GV ?_ | with_reducible apply GZ | with_reducible intro _ | split | dsimp only
theorem Qi {P:Program}{Q:Value->Prop}{k:FloatKind}{n:Nat}{d:IntKind}(h:∀ v,Q v):G6 P Q (Conv.floatToInt k n d):=by
  unfold Conv.floatToInt
  repeat' first | with_reducible assumption | with_reducible exact G8 | ((with_reducible refine G9 ?_);exact True.intro) | with_reducible exact Nw | with_reducible refine GZ (h _) | with_reducible apply Ob | with_reducible apply RJ | with_reducible apply O4 | with_reducible apply Xv | with_reducible apply VZ | with_reducible apply Ta | with_reducible apply Tq | with_reducible apply TA | with_reducible apply KC | with_reducible apply Pm | with_reducible apply WG | with_reducible apply Xa | with_reducible apply Kw | with_reducible apply KL | with_reducible apply La | with_reducible apply ND | with_reducible apply Nt | with_reducible apply NQ | with_reducible apply K9 | with_reducible apply Mc | with_reducible apply L8 | with_reducible apply Lp | with_reducible apply MJ | with_reducible apply QC | with_reducible apply QT | with_reducible apply Mf | with_reducible apply Kk | with_reducible apply QB | with_reducible apply K4 | with_reducible apply LJ | with_reducible apply KD | with_reducible apply O5 | with_reducible apply Qo | with_reducible apply MC | with_reducible apply OY | with_reducible apply KY | with_reducible apply MW | with_reducible apply J3 | with_reducible apply L9 | with_reducible apply Nu | with_reducible apply Qg | with_reducible apply J8 | with_reducible apply Lg | with_reducible apply NK | with_reducible apply Qs | with_reducible apply Qy | with_reducible apply NM | with_reducible apply Xg | with_reducible apply Qw | with_reducible apply Ny | with_reducible apply Nz | with_reducible apply OO | with_reducible apply Lh | with_reducible apply OZ | with_reducible apply Me | with_reducible apply O6 | with_reducible apply Jk | with_reducible apply LU | with_reducible apply MN | with_reducible apply MG | with_reducible apply JU | with_reducible apply Km | with_reducible apply Qv | with_reducible apply Oi | with_reducible apply Ma | with_reducible apply LZ | with_reducible apply Lb | with_reducible apply JB | with_reducible apply Ih | with_reducible apply PV | with_reducible apply MR | with_reducible apply MS | with_reducible apply MK | with_reducible apply LP | with_reducible apply ME | with_reducible apply Ju | with_reducible apply K5 | with_reducible apply J5 | with_reducible apply Pb | with_reducible apply Pf | with_reducible apply Ja | with_reducible apply JM | with_reducible apply Pp | with_reducible apply IJ | with_reducible apply Hy | with_reducible apply Kn | with_reducible apply Ni | with_reducible apply QF | with_reducible apply Qu | with_reducible apply JI | with_reducible apply Uy | with_reducible refine GV ?_ | with_reducible apply GZ | with_reducible intro _ | split | dsimp only
theorem Yn {P:Program}{Q:Value->Prop}{k:IntKind}{n:Int}(h:∀ v,Q v):G6 P Q (Conv.intToInt k n):=by
  unfold Conv.intToInt
  repeat' first | with_reducible assumption | with_reducible exact G8 | ((with_reducible refine G9 ?_);exact True.intro) | with_reducible exact Nw | with_reducible refine GZ (h _) | with_reducible apply Qi | with_reducible apply Ob | with_reducible apply RJ | with_reducible apply O4 | with_reducible apply Xv | with_reducible apply VZ | with_reducible apply Ta | with_reducible apply Tq | with_reducible apply TA | with_reducible apply KC | with_reducible apply Pm | with_reducible apply WG | with_reducible apply Xa | with_reducible apply Kw | with_reducible apply KL | with_reducible apply La | with_reducible apply ND | with_reducible apply Nt | with_reducible apply NQ | with_reducible apply K9 | with_reducible apply Mc | with_reducible apply L8 | with_reducible apply Lp | with_reducible apply MJ | with_reducible apply QC | with_reducible apply QT | with_reducible apply Mf | with_reducible apply Kk | with_reducible apply QB | with_reducible apply K4 | with_reducible apply LJ | with_reducible apply KD | with_reducible apply O5 | with_reducible apply Qo | with_reducible apply MC | with_reducible apply OY | with_reducible apply KY | with_reducible apply MW | with_reducible apply J3 | with_reducible apply L9 | with_reducible apply Nu | with_reducible apply Qg | with_reducible apply J8 | with_reducible apply Lg | with_reducible apply NK | with_reducible apply Qs | with_reducible apply Qy | with_reducible apply NM | with_reducible apply Xg | with_reducible apply Qw | with_reducible apply Ny | with_reducible apply Nz | with_reducible apply OO | with_reducible apply Lh | with_reducible apply OZ | with_reducible apply Me | with_reducible apply O6 | with_reducible apply Jk | with_reducible apply LU | with_reducible apply MN | with_reducible apply MG | with_reducible apply JU | with_reducible apply Km | with_reducible apply Qv | with_reducible apply Oi | with_reducible apply Ma | with_reducible apply LZ | with_reducible apply Lb | with_reducible apply JB | with_reducible apply Ih | with_reducible apply PV | with_reducible apply MR | with_reducible apply MS | with_reducible apply MK | with_reducible apply LP | with_reducible apply ME | with_reducible apply Ju | with_reducible apply K5 | with_reducible apply J5 | with_reducible apply Pb | with_reducible apply Pf | with_reducible apply Ja | with_reducible apply JM | with_reducible apply Pp | with_reducible apply IJ | with_reducible apply Hy | with_reducible apply Kn | with_reducible apply Ni | with_reducible apply QF | with_reducible apply Qu | with_reducible apply JI | with_reducible apply Uy | with_reducible refine GV ?_ | with_reducible apply GZ | with_reducible intro _ | split | dsimp only
def Xt (P:Program)(t:TypeId):Bool:=
  match P.underlying t with
  | some (.int _)=>true
  | _=>false
theorem Zr {P:Program}{t:TypeId}(h:Xt P t=true):∃ k,P.underlying t=some (.int k):=by
  unfold Xt at h;split at h
  . rename_i k e;exact ⟨k,e⟩
  . cases h
theorem Ud {P:Program}{Q:Value->Prop}{s d:TypeId}{x:Value}(hs:Xt P s=true)(hd:Xt P d=true)(h:∀ v,Q v):G6 P Q (convert s d x):=by
  obtain ⟨k,hk⟩:=Zr hs;obtain ⟨k',hk'⟩:=Zr hd;unfold convert;refine GV (Jr fun a ha=>GV (Jr fun b hb=>?_));obtain rfl:=Option.some.inj (ha.symm.trans hk);obtain rfl:=Option.some.inj (hb.symm.trans hk');cases x with
  | int j n=>exact Yn h
  | float j n=>exact Qi h
  | pointer a=>cases a <;> exact trivial
  | _=>exact trivial
theorem Ub {P:Program}:∀ {l:List FieldStep} {t:TypeId} {x:Option Value} {Q:Except (Option Bool) (TypeId × Option Value)->Prop},(∀ v,Q v)->G6 P Q (followBlind l t x):=by
  intro l;induction l with
  | nil=>intro t x Q h;unfold followBlind;exact GZ (h _)
  | cons s l ih=>
    intro t x Q h;unfold followBlind;refine GV (Hy fun d=>?_);repeat' first | exact G8 | exact GZ (h _) | exact ih h | refine GV (PV fun _=>?_) | split
theorem YG {P:Program}:∀ {n:Nat} {t:TypeId} {x:Value} {m:String} {Q:Option Bool->Prop},(∀ v,Q v)->G6 P Q (nilAhead n t x m):=by
  intro n;induction n with
  | zero=>intro t x m Q h;unfold nilAhead;exact GZ (h _)
  | succ n ih=>
    intro t x m Q h;unfold nilAhead;refine GV (IJ fun d=>?_);repeat' first | exact G8 | exact GZ (h _) | exact ih h | refine GV (Ub fun _=>?_) | refine GV (Hy fun _=>?_) | split
theorem Yq {P:Program}{Q:Next->Prop}{x:Value}(h:∀ v,Q (.value v)):G6 P Q (match x with
    | .pointer none | .nilIface | .nilFunc=>runtimePanic .nilDeref
    | .func (.method name) first captured=>
      match (first[0]?:Option Value) with
      | some .nilIface=>runtimePanic .nilDeref
      | some (.iface t w)=>do
        if (← nilAhead ((← program).types.size+Made.depth) t w name) != some false then
          unsupported (.noEntry "op/nilCheck.the method's receiver behind this interface value is a nil pointer, or cannot be seen to be none, and the arguments act or may panic (ledger 612)")
        pure (.value (.func (.method name) first captured))
      | _=>pure (.value (.func (.method name) first captured))
    | x=>pure (.value x):Sem Next):=by
  split
  . exact Ih
  . exact Ih
  . exact Ih
  . split
    . exact Ih
    . refine GV (show G6 P _ program from GV (YG fun _=>?_));dsimp only;split
      . exact GV (G9 True.intro)
      . exact GZ (h _)
    . exact GZ (h _)
  . exact GZ (h _)
theorem Vs {P:Program}{Q:Value->Prop}{x:Value}{s t:TypeId}{b:Bool}(h:∀ v,Q v):G6 P Q (Instr.typeAssert x s t b):=by unfold Instr.typeAssert;refine GV (Hy fun d=>?_);repeat' first | exact G8 | exact Ih | exact GZ (h _) | refine GV (JM fun _=>?_) | refine GV (IJ fun _=>?_) | split
theorem YE {P:Program}{Q:Value->Prop}{t:TypeId}{x:Value}(h:∀ v,Q v):G6 P Q (Instr.makeChan t x):=by
  unfold Instr.makeChan;refine GV (LZ fun d=>GV (Hy fun d=>?_));split
  . refine GV (IJ fun d=>?_);split
    . exact GV (Ih)
    . exact GV (show G6 P _ (newObj _) from ⟨trivial,fun _=>GZ (h _)⟩)
  . exact G8
def KF (L:FuncId->Prop):Next->Prop
  | .value _=>True
  | .skip=>True
  | .enter f _=>L f
  | _=>False
def Qk (P:Program)(f:FuncId):Prop:=
  ∃ fn e, P.funcs[f]? = some fn /\ (fn.name == "runtime.NumGoroutine") = false /\ fn.body.isNone = true /\ Extern.findNext fn = none /\ Extern.find fn = some e /\ ∀ args, G6 P (fun _ => True) (e args)
def Uv:Builtin->Bool
  | .len | .cap | .append | .copy | .max | .min=>true
  | _=>false
def isEq:BinOp->Bool
  | .eql | .neq=>true
  | _=>false
def V8:Operand->Bool
  | .const (.pointer none)=>true
  | _=>false
theorem Y6 {x:Operand}(h:V8 x=true):x=.const (.pointer none):=by
  unfold V8 at h;split at h
  . rfl
  . cases h
class Host where
  bar:FuncId->Bool
variable [Host]
def M4 (P:Program)(o:Oper):Bool:=
  match o.op with
  | .move _ | .assign _ | .pick _ _ _ | .alloc _ | .box _ _ | .build _ _ | .buildSlice _ _ _ | .load _ _ | .store _ _ _ | .unOp _ _ _ | .makeSlice _ _ _ | .slice _ _ _ _ _
  | .fieldAddr _ _ _ | .field _ _ _ | .indexAddr _ _ _ | .index _ _ _ | .extract _ _ | .makeInterface _ _ | .makeFunc _ _ _ | .nilCheck _ | .typeAssert _ _ _ _ | .makeChan _ _=>true
  | .binOp op t x y _=>!isEq op || (P6 P t || (V8 x || V8 y))
  | .convert s d _=>Xt P s && Xt P d
  | .call c=>match c.callee with
    | .value (.func g)=>!Host.bar g
    | .builtin b=>Uv b
    | _=>false
  | _=>false
def J4 (o:Oper):Option FuncId:=
  match o.op with
  | .call c=>match c.callee with
    | .value (.func g)=>some g
    | _=>none
  | _=>none
theorem Nv {P:Program}{o:Oper}{g:FuncId}(ho:M4 P o=true)(hc:J4 o=some g):Host.bar g=false:=by
  obtain ⟨dst,op,type,pos,after,guard⟩:=o;cases op with
  | call c=>
    obtain ⟨callee,qm,ats⟩:=c;cases callee with
    | value f=>
      cases f with
      | func g'=>
        cases hc
        have:(!Host.bar g)=true:=ho
        simpa using this
      | _=>cases hc
    | _=>cases hc
  | _=>cases hc
def Zh (P : Program)(f : FuncId) : Prop := ∃ fn c, P.funcs[f]? = some fn /\ (fn.name == "runtime.NumGoroutine") = false /\ fn.body = some c
section
variable {P:Program}{L:FuncId->Prop}
theorem Lx {m:Sem Value}(h:∀ Q:Value->Prop,(∀ v,Q v)->G6 P Q m):G6 P (KF L) (do pure (.value (← m)):Sem Next):=GV (h _ fun _=>trivial)
theorem Acw {m:Sem Unit}(h:∀ Q:Unit->Prop,(∀ v,Q v)->G6 P Q m):G6 P (KF L) (do m;pure .skip:Sem Next):=GV (h _ fun _=>trivial)
theorem TK {f:FuncId}{args:Array Value}(hL:L f)(hf:Zh P f):G6 P (KF L) (callFunc f args):=by obtain ⟨fn,c,h1,h2,h3⟩:=hf;show G6 P (KF L) (match P.funcs[f]? with | none=>_ | some fn=>_);rw [h1];simp only [h2,h3,Option.isNone_some,Bool.false_eq_true,if_false];exact hL
theorem Sq {f:FuncId}{args:Array Value}(hf:Qk P f):G6 P (KF L) (callFunc f args):=by obtain ⟨fn,e,h1,h2,h3,h4,h5,h6⟩:=hf;show G6 P (KF L) (match P.funcs[f]? with | none=>_ | some fn=>_);rw [h1];simp only [h2,h3,h4,h5,Bool.false_eq_true,if_false,if_true];exact ⟨trivial,show G6 P (KF L) (e args >>= fun v=>pure (.value v)) from GV ((h6 args).mono fun _ _=>trivial)⟩
theorem bO {b:Builtin}{ats:Array TypeId}{t:TypeId}{cs:Array Bool}{args:Array Value}(hb:Uv b=true):G6 P (KF L) (builtin b ats t cs args):=by
  cases b <;> first | (exact absurd hb (by decide)) | skip
  . exact Lx fun Q h=>O4 h
  . exact Lx fun Q h=>WG h
  . exact Lx fun Q h=>TA h
  . exact Lx fun Q h=>Xa h
  . exact Lx fun Q h=>VZ h
  . exact Lx fun Q h=>Xv h
theorem VJ {Q:Unit->Prop}{op:BinOp}{t:TypeId}{a b:Operand}{x y:Value}(ho:isEq op=false)(h:∀ v,Q v):G6 P Q (eqGuard op t a b x y):=by cases op <;> first | (exact absurd ho (by decide)) | exact h _
theorem VI {Q:Bool->Prop}{t:TypeId}{x:Value}(h:∀ v,Q v):G6 P Q (Op.equal t x (.pointer none)):=by
  unfold Op.equal;generalize Op.maxDepth=d;cases d with
  | zero=>exact trivial
  | succ d=>
    unfold Op.equalIn;refine GV (Jr fun u hu=>?_);repeat' first | contradiction | (injections;done) | with_reducible exact G8 | ((with_reducible refine G9 ?_);exact True.intro) | with_reducible refine GZ (h _) | split | unfold samePointer
theorem Vf {Q:Bool->Prop}{t:TypeId}{x:Value}(h:∀ v,Q v):G6 P Q (Op.equal t (.pointer none) x):=by
  unfold Op.equal;generalize Op.maxDepth=d;cases d with
  | zero=>exact trivial
  | succ d=>
    unfold Op.equalIn;refine GV (Jr fun u hu=>?_);repeat' first | contradiction | (injections;done) | with_reducible exact G8 | ((with_reducible refine G9 ?_);exact True.intro) | with_reducible refine GZ (h _) | split | unfold samePointer
theorem Sj {Q:Unit->Prop}{op:BinOp}{t:TypeId}{a b:Operand}{x:Value}(h:∀ v,Q v):G6 P Q (eqGuard op t a b x (.pointer none)):=by cases op <;> cases x <;> exact h _
theorem SN {Q:Unit->Prop}{op:BinOp}{t:TypeId}{a b:Operand}{x:Value}(h:∀ v,Q v):G6 P Q (eqGuard op t a b (.pointer none) x):=by cases op <;> cases x <;> exact h _
theorem Sv {ρ:Operand->Value}{o:Oper}(hρ:∀ g,ρ (.func g)=.func (.func g) #[] #[])(zL:∀ v,ρ (.const v)=v)(hc:∀ g,J4 o=some g->(L g/\Zh P g)\/Qk P g)(ho:M4 P o=true):G6 P (KF L) (execOp ρ o):=by
  obtain ⟨dst,op,type,pos,after,guard⟩:=o;cases op with
  | move x=>exact trivial
  | assign x=>exact trivial
  | pick c a b=>exact GV (Ma fun _=>trivial)
  | alloc e=>exact Lx fun Q h=>Qw h
  | box e x=>exact Lx fun Q h=>Xg h
  | build t ps=>exact Lx fun Q h=>RJ h
  | buildSlice t n ps=>exact Lx fun Q h=>Ob h
  | load t a=>exact Lx fun Q h=>OO h
  | store t a x=>exact Acw fun Q h=>NK h
  | unOp op t x=>exact Lx fun Q h=>QB h
  | makeSlice t l c=>exact Lx fun Q h=>L9 h
  | slice t x l h m=>exact Lx fun Q h=>Nu h
  | fieldAddr s x f=>exact Lx fun Q h=>Nz h
  | field s x f=>exact Lx fun Q h=>Qy h
  | indexAddr t x i=>exact Lx fun Q h=>Ny h
  | index t x i=>exact Lx fun Q h=>Qs h
  | extract t i=>exact Lx fun Q h=>NM h
  | makeInterface t x=>exact Lx fun Q h=>J3 h
  | makeFunc f x y=>exact Lx fun Q h=>MW h
  | nilCheck x=>exact Yq fun _=>trivial
  | typeAssert x s t b=>exact Lx fun Q h=>Vs h
  | makeChan t x=>exact Lx fun Q h=>YE h
  | binOp op t x y t'=>
    have ho':(!isEq op || (P6 P t || (V8 x || V8 y)))=true:=ho;cases he:isEq op with
    | false=>exact Lx fun Q h=>GV (VJ he fun _=>RP (fun e=>by rcases e with rfl | rfl <;> exact absurd he (by decide)) h)
    | true=>
      have ht:P6 P t=true\/V8 x=true\/V8 y=true:=by simpa [he] using ho'
      rcases ht with ht|ht|ht
      . exact Lx fun Q h=>GV (RA ht fun _=>RP (fun _ Q' h'=>Uf ht h') h)
      . obtain rfl:=Y6 ht;exact Lx fun Q h=>by rw [zL];exact GV (SN fun _=>RP (fun _ Q' h'=>Vf h') h)
      . obtain rfl:=Y6 ht;exact Lx fun Q h=>by rw [zL];exact GV (Sj fun _=>RP (fun _ Q' h'=>VI h') h)
  | convert s d x=>
    have ho':(Xt P s && Xt P d)=true:=ho;rw [Bool.and_eq_true] at ho';exact Lx fun Q h=>Ud ho'.1 ho'.2 h
  | call c=>
    obtain ⟨callee,qm,ats⟩:=c;cases callee with
    | value f=>
      cases f with
      | func g=>
        show G6 P (KF L) (Deferred.ofValue (ρ (.func g)) _ >>= fun d=>invoke d.target d.args);rw [hρ];show G6 P (KF L) (callFunc g _);rcases hc g rfl with h|h
        . exact TK h.1 h.2
        . exact Sq h
      | _=>exact absurd ho Bool.false_ne_true
    | builtin b=>exact bO ho
    | invoke r m=>exact absurd ho Bool.false_ne_true
  | _=>exact absurd ho Bool.false_ne_true
end
end
section
def sh (w:World)(τ:Nat->Question->Nat)(d:Nat):World:={ w with tape:=τ,drawn:=d }
def XE {α:Type}:Result α->World
  | .ok _ w=>w
  | .halt _ w=>w
def kH {α:Type}(r:Result α)(τ:Nat->Question->Nat)(d:Nat):Result α:=
  match r with
  | .ok a w=>.ok a (sh w τ d)
  | .halt h w=>.halt h (sh w τ d)
section
variable {P:Program}{τ:Nat->Question->Nat}{d:Nat}{w:World}
@[simp] theorem ZC:(sh w τ d).heap=w.heap:=rfl
@[simp] theorem nM:(sh w τ d).tape=τ:=rfl
@[simp] theorem iY:(sh w τ d).drawn=d:=rfl
theorem YN (a:Addr):(sh w τ d).cell? a=w.cell? a:=rfl
theorem kS (at_:Addr)(u:TypeId)(k:Addr)(b:Bool):(sh w τ d).seen P at_ u k b=w.seen P at_ u k b:=rfl
theorem XJ (a:Addr)(b:Bool):(sh w τ d).farLoad P a b=w.farLoad P a b:=rfl
theorem X6 (a:Addr)(v:Value):(sh w τ d).setCell a v=sh (w.setCell a v) τ d:=rfl
theorem RH {ε α β:Type}(x:Except ε α)(f g:α->Except ε β)(h:β->β)(e:∀ a,f a=(g a).map h):x.bind f=(x.bind g).map h:=by
  cases x with
  | error e=>rfl
  | ok a=>exact e a
theorem Xw (a:Addr)(v:Value)(b:Bool):(sh w τ d).farStore P a v b=match w.farStore P a v b with
    | .ok (w',ts)=>.ok (sh w' τ d,ts)
    | .error h=>.error h:=by
  have key:∀ at_ u,(sh w τ d).viewStore P at_ u a v b=(w.viewStore P at_ u a v b).map fun r=>(sh r.1 τ d,r.2):=by
    intro at_ u;unfold World.viewStore;rw [kS];cases ht:!tight P P.depth u with
    | true=>rfl
    | false=>
      cases hs:w.seen P at_ u a b with
      | error e=>rfl
      | ok r=>
        obtain ⟨c,e,frozen,first,like,cells⟩:=r;simp only [Bool.false_eq_true,if_false];cases hb:v.bytes? with
        | none=>rfl
        | some bytes=>
          by_cases hl:some bytes.length≠Option.map (fun x=>x.length) like.bytes?
          . show (if _ then _ else _)=Except.map _ (if _ then _ else _);rw [if_pos hl,if_pos hl];rfl
          . show (if _ then _ else _)=Except.map _ (if _ then _ else _);rw [if_neg hl,if_neg hl];exact RH _ _ _ _ fun _=>rfl
  unfold World.farStore;simp only [ZC];cases ho:w.heap[a.block]? with
  | none=>rfl
  | some o=>
    cases o with
    | view at_ u=>
      simp only [key];cases w.viewStore P at_ u a v b <;> rfl
    | _=>rfl
theorem MU {a:Addr}{v:Value}{b:Bool}{w':World}{ts:List Addr}(h:w.farStore P a v b=.ok (w',ts)):w'.drawn=w.drawn/\w'.tape=w.tape:=by
  unfold World.farStore at h;cases ho:w.heap[a.block]? with
  | none=>rw [ho] at h;cases h
  | some o=>
    rw [ho] at h;cases o with
    | view at_ u=>
      simp only [] at h;cases hv:w.viewStore P at_ u a v b with
      | error e=>rw [hv] at h;cases h
      | ok r=>
        rw [hv] at h;cases h
        unfold World.viewStore at hv;simp only [bind,Except.bind,pure,Except.pure,throw,throwThe,MonadExceptOf.throw] at hv;repeat' split at hv
        all_goals first | (cases hv;done) | (cases hv;exact ⟨rfl,rfl⟩)
    | _=>cases h
variable {α:Type}{Q:α->Prop}
theorem VH (v:Value):(∃ cs,v=.agg cs)\/(∃ cs,v=.tuple cs)\/((∀ cs,v≠.agg cs)/\∀ cs,v≠.tuple cs):=by cases v <;> simp
theorem MF {m:Mode}{a:Addr}{v:Value}{k:Sem α}(n1:∀ cs,v≠.agg cs)(n2:∀ cs,v≠.tuple cs){es:Array Event}(w:World):(Sem.store m a v k).runT P w es=match w.cell? a with
        | some _ => if w.frozen? a then (.halt (.unsupported (.unsafePointer "a write to bytes that a string shares")) w, es) else k.runT P (w.setCell a v) (es.push ⟨.cell a, true, m == .atomic⟩)
        | none=>match w.farStore P a v (m == .atomic) with
          | .ok (w,touched)=>k.runT P w (es ++ touched.toArray.map (⟨.cell ·,true,m == .atomic⟩))
          | .error h=>(.halt h w,es):=by
  cases v <;> first | (exact absurd rfl (n1 _)) | (exact absurd rfl (n2 _)) | (simp only [Sem.runT] <;> rfl)
theorem XA:∀ {m:Sem α} {w:World} {es:Array Event},G6 P Q m->w.drawn<=(XE (m.runT P w es).1).drawn:=by
  intro m;induction m with
  | pure a=>intro w es _;exact Nat.le_refl _
  | load m a k ih=>
    intro w es ht;simp only [Sem.runT];split
    . exact ih _ (ht _)
    . split
      . exact ih _ (ht _)
      . exact Nat.le_refl _
  | store m a v k ih=>
    intro w es ht;rcases VH v with ⟨cs,rfl⟩|⟨cs,rfl⟩|⟨n1,n2⟩
    . exact Nat.le_refl _
    . exact Nat.le_refl _
    rw [MF n1 n2];split
    . split
      . exact Nat.le_refl _
      . exact ih ht (w:=w.setCell a v)
    . split
      . rename_i h
        exact Nat.le_trans (Nat.le_of_eq (MU h).1.symm) (ih ht)
      . exact Nat.le_refl _
  | new o k ih=>intro w es ht;exact ih _ (ht.2 _) (w:={ w with heap:=w.heap.push o })
  | shape r k ih=>intro w es ht;exact ih _ (ht.1 _)
  | freeze a n k ih=>intro w es ht;exact ht.elim
  | frozen a k ih=>intro w es ht;exact ih _ (ht.1 _)
  | getObj r k ih=>
    intro w es ht;simp only [Sem.runT];split
    . exact Nat.le_refl _
    . exact ih _ (ht.1 _)
    . exact Nat.le_refl _
  | setObj r o k ih=>intro w es ht;exact ht.elim
  | choose q k ih=>
    intro w es ht;simp only [Sem.runT];split
    . exact ih _ (ht _)
    . exact Nat.le_trans (Nat.le_succ _) (ih _ (ht _) (w:={ w with drawn:=w.drawn+1 }))
  | sys c k ih=>intro w es ht;exact ht.elim
  | program k ih=>intro w es ht;exact ih _ ht
  | mark m k ih=>intro w es ht;exact ih ht.2
  | halt x=>intro w es _;exact Nat.le_refl _
theorem Yk:∀ {m:Sem α} {w:World} {es:Array Event} {τ:Nat->Question->Nat} {d:Nat},G6 P Q m->
    (∀ i,w.drawn+i < (XE (m.runT P w es).1).drawn->τ (d+i)=w.tape (w.drawn+i))->
    m.runT P (sh w τ d) es=(kH (m.runT P w es).1 τ (d+((XE (m.runT P w es).1).drawn - w.drawn)),(m.runT P w es).2):=by
  intro m;induction m with
  | pure a=>intro w es τ d _ _;simp [Sem.runT,-Sem.runT_eq,kH,XE]
  | load m a k ih=>
    intro w es τ d ht JY;simp only [Sem.runT,YN,XJ] at JY ⊢;cases hc:w.cell? a with
    | some v=>rw [hc] at JY;exact ih _ (ht _) JY
    | none=>
      rw [hc] at JY;simp only [] at JY ⊢;cases hf:w.farLoad P a (m == .atomic) with
      | ok r=>rw [hf] at JY;exact ih _ (ht _) JY
      | error h=>simp [kH,XE]
  | store m a v k ih=>
    intro w es τ d ht JY;rcases VH v with ⟨cs,rfl⟩|⟨cs,rfl⟩|⟨n1,n2⟩
    . simp [Sem.runT,-Sem.runT_eq,kH,XE]
    . simp [Sem.runT,-Sem.runT_eq,kH,XE]
    rw [MF n1 n2] at JY;rw [MF n1 n2,MF n1 n2];simp only [YN,X6,Xw];cases hc:w.cell? a with
    | some x=>
      rw [hc] at JY;simp only [] at JY ⊢;by_cases hf:w.frozen? a=true
      . rw [if_pos (show (sh w τ d).frozen? a=true from hf),if_pos hf];simp [kH,XE]
      . rw [if_neg hf] at JY;rw [if_neg (show ¬ (sh w τ d).frozen? a=true from hf),if_neg hf];exact ih ht JY
    | none=>
      rw [hc] at JY;simp only [] at JY ⊢;cases hf:w.farStore P a v (m == .atomic) with
      | ok r=>
        obtain ⟨w',ts⟩:=r;rw [hf] at JY;simp only [] at JY ⊢;obtain ⟨e1,e2⟩:=MU hf;rw [← e1,← e2] at JY;rw [← e1];exact ih ht JY
      | error h=>simp [kH,XE]
  | new o k ih=>intro w es τ d ht JY;exact ih _ (ht.2 _) (w:={ w with heap:=w.heap.push o }) JY
  | shape r k ih=>intro w es τ d ht JY;exact ih _ (ht.1 _) JY
  | freeze a n k ih=>intro w es τ d ht;exact ht.elim
  | frozen a k ih=>intro w es τ d ht JY;exact ih _ (ht.1 _) JY
  | getObj r k ih=>
    intro w es τ d ht JY;simp only [Sem.runT,ZC] at JY ⊢;cases ho:w.heap[r]? with
    | none=>simp [kH,XE]
    | some o=>
      rw [ho] at JY;cases o <;> first | (exact ih _ (ht.1 _) JY) | simp [kH,XE]
  | setObj r o k ih=>intro w es τ d ht;exact ht.elim
  | choose q k ih=>
    intro w es τ d ht JY;simp only [Sem.runT,nM,iY] at JY ⊢;cases hq:q.forced with
    | true=>simp only [hq,if_true] at JY ⊢;exact ih _ (ht _) JY
    | false=>
      simp only [hq,Bool.false_eq_true,if_false] at JY ⊢;have hle:=XA (ht (q.cut (w.tape w.drawn q))) (w:={ w with drawn:=w.drawn+1 }) (es:=es);have h0:τ d=w.tape w.drawn:=JY 0 (by simp only [Nat.add_zero];exact hle);rw [h0];have:=ih (q.cut (w.tape w.drawn q)) (ht _) (w:={ w with drawn:=w.drawn+1 }) (es:=es) (τ:=τ) (d:=d+1) (fun i hi=>by have:=JY (i+1) (by simp only [] at hi ⊢;omega);rw [show d+1+i=d+(i+1) by omega,this];show w.tape (w.drawn+(i+1))=w.tape (w.drawn+1+i);rw [show w.drawn+(i+1)=w.drawn+1+i by omega])
      rw [show d+((XE (Sem.runT P (k (q.cut (w.tape w.drawn q))) { w with drawn:=w.drawn+1 } es).1).drawn - w.drawn)=d+1+((XE (Sem.runT P (k (q.cut (w.tape w.drawn q))) { w with drawn:=w.drawn+1 } es).1).drawn - (w.drawn+1)) by simp only [] at hle;omega];exact this
  | sys c k ih=>intro w es τ d ht;exact ht.elim
  | program k ih=>intro w es τ d ht JY;exact ih _ ht JY
  | mark m k ih=>intro w es τ d ht JY;exact ih ht.2 JY
  | halt x=>intro w es τ d _ _;simp [Sem.runT,-Sem.runT_eq,kH,XE]
def Jq (w:World):Prop:=∀ (b:Nat) c e,w.heap[b]?≠some (Obj.pending c e)
theorem IG {B:Hid}{w:World}(hR:Rows B w):Jq (GN B w):=by
  intro b c e h;cases hB:B b with
  | true=>
    obtain ⟨c',e',f',hc⟩:=hR b hB;rw [JO hB hc] at h;cases h
  | false=>
    rw [Ib hB] at h;cases ho:w.heap[b]? with
    | none=>rw [ho] at h;cases h
    | some o=>
      rw [ho] at h;cases o <;> simp [dep] at h
def ZA:Halt->Prop
  | .panic _=>True
  | .stuck _=>True
  | .unsupported u=>Zq u
  | _=>False
def kindOk (Q:α->Prop):Result α->Prop
  | .ok a _=>Q a
  | .halt h _=>ZA h
theorem Rv (hN:Jq w)(a:Addr)(s:String):ZA (w.noCell a s):=by
  unfold World.noCell;split
  . rename_i h;exact absurd h (hN _ _ _)
  . exact trivial
  . exact trivial
theorem U3 (hN:Jq w){a:Addr}{b:Bool}{h:Halt}(e:w.farLoad P a b=.error h):ZA h:=by
  unfold World.farLoad at e;split at e
  . split at e
    . cases e
    . cases e;exact trivial
  . cases e;exact Rv hN _ _
theorem TV (hN:Jq w){a:Addr}{v:Value}{b:Bool}{h:Halt}(e:w.farStore P a v b=.error h):ZA h:=by
  unfold World.farStore at e;split at e
  . split at e
    . cases e
    . cases e;exact trivial
  . cases e;exact Rv hN _ _
theorem Jq.setObj (hN:Jq w){r:Nat}{o:Obj}(ho:∀ c e,o≠.pending c e):Jq { w with heap:=w.heap.setIfInBounds r o }:=by
  intro b c e h;simp only [Array.getElem?_setIfInBounds] at h;split at h
  . split at h
    . exact ho _ _ (Option.some.inj h)
    . cases h
  . exact hN _ _ _ h
theorem Jq.setCell (hN:Jq w){a:Addr}{v:Value}:Jq (w.setCell a v):=by
  intro b c e h;simp only [World.setCell,Array.getElem?_modify] at h;split at h
  . cases ho:w.heap[b]? with
    | none=>rw [ho] at h;cases h
    | some o=>
      rw [ho] at h;cases o with
      | pending c' e'=>exact hN _ _ _ ho
      | _=>simp at h
  . exact hN _ _ _ h
theorem Jq.far (hN:Jq w){a:Addr}{v:Value}{b:Bool}{w':World}{ts:List Addr}(h:w.farStore P a v b=.ok (w',ts)):Jq w':=by
  unfold World.farStore at h;cases ho:w.heap[a.block]? with
  | none=>rw [ho] at h;cases h
  | some o=>
    rw [ho] at h;cases o with
    | view at_ u=>
      simp only [] at h;cases hv:w.viewStore P at_ u a v b with
      | error e=>rw [hv] at h;cases h
      | ok r=>
        rw [hv] at h;cases h
        unfold World.viewStore at hv;simp only [bind,Except.bind,pure,Except.pure,throw,throwThe,MonadExceptOf.throw] at hv;repeat' split at hv
        all_goals first | (cases hv;done) | (cases hv;exact hN.setObj (fun _ _=>nofun))
    | _=>cases h
theorem QZ:∀ {m:Sem α} {w:World} {es:Array Event},G6 P Q m->Jq w->kindOk Q (m.runT P w es).1:=by
  intro m;induction m with
  | pure a=>intro w es ht _;exact ht
  | load m a k ih=>
    intro w es ht hN;simp only [Sem.runT];cases hc:w.cell? a with
    | some v=>exact ih _ (ht _) hN
    | none=>
      simp only [];cases hf:w.farLoad P a (m == .atomic) with
      | ok r=>exact ih _ (ht _) hN
      | error h=>exact U3 hN hf
  | store m a v k ih=>
    intro w es ht hN;rcases VH v with ⟨cs,rfl⟩|⟨cs,rfl⟩|⟨n1,n2⟩
    . exact trivial
    . exact trivial
    rw [MF n1 n2];cases hc:w.cell? a with
    | some x=>
      simp only [];split
      . exact trivial
      . exact ih ht hN.setCell
    | none=>
      simp only [];cases hf:w.farStore P a v (m == .atomic) with
      | ok r=>exact ih ht (hN.far hf)
      | error h=>exact TV hN hf
  | new o k ih=>
    intro w es ht hN;refine ih _ (ht.2 _) (w:={ w with heap:=w.heap.push o }) fun b c e h=>?_;simp only [Array.getElem?_push] at h;split at h
    . obtain rfl:=Option.some.inj h;exact ht.1
    . exact hN _ _ _ h
  | shape r k ih=>intro w es ht hN;exact ih _ (ht.1 _) hN
  | freeze a n k ih=>intro w es ht;exact ht.elim
  | frozen a k ih=>intro w es ht hN;exact ih _ (ht.1 _) hN
  | getObj r k ih=>
    intro w es ht hN;simp only [Sem.runT];cases ho:w.heap[r]? with
    | none=>exact trivial
    | some o=>cases o <;> first | exact ih _ (ht.1 _) hN | exact trivial
  | setObj r o k ih=>intro w es ht;exact ht.elim
  | choose q k ih=>
    intro w es ht hN;simp only [Sem.runT];split
    . exact ih _ (ht _) hN
    . exact ih _ (ht _) (w:={ w with drawn:=w.drawn+1 }) hN
  | sys c k ih=>intro w es ht;exact ht.elim
  | program k ih=>intro w es ht hN;exact ih _ ht hN
  | mark m k ih=>intro w es ht hN;exact ih ht.2 hN
  | halt x=>
    intro w es ht hN;cases x <;> first | exact trivial | exact ht
theorem XY:∀ {m:Sem α} {w:World} {es:Array Event},G6 P Q m->(XE (m.runT P w es).1).tape=w.tape:=by
  intro m;induction m with
  | pure a=>intro w es _;rfl
  | load m a k ih=>
    intro w es ht;simp only [Sem.runT];cases hc:w.cell? a with
    | some v=>exact ih _ (ht _)
    | none=>
      simp only [];cases hf:w.farLoad P a (m == .atomic) with
      | ok r=>exact ih _ (ht _)
      | error h=>rfl
  | store m a v k ih=>
    intro w es ht;rcases VH v with ⟨cs,rfl⟩|⟨cs,rfl⟩|⟨n1,n2⟩
    . rfl
    . rfl
    rw [MF n1 n2];cases hc:w.cell? a with
    | some x=>
      simp only [];split
      . rfl
      . exact ih ht (w:=w.setCell a v)
    | none=>
      simp only [];cases hf:w.farStore P a v (m == .atomic) with
      | ok r=>exact (ih ht).trans (MU hf).2
      | error h=>rfl
  | new o k ih=>intro w es ht;exact ih _ (ht.2 _) (w:={ w with heap:=w.heap.push o })
  | shape r k ih=>intro w es ht;exact ih _ (ht.1 _)
  | freeze a n k ih=>intro w es ht;exact ht.elim
  | frozen a k ih=>intro w es ht;exact ih _ (ht.1 _)
  | getObj r k ih=>
    intro w es ht;simp only [Sem.runT];cases ho:w.heap[r]? with
    | none=>rfl
    | some o=>cases o <;> first | exact ih _ (ht.1 _) | rfl
  | setObj r o k ih=>intro w es ht;exact ht.elim
  | choose q k ih=>
    intro w es ht;simp only [Sem.runT];split
    . exact ih _ (ht _)
    . exact ih _ (ht _) (w:={ w with drawn:=w.drawn+1 })
  | sys c k ih=>intro w es ht;exact ht.elim
  | program k ih=>intro w es ht;exact ih _ ht
  | mark m k ih=>intro w es ht;exact ih ht.2
  | halt x=>intro w es ht;rfl
theorem NH {B:Hid}{m:Sem α}{w:World}{es:Array Event}{τ:Nat->Question->Nat}{d:Nat}(ht:G6 P Q m)(hR:Rows B w){x:α ⊕ Value}{w1:World}(h:Jp (m.runT P (sh (GN B w) τ d) es).1=some (x,w1))(JY:∀ i,d+i < w1.drawn->w.tape (w.drawn+i)=τ (d+i)) :
    ∃ w2 es2,Jp (m.runT P w es).1=some (x,w2)/\w1=sh (GN B w2) τ (d+(w2.drawn - w.drawn))/\Kept B w w2/\(∀ a,x=.inl a->Q a)/\
      (m.runT P w es).2=es ++ es2/\(m.runT P (sh (GN B w) τ d) es).2=es ++ es2/\∀ e∈es2,Lr B w2.heap.size e:=by
  have hw1:XE (m.runT P (sh (GN B w) τ d) es).1=w1:=by
    cases x with
    | inl a=>rw [Ld h];rfl
    | inr v=>rw [Oh h];rfl
  have hs:=Yk (w:=sh (GN B w) τ d) (es:=es) (τ:=w.tape) (d:=w.drawn) ht (fun i hi=>by rw [hw1] at hi;exact JY i hi);have he:sh (sh (GN B w) τ d) w.tape w.drawn=GN B w:=rfl;rw [he,hw1] at hs;have hd:d<=w1.drawn:=by rw [← hw1];exact XA (w:=sh (GN B w) τ d) (es:=es) ht
  have hx:Jp (m.runT P (GN B w) es).1=some (x,sh w1 w.tape (w.drawn+(w1.drawn - d))):=by
    rw [hs];cases x with
    | inl a=>rw [Ld h];rfl
    | inr v=>rw [Oh h];rfl
  obtain ⟨w2,es2,h1,h2,h3,h4,h5,h6,h7⟩:=dL ht hR x _ hx;refine ⟨w2,es2,h1,?_,h3,h4,h5,?_,h7⟩
  . have e1:w2.drawn=w.drawn+(w1.drawn - d):=by rw [show w2.drawn=(GN B w2).drawn from rfl,← h2];rfl
    have e2:w1.tape=τ:=by
      have:=(XY (P:=P) (w:=sh (GN B w) τ d) (es:=es) ht)
      rw [hw1] at this;exact this
    have:sh (GN B w2) τ (d+(w2.drawn - w.drawn))=sh (sh w1 w.tape (w.drawn+(w1.drawn - d))) τ (d+(w2.drawn - w.drawn)):=by rw [h2]
    rw [this,e1];show w1={ w1 with tape:=τ,drawn:=_ }
    rw [show d+(w.drawn+(w1.drawn - d) - w.drawn)=w1.drawn by omega,← e2]
  . rw [← h6,hs]
end
end
end Go.LT
