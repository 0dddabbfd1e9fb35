/-
  Part 3 of the proof that CellMeets returns true, and leaves its arguments as they were, for every input whose reading is of bulk at most 1048576. No further condition.
-/
import Derived.Test.YticecinjcajmcaaR00
import Derived.Test.YticecinjcajmcaaR02
import GoSem.Dispatch
import GoSem.Step
set_option linter.unusedVariables false
set_option linter.unusedSectionVars false
set_option linter.unusedSimpArgs false
set_option maxHeartbeats 4000000
noncomputable section
namespace Go.LT
open Go
theorem Ej {P:Program}{α:Type}{Q:α->Prop}{s:String}:Ed P Q (stuck s):=trivial
theorem El {P:Program}{α:Type}{Q:α->Prop}{u:Unsupported}(h:XE u):Ed P Q (unsupported u):=h
theorem KF {P:Program}{α:Type}{Q:α->Prop}{v:Value}:Ed P Q (goPanic v):=trivial
theorem Eb {P:Program}{α:Type}{Q:α->Prop}{a:α}(h:Q a):Ed P Q (pure a):=h
theorem Gl {P:Program}{Q:Program->Prop}(h:Q P):Ed P Q program:=h
theorem Nz {P:Program}{Q:Nat->Prop}{c:Array Value}{e:TypeId}(h:∀ v,Q v):Ed P Q (newObj (.cells c e)):=⟨trivial,fun _=>h _⟩
theorem Og {P:Program}{Q:Value->Prop}{a:Addr}{m:Mode}(h:∀ v,Q v):Ed P Q (load a m):=fun v=>h v
theorem Kg {P:Program}{Q:Unit->Prop}{a:Addr}{v:Value}{m:Mode}(h:∀ v,Q v):Ed P Q (store a v m):=h _
theorem G5 {P:Program}{Q:Nat->Prop}{q:Question}(h:∀ v,Q v):Ed P Q (choose q):=fun v=>h v
theorem RO {P:Program}{α β:Type}{Q:β->Prop}{f:α->β}{m:Sem α}(h:Ed P (fun a=>Q (f a)) m):Ed P Q (f <$> m):=D9 (f:=fun a=>Sem.pure (f a)) h
theorem F5 {P:Program}{Q:TypeDesc->Prop}{t:TypeId}(h:∀ d,P.underlying t=some d->Q d):Ed P Q (underlying t):=by
  show Ed P Q (match P.underlying t with | some d => pure d | none => stuck "no such type");split
  . rename_i d e;exact h d e
  . exact trivial
theorem Es {P:Program}{Q:TypeDesc->Prop}{t:TypeId}(h:∀ v,Q v):Ed P Q (underlying t):=by unfold underlying;repeat' first | with_reducible (first|assumption|exact Ej|refine Eb (h _)|apply Gl|refine D9 ?_|apply Eb|intro _) | split | dsimp only
theorem Fp {P:Program}{Q:TypeInfo->Prop}{t:TypeId}(h:∀ v,Q v):Ed P Q (typeInfo t):=by unfold typeInfo;repeat' first | with_reducible (first|assumption|exact Ej|refine Eb (h _)|apply Gl|refine D9 ?_|apply Eb|intro _) | split | dsimp only
theorem ME {P:Program}{Q:String->Prop}{t:TypeId}(h:∀ v,Q v):Ed P Q (typeStr t):=by unfold typeStr;repeat' first | with_reducible assumption | ((with_reducible refine El ?_);exact True.intro) | with_reducible (first|refine Eb (h _)|apply Fp|refine D9 ?_|apply Eb|intro _) | split | dsimp only
theorem Gs {P:Program}{Q:Value->Prop}{t:TypeId}(h:∀ v,Q v):Ed P Q (zeroValue t):=by unfold zeroValue;repeat' first | with_reducible assumption | ((with_reducible refine El ?_);exact True.intro) | with_reducible (first|refine Eb (h _)|apply Fp|refine D9 ?_|apply Eb|intro _) | split | dsimp only
theorem FN {P:Program}{Q:Nat->Prop}{t:TypeId}(h:∀ v,Q v):Ed P Q (sizeOf t):=by unfold sizeOf;repeat' first | with_reducible (first|assumption|refine Eb (h _)|apply Fp|refine D9 ?_|apply Eb|intro _) | split | dsimp only
theorem MB {P:Program}{Q:Bool->Prop}{t:TypeId}(h:∀ v,Q v):Ed P Q (isAgg t):=by unfold isAgg;repeat' first | with_reducible (first|assumption|refine Eb (h _)|apply Es|refine D9 ?_|apply Eb|intro _) | split | dsimp only
theorem LP {P:Program}{Q:TypeId->Prop}{t:TypeId}(h:∀ v,Q v):Ed P Q (elemOf t):=by unfold elemOf;repeat' first | with_reducible (first|assumption|exact Ej|refine Eb (h _)|apply Es|refine D9 ?_|apply Eb|intro _) | split | dsimp only
theorem GK {P:Program}{Q:Array Value->Prop}{a:Addr}(h:∀ v,Q v):∀ {n i:Nat} {acc:Array Value},Ed P Q (loadCellsFrom a i n acc):=by
  intro n;induction n with
  | zero=>intro i acc;exact h _
  | succ n ih=>intro i acc;exact fun v=>ih
theorem Iq {P:Program}{Q:Array Value->Prop}{a:Addr}{n:Nat}(h:∀ v,Q v):Ed P Q (loadCells a n):=by unfold loadCells;repeat' first | with_reducible (first|assumption|apply GK|intro _) | split | dsimp only
theorem F6 {P:Program}{Q:Unit->Prop}{a:Addr}(h:∀ v,Q v):∀ {vs:List Value} {i:Nat},Ed P Q (storeCells a vs i):=by
  intro vs;induction vs with
  | nil=>intro i;exact h _
  | cons v r ih=>intro i;exact ih
theorem JC {P:Program}{Q:Value->Prop}{t:TypeId}{a:Addr}(h:∀ v,Q v):Ed P Q (loadVar t a):=by unfold loadVar;repeat' first | with_reducible (first|assumption|refine Eb (h _)|apply Iq|apply MB|apply FN|apply Og|refine D9 ?_|apply Eb|intro _) | split | dsimp only
theorem I9 {P:Program}{Q:Unit->Prop}{t:TypeId}{a:Addr}{v:Value}(h:∀ v,Q v):Ed P Q (storeVar t a v):=by unfold storeVar;repeat' first | with_reducible (first|assumption|exact Ej|apply F6|apply FN|refine D9 ?_|intro _) | split | dsimp only
theorem JO {P:Program}{Q:Addr->Prop}{e:TypeId}{cs:Array Value}(h:∀ v,Q v):Ed P Q (newRow e cs):=⟨trivial,fun _=>h _⟩
theorem JI {P:Program}{Q:Addr->Prop}{e:TypeId}{v:Value}(h:∀ v,Q v):Ed P Q (newVar e v):=JO h
theorem JX {P:Program}{Q:Value->Prop}{a:Addr}{l:Bool}(h:∀ v,Q v):Ed P Q (asNumber a l):=⟨trivial,fun _=>h _⟩
theorem Na {P:Program}{Q:Value->Prop}{t:TypeId}{cs:Array Value}{o:Nat}(h:∀ v,Q v):Ed P Q (part t cs o):=by unfold part;repeat' first | with_reducible (first|assumption|exact Ej|refine Eb (h _)|apply MB|apply FN|refine D9 ?_|apply Eb|intro _) | split | dsimp only
theorem EI {P:Program}{α:Type}{Q:α->Prop}{e:RuntimeError} :Ed P Q (runtimePanic e):=by unfold runtimePanic;repeat' first | with_reducible (first|assumption|exact KF|apply JI|apply LP|apply Gl|refine D9 ?_|intro _) | split | dsimp only
theorem Gf {P:Program}{α:Type}{Q:α->Prop}{k:IntKind}{x y:Int}{c:BoundsCode} :Ed P Q (boundsPanic k x y c):=by unfold boundsPanic;repeat' first | with_reducible (first|assumption|refine Eb (h _)|apply EI|apply G5|apply RO|refine D9 ?_|apply Eb|intro _) | split | dsimp only
theorem Iw {P:Program}{Q:IntKind × Int->Prop}{x:Value}(h:∀ v,Q v):Ed P Q (asIntOf x):=by unfold asIntOf;repeat' first | with_reducible (first|assumption|exact Ej) | ((with_reducible refine El ?_);exact True.intro) | with_reducible (first|refine Eb (h _)|apply Eb|intro _) | split | dsimp only
theorem Jc {P:Program}{Q:Int->Prop}{x:Value}(h:∀ v,Q v):Ed P Q (asInt x):=by unfold asInt;repeat' first | with_reducible (first|assumption|refine Eb (h _)|apply Iw|refine D9 ?_|apply Eb|intro _) | split | dsimp only
theorem Jq {P:Program}{Q:Bool->Prop}{x:Value}(h:∀ v,Q v):Ed P Q (asBool x):=by unfold asBool;repeat' first | with_reducible (first|assumption|exact Ej|refine Eb (h _)|apply Eb|intro _) | split | dsimp only
theorem K8 {P:Program}{Q:ByteArray->Prop}{x:Value}(h:∀ v,Q v):Ed P Q (asString x):=by unfold asString;repeat' first | with_reducible (first|assumption|exact Ej|refine Eb (h _)|apply Eb|intro _) | split | dsimp only
theorem NQ {P:Program}{Q:Array Value->Prop}{x:Value}(h:∀ v,Q v):Ed P Q (asAgg x):=by unfold asAgg;repeat' first | with_reducible (first|assumption|exact Ej|refine Eb (h _)|apply Eb|intro _) | split | dsimp only
theorem Hg {P:Program}{Q:Addr->Prop}{x:Value}(h:∀ v,Q v):Ed P Q (asAddr x):=by unfold asAddr;repeat' first | with_reducible (first|assumption|exact Ej|refine Eb (h _)|apply EI|apply Eb|intro _) | split | dsimp only
theorem Gx {P:Program}{Q:Addr->Prop}{x:Value}(h:∀ v,Q v):Ed P Q (Instr.sureAddr x):=by unfold Instr.sureAddr;repeat' first | with_reducible (first|assumption|exact Ej|refine Eb (h _)|apply Eb|intro _) | split | dsimp only
theorem JE {P:Program}{Q:Unit->Prop}{n:Nat}(h:∀ v,Q v):Ed P Q (askRoom n):=by
  unfold askRoom;split
  . exact ⟨trivial,h _⟩
  . exact h _
theorem JY {P:Program}{Q:Option (Addr × TypeId)->Prop}{r:Nat}(h:∀ v,Q v):Ed P Q (viewAt r):=by
  refine ⟨fun s=>?_,fun e n=>.inr rfl⟩;cases s with
  | some x=>exact h _
  | none=>exact ⟨fun o=>by cases o <;> exact h _,fun c e=>.inr rfl⟩
theorem Jb {P:Program}{Q:Option (Addr × Bool)->Prop}{r:Nat}(h:∀ v,Q v):Ed P Q (numberAt r):=by
  refine ⟨fun s=>?_,fun e n=>.inr rfl⟩;cases s with
  | some x=>exact h _
  | none=>exact ⟨fun o=>by cases o <;> exact h _,fun c e=>.inr rfl⟩
theorem FW {P:Program}{Q:Addr × Bool->Prop}{n:Addr}(h:∀ v,Q v):Ed P Q (behindNumber n):=by unfold behindNumber;repeat' first | with_reducible (first|assumption|refine Eb (h _)|apply Jb|refine D9 ?_|apply Eb|intro _) | split | dsimp only
theorem LX {P:Program}{Q:Unit->Prop}{a:Addr}(h:∀ v,Q v):Ed P Q (noView a):=by unfold noView;repeat' first | with_reducible assumption | ((with_reducible refine El ?_);exact True.intro) | with_reducible (first|refine Eb (h _)|apply JY|refine D9 ?_|apply Eb|intro _) | split | dsimp only
theorem Jm {P:Program}{Q:Nat->Prop}{a:Addr}(h:∀ v,Q v):Ed P Q (byteOf a):=by
  unfold byteOf;split
  . exact h _
  refine D9 (Gl ?_);refine D9 (LX fun _=>?_);refine ⟨fun s=>?_,fun e n=>.inr rfl⟩;cases s with
  | none=>exact trivial
  | some x=>
    show Ed P Q _;dsimp only [bind,Sem.bind];repeat' first | exact trivial | exact h _ | split
theorem Mq {P:Program}{Q:Addr->Prop}{a:Addr}{c b:Nat}(h:∀ v,Q v):Ed P Q (partAt a c b):=by unfold partAt;repeat' first | with_reducible (first|assumption|refine Eb (h _)|apply Jm|refine D9 ?_|apply Eb|intro _) | split | dsimp only
theorem IB {P:Program}{Q:Addr->Prop}{a:Addr}{f:Field}(h:∀ v,Q v):Ed P Q (fieldPlace a f):=by unfold fieldPlace;repeat' first | with_reducible (first|assumption|refine Eb (h _)|apply Mq|apply FN|refine D9 ?_|apply Eb|intro _) | split | dsimp only
theorem LU {P:Program}{Q:Value->Prop}{t:TypeId}{a:Value}(h:∀ v,Q v):Ed P Q (Instr.loadAt t a):=by unfold Instr.loadAt;repeat' first | with_reducible (first|assumption|apply Gx|apply JC|refine D9 ?_|intro _) | split | dsimp only
theorem KG {P:Program}{Q:Value->Prop}{t:TypeId}{a:Value}{f:Nat}(h:∀ v,Q v):Ed P Q (Instr.fieldAt t a f):=by unfold Instr.fieldAt;repeat' first | with_reducible (first|assumption|exact Ej|refine Eb (h _)|apply IB|apply Gx|apply Es|refine D9 ?_|apply Eb|intro _) | split | dsimp only
theorem KT {P:Program}{Q:Value->Prop}{t:TypeId}{a i:Value}(h:∀ v,Q v):Ed P Q (Instr.indexAt t a i):=by unfold Instr.indexAt;repeat' first | with_reducible (first|assumption|exact Ej) | ((with_reducible refine El ?_);exact True.intro) | with_reducible (first|refine Eb (h _)|apply Gx|apply Iw|apply Gf|apply FN|apply Es|refine D9 ?_|apply Eb|intro _) | split | dsimp only
theorem NU {P:Program}{Q:Value->Prop}{t:TypeId}{b:Bool}{v:Value}(h:∀ v,Q v):Ed P Q (Instr.alloc t b v):=by unfold Instr.alloc;repeat' first | with_reducible (first|assumption|refine Eb (h _)|apply JI|apply I9|apply Gs|refine D9 ?_|apply Eb|intro _) | split | dsimp only
theorem Ul {P:Program}{Q:Value->Prop}{t:TypeId}{v:Value}(h:∀ v,Q v):Ed P Q (Instr.box t v):=by unfold Instr.box;repeat' first | with_reducible (first|assumption|refine Eb (h _)|apply JI|refine D9 ?_|apply Eb|intro _) | split | dsimp only
theorem KR {P:Program}{Q:Value->Prop}{v:Value}{i:Nat}(h:∀ v,Q v):Ed P Q (Instr.extract v i):=by unfold Instr.extract;repeat' first | with_reducible (first|assumption|exact Ej|refine Eb (h _)|apply Eb|intro _) | split | dsimp only
theorem NS {P:Program}{Q:Value->Prop}{t:TypeId}{v:Value}{i:Nat}(h:∀ v,Q v):Ed P Q (Instr.field t v i):=by unfold Instr.field;repeat' first | with_reducible (first|assumption|exact Ej|apply NQ|apply Na|apply Es|refine D9 ?_|intro _) | split | dsimp only
theorem NA {P:Program}{Q:Value->Prop}{t:TypeId}{v i:Value}(h:∀ v,Q v):Ed P Q (Instr.index t v i):=by unfold Instr.index;repeat' first | with_reducible (first|assumption|exact Ej|refine Eb (h _)|apply Iw|apply Gf|apply Na|apply FN|apply Es|refine D9 ?_|apply Eb|intro _) | split | dsimp only
theorem KO {P:Program}{Q:Unit->Prop}{t:TypeId}{a v:Value}(h:∀ v,Q v):Ed P Q (Instr.storeAt t a v):=by unfold Instr.storeAt;repeat' first | with_reducible (first|assumption|apply Gx|apply I9|refine D9 ?_|intro _) | split | dsimp only
theorem Iz {P:Program}{Q:Nat->Prop}{x:Value}{y:Nat}{c:BoundsCode}(h:∀ v,Q v):Ed P Q (Instr.sliceBound x y c):=by unfold Instr.sliceBound;repeat' first | with_reducible (first|assumption|refine Eb (h _)|apply Iw|apply Gf|refine D9 ?_|apply Eb|intro _) | split | dsimp only
theorem GL {P:Program}{Q:(Nat × Nat × Nat)->Prop}{b:Bool}{l c:Nat}{x y z:Option Value}(h:∀ v,Q v):Ed P Q (Instr.sliceBounds b l c x y z):=by unfold Instr.sliceBounds;repeat' first | with_reducible (first|assumption|exact Ej|refine Eb (h _)|apply Iz|refine D9 ?_|apply Eb|intro _) | split | dsimp only
theorem NC {P:Program}{Q:Value->Prop}{t:TypeId}{v:Value}{x y z:Option Value}(h:∀ v,Q v):Ed P Q (Instr.slice t v x y z):=by unfold Instr.slice;repeat' first | with_reducible (first|assumption|exact Ej|refine Eb (h _)|apply GL|apply Hg|apply FN|apply Es|refine D9 ?_|apply Eb|intro _) | split | dsimp only
theorem KI {P:Program}{Q:Value->Prop}{t:TypeId}{v:Value}{x y z:Option Value}(h:∀ v,Q v):Ed P Q (Instr.sliceAt t v x y z):=by unfold Instr.sliceAt;repeat' first | with_reducible (first|assumption|refine Eb (h _)|apply NC|apply GL|apply Gx|apply FN|apply Es|refine D9 ?_|apply Eb|intro _) | split | dsimp only
theorem Jk {P:Program}{Q:Value->Prop}{t:TypeId}{x y:Value}(h:∀ v,Q v):Ed P Q (Instr.makeSlice t x y):=by unfold Instr.makeSlice;repeat' first | with_reducible (first|assumption|exact Ej|refine Eb (h _)|apply JE|apply Jc|apply EI|apply JO|apply FN|apply Gs|apply Fp|apply Es|apply G5|refine D9 ?_|apply Eb|intro _) | split | dsimp only
theorem GH {P:Program}{Q:Value->Prop}{t:TypeId}{x:Value}(h:∀ v,Q v):Ed P Q (Instr.makeInterface t x):=by unfold Instr.makeInterface;repeat' first | with_reducible (first|assumption|exact Ej|refine Eb (h _)|apply Es|refine D9 ?_|apply Eb|intro _) | split | dsimp only
theorem JH {P:Program}{Q:Value->Prop}{f:Fn}{x y:Array Value}(h:∀ v,Q v):Ed P Q (Instr.makeFunc f x y):=by unfold Instr.makeFunc;repeat' first | with_reducible (first|assumption|refine Eb (h _)|apply Eb|intro _) | split | dsimp only
theorem Io {P:Program}{Q:Value->Prop}{o:BinOp}{k:IntKind}{x y:Int}(h:∀ v,Q v):Ed P Q (Op.intArith o k x y):=by unfold Op.intArith;repeat' first | with_reducible (first|assumption|exact Ej|refine Eb (h _)|apply Eb|intro _) | split | dsimp only
theorem LJ {P:Program}{Q:Value->Prop}{o:BinOp}{k:IntKind}{x y:Int}(h:∀ v,Q v):Ed P Q (Op.intDiv o k x y):=by unfold Op.intDiv;repeat' first | with_reducible (first|assumption|exact Ej|refine Eb (h _)|apply EI|apply Eb|intro _) | split | dsimp only
theorem JA {P:Program}{Q:Value->Prop}{o:BinOp}{k:IntKind}{x y:Int}(h:∀ v,Q v):Ed P Q (Op.intBits o k x y):=by unfold Op.intBits;repeat' first | with_reducible (first|assumption|exact Ej|refine Eb (h _)|apply Eb|intro _) | split | dsimp only
theorem Np {P:Program}{Q:Value->Prop}{o:BinOp}{k k':IntKind}{x y:Int}(h:∀ v,Q v):Ed P Q (Op.shift o k x k' y):=by unfold Op.shift;repeat' first | with_reducible (first|assumption|exact Ej|refine Eb (h _)|apply EI|apply Eb|intro _) | split | dsimp only
theorem L9 {P:Program}{Q:Value->Prop}{o:BinOp}{x y:Int}(h:∀ v,Q v):Ed P Q (Op.intCmp o x y):=by unfold Op.intCmp;repeat' first | with_reducible (first|assumption|exact Ej|refine Eb (h _)|apply Eb|intro _) | split | dsimp only
theorem Hl {P:Program}{Q:Value->Prop}{o:BinOp}{k:FloatKind}{x y:Nat}(h:∀ v,Q v):Ed P Q (Op.floatArith o k x y):=by unfold Op.floatArith;repeat' first | with_reducible (first|assumption|exact Ej|refine Eb (h _)|apply G5|refine D9 ?_|apply Eb|intro _) | split | dsimp only
theorem I7 {P:Program}{Q:Value->Prop}{o:BinOp}{k:FloatKind}{x y:Nat}(h:∀ v,Q v):Ed P Q (Op.floatCmp o k x y):=by unfold Op.floatCmp;repeat' first | with_reducible (first|assumption|exact Ej|refine Eb (h _)|apply Eb|intro _) | split | dsimp only
theorem Ih {P:Program}{Q:Value->Prop}{o:BinOp}{x y:ByteArray}(h:∀ v,Q v):Ed P Q (Op.stringOp o x y):=by unfold Op.stringOp;repeat' first | with_reducible (first|assumption|exact Ej) | ((with_reducible refine El ?_);exact True.intro) | with_reducible (first|refine Eb (h _)|apply Eb|intro _) | split | dsimp only
theorem NP {P:Program}{Q:Value->Prop}{o:UnOp}{x:Value}(h:∀ v,Q v):Ed P Q (Op.unary o x):=by unfold Op.unary;repeat' first | with_reducible (first|assumption|exact Ej) | ((with_reducible refine El ?_);exact True.intro) | with_reducible (first|refine Eb (h _)|apply JA|apply Io|apply Eb|intro _) | split | dsimp only
theorem Hf {P:Program}{Q:Value->Prop}{a b:FloatKind}{x:Nat}(h:∀ v,Q v):Ed P Q (Conv.floatToFloat a x b):=by unfold Conv.floatToFloat;repeat' first | with_reducible (first|assumption|refine Eb (h _)|apply G5|refine D9 ?_|apply Eb|intro _) | split | dsimp only
theorem Jj {P:Program}{Q:Nat->Prop}{o:BinOp}{k:FloatKind}{x y:Nat}(h:∀ v,Q v):Ed P Q (Op.Complex.arith o k x y):=by unfold Op.Complex.arith;repeat' first | with_reducible (first|assumption|exact Ej|refine Eb (h _)|apply Hl|refine D9 ?_|apply Eb|intro _) | split | dsimp only
theorem Om {P:Program}{Q:Bool->Prop}{o:BinOp}{k:FloatKind}{x y:Nat}(h:∀ v,Q v):Ed P Q (Op.Complex.cmp o k x y):=by unfold Op.Complex.cmp;repeat' first | with_reducible (first|assumption|apply I7|apply Jq|refine D9 ?_|intro _) | split | dsimp only
theorem Nk {P:Program}{Q:Nat->Prop}{a b:FloatKind}{x:Nat}(h:∀ v,Q v):Ed P Q (Op.Complex.conv a x b):=by unfold Op.Complex.conv;repeat' first | with_reducible (first|assumption|exact Ej|refine Eb (h _)|apply Hf|refine D9 ?_|apply Eb|intro _) | split | dsimp only
theorem JR {P:Program}{Q:(Nat × Nat)->Prop}{a b c d:Nat}(h:∀ v,Q v):Ed P Q (Op.Complex.product a b c d):=by unfold Op.Complex.product Op.Complex.mul Op.Complex.sub Op.Complex.add;repeat' first | with_reducible (first|assumption|refine Eb (h _)|apply Jj|refine D9 ?_|apply Eb|intro _) | split | dsimp only
theorem Iy {P:Program}{Q:(Nat × Nat)->Prop}{s a b c d:Nat}(h:∀ v,Q v):Ed P Q (Op.Complex.corrected s a b c d):=by unfold Op.Complex.corrected Op.Complex.mul Op.Complex.sub Op.Complex.add;repeat' first | with_reducible (first|assumption|refine Eb (h _)|apply Jj|refine D9 ?_|apply Eb|intro _) | split | dsimp only
theorem Jp {P:Program}{Q:(Nat × Nat)->Prop}{a b c d:Nat}(h:∀ v,Q v):Ed P Q (Op.Complex.quotient a b c d):=by unfold Op.Complex.quotient Op.Complex.mul Op.Complex.sub Op.Complex.add Op.Complex.quo;repeat' first | with_reducible (first|assumption|refine Eb (h _)|apply Iy|apply Om|apply Jj|refine D9 ?_|apply Eb|intro _) | split | dsimp only
theorem Ji {P:Program}{Q:Value->Prop}{o:BinOp}{k:FloatKind}{a b c d:Nat}(h:∀ v,Q v):Ed P Q (Op.complexOp o k a b c d):=by unfold Op.complexOp;repeat' first | with_reducible (first|assumption|exact Ej|refine Eb (h _)|apply Jp|apply JR|apply Nk|apply Om|apply Jj|refine D9 ?_|apply Eb|intro _) | split | dsimp only
theorem Ir {P:Program}{Q:(Nat × Nat)->Prop}{a b:Addr}(h:∀ v,Q v):Ed P Q (Op.twoPlaces a b):=by unfold Op.twoPlaces;repeat' first | with_reducible assumption | ((with_reducible refine El ?_);exact True.intro) | with_reducible (first|refine Eb (h _)|apply Jm|apply Gl|refine D9 ?_|apply Eb|intro _) | split | dsimp only
theorem Ku {P:Program}{Q:Value->Prop}{k:IntKind}{a b:Addr}(h:∀ v,Q v):Ed P Q (Op.addrSub k a b):=by unfold Op.addrSub;repeat' first | with_reducible (first|assumption|refine Eb (h _)|apply Ir|refine D9 ?_|apply Eb|intro _) | split | dsimp only
theorem KL {P:Program}{Q:Value->Prop}{o:BinOp}{a b:Addr}(h:∀ v,Q v):Ed P Q (Op.addrCmp o a b):=by unfold Op.addrCmp;repeat' first | with_reducible assumption | ((with_reducible refine El ?_);exact True.intro) | with_reducible (first|refine Eb (h _)|apply Ir|refine D9 ?_|apply Eb|intro _) | split | dsimp only
theorem Kz {P:Program}{Q:Value->Prop}{k:IntKind}{a:Addr}{n:Int}(h:∀ v,Q v):Ed P Q (Op.addrMod k a n):=by
  refine ⟨fun s=>?_,fun e n=>.inr rfl⟩;cases s with
  | none=>exact trivial
  | some x=>
    show Ed P Q (typeInfo x.1 >>= fun i=>_);dsimp only;repeat' first | with_reducible assumption | ((with_reducible refine El ?_);exact True.intro) | with_reducible (first|refine Eb (h _)|apply Jm|apply Fp|refine D9 ?_|apply Eb|intro _) | split | dsimp only
theorem Ip {P:Program}{Q:Value->Prop}{x:Array TypeId}{t:TypeId}{args:Array Value}(h:∀ v,Q v):Ed P Q (Builtin.unsafeAdd_ x t args):=by
  have key:∀ (a:Addr) (n:Int),Ed P Q (do
      let some (e, cells) ← shape a.block | unsupported (.unsafePointer "Add")
      let p ← program
      match cellAtBytes p p.depth e (cells / p.cellsOf e) a.off n with
      | some off=>pure (Value.pointer (some { a with off }))
      | none => unsupported (.unsafePointer "Add")) := by
    intro a n;refine ⟨fun s=>?_,fun e c=>.inl ?_⟩
    . cases s with
      | none=>exact trivial
      | some x=>
        show Ed P Q (match cellAtBytes P P.depth x.1 (x.2 / P.cellsOf x.1) a.off n with
          | some off=>pure (Value.pointer (some { a with off }))
          | none => unsupported (.unsafePointer "Add"))
        split
        . exact h _
        . exact trivial
    . intro w;have:cellAtBytes P P.depth e (0 / P.cellsOf e) a.off n=none:=by
        unfold cellAtBytes;simp only [Nat.zero_div];split
        . rfl
        . cases hb:byteOfCell P P.depth e (a.off % P.cellsOf e) with
          | none=>rfl
          | some here=>
            show (if _ then _ else _)=_;rw [if_pos]
            . rfl
            . rw [Bool.or_eq_true,decide_eq_true_eq,decide_eq_true_eq,Nat.zero_mul];exact Int.lt_or_le _ _
      show F3 ((match cellAtBytes P P.depth e (0 / P.cellsOf e) a.off n with
          | some off=>pure (Value.pointer (some { a with off }))
          | none => unsupported (.unsafePointer "Add") : Sem Value).run P w) = none
      rw [this];rfl
  unfold Builtin.unsafeAdd_;rcases args with ⟨_|⟨a,_|⟨b,_|⟨c,r⟩⟩⟩⟩
  . exact trivial
  . cases a <;> exact trivial
  rotate_left
  . cases a <;> exact trivial
  cases a <;> try exact trivial
  show Ed P Q (asInt b >>= _);repeat' first | exact key _ _ | with_reducible assumption | ((with_reducible refine El ?_);exact True.intro) | with_reducible (first|refine Eb (h _)|apply JY|apply Jc|refine D9 ?_|apply Eb|intro _) | split | dsimp only
theorem Ia {P:Program}{Q:Value->Prop}{t:TypeId}{x y:Value}(h:∀ v,Q v):Ed P Q (movedNumber t x y):=by unfold movedNumber;repeat' first | with_reducible assumption | ((with_reducible refine El ?_);exact True.intro) | with_reducible (first|refine Eb (h _)|apply Ip|apply FW|apply JX|apply Es|refine D9 ?_|apply Eb|intro _) | split | dsimp only
theorem G7 {P:Program}{Q:Value->Prop}{t:TypeId}{x y:Value}(h:∀ v,Q v):Ed P Q (movedPointer t x y):=by unfold movedPointer;repeat' first | with_reducible assumption | ((with_reducible refine El ?_);exact True.intro) | with_reducible (first|apply Ip|apply Jb|refine D9 ?_|intro _) | split | dsimp only
theorem Pf {P:Program}{Q:Value->Prop}{o:BinOp}{t:TypeId}{x y:Value}(heq:o=.eql\/o=.neq->∀ Q':Bool->Prop,(∀ v,Q' v)->Ed P Q' (Op.equal t x y))(h:∀ v,Q v):Ed P Q (binOp o t x y):=by
  unfold binOp
  repeat' first | with_reducible (first|refine heq (.inl rfl) _ (fun _=>?_)|refine heq (.inr rfl) _ (fun _=>?_)|assumption|exact Ej) | ((with_reducible refine El ?_);exact True.intro) | with_reducible (first|refine Eb (h _)|apply G7|apply Ia|apply Kz|apply KL|apply Ku|apply Ji|apply Ih|apply I7|apply Hl|apply L9|apply Np|apply JA|apply LJ|apply Io|apply FW|apply Es|refine D9 ?_|apply Eb|intro _) | split | dsimp only
def MV (P:Program)(t:TypeId):Bool:=
  match P.underlying t with
  | some (.int _) | some .string | some .bool | some (.slice _)=>true
  | _=>false
theorem QV {P:Program}{Q:Bool->Prop}{t:TypeId}{x y:Value}(ht:MV P t=true)(h:∀ v,Q v):Ed P Q (Op.equal t x y):=by
  unfold Op.equal;generalize Op.maxDepth=d;cases d with
  | zero=>exact trivial
  | succ d=>
    unfold Op.equalIn;refine D9 (F5 fun u hu=>?_);unfold MV at ht;rw [hu] at ht;cases u <;> simp only [Bool.false_eq_true] at ht
    all_goals
      repeat' first | contradiction | with_reducible (first|assumption|exact Ej) | ((with_reducible refine El ?_);exact True.intro) | with_reducible (first|refine Eb (h _)|apply Jm|apply FW|apply Fp|apply Gl|refine D9 ?_|apply Eb|intro _) | split | dsimp only
theorem OW {P:Program}{Q:Unit->Prop}{o:BinOp}{t:TypeId}{a b:Operand}{x y:Value}(ht:MV P t=true)(h:∀ v,Q v):Ed P Q (eqGuard o t a b x y):=by
  have key:∀ (Q':Bool->Prop),(∀ v,Q' v)->Ed P Q' (Op.eqGuardIn Op.maxDepth t x y):=by
    intro Q' h;generalize Op.maxDepth=d;cases d with
    | zero=>exact trivial
    | succ d=>
      unfold Op.eqGuardIn;refine D9 (F5 fun u hu=>?_);unfold MV at ht;rw [hu] at ht;cases u <;> simp only [Bool.false_eq_true] at ht
      all_goals exact h _
  unfold eqGuard;repeat' first | with_reducible assumption | ((with_reducible refine El ?_);exact True.intro) | with_reducible (first|refine Eb (h _)|refine key _ (fun _=>?_)|apply Gl|refine D9 ?_|apply Eb|intro _) | split | dsimp only
theorem MQ {P:Program}{α:Type}{Q:α->Prop}{r:Nat}{f:Obj->Sem α}(h1:∀ o,Ed P Q (f o))(h2:∀ c e,Dead P (f (.coro none))\/f (.pending c e)=f (.coro none)):Ed P Q (getObj r >>= f):=⟨h1,h2⟩
theorem U6 {P:Program}{Q:Value->Prop}{a:Array TypeId}{t:TypeId}{v:Array Value}(h:∀ v,Q v):Ed P Q (Builtin.len_ a t v):=by unfold Builtin.len_;repeat' first | with_reducible (first|assumption|exact Ej|refine Eb (h _)) | (with_reducible refine MQ (fun _=>?_) (fun _ _=>.inr rfl)) | with_reducible (first|apply Es|refine D9 ?_|apply Eb|intro _) | split | dsimp only
theorem UK {P:Program}{Q:Value->Prop}{a:Array TypeId}{t:TypeId}{v:Array Value}(h:∀ v,Q v):Ed P Q (Builtin.cap_ a t v):=by unfold Builtin.cap_;repeat' first | with_reducible (first|assumption|exact Ej|refine Eb (h _)) | (with_reducible refine MQ (fun _=>?_) (fun _ _=>.inr rfl)) | with_reducible (first|apply Es|refine D9 ?_|apply Eb|intro _) | split | dsimp only
theorem Mx {P:Program}{Q:Nat->Prop}{v:Value}(h:∀ v,Q v):Ed P Q (Builtin.lenOf v):=by unfold Builtin.lenOf;repeat' first | with_reducible (first|assumption|exact Ej|refine Eb (h _)|apply Eb|intro _) | split | dsimp only
theorem Hq {P:Program}{Q:Array Value->Prop}{s n:Nat}{v:Value}(h:∀ v,Q v):Ed P Q (Builtin.firstCells s n v):=by unfold Builtin.firstCells;repeat' first | with_reducible (first|assumption|exact Ej|refine Eb (h _)|apply Iq|apply Eb|intro _) | split | dsimp only
theorem PV {P:Program}{Q:Value->Prop}{a:Array TypeId}{t:TypeId}{v:Array Value}(h:∀ v,Q v):Ed P Q (Builtin.copy_ a t v):=by unfold Builtin.copy_;repeat' first | with_reducible (first|assumption|exact Ej|refine Eb (h _)|apply Hq|apply Mx|apply F6|apply FN|apply Es|refine D9 ?_|apply Eb|intro _) | split | dsimp only
theorem Pz {P:Program}{Q:Value->Prop}{x y:Value}(h:∀ v,Q v):Ed P Q (Builtin.max2 x y):=by unfold Builtin.max2;repeat' first | with_reducible (first|assumption|exact Ej) | ((with_reducible refine El ?_);exact True.intro) | with_reducible (first|refine Eb (h _)|apply Ih|apply Jq|apply G5|refine D9 ?_|apply Eb|intro _) | split | dsimp only
theorem PY {P:Program}{Q:Value->Prop}{x y:Value}(h:∀ v,Q v):Ed P Q (Builtin.min2 x y):=by unfold Builtin.min2;repeat' first | with_reducible (first|assumption|exact Ej) | ((with_reducible refine El ?_);exact True.intro) | with_reducible (first|refine Eb (h _)|apply Ih|apply Jq|apply G5|refine D9 ?_|apply Eb|intro _) | split | dsimp only
theorem Us {P:Program}{Q:Value->Prop}{f:Value->Value->Sem Value}(hf:∀ (Q':Value->Prop) a b,(∀ v,Q' v)->Ed P Q' (f a b))(h:∀ v,Q v):∀ {l:List Value} {x:Value},Ed P Q (l.foldlM f x):=by
  intro l;induction l with
  | nil=>intro x;exact h x
  | cons y l ih=>
    intro x;rw [List.foldlM_cons];exact D9 (hf _ _ _ fun _=>ih)
theorem UQ {P:Program}{Q:Value->Prop}{a:Array TypeId}{t:TypeId}{v:Array Value}(h:∀ v,Q v):Ed P Q (Builtin.max_ a t v):=by
  unfold Builtin.max_;split
  . exact trivial
  . exact Us (fun _ _ _ h=>Pz h) h
theorem Vp {P:Program}{Q:Value->Prop}{a:Array TypeId}{t:TypeId}{v:Array Value}(h:∀ v,Q v):Ed P Q (Builtin.min_ a t v):=by
  unfold Builtin.min_;split
  . exact trivial
  . exact Us (fun _ _ _ h=>PY h) h
theorem J9 {P:Program}{α:Type}{Q:α->Prop}{a:Addr}{n:Nat}{f:Bool->Sem α}(hf:∀ b,Ed P Q (f b))(hd:∀ b,Dead P (f b)):Ed P Q (Builtin.holdsCells a n >>= f):=by
  refine ⟨fun s=>?_,fun e c=>.inl ?_⟩
  . cases s with
    | none=>exact hf _
    | some x=>exact hf _
  . exact hd _
theorem OQ {P:Program}{α:Type}{a:Addr}{n:Nat}{f:Bool->Sem α}(hd:∀ b,Dead P (f b)):Dead P (Builtin.holdsCells a n >>= f):=by intro w;show F3 ((Sem.bind (Sem.shape a.block Sem.pure) _).run P w)=none;show F3 ((Sem.bind ((match w.shape? a.block with | some (_,n')=>pure (a.spot.isNone && a.off+n<=n') | none=>pure false):Sem Bool) f).run P w)=none;split <;> exact hd _ w
theorem UU {P:Program}{α:Type}{a:Addr}{f:Bool->Sem α}(hd:∀ b,Dead P (f b)):Dead P (frozen a >>= f):=fun w=>hd _ w
theorem Q7 {P:Program}{α:Type}{Q:α->Prop}{a:Addr}{f:Bool->Sem α}(hf:∀ b,Ed P Q (f b))(hd:∀ b,Dead P (f b)):Ed P Q (frozen a >>= f):=
  ⟨fun b=>hf b,fun w es h=>absurd (by rw [Sem.runT_fst];exact hd true w) h⟩
theorem QL {P:Program}{α:Type}{Q:α->Prop}{size sLen n:Nat}{base:Option Addr}{x:Value}{f:Bool->Sem α}(hf:∀ b,Ed P Q (f b))(hd:∀ b,Dead P (f b)) :
    Ed P Q (Builtin.mayShare size sLen n base x >>= f):=by
  have tail:∀ there:Bool,Ed P Q ((do
      if !there then return true
      match x with
      | .slice (some b) _ _=>do pure (!(← Builtin.holdsCells b (n * size)) || base.any (·.block == b.block))
      | _=>pure false:Sem Bool) >>= f)/\Dead P ((do
      if !there then return true
      match x with
      | .slice (some b) _ _=>do pure (!(← Builtin.holdsCells b (n * size)) || base.any (·.block == b.block))
      | _=>pure false:Sem Bool) >>= f):=by
    intro there;cases there with
    | false=>exact ⟨hf _,fun w=>hd _ w⟩
    | true=>
      cases x with
      | slice b l c=>
        cases b with
        | none=>exact ⟨hf _,fun w=>hd _ w⟩
        | some b=>
          constructor
          . show Ed P Q ((Builtin.holdsCells b (n * size) >>= fun v=>pure (!v || base.any (·.block == b.block))) >>= f);rw [bind_assoc];exact J9 (fun _=>hf _) (fun _=>hd _)
          . show Dead P ((Builtin.holdsCells b (n * size) >>= fun v=>pure (!v || base.any (·.block == b.block))) >>= f);rw [bind_assoc];exact OQ (fun _=>hd _)
      | _=>exact ⟨hf _,fun w=>hd _ w⟩
  unfold Builtin.mayShare;cases base with
  | none=>exact (tail true).1
  | some a=>
    dsimp only;rw [bind_assoc];refine J9 (fun v=>?_) (fun v=>?_)
    . rw [bind_assoc];exact Q7 (fun z=>(tail (v && !z)).1) fun z=>(tail (v && !z)).2
    . rw [bind_assoc];exact UU fun z=>(tail (v && !z)).2
theorem Me {P:Program}{Q:Value->Prop}{a:Array TypeId}{t:TypeId}{v:Array Value}(h:∀ v,Q v):Ed P Q (Builtin.append_ a t v):=by
  have huge:∀ {α:Type} {Q:α->Prop} {size sLen n:Nat} {base:Option Addr} {x:Value} {u:Unsupported},XE u->Ed P Q (do
      if !(← Builtin.mayShare size sLen n base x) then mark .noRoom
      unsupported u:Sem α):=by
    intro α Q size sLen n base x u hu;refine QL (fun b=>?_) (fun b=>?_)
    . cases b <;> simp only [Bool.not_true,Bool.not_false,Bool.false_eq_true,↓reduceIte]
      . exact ⟨trivial,hu⟩
      . exact hu
    . cases b <;> (intro w;rfl)
  unfold Builtin.append_;repeat' first | with_reducible (first|assumption|exact Ej|refine Eb (h _)) | ((with_reducible refine huge ?_);exact True.intro) | with_reducible (first|refine F6 (fun _=>?_)|apply Hq|apply Mx|apply JE|apply Jc|apply EI|apply JO|apply F6|apply FN|apply Gs|apply Fp|apply Es|apply G5|refine D9 ?_|apply Eb|intro _) | simp only [Bool.not_true,Bool.not_false,Bool.false_eq_true,↓reduceIte] | split | dsimp only
section
theorem ZP {P:Program}{α β:Type}{f:α->Sem β}(hf:∀ (Q':β->Prop) a,(∀ v,Q' v)->Ed P Q' (f a)){Q:Array β->Prop}(h:∀ v,Q v){a:Array α}:Ed P Q (a.mapM f):=by
  rw [Array.mapM_eq_mapM_toList];refine RO ?_;have key:∀ (l:List α) (Q:List β->Prop),(∀ v,Q v)->Ed P Q (l.mapM f):=by
    intro l;induction l with
    | nil=>intro Q h;rw [List.mapM_nil];exact Eb (h _)
    | cons x l ih=>
      intro Q h;rw [List.mapM_cons];exact D9 (hf _ _ fun _=>D9 (ih _ fun _=>Eb (h _)))
  exact key _ _ fun _=>h _
theorem NZ {P:Program}{Q:Value->Prop}{fn:Func}{tmps:Array Value}(h:∀ v,Q v):Ed P Q (results fn tmps):=by
  unfold results;refine D9 (ZP (fun Q' x h=>?_) fun _=>Eb (h _));cases x with
  | tmp t=>exact Eb (h _)
  | cell a t=>exact D9 (Hg fun _=>JC h)
theorem O8 {P:Program}{Q:Value->Prop}{t:TypeId}{ps:Array (Nat × Value)}(h:∀ v,Q v):Ed P Q (Instr.build t ps):=by
  unfold Instr.build
  repeat' first | with_reducible (first|assumption|exact Ej) | ((with_reducible refine El ?_);exact True.intro) | with_reducible (first|exact KF|refine Eb (h _)|refine ZP (fun _ _ h=>D9 (FN fun _=>Eb (h _))) (fun _=>?_)|apply Me|apply Vp|apply UQ|apply PY|apply Pz|apply PV|apply Hq|apply Mx|apply UK|apply U6|apply G7|apply Ia|apply Ip|apply Kz|apply KL|apply Ku|apply Ir|apply Ji|apply Jp|apply Iy|apply JR|apply Nk|apply Om|apply Jj|apply Hf|apply NP|apply Ih|apply I7|apply Hl|apply L9|apply Np|apply JA|apply LJ|apply Io|apply JH|apply GH|apply Jk|apply KI|apply NC|apply GL|apply Iz|apply KO|apply NA|apply NS|apply KR|apply Ul|apply NU|apply KT|apply KG|apply LU|apply IB|apply Mq|apply Jm|apply LX|apply FW|apply Jb|apply JY|apply JE|apply Gx|apply Hg|apply NQ|apply K8|apply Jq|apply Jc|apply Iw|apply Gf|apply EI|apply Na|apply JX|apply JI|apply JO|apply I9|apply JC|apply F6|apply Iq|apply GK|apply LP|apply MB|apply FN|apply Gs|apply ME|apply Fp|apply Es|apply G5|apply Kg|apply Og|apply Nz|apply Gl|apply RO|refine D9 ?_|apply Eb|intro _) | split | dsimp only
theorem KY {P:Program}{Q:Value->Prop}{t:TypeId}{n:Nat}{ps:Array (Nat × Value)}(h:∀ v,Q v):Ed P Q (Instr.buildSlice t n ps):=by
  unfold Instr.buildSlice
  repeat' first | with_reducible (first|assumption|exact Ej) | ((with_reducible refine El ?_);exact True.intro) | with_reducible (first|exact KF|refine Eb (h _)|apply O8|apply Me|apply Vp|apply UQ|apply PY|apply Pz|apply PV|apply Hq|apply Mx|apply UK|apply U6|apply G7|apply Ia|apply Ip|apply Kz|apply KL|apply Ku|apply Ir|apply Ji|apply Jp|apply Iy|apply JR|apply Nk|apply Om|apply Jj|apply Hf|apply NP|apply Ih|apply I7|apply Hl|apply L9|apply Np|apply JA|apply LJ|apply Io|apply JH|apply GH|apply Jk|apply KI|apply NC|apply GL|apply Iz|apply KO|apply NA|apply NS|apply KR|apply Ul|apply NU|apply KT|apply KG|apply LU|apply IB|apply Mq|apply Jm|apply LX|apply FW|apply Jb|apply JY|apply JE|apply Gx|apply Hg|apply NQ|apply K8|apply Jq|apply Jc|apply Iw|apply Gf|apply EI|apply Na|apply JX|apply JI|apply JO|apply I9|apply JC|apply F6|apply Iq|apply GK|apply LP|apply MB|apply FN|apply Gs|apply ME|apply Fp|apply Es|apply G5|apply Kg|apply Og|apply Nz|apply Gl|apply RO|refine D9 ?_|apply Eb|intro _) | split | dsimp only
theorem NG {P:Program}{Q:Value->Prop}{k:FloatKind}{n:Nat}{d:IntKind}(h:∀ v,Q v):Ed P Q (Conv.floatToInt k n d):=by
  unfold Conv.floatToInt
  repeat' first | with_reducible (first|assumption|exact Ej) | ((with_reducible refine El ?_);exact True.intro) | with_reducible (first|exact KF|refine Eb (h _)|apply KY|apply O8|apply Me|apply Vp|apply UQ|apply PY|apply Pz|apply PV|apply Hq|apply Mx|apply UK|apply U6|apply G7|apply Ia|apply Ip|apply Kz|apply KL|apply Ku|apply Ir|apply Ji|apply Jp|apply Iy|apply JR|apply Nk|apply Om|apply Jj|apply Hf|apply NP|apply Ih|apply I7|apply Hl|apply L9|apply Np|apply JA|apply LJ|apply Io|apply JH|apply GH|apply Jk|apply KI|apply NC|apply GL|apply Iz|apply KO|apply NA|apply NS|apply KR|apply Ul|apply NU|apply KT|apply KG|apply LU|apply IB|apply Mq|apply Jm|apply LX|apply FW|apply Jb|apply JY|apply JE|apply Gx|apply Hg|apply NQ|apply K8|apply Jq|apply Jc|apply Iw|apply Gf|apply EI|apply Na|apply JX|apply JI|apply JO|apply I9|apply JC|apply F6|apply Iq|apply GK|apply LP|apply MB|apply FN|apply Gs|apply ME|apply Fp|apply Es|apply G5|apply Kg|apply Og|apply Nz|apply Gl|apply RO|refine D9 ?_|apply Eb|intro _) | split | dsimp only
theorem Wm {P:Program}{Q:Value->Prop}{k:IntKind}{n:Int}(h:∀ v,Q v):Ed P Q (Conv.intToInt k n):=by
  unfold Conv.intToInt
  repeat' first | with_reducible (first|assumption|exact Ej) | ((with_reducible refine El ?_);exact True.intro) | with_reducible (first|exact KF|refine Eb (h _)|apply NG|apply KY|apply O8|apply Me|apply Vp|apply UQ|apply PY|apply Pz|apply PV|apply Hq|apply Mx|apply UK|apply U6|apply G7|apply Ia|apply Ip|apply Kz|apply KL|apply Ku|apply Ir|apply Ji|apply Jp|apply Iy|apply JR|apply Nk|apply Om|apply Jj|apply Hf|apply NP|apply Ih|apply I7|apply Hl|apply L9|apply Np|apply JA|apply LJ|apply Io|apply JH|apply GH|apply Jk|apply KI|apply NC|apply GL|apply Iz|apply KO|apply NA|apply NS|apply KR|apply Ul|apply NU|apply KT|apply KG|apply LU|apply IB|apply Mq|apply Jm|apply LX|apply FW|apply Jb|apply JY|apply JE|apply Gx|apply Hg|apply NQ|apply K8|apply Jq|apply Jc|apply Iw|apply Gf|apply EI|apply Na|apply JX|apply JI|apply JO|apply I9|apply JC|apply F6|apply Iq|apply GK|apply LP|apply MB|apply FN|apply Gs|apply ME|apply Fp|apply Es|apply G5|apply Kg|apply Og|apply Nz|apply Gl|apply RO|refine D9 ?_|apply Eb|intro _) | split | dsimp only
def UM (P:Program)(t:TypeId):Bool:=
  match P.underlying t with
  | some (.int _)=>true
  | _=>false
theorem Xr {P:Program}{t:TypeId}(h:UM P t=true):∃ k,P.underlying t=some (.int k):=by
  unfold UM at h;split at h
  . rename_i k e;exact ⟨k,e⟩
  . cases h
theorem QK {P:Program}{Q:Value->Prop}{s d:TypeId}{x:Value}(hs:UM P s=true)(hd:UM P d=true)(h:∀ v,Q v):Ed P Q (convert s d x):=by
  obtain ⟨k,hk⟩:=Xr hs;obtain ⟨k',hk'⟩:=Xr hd;unfold convert;refine D9 (F5 fun a ha=>D9 (F5 fun b hb=>?_));obtain rfl:=Option.some.inj (ha.symm.trans hk);obtain rfl:=Option.some.inj (hb.symm.trans hk');cases x with
  | int j n=>exact Wm h
  | float j n=>exact NG h
  | pointer a=>cases a <;> exact trivial
  | _=>exact trivial
theorem QJ {P:Program}:∀ {l:List FieldStep} {t:TypeId} {x:Option Value} {Q:Except (Option Bool) (TypeId × Option Value)->Prop},(∀ v,Q v)->Ed P Q (followBlind l t x):=by
  intro l;induction l with
  | nil=>intro t x Q h;unfold followBlind;exact Eb (h _)
  | cons s l ih=>
    intro t x Q h;unfold followBlind;refine D9 (Es fun d=>?_);repeat' first | exact Ej | exact Eb (h _) | exact ih h | refine D9 (Na fun _=>?_) | split
theorem VF {P:Program}:∀ {n:Nat} {t:TypeId} {x:Value} {m:String} {Q:Option Bool->Prop},(∀ v,Q v)->Ed P Q (nilAhead n t x m):=by
  intro n;induction n with
  | zero=>intro t x m Q h;unfold nilAhead;exact Eb (h _)
  | succ n ih=>
    intro t x m Q h;unfold nilAhead;refine D9 (Fp fun d=>?_);repeat' first | exact Ej | exact Eb (h _) | exact ih h | refine D9 (QJ fun _=>?_) | refine D9 (Es fun _=>?_) | split
theorem Wq {P:Program}{Q:Next->Prop}{x:Value}(h:∀ v,Q (.value v)):Ed P Q (match x with
    | .pointer none | .nilIface | .nilFunc=>runtimePanic .nilDeref
    | .func (.method name) first captured=>
      match (first[0]?:Option Value) with
      | some .nilIface=>runtimePanic .nilDeref
      | some (.iface t w)=>do
        if (← nilAhead ((← program).types.size+Made.depth) t w name) != some false then
          unsupported (.noEntry "op/nilCheck.the method's receiver behind this interface value is a nil pointer, or cannot be seen to be none, and the arguments act or may panic (ledger 612)")
        pure (.value (.func (.method name) first captured))
      | _=>pure (.value (.func (.method name) first captured))
    | x=>pure (.value x):Sem Next):=by
  split
  . exact EI
  . exact EI
  . exact EI
  . split
    . exact EI
    . refine D9 (show Ed P _ program from D9 (VF fun _=>?_));dsimp only;split
      . exact D9 (El True.intro)
      . exact Eb (h _)
    . exact Eb (h _)
  . exact Eb (h _)
theorem Sq {P:Program}{Q:Value->Prop}{x:Value}{s t:TypeId}{b:Bool}(h:∀ v,Q v):Ed P Q (Instr.typeAssert x s t b):=by unfold Instr.typeAssert;refine D9 (Es fun d=>?_);repeat' first | exact Ej | exact EI | exact Eb (h _) | refine D9 (Gs fun _=>?_) | refine D9 (Fp fun _=>?_) | split
theorem VZ {P:Program}{Q:Value->Prop}{t:TypeId}{x:Value}(h:∀ v,Q v):Ed P Q (Instr.makeChan t x):=by
  unfold Instr.makeChan;refine D9 (Jc fun d=>D9 (Es fun d=>?_));split
  . refine D9 (Fp fun d=>?_);split
    . exact D9 (EI)
    . exact D9 (show Ed P _ (newObj _) from ⟨trivial,fun _=>Eb (h _)⟩)
  . exact Ej
def Hz (L:FuncId->Prop):Next->Prop
  | .value _=>True
  | .skip=>True
  | .enter f _=>L f
  | _=>False
def NR (P:Program)(f:FuncId):Prop:=
  ∃ fn e, P.funcs[f]? = some fn /\ (fn.name == "runtime.NumGoroutine") = false /\ fn.body.isNone = true /\ Extern.findNext fn = none /\ Extern.find fn = some e /\ ∀ args, Ed P (fun _ => True) (e args)
def RN:Builtin->Bool
  | .len | .cap | .append | .copy | .max | .min=>true
  | _=>false
def isEq:BinOp->Bool
  | .eql | .neq=>true
  | _=>false
def UN:Operand->Bool
  | .const (.pointer none)=>true
  | _=>false
theorem Xj {x:Operand}(h:UN x=true):x=.const (.pointer none):=by
  unfold UN at h;split at h
  . rfl
  . cases h
class Host where
  bar:FuncId->Bool
variable [Host]
def J5 (P:Program)(o:Oper):Bool:=
  match o.op with
  | .move _ | .assign _ | .pick _ _ _ | .alloc _ | .box _ _ | .build _ _ | .buildSlice _ _ _ | .load _ _ | .store _ _ _ | .unOp _ _ _ | .makeSlice _ _ _ | .slice _ _ _ _ _
  | .fieldAddr _ _ _ | .field _ _ _ | .indexAddr _ _ _ | .index _ _ _ | .extract _ _ | .makeInterface _ _ | .makeFunc _ _ _ | .nilCheck _ | .typeAssert _ _ _ _ | .makeChan _ _=>true
  | .binOp op t x y _=>!isEq op || (MV P t || (UN x || UN y))
  | .convert s d _=>UM P s && UM P d
  | .call c=>match c.callee with
    | .value (.func g)=>!Host.bar g
    | .builtin b=>RN b
    | _=>false
  | _=>false
def GJ (o:Oper):Option FuncId:=
  match o.op with
  | .call c=>match c.callee with
    | .value (.func g)=>some g
    | _=>none
  | _=>none
theorem Ky {P:Program}{o:Oper}{g:FuncId}(ho:J5 P o=true)(hc:GJ o=some g):Host.bar g=false:=by
  obtain ⟨dst,op,type,pos,after,guard⟩:=o;cases op with
  | call c=>
    obtain ⟨callee,kI,ats⟩:=c;cases callee with
    | value f=>
      cases f with
      | func g'=>
        cases hc
        have:(!Host.bar g)=true:=ho
        simpa using this
      | _=>cases hc
    | _=>cases hc
  | _=>cases hc
def Xl (P : Program)(f : FuncId) : Prop := ∃ fn c, P.funcs[f]? = some fn /\ (fn.name == "runtime.NumGoroutine") = false /\ fn.body = some c
section
variable {P:Program}{L:FuncId->Prop}
theorem IW {m:Sem Value}(h:∀ Q:Value->Prop,(∀ v,Q v)->Ed P Q m):Ed P (Hz L) (do pure (.value (← m)):Sem Next):=D9 (h _ fun _=>trivial)
theorem Abw {m:Sem Unit}(h:∀ Q:Unit->Prop,(∀ v,Q v)->Ed P Q m):Ed P (Hz L) (do m;pure .skip:Sem Next):=D9 (h _ fun _=>trivial)
theorem QG {f:FuncId}{args:Array Value}(hL:L f)(hf:Xl P f):Ed P (Hz L) (callFunc f args):=by obtain ⟨fn,c,h1,h2,h3⟩:=hf;show Ed P (Hz L) (match P.funcs[f]? with | none=>_ | some fn=>_);rw [h1];simp only [h2,h3,Option.isNone_some,Bool.false_eq_true,if_false];exact hL
theorem PG {f:FuncId}{args:Array Value}(hf:NR P f):Ed P (Hz L) (callFunc f args):=by obtain ⟨fn,e,h1,h2,h3,h4,h5,h6⟩:=hf;show Ed P (Hz L) (match P.funcs[f]? with | none=>_ | some fn=>_);rw [h1];simp only [h2,h3,h4,h5,Bool.false_eq_true,if_false,if_true];exact ⟨trivial,show Ed P (Hz L) (e args >>= fun v=>pure (.value v)) from D9 ((h6 args).mono fun _ _=>trivial)⟩
theorem XW {b:Builtin}{ats:Array TypeId}{t:TypeId}{cs:Array Bool}{args:Array Value}(hb:RN b=true):Ed P (Hz L) (builtin b ats t cs args):=by
  cases b <;> first | (exact absurd hb (by decide)) | skip
  . exact IW fun Q h=>Me h
  . exact IW fun Q h=>UK h
  . exact IW fun Q h=>PV h
  . exact IW fun Q h=>U6 h
  . exact IW fun Q h=>UQ h
  . exact IW fun Q h=>Vp h
theorem SS {Q:Unit->Prop}{op:BinOp}{t:TypeId}{a b:Operand}{x y:Value}(ho:isEq op=false)(h:∀ v,Q v):Ed P Q (eqGuard op t a b x y):=by cases op <;> first | (exact absurd ho (by decide)) | exact h _
theorem SE {Q:Bool->Prop}{t:TypeId}{x:Value}(h:∀ v,Q v):Ed P Q (Op.equal t x (.pointer none)):=by
  unfold Op.equal;generalize Op.maxDepth=d;cases d with
  | zero=>exact trivial
  | succ d=>
    unfold Op.equalIn;refine D9 (F5 fun u hu=>?_);repeat' first | contradiction | (injections;done) | with_reducible exact Ej | ((with_reducible refine El ?_);exact True.intro) | with_reducible refine Eb (h _) | split | unfold samePointer
theorem TA {Q:Bool->Prop}{t:TypeId}{x:Value}(h:∀ v,Q v):Ed P Q (Op.equal t (.pointer none) x):=by
  unfold Op.equal;generalize Op.maxDepth=d;cases d with
  | zero=>exact trivial
  | succ d=>
    unfold Op.equalIn;refine D9 (F5 fun u hu=>?_);repeat' first | contradiction | (injections;done) | with_reducible exact Ej | ((with_reducible refine El ?_);exact True.intro) | with_reducible refine Eb (h _) | split | unfold samePointer
theorem PO {Q:Unit->Prop}{op:BinOp}{t:TypeId}{a b:Operand}{x:Value}(h:∀ v,Q v):Ed P Q (eqGuard op t a b x (.pointer none)):=by cases op <;> cases x <;> exact h _
theorem Qw {Q:Unit->Prop}{op:BinOp}{t:TypeId}{a b:Operand}{x:Value}(h:∀ v,Q v):Ed P Q (eqGuard op t a b (.pointer none) x):=by cases op <;> cases x <;> exact h _
theorem PS {ρ:Operand->Value}{o:Oper}(hρ:∀ g,ρ (.func g)=.func (.func g) #[] #[])(vV:∀ v,ρ (.const v)=v)(hc:∀ g,GJ o=some g->(L g/\Xl P g)\/NR P g)(ho:J5 P o=true):Ed P (Hz L) (execOp ρ o):=by
  obtain ⟨dst,op,type,pos,after,guard⟩:=o;cases op with
  | move x=>exact trivial
  | assign x=>exact trivial
  | pick c a b=>exact D9 (Jq fun _=>trivial)
  | alloc e=>exact IW fun Q h=>NU h
  | box e x=>exact IW fun Q h=>Ul h
  | build t ps=>exact IW fun Q h=>O8 h
  | buildSlice t n ps=>exact IW fun Q h=>KY h
  | load t a=>exact IW fun Q h=>LU h
  | store t a x=>exact Abw fun Q h=>KO h
  | unOp op t x=>exact IW fun Q h=>NP h
  | makeSlice t l c=>exact IW fun Q h=>Jk h
  | slice t x l h m=>exact IW fun Q h=>KI h
  | fieldAddr s x f=>exact IW fun Q h=>KG h
  | field s x f=>exact IW fun Q h=>NS h
  | indexAddr t x i=>exact IW fun Q h=>KT h
  | index t x i=>exact IW fun Q h=>NA h
  | extract t i=>exact IW fun Q h=>KR h
  | makeInterface t x=>exact IW fun Q h=>GH h
  | makeFunc f x y=>exact IW fun Q h=>JH h
  | nilCheck x=>exact Wq fun _=>trivial
  | typeAssert x s t b=>exact IW fun Q h=>Sq h
  | makeChan t x=>exact IW fun Q h=>VZ h
  | binOp op t x y t'=>
    have ho':(!isEq op || (MV P t || (UN x || UN y)))=true:=ho;cases he:isEq op with
    | false=>exact IW fun Q h=>D9 (SS he fun _=>Pf (fun e=>by rcases e with rfl | rfl <;> exact absurd he (by decide)) h)
    | true=>
      have ht:MV P t=true\/UN x=true\/UN y=true:=by simpa [he] using ho'
      rcases ht with ht|ht|ht
      . exact IW fun Q h=>D9 (OW ht fun _=>Pf (fun _ Q' h'=>QV ht h') h)
      . obtain rfl:=Xj ht;exact IW fun Q h=>by rw [vV];exact D9 (Qw fun _=>Pf (fun _ Q' h'=>TA h') h)
      . obtain rfl:=Xj ht;exact IW fun Q h=>by rw [vV];exact D9 (PO fun _=>Pf (fun _ Q' h'=>SE h') h)
  | convert s d x=>
    have ho':(UM P s && UM P d)=true:=ho;rw [Bool.and_eq_true] at ho';exact IW fun Q h=>QK ho'.1 ho'.2 h
  | call c=>
    obtain ⟨callee,kI,ats⟩:=c;cases callee with
    | value f=>
      cases f with
      | func g=>
        show Ed P (Hz L) (Deferred.ofValue (ρ (.func g)) _ >>= fun d=>invoke d.target d.args);rw [hρ];show Ed P (Hz L) (callFunc g _);rcases hc g rfl with h|h
        . exact QG h.1 h.2
        . exact PG h
      | _=>exact absurd ho Bool.false_ne_true
    | builtin b=>exact XW ho
    | invoke r m=>exact absurd ho Bool.false_ne_true
  | _=>exact absurd ho Bool.false_ne_true
end
end
end Go.LT
end
