/-
  Part 3 of the proof that CellAlone returns true for every input and leaves its arguments as they were. No further condition.
-/
import Derived.Test.YtkdhnbcdbnpmhaaQ02
import GoSem.Dispatch
set_option linter.unusedVariables false
set_option linter.unusedSectionVars false
set_option maxHeartbeats 4000000
namespace Go.LT
open Go
theorem G8 {P:Program}{α:Type}{Q:α->Prop}{s:String}:G6 P Q (stuck s):=trivial
theorem G9 {P:Program}{α:Type}{Q:α->Prop}{u:Unsupported}(h:Zq u):G6 P Q (unsupported u):=h
theorem Nw {P:Program}{α:Type}{Q:α->Prop}{v:Value}:G6 P Q (goPanic v):=trivial
theorem GZ {P:Program}{α:Type}{Q:α->Prop}{a:α}(h:Q a):G6 P Q (pure a):=h
theorem JI {P:Program}{Q:Program->Prop}(h:Q P):G6 P Q program:=h
theorem Qu {P:Program}{Q:Nat->Prop}{c:Array Value}{e:TypeId}(h:∀ v,Q v):G6 P Q (newObj (.cells c e)):=⟨trivial,fun _=>h _⟩
theorem QF {P:Program}{Q:Value->Prop}{a:Addr}{m:Mode}(h:∀ v,Q v):G6 P Q (load a m):=fun v=>h v
theorem Ni {P:Program}{Q:Unit->Prop}{a:Addr}{v:Value}{m:Mode}(h:∀ v,Q v):G6 P Q (store a v m):=h _
theorem Kn {P:Program}{Q:Nat->Prop}{q:Question}(h:∀ v,Q v):G6 P Q (choose q):=fun v=>h v
theorem Uy {P:Program}{α β:Type}{Q:β->Prop}{f:α->β}{m:Sem α}(h:G6 P (fun a=>Q (f a)) m):G6 P Q (f <$> m):=GV (f:=fun a=>Sem.pure (f a)) h
theorem Jr {P:Program}{Q:TypeDesc->Prop}{t:TypeId}(h:∀ d,P.underlying t=some d->Q d):G6 P Q (underlying t):=by
  show G6 P Q (match P.underlying t with | some d => pure d | none => stuck "no such type");split
  . rename_i d e;exact h d e
  . exact trivial
theorem Hy {P:Program}{Q:TypeDesc->Prop}{t:TypeId}(h:∀ v,Q v):G6 P Q (underlying t):=by unfold underlying;repeat' first | with_reducible assumption | with_reducible exact G8 | with_reducible refine GZ (h _) | with_reducible apply JI | with_reducible refine GV ?_ | with_reducible apply GZ | with_reducible intro _ | split | dsimp only
theorem IJ {P:Program}{Q:TypeInfo->Prop}{t:TypeId}(h:∀ v,Q v):G6 P Q (typeInfo t):=by unfold typeInfo;repeat' first | with_reducible assumption | with_reducible exact G8 | with_reducible refine GZ (h _) | with_reducible apply JI | with_reducible refine GV ?_ | with_reducible apply GZ | with_reducible intro _ | split | dsimp only
theorem Pp {P:Program}{Q:String->Prop}{t:TypeId}(h:∀ v,Q v):G6 P Q (typeStr t):=by unfold typeStr;repeat' first | with_reducible assumption | ((with_reducible refine G9 ?_);exact True.intro) | with_reducible refine GZ (h _) | with_reducible apply IJ | with_reducible refine GV ?_ | with_reducible apply GZ | with_reducible intro _ | split | dsimp only
theorem JM {P:Program}{Q:Value->Prop}{t:TypeId}(h:∀ v,Q v):G6 P Q (zeroValue t):=by unfold zeroValue;repeat' first | with_reducible assumption | ((with_reducible refine G9 ?_);exact True.intro) | with_reducible refine GZ (h _) | with_reducible apply IJ | with_reducible refine GV ?_ | with_reducible apply GZ | with_reducible intro _ | split | dsimp only
theorem Ja {P:Program}{Q:Nat->Prop}{t:TypeId}(h:∀ v,Q v):G6 P Q (sizeOf t):=by unfold sizeOf;repeat' first | with_reducible assumption | with_reducible refine GZ (h _) | with_reducible apply IJ | with_reducible refine GV ?_ | with_reducible apply GZ | with_reducible intro _ | split | dsimp only
theorem Pf {P:Program}{Q:Bool->Prop}{t:TypeId}(h:∀ v,Q v):G6 P Q (isAgg t):=by unfold isAgg;repeat' first | with_reducible assumption | with_reducible refine GZ (h _) | with_reducible apply Hy | with_reducible refine GV ?_ | with_reducible apply GZ | with_reducible intro _ | split | dsimp only
theorem Pb {P:Program}{Q:TypeId->Prop}{t:TypeId}(h:∀ v,Q v):G6 P Q (elemOf t):=by unfold elemOf;repeat' first | with_reducible assumption | with_reducible exact G8 | with_reducible refine GZ (h _) | with_reducible apply Hy | with_reducible refine GV ?_ | with_reducible apply GZ | with_reducible intro _ | split | dsimp only
theorem J5 {P:Program}{Q:Array Value->Prop}{a:Addr}(h:∀ v,Q v):∀ {n i:Nat} {acc:Array Value},G6 P Q (loadCellsFrom a i n acc):=by
  intro n;induction n with
  | zero=>intro i acc;exact h _
  | succ n ih=>intro i acc;exact fun v=>ih
theorem K5 {P:Program}{Q:Array Value->Prop}{a:Addr}{n:Nat}(h:∀ v,Q v):G6 P Q (loadCells a n):=by unfold loadCells;repeat' first | with_reducible assumption | with_reducible apply J5 | with_reducible intro _ | split | dsimp only
theorem Ju {P:Program}{Q:Unit->Prop}{a:Addr}(h:∀ v,Q v):∀ {vs:List Value} {i:Nat},G6 P Q (storeCells a vs i):=by
  intro vs;induction vs with
  | nil=>intro i;exact h _
  | cons v r ih=>intro i;exact ih
theorem ME {P:Program}{Q:Value->Prop}{t:TypeId}{a:Addr}(h:∀ v,Q v):G6 P Q (loadVar t a):=by unfold loadVar;repeat' first | with_reducible assumption | with_reducible refine GZ (h _) | with_reducible apply K5 | with_reducible apply Pf | with_reducible apply Ja | with_reducible apply QF | with_reducible refine GV ?_ | with_reducible apply GZ | with_reducible intro _ | split | dsimp only
theorem LP {P:Program}{Q:Unit->Prop}{t:TypeId}{a:Addr}{v:Value}(h:∀ v,Q v):G6 P Q (storeVar t a v):=by unfold storeVar;repeat' first | with_reducible assumption | with_reducible exact G8 | with_reducible apply Ju | with_reducible apply Ja | with_reducible refine GV ?_ | with_reducible intro _ | split | dsimp only
theorem MK {P:Program}{Q:Addr->Prop}{e:TypeId}{cs:Array Value}(h:∀ v,Q v):G6 P Q (newRow e cs):=⟨trivial,fun _=>h _⟩
theorem MS {P:Program}{Q:Addr->Prop}{e:TypeId}{v:Value}(h:∀ v,Q v):G6 P Q (newVar e v):=MK h
theorem MR {P:Program}{Q:Value->Prop}{a:Addr}{l:Bool}(h:∀ v,Q v):G6 P Q (asNumber a l):=⟨trivial,fun _=>h _⟩
theorem PV {P:Program}{Q:Value->Prop}{t:TypeId}{cs:Array Value}{o:Nat}(h:∀ v,Q v):G6 P Q (part t cs o):=by unfold part;repeat' first | with_reducible assumption | with_reducible exact G8 | with_reducible refine GZ (h _) | with_reducible apply Pf | with_reducible apply Ja | with_reducible refine GV ?_ | with_reducible apply GZ | with_reducible intro _ | split | dsimp only
theorem Ih {P:Program}{α:Type}{Q:α->Prop}{e:RuntimeError} :G6 P Q (runtimePanic e):=by unfold runtimePanic;repeat' first | with_reducible assumption | with_reducible exact Nw | with_reducible apply MS | with_reducible apply Pb | with_reducible apply JI | with_reducible refine GV ?_ | with_reducible intro _ | split | dsimp only
theorem JB {P:Program}{α:Type}{Q:α->Prop}{k:IntKind}{x y:Int}{c:BoundsCode} :G6 P Q (boundsPanic k x y c):=by unfold boundsPanic;repeat' first | with_reducible assumption | with_reducible refine GZ (h _) | with_reducible apply Ih | with_reducible apply Kn | with_reducible apply Uy | with_reducible refine GV ?_ | with_reducible apply GZ | with_reducible intro _ | split | dsimp only
theorem Lb {P:Program}{Q:IntKind × Int->Prop}{x:Value}(h:∀ v,Q v):G6 P Q (asIntOf x):=by unfold asIntOf;repeat' first | with_reducible assumption | with_reducible exact G8 | ((with_reducible refine G9 ?_);exact True.intro) | with_reducible refine GZ (h _) | with_reducible apply GZ | with_reducible intro _ | split | dsimp only
theorem LZ {P:Program}{Q:Int->Prop}{x:Value}(h:∀ v,Q v):G6 P Q (asInt x):=by unfold asInt;repeat' first | with_reducible assumption | with_reducible refine GZ (h _) | with_reducible apply Lb | with_reducible refine GV ?_ | with_reducible apply GZ | with_reducible intro _ | split | dsimp only
theorem Ma {P:Program}{Q:Bool->Prop}{x:Value}(h:∀ v,Q v):G6 P Q (asBool x):=by unfold asBool;repeat' first | with_reducible assumption | with_reducible exact G8 | with_reducible refine GZ (h _) | with_reducible apply GZ | with_reducible intro _ | split | dsimp only
theorem Oi {P:Program}{Q:ByteArray->Prop}{x:Value}(h:∀ v,Q v):G6 P Q (asString x):=by unfold asString;repeat' first | with_reducible assumption | with_reducible exact G8 | with_reducible refine GZ (h _) | with_reducible apply GZ | with_reducible intro _ | split | dsimp only
theorem Qv {P:Program}{Q:Array Value->Prop}{x:Value}(h:∀ v,Q v):G6 P Q (asAgg x):=by unfold asAgg;repeat' first | with_reducible assumption | with_reducible exact G8 | with_reducible refine GZ (h _) | with_reducible apply GZ | with_reducible intro _ | split | dsimp only
theorem Km {P:Program}{Q:Addr->Prop}{x:Value}(h:∀ v,Q v):G6 P Q (asAddr x):=by unfold asAddr;repeat' first | with_reducible assumption | with_reducible exact G8 | with_reducible refine GZ (h _) | with_reducible apply Ih | with_reducible apply GZ | with_reducible intro _ | split | dsimp only
theorem JU {P:Program}{Q:Addr->Prop}{x:Value}(h:∀ v,Q v):G6 P Q (Instr.sureAddr x):=by unfold Instr.sureAddr;repeat' first | with_reducible assumption | with_reducible exact G8 | with_reducible refine GZ (h _) | with_reducible apply GZ | with_reducible intro _ | split | dsimp only
theorem MG {P:Program}{Q:Unit->Prop}{n:Nat}(h:∀ v,Q v):G6 P Q (askRoom n):=by
  unfold askRoom;split
  . exact ⟨trivial,h _⟩
  . exact h _
theorem MN {P:Program}{Q:Option (Addr × TypeId)->Prop}{r:Nat}(h:∀ v,Q v):G6 P Q (viewAt r):=by
  refine ⟨fun s=>?_,fun e n=>.inr rfl⟩;cases s with
  | some x=>exact h _
  | none=>exact ⟨fun o=>by cases o <;> exact h _,fun c e=>.inr rfl⟩
theorem LU {P:Program}{Q:Option (Addr × Bool)->Prop}{r:Nat}(h:∀ v,Q v):G6 P Q (numberAt r):=by
  refine ⟨fun s=>?_,fun e n=>.inr rfl⟩;cases s with
  | some x=>exact h _
  | none=>exact ⟨fun o=>by cases o <;> exact h _,fun c e=>.inr rfl⟩
theorem Jk {P:Program}{Q:Addr × Bool->Prop}{n:Addr}(h:∀ v,Q v):G6 P Q (behindNumber n):=by unfold behindNumber;repeat' first | with_reducible assumption | with_reducible refine GZ (h _) | with_reducible apply LU | with_reducible refine GV ?_ | with_reducible apply GZ | with_reducible intro _ | split | dsimp only
theorem O6 {P:Program}{Q:Unit->Prop}{a:Addr}(h:∀ v,Q v):G6 P Q (noView a):=by unfold noView;repeat' first | with_reducible assumption | ((with_reducible refine G9 ?_);exact True.intro) | with_reducible refine GZ (h _) | with_reducible apply MN | with_reducible refine GV ?_ | with_reducible apply GZ | with_reducible intro _ | split | dsimp only
theorem Me {P:Program}{Q:Nat->Prop}{a:Addr}(h:∀ v,Q v):G6 P Q (byteOf a):=by
  unfold byteOf;split
  . exact h _
  refine GV (JI ?_);refine GV (O6 fun _=>?_);refine ⟨fun s=>?_,fun e n=>.inr rfl⟩;cases s with
  | none=>exact trivial
  | some x=>
    show G6 P Q _;dsimp only [bind,Sem.bind];repeat' first | exact trivial | exact h _ | split
theorem OZ {P:Program}{Q:Addr->Prop}{a:Addr}{c b:Nat}(h:∀ v,Q v):G6 P Q (partAt a c b):=by unfold partAt;repeat' first | with_reducible assumption | with_reducible refine GZ (h _) | with_reducible apply Me | with_reducible refine GV ?_ | with_reducible apply GZ | with_reducible intro _ | split | dsimp only
theorem Lh {P:Program}{Q:Addr->Prop}{a:Addr}{f:Field}(h:∀ v,Q v):G6 P Q (fieldPlace a f):=by unfold fieldPlace;repeat' first | with_reducible assumption | with_reducible refine GZ (h _) | with_reducible apply OZ | with_reducible apply Ja | with_reducible refine GV ?_ | with_reducible apply GZ | with_reducible intro _ | split | dsimp only
theorem OO {P:Program}{Q:Value->Prop}{t:TypeId}{a:Value}(h:∀ v,Q v):G6 P Q (Instr.loadAt t a):=by unfold Instr.loadAt;repeat' first | with_reducible assumption | with_reducible apply JU | with_reducible apply ME | with_reducible refine GV ?_ | with_reducible intro _ | split | dsimp only
theorem Nz {P:Program}{Q:Value->Prop}{t:TypeId}{a:Value}{f:Nat}(h:∀ v,Q v):G6 P Q (Instr.fieldAt t a f):=by unfold Instr.fieldAt;repeat' first | with_reducible assumption | with_reducible exact G8 | with_reducible refine GZ (h _) | with_reducible apply Lh | with_reducible apply JU | with_reducible apply Hy | with_reducible refine GV ?_ | with_reducible apply GZ | with_reducible intro _ | split | dsimp only
theorem Ny {P:Program}{Q:Value->Prop}{t:TypeId}{a i:Value}(h:∀ v,Q v):G6 P Q (Instr.indexAt t a i):=by unfold Instr.indexAt;repeat' first | with_reducible assumption | with_reducible exact G8 | ((with_reducible refine G9 ?_);exact True.intro) | with_reducible refine GZ (h _) | with_reducible apply JU | with_reducible apply Lb | with_reducible apply JB | with_reducible apply Ja | with_reducible apply Hy | with_reducible refine GV ?_ | with_reducible apply GZ | with_reducible intro _ | split | dsimp only
theorem Qw {P:Program}{Q:Value->Prop}{t:TypeId}{b:Bool}{v:Value}(h:∀ v,Q v):G6 P Q (Instr.alloc t b v):=by unfold Instr.alloc;repeat' first | with_reducible assumption | with_reducible refine GZ (h _) | with_reducible apply MS | with_reducible apply LP | with_reducible apply JM | with_reducible refine GV ?_ | with_reducible apply GZ | with_reducible intro _ | split | dsimp only
theorem Xg {P:Program}{Q:Value->Prop}{t:TypeId}{v:Value}(h:∀ v,Q v):G6 P Q (Instr.box t v):=by unfold Instr.box;repeat' first | with_reducible assumption | with_reducible refine GZ (h _) | with_reducible apply MS | with_reducible refine GV ?_ | with_reducible apply GZ | with_reducible intro _ | split | dsimp only
theorem NM {P:Program}{Q:Value->Prop}{v:Value}{i:Nat}(h:∀ v,Q v):G6 P Q (Instr.extract v i):=by unfold Instr.extract;repeat' first | with_reducible assumption | with_reducible exact G8 | with_reducible refine GZ (h _) | with_reducible apply GZ | with_reducible intro _ | split | dsimp only
theorem Qy {P:Program}{Q:Value->Prop}{t:TypeId}{v:Value}{i:Nat}(h:∀ v,Q v):G6 P Q (Instr.field t v i):=by unfold Instr.field;repeat' first | with_reducible assumption | with_reducible exact G8 | with_reducible apply Qv | with_reducible apply PV | with_reducible apply Hy | with_reducible refine GV ?_ | with_reducible intro _ | split | dsimp only
theorem Qs {P:Program}{Q:Value->Prop}{t:TypeId}{v i:Value}(h:∀ v,Q v):G6 P Q (Instr.index t v i):=by unfold Instr.index;repeat' first | with_reducible assumption | with_reducible exact G8 | with_reducible refine GZ (h _) | with_reducible apply Lb | with_reducible apply JB | with_reducible apply PV | with_reducible apply Ja | with_reducible apply Hy | with_reducible refine GV ?_ | with_reducible apply GZ | with_reducible intro _ | split | dsimp only
theorem NK {P:Program}{Q:Unit->Prop}{t:TypeId}{a v:Value}(h:∀ v,Q v):G6 P Q (Instr.storeAt t a v):=by unfold Instr.storeAt;repeat' first | with_reducible assumption | with_reducible apply JU | with_reducible apply LP | with_reducible refine GV ?_ | with_reducible intro _ | split | dsimp only
theorem Lg {P:Program}{Q:Nat->Prop}{x:Value}{y:Nat}{c:BoundsCode}(h:∀ v,Q v):G6 P Q (Instr.sliceBound x y c):=by unfold Instr.sliceBound;repeat' first | with_reducible assumption | with_reducible refine GZ (h _) | with_reducible apply Lb | with_reducible apply JB | with_reducible refine GV ?_ | with_reducible apply GZ | with_reducible intro _ | split | dsimp only
theorem J8 {P:Program}{Q:(Nat × Nat × Nat)->Prop}{b:Bool}{l c:Nat}{x y z:Option Value}(h:∀ v,Q v):G6 P Q (Instr.sliceBounds b l c x y z):=by unfold Instr.sliceBounds;repeat' first | with_reducible assumption | with_reducible exact G8 | with_reducible refine GZ (h _) | with_reducible apply Lg | with_reducible refine GV ?_ | with_reducible apply GZ | with_reducible intro _ | split | dsimp only
theorem Qg {P:Program}{Q:Value->Prop}{t:TypeId}{v:Value}{x y z:Option Value}(h:∀ v,Q v):G6 P Q (Instr.slice t v x y z):=by unfold Instr.slice;repeat' first | with_reducible assumption | with_reducible exact G8 | with_reducible refine GZ (h _) | with_reducible apply J8 | with_reducible apply Km | with_reducible apply Ja | with_reducible apply Hy | with_reducible refine GV ?_ | with_reducible apply GZ | with_reducible intro _ | split | dsimp only
theorem Nu {P:Program}{Q:Value->Prop}{t:TypeId}{v:Value}{x y z:Option Value}(h:∀ v,Q v):G6 P Q (Instr.sliceAt t v x y z):=by unfold Instr.sliceAt;repeat' first | with_reducible assumption | with_reducible refine GZ (h _) | with_reducible apply Qg | with_reducible apply J8 | with_reducible apply JU | with_reducible apply Ja | with_reducible apply Hy | with_reducible refine GV ?_ | with_reducible apply GZ | with_reducible intro _ | split | dsimp only
theorem L9 {P:Program}{Q:Value->Prop}{t:TypeId}{x y:Value}(h:∀ v,Q v):G6 P Q (Instr.makeSlice t x y):=by unfold Instr.makeSlice;repeat' first | with_reducible assumption | with_reducible exact G8 | with_reducible refine GZ (h _) | with_reducible apply MG | with_reducible apply LZ | with_reducible apply Ih | with_reducible apply MK | with_reducible apply Ja | with_reducible apply JM | with_reducible apply IJ | with_reducible apply Hy | with_reducible apply Kn | with_reducible refine GV ?_ | with_reducible apply GZ | with_reducible intro _ | split | dsimp only
theorem J3 {P:Program}{Q:Value->Prop}{t:TypeId}{x:Value}(h:∀ v,Q v):G6 P Q (Instr.makeInterface t x):=by unfold Instr.makeInterface;repeat' first | with_reducible assumption | with_reducible exact G8 | with_reducible refine GZ (h _) | with_reducible apply Hy | with_reducible refine GV ?_ | with_reducible apply GZ | with_reducible intro _ | split | dsimp only
theorem MW {P:Program}{Q:Value->Prop}{f:Fn}{x y:Array Value}(h:∀ v,Q v):G6 P Q (Instr.makeFunc f x y):=by unfold Instr.makeFunc;repeat' first | with_reducible assumption | with_reducible refine GZ (h _) | with_reducible apply GZ | with_reducible intro _ | split | dsimp only
theorem KY {P:Program}{Q:Value->Prop}{o:BinOp}{k:IntKind}{x y:Int}(h:∀ v,Q v):G6 P Q (Op.intArith o k x y):=by unfold Op.intArith;repeat' first | with_reducible assumption | with_reducible exact G8 | with_reducible refine GZ (h _) | with_reducible apply GZ | with_reducible intro _ | split | dsimp only
theorem OY {P:Program}{Q:Value->Prop}{o:BinOp}{k:IntKind}{x y:Int}(h:∀ v,Q v):G6 P Q (Op.intDiv o k x y):=by unfold Op.intDiv;repeat' first | with_reducible assumption | with_reducible exact G8 | with_reducible refine GZ (h _) | with_reducible apply Ih | with_reducible apply GZ | with_reducible intro _ | split | dsimp only
theorem MC {P:Program}{Q:Value->Prop}{o:BinOp}{k:IntKind}{x y:Int}(h:∀ v,Q v):G6 P Q (Op.intBits o k x y):=by unfold Op.intBits;repeat' first | with_reducible assumption | with_reducible exact G8 | with_reducible refine GZ (h _) | with_reducible apply GZ | with_reducible intro _ | split | dsimp only
theorem Qo {P:Program}{Q:Value->Prop}{o:BinOp}{k k':IntKind}{x y:Int}(h:∀ v,Q v):G6 P Q (Op.shift o k x k' y):=by unfold Op.shift;repeat' first | with_reducible assumption | with_reducible exact G8 | with_reducible refine GZ (h _) | with_reducible apply Ih | with_reducible apply GZ | with_reducible intro _ | split | dsimp only
theorem O5 {P:Program}{Q:Value->Prop}{o:BinOp}{x y:Int}(h:∀ v,Q v):G6 P Q (Op.intCmp o x y):=by unfold Op.intCmp;repeat' first | with_reducible assumption | with_reducible exact G8 | with_reducible refine GZ (h _) | with_reducible apply GZ | with_reducible intro _ | split | dsimp only
theorem KD {P:Program}{Q:Value->Prop}{o:BinOp}{k:FloatKind}{x y:Nat}(h:∀ v,Q v):G6 P Q (Op.floatArith o k x y):=by unfold Op.floatArith;repeat' first | with_reducible assumption | with_reducible exact G8 | with_reducible refine GZ (h _) | with_reducible apply Kn | with_reducible refine GV ?_ | with_reducible apply GZ | with_reducible intro _ | split | dsimp only
theorem LJ {P:Program}{Q:Value->Prop}{o:BinOp}{k:FloatKind}{x y:Nat}(h:∀ v,Q v):G6 P Q (Op.floatCmp o k x y):=by unfold Op.floatCmp;repeat' first | with_reducible assumption | with_reducible exact G8 | with_reducible refine GZ (h _) | with_reducible apply GZ | with_reducible intro _ | split | dsimp only
theorem K4 {P:Program}{Q:Value->Prop}{o:BinOp}{x y:ByteArray}(h:∀ v,Q v):G6 P Q (Op.stringOp o x y):=by unfold Op.stringOp;repeat' first | with_reducible assumption | with_reducible exact G8 | ((with_reducible refine G9 ?_);exact True.intro) | with_reducible refine GZ (h _) | with_reducible apply GZ | with_reducible intro _ | split | dsimp only
theorem QB {P:Program}{Q:Value->Prop}{o:UnOp}{x:Value}(h:∀ v,Q v):G6 P Q (Op.unary o x):=by unfold Op.unary;repeat' first | with_reducible assumption | with_reducible exact G8 | ((with_reducible refine G9 ?_);exact True.intro) | with_reducible refine GZ (h _) | with_reducible apply MC | with_reducible apply KY | with_reducible apply GZ | with_reducible intro _ | split | dsimp only
theorem Kk {P:Program}{Q:Value->Prop}{a b:FloatKind}{x:Nat}(h:∀ v,Q v):G6 P Q (Conv.floatToFloat a x b):=by unfold Conv.floatToFloat;repeat' first | with_reducible assumption | with_reducible refine GZ (h _) | with_reducible apply Kn | with_reducible refine GV ?_ | with_reducible apply GZ | with_reducible intro _ | split | dsimp only
theorem Mf {P:Program}{Q:Nat->Prop}{o:BinOp}{k:FloatKind}{x y:Nat}(h:∀ v,Q v):G6 P Q (Op.Complex.arith o k x y):=by unfold Op.Complex.arith;repeat' first | with_reducible assumption | with_reducible exact G8 | with_reducible refine GZ (h _) | with_reducible apply KD | with_reducible refine GV ?_ | with_reducible apply GZ | with_reducible intro _ | split | dsimp only
theorem QT {P:Program}{Q:Bool->Prop}{o:BinOp}{k:FloatKind}{x y:Nat}(h:∀ v,Q v):G6 P Q (Op.Complex.cmp o k x y):=by unfold Op.Complex.cmp;repeat' first | with_reducible assumption | with_reducible apply LJ | with_reducible apply Ma | with_reducible refine GV ?_ | with_reducible intro _ | split | dsimp only
theorem QC {P:Program}{Q:Nat->Prop}{a b:FloatKind}{x:Nat}(h:∀ v,Q v):G6 P Q (Op.Complex.conv a x b):=by unfold Op.Complex.conv;repeat' first | with_reducible assumption | with_reducible exact G8 | with_reducible refine GZ (h _) | with_reducible apply Kk | with_reducible refine GV ?_ | with_reducible apply GZ | with_reducible intro _ | split | dsimp only
theorem MJ {P:Program}{Q:(Nat × Nat)->Prop}{a b c d:Nat}(h:∀ v,Q v):G6 P Q (Op.Complex.product a b c d):=by unfold Op.Complex.product Op.Complex.mul Op.Complex.sub Op.Complex.add;repeat' first | with_reducible assumption | with_reducible refine GZ (h _) | with_reducible apply Mf | with_reducible refine GV ?_ | with_reducible apply GZ | with_reducible intro _ | split | dsimp only
theorem Lp {P:Program}{Q:(Nat × Nat)->Prop}{s a b c d:Nat}(h:∀ v,Q v):G6 P Q (Op.Complex.corrected s a b c d):=by unfold Op.Complex.corrected Op.Complex.mul Op.Complex.sub Op.Complex.add;repeat' first | with_reducible assumption | with_reducible refine GZ (h _) | with_reducible apply Mf | with_reducible refine GV ?_ | with_reducible apply GZ | with_reducible intro _ | split | dsimp only
theorem L8 {P:Program}{Q:(Nat × Nat)->Prop}{a b c d:Nat}(h:∀ v,Q v):G6 P Q (Op.Complex.quotient a b c d):=by unfold Op.Complex.quotient Op.Complex.mul Op.Complex.sub Op.Complex.add Op.Complex.quo;repeat' first | with_reducible assumption | with_reducible refine GZ (h _) | with_reducible apply Lp | with_reducible apply QT | with_reducible apply Mf | with_reducible refine GV ?_ | with_reducible apply GZ | with_reducible intro _ | split | dsimp only
theorem Mc {P:Program}{Q:Value->Prop}{o:BinOp}{k:FloatKind}{a b c d:Nat}(h:∀ v,Q v):G6 P Q (Op.complexOp o k a b c d):=by unfold Op.complexOp;repeat' first | with_reducible assumption | with_reducible exact G8 | with_reducible refine GZ (h _) | with_reducible apply L8 | with_reducible apply MJ | with_reducible apply QC | with_reducible apply QT | with_reducible apply Mf | with_reducible refine GV ?_ | with_reducible apply GZ | with_reducible intro _ | split | dsimp only
theorem K9 {P:Program}{Q:(Nat × Nat)->Prop}{a b:Addr}(h:∀ v,Q v):G6 P Q (Op.twoPlaces a b):=by unfold Op.twoPlaces;repeat' first | with_reducible assumption | ((with_reducible refine G9 ?_);exact True.intro) | with_reducible refine GZ (h _) | with_reducible apply Me | with_reducible apply JI | with_reducible refine GV ?_ | with_reducible apply GZ | with_reducible intro _ | split | dsimp only
theorem NQ {P:Program}{Q:Value->Prop}{k:IntKind}{a b:Addr}(h:∀ v,Q v):G6 P Q (Op.addrSub k a b):=by unfold Op.addrSub;repeat' first | with_reducible assumption | with_reducible refine GZ (h _) | with_reducible apply K9 | with_reducible refine GV ?_ | with_reducible apply GZ | with_reducible intro _ | split | dsimp only
theorem Nt {P:Program}{Q:Value->Prop}{o:BinOp}{a b:Addr}(h:∀ v,Q v):G6 P Q (Op.addrCmp o a b):=by unfold Op.addrCmp;repeat' first | with_reducible assumption | ((with_reducible refine G9 ?_);exact True.intro) | with_reducible refine GZ (h _) | with_reducible apply K9 | with_reducible refine GV ?_ | with_reducible apply GZ | with_reducible intro _ | split | dsimp only
theorem ND {P:Program}{Q:Value->Prop}{k:IntKind}{a:Addr}{n:Int}(h:∀ v,Q v):G6 P Q (Op.addrMod k a n):=by
  refine ⟨fun s=>?_,fun e n=>.inr rfl⟩;cases s with
  | none=>exact trivial
  | some x=>
    show G6 P Q (typeInfo x.1 >>= fun i=>_);dsimp only;repeat' first | with_reducible assumption | ((with_reducible refine G9 ?_);exact True.intro) | with_reducible refine GZ (h _) | with_reducible apply Me | with_reducible apply IJ | with_reducible refine GV ?_ | with_reducible apply GZ | with_reducible intro _ | split | dsimp only
theorem La {P:Program}{Q:Value->Prop}{x:Array TypeId}{t:TypeId}{args:Array Value}(h:∀ v,Q v):G6 P Q (Builtin.unsafeAdd_ x t args):=by
  have key:∀ (a:Addr) (n:Int),G6 P Q (do
      let some (e, cells) ← shape a.block | unsupported (.unsafePointer "Add")
      let p ← program
      match cellAtBytes p p.depth e (cells / p.cellsOf e) a.off n with
      | some off=>pure (Value.pointer (some { a with off }))
      | none => unsupported (.unsafePointer "Add")) := by
    intro a n;refine ⟨fun s=>?_,fun e c=>.inl ?_⟩
    . cases s with
      | none=>exact trivial
      | some x=>
        show G6 P Q (match cellAtBytes P P.depth x.1 (x.2 / P.cellsOf x.1) a.off n with
          | some off=>pure (Value.pointer (some { a with off }))
          | none => unsupported (.unsafePointer "Add"))
        split
        . exact h _
        . exact trivial
    . intro w;have:cellAtBytes P P.depth e (0 / P.cellsOf e) a.off n=none:=by
        unfold cellAtBytes;simp only [Nat.zero_div];split
        . rfl
        . cases hb:byteOfCell P P.depth e (a.off % P.cellsOf e) with
          | none=>rfl
          | some here=>
            show (if _ then _ else _)=_;rw [if_pos]
            . rfl
            . rw [Bool.or_eq_true,decide_eq_true_eq,decide_eq_true_eq,Nat.zero_mul];exact Int.lt_or_le _ _
      show Jp ((match cellAtBytes P P.depth e (0 / P.cellsOf e) a.off n with
          | some off=>pure (Value.pointer (some { a with off }))
          | none => unsupported (.unsafePointer "Add") : Sem Value).run P w) = none
      rw [this];rfl
  unfold Builtin.unsafeAdd_;rcases args with ⟨_|⟨a,_|⟨b,_|⟨c,r⟩⟩⟩⟩
  . exact trivial
  . cases a <;> exact trivial
  rotate_left
  . cases a <;> exact trivial
  cases a <;> try exact trivial
  show G6 P Q (asInt b >>= _);repeat' first | exact key _ _ | with_reducible assumption | ((with_reducible refine G9 ?_);exact True.intro) | with_reducible refine GZ (h _) | with_reducible apply MN | with_reducible apply LZ | with_reducible refine GV ?_ | with_reducible apply GZ | with_reducible intro _ | split | dsimp only
theorem KL {P:Program}{Q:Value->Prop}{t:TypeId}{x y:Value}(h:∀ v,Q v):G6 P Q (movedNumber t x y):=by unfold movedNumber;repeat' first | with_reducible assumption | ((with_reducible refine G9 ?_);exact True.intro) | with_reducible refine GZ (h _) | with_reducible apply La | with_reducible apply Jk | with_reducible apply MR | with_reducible apply Hy | with_reducible refine GV ?_ | with_reducible apply GZ | with_reducible intro _ | split | dsimp only
theorem Kw {P:Program}{Q:Value->Prop}{t:TypeId}{x y:Value}(h:∀ v,Q v):G6 P Q (movedPointer t x y):=by unfold movedPointer;repeat' first | with_reducible assumption | ((with_reducible refine G9 ?_);exact True.intro) | with_reducible apply La | with_reducible apply LU | with_reducible refine GV ?_ | with_reducible intro _ | split | dsimp only
theorem RP {P:Program}{Q:Value->Prop}{o:BinOp}{t:TypeId}{x y:Value}(heq:o=.eql\/o=.neq->∀ Q':Bool->Prop,(∀ v,Q' v)->G6 P Q' (Op.equal t x y))(h:∀ v,Q v):G6 P Q (binOp o t x y):=by
  unfold binOp
  repeat' first | with_reducible refine heq (.inl rfl) _ (fun _=>?_) | with_reducible refine heq (.inr rfl) _ (fun _=>?_) | with_reducible assumption | with_reducible exact G8 | ((with_reducible refine G9 ?_);exact True.intro) | with_reducible refine GZ (h _) | with_reducible apply Kw | with_reducible apply KL | with_reducible apply ND | with_reducible apply Nt | with_reducible apply NQ | with_reducible apply Mc | with_reducible apply K4 | with_reducible apply LJ | with_reducible apply KD | with_reducible apply O5 | with_reducible apply Qo | with_reducible apply MC | with_reducible apply OY | with_reducible apply KY | with_reducible apply Jk | with_reducible apply Hy | with_reducible refine GV ?_ | with_reducible apply GZ | with_reducible intro _ | split | dsimp only
def P6 (P:Program)(t:TypeId):Bool:=
  match P.underlying t with
  | some (.int _) | some .string | some .bool | some (.slice _)=>true
  | _=>false
theorem Uf {P:Program}{Q:Bool->Prop}{t:TypeId}{x y:Value}(ht:P6 P t=true)(h:∀ v,Q v):G6 P Q (Op.equal t x y):=by
  unfold Op.equal;generalize Op.maxDepth=d;cases d with
  | zero=>exact trivial
  | succ d=>
    unfold Op.equalIn;refine GV (Jr fun u hu=>?_);unfold P6 at ht;rw [hu] at ht;cases u <;> simp only [Bool.false_eq_true] at ht
    all_goals
      repeat' first | contradiction | with_reducible assumption | with_reducible exact G8 | ((with_reducible refine G9 ?_);exact True.intro) | with_reducible refine GZ (h _) | with_reducible apply Me | with_reducible apply Jk | with_reducible apply IJ | with_reducible apply JI | with_reducible refine GV ?_ | with_reducible apply GZ | with_reducible intro _ | split | dsimp only
theorem RA {P:Program}{Q:Unit->Prop}{o:BinOp}{t:TypeId}{a b:Operand}{x y:Value}(ht:P6 P t=true)(h:∀ v,Q v):G6 P Q (eqGuard o t a b x y):=by
  have key:∀ (Q':Bool->Prop),(∀ v,Q' v)->G6 P Q' (Op.eqGuardIn Op.maxDepth t x y):=by
    intro Q' h;generalize Op.maxDepth=d;cases d with
    | zero=>exact trivial
    | succ d=>
      unfold Op.eqGuardIn;refine GV (Jr fun u hu=>?_);unfold P6 at ht;rw [hu] at ht;cases u <;> simp only [Bool.false_eq_true] at ht
      all_goals exact h _
  unfold eqGuard;repeat' first | with_reducible assumption | ((with_reducible refine G9 ?_);exact True.intro) | with_reducible refine GZ (h _) | with_reducible refine key _ (fun _=>?_) | with_reducible apply JI | with_reducible refine GV ?_ | with_reducible apply GZ | with_reducible intro _ | split | dsimp only
theorem PG {P:Program}{α:Type}{Q:α->Prop}{r:Nat}{f:Obj->Sem α}(h1:∀ o,G6 P Q (f o))(h2:∀ c e,Dead P (f (.coro none))\/f (.pending c e)=f (.coro none)):G6 P Q (getObj r >>= f):=⟨h1,h2⟩
theorem Xa {P:Program}{Q:Value->Prop}{a:Array TypeId}{t:TypeId}{v:Array Value}(h:∀ v,Q v):G6 P Q (Builtin.len_ a t v):=by unfold Builtin.len_;repeat' first | with_reducible assumption | with_reducible exact G8 | with_reducible refine GZ (h _) | (with_reducible refine PG (fun _=>?_) (fun _ _=>.inr rfl)) | with_reducible apply Hy | with_reducible refine GV ?_ | with_reducible apply GZ | with_reducible intro _ | split | dsimp only
theorem WG {P:Program}{Q:Value->Prop}{a:Array TypeId}{t:TypeId}{v:Array Value}(h:∀ v,Q v):G6 P Q (Builtin.cap_ a t v):=by unfold Builtin.cap_;repeat' first | with_reducible assumption | with_reducible exact G8 | with_reducible refine GZ (h _) | (with_reducible refine PG (fun _=>?_) (fun _ _=>.inr rfl)) | with_reducible apply Hy | with_reducible refine GV ?_ | with_reducible apply GZ | with_reducible intro _ | split | dsimp only
theorem Pm {P:Program}{Q:Nat->Prop}{v:Value}(h:∀ v,Q v):G6 P Q (Builtin.lenOf v):=by unfold Builtin.lenOf;repeat' first | with_reducible assumption | with_reducible exact G8 | with_reducible refine GZ (h _) | with_reducible apply GZ | with_reducible intro _ | split | dsimp only
theorem KC {P:Program}{Q:Array Value->Prop}{s n:Nat}{v:Value}(h:∀ v,Q v):G6 P Q (Builtin.firstCells s n v):=by unfold Builtin.firstCells;repeat' first | with_reducible assumption | with_reducible exact G8 | with_reducible refine GZ (h _) | with_reducible apply K5 | with_reducible apply GZ | with_reducible intro _ | split | dsimp only
theorem TA {P:Program}{Q:Value->Prop}{a:Array TypeId}{t:TypeId}{v:Array Value}(h:∀ v,Q v):G6 P Q (Builtin.copy_ a t v):=by unfold Builtin.copy_;repeat' first | with_reducible assumption | with_reducible exact G8 | with_reducible refine GZ (h _) | with_reducible apply KC | with_reducible apply Pm | with_reducible apply Ju | with_reducible apply Ja | with_reducible apply Hy | with_reducible refine GV ?_ | with_reducible apply GZ | with_reducible intro _ | split | dsimp only
theorem Tq {P:Program}{Q:Value->Prop}{x y:Value}(h:∀ v,Q v):G6 P Q (Builtin.max2 x y):=by unfold Builtin.max2;repeat' first | with_reducible assumption | with_reducible exact G8 | ((with_reducible refine G9 ?_);exact True.intro) | with_reducible refine GZ (h _) | with_reducible apply K4 | with_reducible apply Ma | with_reducible apply Kn | with_reducible refine GV ?_ | with_reducible apply GZ | with_reducible intro _ | split | dsimp only
theorem Ta {P:Program}{Q:Value->Prop}{x y:Value}(h:∀ v,Q v):G6 P Q (Builtin.min2 x y):=by unfold Builtin.min2;repeat' first | with_reducible assumption | with_reducible exact G8 | ((with_reducible refine G9 ?_);exact True.intro) | with_reducible refine GZ (h _) | with_reducible apply K4 | with_reducible apply Ma | with_reducible apply Kn | with_reducible refine GV ?_ | with_reducible apply GZ | with_reducible intro _ | split | dsimp only
theorem Xb {P:Program}{Q:Value->Prop}{f:Value->Value->Sem Value}(hf:∀ (Q':Value->Prop) a b,(∀ v,Q' v)->G6 P Q' (f a b))(h:∀ v,Q v):∀ {l:List Value} {x:Value},G6 P Q (l.foldlM f x):=by
  intro l;induction l with
  | nil=>intro x;exact h x
  | cons y l ih=>
    intro x;rw [List.foldlM_cons];exact GV (hf _ _ _ fun _=>ih)
theorem VZ {P:Program}{Q:Value->Prop}{a:Array TypeId}{t:TypeId}{v:Array Value}(h:∀ v,Q v):G6 P Q (Builtin.max_ a t v):=by
  unfold Builtin.max_;split
  . exact trivial
  . exact Xb (fun _ _ _ h=>Tq h) h
theorem Xv {P:Program}{Q:Value->Prop}{a:Array TypeId}{t:TypeId}{v:Array Value}(h:∀ v,Q v):G6 P Q (Builtin.min_ a t v):=by
  unfold Builtin.min_;split
  . exact trivial
  . exact Xb (fun _ _ _ h=>Ta h) h
theorem M9 {P:Program}{α:Type}{Q:α->Prop}{a:Addr}{n:Nat}{f:Bool->Sem α}(hf:∀ b,G6 P Q (f b))(hd:∀ b,Dead P (f b)):G6 P Q (Builtin.holdsCells a n >>= f):=by
  refine ⟨fun s=>?_,fun e c=>.inl ?_⟩
  . cases s with
    | none=>exact hf _
    | some x=>exact hf _
  . exact hd _
theorem RF {P:Program}{α:Type}{a:Addr}{n:Nat}{f:Bool->Sem α}(hd:∀ b,Dead P (f b)):Dead P (Builtin.holdsCells a n >>= f):=by intro w;show Jp ((Sem.bind (Sem.shape a.block Sem.pure) _).run P w)=none;show Jp ((Sem.bind ((match w.shape? a.block with | some (_,n')=>pure (a.spot.isNone && a.off+n<=n') | none=>pure false):Sem Bool) f).run P w)=none;split <;> exact hd _ w
theorem Wp {P:Program}{α:Type}{a:Addr}{f:Bool->Sem α}(hd:∀ b,Dead P (f b)):Dead P (frozen a >>= f):=fun w=>hd _ w
theorem TN {P:Program}{α:Type}{Q:α->Prop}{a:Addr}{f:Bool->Sem α}(hf:∀ b,G6 P Q (f b))(hd:∀ b,Dead P (f b)):G6 P Q (frozen a >>= f):=
  ⟨fun b=>hf b,fun w es h=>absurd (by rw [Sem.runT_fst];exact hd true w) h⟩
theorem Um {P:Program}{α:Type}{Q:α->Prop}{size sLen n:Nat}{base:Option Addr}{x:Value}{f:Bool->Sem α}(hf:∀ b,G6 P Q (f b))(hd:∀ b,Dead P (f b)) :
    G6 P Q (Builtin.mayShare size sLen n base x >>= f):=by
  have tail:∀ there:Bool,G6 P Q ((do
      if !there then return true
      match x with
      | .slice (some b) _ _=>do pure (!(← Builtin.holdsCells b (n * size)) || base.any (·.block == b.block))
      | _=>pure false:Sem Bool) >>= f)/\Dead P ((do
      if !there then return true
      match x with
      | .slice (some b) _ _=>do pure (!(← Builtin.holdsCells b (n * size)) || base.any (·.block == b.block))
      | _=>pure false:Sem Bool) >>= f):=by
    intro there;cases there with
    | false=>exact ⟨hf _,fun w=>hd _ w⟩
    | true=>
      cases x with
      | slice b l c=>
        cases b with
        | none=>exact ⟨hf _,fun w=>hd _ w⟩
        | some b=>
          constructor
          . show G6 P Q ((Builtin.holdsCells b (n * size) >>= fun v=>pure (!v || base.any (·.block == b.block))) >>= f);rw [bind_assoc];exact M9 (fun _=>hf _) (fun _=>hd _)
          . show Dead P ((Builtin.holdsCells b (n * size) >>= fun v=>pure (!v || base.any (·.block == b.block))) >>= f);rw [bind_assoc];exact RF (fun _=>hd _)
      | _=>exact ⟨hf _,fun w=>hd _ w⟩
  unfold Builtin.mayShare;cases base with
  | none=>exact (tail true).1
  | some a=>
    dsimp only;rw [bind_assoc];refine M9 (fun v=>?_) (fun v=>?_)
    . rw [bind_assoc];exact TN (fun z=>(tail (v && !z)).1) fun z=>(tail (v && !z)).2
    . rw [bind_assoc];exact Wp fun z=>(tail (v && !z)).2
theorem O4 {P:Program}{Q:Value->Prop}{a:Array TypeId}{t:TypeId}{v:Array Value}(h:∀ v,Q v):G6 P Q (Builtin.append_ a t v):=by
  have huge:∀ {α:Type} {Q:α->Prop} {size sLen n:Nat} {base:Option Addr} {x:Value} {u:Unsupported},Zq u->G6 P Q (do
      if !(← Builtin.mayShare size sLen n base x) then mark .noRoom
      unsupported u:Sem α):=by
    intro α Q size sLen n base x u hu;refine Um (fun b=>?_) (fun b=>?_)
    . cases b <;> simp only [Bool.not_true,Bool.not_false,Bool.false_eq_true,↓reduceIte]
      . exact ⟨trivial,hu⟩
      . exact hu
    . cases b <;> (intro w;rfl)
  unfold Builtin.append_;repeat' first | with_reducible assumption | with_reducible exact G8 | with_reducible refine GZ (h _) | ((with_reducible refine huge ?_);exact True.intro) | with_reducible refine Ju (fun _=>?_) | with_reducible apply KC | with_reducible apply Pm | with_reducible apply MG | with_reducible apply LZ | with_reducible apply Ih | with_reducible apply MK | with_reducible apply Ju | with_reducible apply Ja | with_reducible apply JM | with_reducible apply IJ | with_reducible apply Hy | with_reducible apply Kn | with_reducible refine GV ?_ | with_reducible apply GZ | with_reducible intro _ | simp only [Bool.not_true,Bool.not_false,Bool.false_eq_true,↓reduceIte] | split | dsimp only
end Go.LT
