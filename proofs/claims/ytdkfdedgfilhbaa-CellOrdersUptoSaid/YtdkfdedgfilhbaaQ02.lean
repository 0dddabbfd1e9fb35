/-
  Part 2 of the proof that CellOrders is true of every input of bulk at most 1048576.
-/
import Derived.Test.YtdkfdedgfilhbaaQ01
import GoSem.Dispatch
import GoSem.Step
import Derived.Conc.Own
import Derived.Conc.Listed
import Derived.CallsIn
set_option linter.unusedVariables false
set_option linter.unusedSectionVars false
set_option linter.unusedSimpArgs false
set_option maxHeartbeats 4000000
noncomputable section
namespace Go.LT
open Go
theorem ER{P:Program}{α:Type}{Q:α->Prop}{s:String}:EL P Q (stuck s):=trivial
theorem ES{P:Program}{α:Type}{Q:α->Prop}{u:Unsupported}(h:Y2 u):EL P Q (unsupported u):=h
theorem Lu{P:Program}{α:Type}{Q:α->Prop}{v:Value}:EL P Q (goPanic v):=trivial
theorem EJ{P:Program}{α:Type}{Q:α->Prop}{a:α}(h:Q a):EL P Q (pure a):=h
theorem Hw{P:Program}{Q:Program->Prop}(h:Q P):EL P Q program:=h
theorem OG{P:Program}{Q:Nat->Prop}{c:Array Value}{e:TypeId}(h:∀v,Q v):EL P Q (newObj (.cells c e)):=⟨trivial,fun _=>h _⟩
theorem Px{P:Program}{Q:Value->Prop}{a:Addr}{m:Mode}(h:∀v,Q v):EL P Q (load a m):=fun v=>h v
theorem La{P:Program}{Q:Unit->Prop}{a:Addr}{v:Value}{m:Mode}(h:∀v,Q v):EL P Q (store a v m):=h _
theorem Iz{P:Program}{Q:Nat->Prop}{q:Question}(h:∀v,Q v):EL P Q (choose q):=fun v=>h v
theorem Te{P:Program}{α β:Type}{Q:β->Prop}{f:α->β}{m:Sem α}(h:EL P (fun a=>Q (f a)) m):EL P Q (f <$> m):=EI (f:=fun a=>Sem.pure (f a)) h
theorem G5{P:Program}{Q:TypeDesc->Prop}{t:TypeId}(h:∀d,P.underlying t=some d->Q d):EL P Q (underlying t):=by
 show EL P Q (match P.underlying t with | some d => pure d | none => stuck "no such type");split
 . rename_i d e;exact h d e
 . exact trivial
theorem E8{P:Program}{Q:TypeDesc->Prop}{t:TypeId}(h:∀v,Q v):EL P Q (underlying t):=by unfold underlying;repeat' first | with_reducible (first|assumption|exact ER|refine EJ (h _)|apply Hw|refine EI ?_|apply EJ|intro _) | split | dsimp only
theorem F7{P:Program}{Q:TypeInfo->Prop}{t:TypeId}(h:∀v,Q v):EL P Q (typeInfo t):=by unfold typeInfo;repeat' first | with_reducible (first|assumption|exact ER|refine EJ (h _)|apply Hw|refine EI ?_|apply EJ|intro _) | split | dsimp only
theorem Nv{P:Program}{Q:String->Prop}{t:TypeId}(h:∀v,Q v):EL P Q (typeStr t):=by unfold typeStr;repeat' first | with_reducible assumption | ((with_reducible refine ES ?_);exact True.intro) | with_reducible (first|refine EJ (h _)|apply F7|refine EI ?_|apply EJ|intro _) | split | dsimp only
theorem H8{P:Program}{Q:Value->Prop}{t:TypeId}(h:∀v,Q v):EL P Q (zeroValue t):=by unfold zeroValue;repeat' first | with_reducible assumption | ((with_reducible refine ES ?_);exact True.intro) | with_reducible (first|refine EJ (h _)|apply F7|refine EI ?_|apply EJ|intro _) | split | dsimp only
theorem Gz{P:Program}{Q:Nat->Prop}{t:TypeId}(h:∀v,Q v):EL P Q (sizeOf t):=by unfold sizeOf;repeat' first | with_reducible (first|assumption|refine EJ (h _)|apply F7|refine EI ?_|apply EJ|intro _) | split | dsimp only
theorem Ns{P:Program}{Q:Bool->Prop}{t:TypeId}(h:∀v,Q v):EL P Q (isAgg t):=by unfold isAgg;repeat' first | with_reducible (first|assumption|refine EJ (h _)|apply E8|refine EI ?_|apply EJ|intro _) | split | dsimp only
theorem Ni{P:Program}{Q:TypeId->Prop}{t:TypeId}(h:∀v,Q v):EL P Q (elemOf t):=by unfold elemOf;repeat' first | with_reducible (first|assumption|exact ER|refine EJ (h _)|apply E8|refine EI ?_|apply EJ|intro _) | split | dsimp only
theorem Ig{P:Program}{Q:Array Value->Prop}{a:Addr}(h:∀v,Q v):∀{n i:Nat} {acc:Array Value},EL P Q (loadCellsFrom a i n acc):=by
 intro n;induction n with
 | zero=>intro i acc;exact h _
 | succ n ih=>intro i acc;exact fun v=>ih
theorem Jj{P:Program}{Q:Array Value->Prop}{a:Addr}{n:Nat}(h:∀v,Q v):EL P Q (loadCells a n):=by unfold loadCells;repeat' first | with_reducible (first|assumption|apply Ig|intro _) | split | dsimp only
theorem G6{P:Program}{Q:Unit->Prop}{a:Addr}(h:∀v,Q v):∀{vs:List Value} {i:Nat},EL P Q (storeCells a vs i):=by
 intro vs;induction vs with
 | nil=>intro i;exact h _
 | cons v r ih=>intro i;exact ih
theorem KA{P:Program}{Q:Value->Prop}{t:TypeId}{a:Addr}(h:∀v,Q v):EL P Q (loadVar t a):=by unfold loadVar;repeat' first | with_reducible (first|assumption|refine EJ (h _)|apply Jj|apply Ns|apply Gz|apply Px|refine EI ?_|apply EJ|intro _) | split | dsimp only
theorem JJ{P:Program}{Q:Unit->Prop}{t:TypeId}{a:Addr}{v:Value}(h:∀v,Q v):EL P Q (storeVar t a v):=by unfold storeVar;repeat' first | with_reducible (first|assumption|exact ER|apply G6|apply Gz|refine EI ?_|intro _) | split | dsimp only
theorem KG{P:Program}{Q:Addr->Prop}{e:TypeId}{cs:Array Value}(h:∀v,Q v):EL P Q (newRow e cs):=⟨trivial,fun _=>h _⟩
theorem KI{P:Program}{Q:Addr->Prop}{e:TypeId}{v:Value}(h:∀v,Q v):EL P Q (newVar e v):=KG h
theorem KW{P:Program}{Q:Value->Prop}{a:Addr}{l:Bool}(h:∀v,Q v):EL P Q (asNumber a l):=⟨trivial,fun _=>h _⟩
theorem Oe{P:Program}{Q:Value->Prop}{t:TypeId}{cs:Array Value}{o:Nat}(h:∀v,Q v):EL P Q (part t cs o):=by unfold part;repeat' first | with_reducible (first|assumption|exact ER|refine EJ (h _)|apply Ns|apply Gz|refine EI ?_|apply EJ|intro _) | split | dsimp only
theorem FC{P:Program}{α:Type}{Q:α->Prop}{e:RuntimeError} :EL P Q (runtimePanic e):=by unfold runtimePanic;repeat' first | with_reducible (first|assumption|exact Lu|apply KI|apply Ni|apply Hw|refine EI ?_|intro _) | split | dsimp only
theorem Hq{P:Program}{α:Type}{Q:α->Prop}{k:IntKind}{x y:Int}{c:BoundsCode} :EL P Q (boundsPanic k x y c):=by unfold boundsPanic;repeat' first | with_reducible (first|assumption|refine EJ (h _)|apply FC|apply Iz|apply Te|refine EI ?_|apply EJ|intro _) | split | dsimp only
theorem Jm{P:Program}{Q:IntKind × Int->Prop}{x:Value}(h:∀v,Q v):EL P Q (asIntOf x):=by unfold asIntOf;repeat' first | with_reducible (first|assumption|exact ER) | ((with_reducible refine ES ?_);exact True.intro) | with_reducible (first|refine EJ (h _)|apply EJ|intro _) | split | dsimp only
theorem JZ{P:Program}{Q:Int->Prop}{x:Value}(h:∀v,Q v):EL P Q (asInt x):=by unfold asInt;repeat' first | with_reducible (first|assumption|refine EJ (h _)|apply Jm|refine EI ?_|apply EJ|intro _) | split | dsimp only
theorem J9{P:Program}{Q:Bool->Prop}{x:Value}(h:∀v,Q v):EL P Q (asBool x):=by unfold asBool;repeat' first | with_reducible (first|assumption|exact ER|refine EJ (h _)|apply EJ|intro _) | split | dsimp only
theorem Mi{P:Program}{Q:ByteArray->Prop}{x:Value}(h:∀v,Q v):EL P Q (asString x):=by unfold asString;repeat' first | with_reducible (first|assumption|exact ER|refine EJ (h _)|apply EJ|intro _) | split | dsimp only
theorem OA{P:Program}{Q:Array Value->Prop}{x:Value}(h:∀v,Q v):EL P Q (asAgg x):=by unfold asAgg;repeat' first | with_reducible (first|assumption|exact ER|refine EJ (h _)|apply EJ|intro _) | split | dsimp only
theorem II{P:Program}{Q:Addr->Prop}{x:Value}(h:∀v,Q v):EL P Q (asAddr x):=by unfold asAddr;repeat' first | with_reducible (first|assumption|exact ER|refine EJ (h _)|apply FC|apply EJ|intro _) | split | dsimp only
theorem H9{P:Program}{Q:Addr->Prop}{x:Value}(h:∀v,Q v):EL P Q (Instr.sureAddr x):=by unfold Instr.sureAddr;repeat' first | with_reducible (first|assumption|exact ER|refine EJ (h _)|apply EJ|intro _) | split | dsimp only
theorem KF{P:Program}{Q:Unit->Prop}{n:Nat}(h:∀v,Q v):EL P Q (askRoom n):=by
 unfold askRoom;split
 . exact⟨trivial,h _⟩
 . exact h _
theorem KQ{P:Program}{Q:Option (Addr × TypeId)->Prop}{r:Nat}(h:∀v,Q v):EL P Q (viewAt r):=by
 refine⟨fun s=>?_,fun e n=>.inr rfl⟩;cases s with
 | some x=>exact h _
 | none=>exact⟨fun o=>by cases o<;>exact h _,fun c e=>.inr rfl⟩
theorem JR{P:Program}{Q:Option (Addr × Bool)->Prop}{r:Nat}(h:∀v,Q v):EL P Q (numberAt r):=by
 refine⟨fun s=>?_,fun e n=>.inr rfl⟩;cases s with
 | some x=>exact h _
 | none=>exact⟨fun o=>by cases o<;>exact h _,fun c e=>.inr rfl⟩
theorem GR{P:Program}{Q:Addr × Bool->Prop}{n:Addr}(h:∀v,Q v):EL P Q (behindNumber n):=by unfold behindNumber;repeat' first | with_reducible (first|assumption|refine EJ (h _)|apply JR|refine EI ?_|apply EJ|intro _) | split | dsimp only
theorem Nn{P:Program}{Q:Unit->Prop}{a:Addr}(h:∀v,Q v):EL P Q (noView a):=by unfold noView;repeat' first | with_reducible assumption | ((with_reducible refine ES ?_);exact True.intro) | with_reducible (first|refine EJ (h _)|apply KQ|refine EI ?_|apply EJ|intro _) | split | dsimp only
theorem J4{P:Program}{Q:Nat->Prop}{a:Addr}(h:∀v,Q v):EL P Q (byteOf a):=by
 unfold byteOf;split
 . exact h _
 refine EI (Hw ?_);refine EI (Nn fun _=>?_);refine⟨fun s=>?_,fun e n=>.inr rfl⟩;cases s with
 | none=>exact trivial
 | some x=>
   show EL P Q _;dsimp only[bind,Sem.bind];repeat' first | exact trivial | exact h _ | split
theorem M7{P:Program}{Q:Addr->Prop}{a:Addr}{c b:Nat}(h:∀v,Q v):EL P Q (partAt a c b):=by unfold partAt;repeat' first | with_reducible (first|assumption|refine EJ (h _)|apply J4|refine EI ?_|apply EJ|intro _) | split | dsimp only
theorem Jq{P:Program}{Q:Addr->Prop}{a:Addr}{f:Field}(h:∀v,Q v):EL P Q (fieldPlace a f):=by unfold fieldPlace;repeat' first | with_reducible (first|assumption|refine EJ (h _)|apply M7|apply Gz|refine EI ?_|apply EJ|intro _) | split | dsimp only
theorem MZ{P:Program}{Q:Value->Prop}{t:TypeId}{a:Value}(h:∀v,Q v):EL P Q (Instr.loadAt t a):=by unfold Instr.loadAt;repeat' first | with_reducible (first|assumption|apply H9|apply KA|refine EI ?_|intro _) | split | dsimp only
theorem Ls{P:Program}{Q:Value->Prop}{t:TypeId}{a:Value}{f:Nat}(h:∀v,Q v):EL P Q (Instr.fieldAt t a f):=by unfold Instr.fieldAt;repeat' first | with_reducible (first|assumption|exact ER|refine EJ (h _)|apply Jq|apply H9|apply E8|refine EI ?_|apply EJ|intro _) | split | dsimp only
theorem LZ{P:Program}{Q:Value->Prop}{t:TypeId}{a i:Value}(h:∀v,Q v):EL P Q (Instr.indexAt t a i):=by unfold Instr.indexAt;repeat' first | with_reducible (first|assumption|exact ER) | ((with_reducible refine ES ?_);exact True.intro) | with_reducible (first|refine EJ (h _)|apply H9|apply Jm|apply Hq|apply Gz|apply E8|refine EI ?_|apply EJ|intro _) | split | dsimp only
theorem OW{P:Program}{Q:Value->Prop}{t:TypeId}{b:Bool}{v:Value}(h:∀v,Q v):EL P Q (Instr.alloc t b v):=by unfold Instr.alloc;repeat' first | with_reducible (first|assumption|refine EJ (h _)|apply KI|apply JJ|apply H8|refine EI ?_|apply EJ|intro _) | split | dsimp only
theorem Wm{P:Program}{Q:Value->Prop}{t:TypeId}{v:Value}(h:∀v,Q v):EL P Q (Instr.box t v):=by unfold Instr.box;repeat' first | with_reducible (first|assumption|refine EJ (h _)|apply KI|refine EI ?_|apply EJ|intro _) | split | dsimp only
theorem Lx{P:Program}{Q:Value->Prop}{v:Value}{i:Nat}(h:∀v,Q v):EL P Q (Instr.extract v i):=by unfold Instr.extract;repeat' first | with_reducible (first|assumption|exact ER|refine EJ (h _)|apply EJ|intro _) | split | dsimp only
theorem OB{P:Program}{Q:Value->Prop}{t:TypeId}{v:Value}{i:Nat}(h:∀v,Q v):EL P Q (Instr.field t v i):=by unfold Instr.field;repeat' first | with_reducible (first|assumption|exact ER|apply OA|apply Oe|apply E8|refine EI ?_|intro _) | split | dsimp only
theorem Oz{P:Program}{Q:Value->Prop}{t:TypeId}{v i:Value}(h:∀v,Q v):EL P Q (Instr.index t v i):=by unfold Instr.index;repeat' first | with_reducible (first|assumption|exact ER|refine EJ (h _)|apply Jm|apply Hq|apply Oe|apply Gz|apply E8|refine EI ?_|apply EJ|intro _) | split | dsimp only
theorem LA{P:Program}{Q:Unit->Prop}{t:TypeId}{a v:Value}(h:∀v,Q v):EL P Q (Instr.storeAt t a v):=by unfold Instr.storeAt;repeat' first | with_reducible (first|assumption|apply H9|apply JJ|refine EI ?_|intro _) | split | dsimp only
theorem JA{P:Program}{Q:Nat->Prop}{x:Value}{y:Nat}{c:BoundsCode}(h:∀v,Q v):EL P Q (Instr.sliceBound x y c):=by unfold Instr.sliceBound;repeat' first | with_reducible (first|assumption|refine EJ (h _)|apply Jm|apply Hq|refine EI ?_|apply EJ|intro _) | split | dsimp only
theorem Ik{P:Program}{Q:(Nat × Nat × Nat)->Prop}{b:Bool}{l c:Nat}{x y z:Option Value}(h:∀v,Q v):EL P Q (Instr.sliceBounds b l c x y z):=by unfold Instr.sliceBounds;repeat' first | with_reducible (first|assumption|exact ER|refine EJ (h _)|apply JA|refine EI ?_|apply EJ|intro _) | split | dsimp only
theorem OQ{P:Program}{Q:Value->Prop}{t:TypeId}{v:Value}{x y z:Option Value}(h:∀v,Q v):EL P Q (Instr.slice t v x y z):=by unfold Instr.slice;repeat' first | with_reducible (first|assumption|exact ER|refine EJ (h _)|apply Ik|apply II|apply Gz|apply E8|refine EI ?_|apply EJ|intro _) | split | dsimp only
theorem LY{P:Program}{Q:Value->Prop}{t:TypeId}{v:Value}{x y z:Option Value}(h:∀v,Q v):EL P Q (Instr.sliceAt t v x y z):=by unfold Instr.sliceAt;repeat' first | with_reducible (first|assumption|refine EJ (h _)|apply OQ|apply Ik|apply H9|apply Gz|apply E8|refine EI ?_|apply EJ|intro _) | split | dsimp only
theorem Ka{P:Program}{Q:Value->Prop}{t:TypeId}{x y:Value}(h:∀v,Q v):EL P Q (Instr.makeSlice t x y):=by unfold Instr.makeSlice;repeat' first | with_reducible (first|assumption|exact ER|refine EJ (h _)|apply KF|apply JZ|apply FC|apply KG|apply Gz|apply H8|apply F7|apply E8|apply Iz|refine EI ?_|apply EJ|intro _) | split | dsimp only
theorem Ii{P:Program}{Q:Value->Prop}{t:TypeId}{x:Value}(h:∀v,Q v):EL P Q (Instr.makeInterface t x):=by unfold Instr.makeInterface;repeat' first | with_reducible (first|assumption|exact ER|refine EJ (h _)|apply E8|refine EI ?_|apply EJ|intro _) | split | dsimp only
theorem KT{P:Program}{Q:Value->Prop}{f:Fn}{x y:Array Value}(h:∀v,Q v):EL P Q (Instr.makeFunc f x y):=by unfold Instr.makeFunc;repeat' first | with_reducible (first|assumption|refine EJ (h _)|apply EJ|intro _) | split | dsimp only
theorem Jb{P:Program}{Q:Value->Prop}{o:BinOp}{k:IntKind}{x y:Int}(h:∀v,Q v):EL P Q (Op.intArith o k x y):=by unfold Op.intArith;repeat' first | with_reducible (first|assumption|exact ER|refine EJ (h _)|apply EJ|intro _) | split | dsimp only
theorem M9{P:Program}{Q:Value->Prop}{o:BinOp}{k:IntKind}{x y:Int}(h:∀v,Q v):EL P Q (Op.intDiv o k x y):=by unfold Op.intDiv;repeat' first | with_reducible (first|assumption|exact ER|refine EJ (h _)|apply FC|apply EJ|intro _) | split | dsimp only
theorem KC{P:Program}{Q:Value->Prop}{o:BinOp}{k:IntKind}{x y:Int}(h:∀v,Q v):EL P Q (Op.intBits o k x y):=by unfold Op.intBits;repeat' first | with_reducible (first|assumption|exact ER|refine EJ (h _)|apply EJ|intro _) | split | dsimp only
theorem OV{P:Program}{Q:Value->Prop}{o:BinOp}{k k':IntKind}{x y:Int}(h:∀v,Q v):EL P Q (Op.shift o k x k' y):=by unfold Op.shift;repeat' first | with_reducible (first|assumption|exact ER|refine EJ (h _)|apply FC|apply EJ|intro _) | split | dsimp only
theorem Nj{P:Program}{Q:Value->Prop}{o:BinOp}{x y:Int}(h:∀v,Q v):EL P Q (Op.intCmp o x y):=by unfold Op.intCmp;repeat' first | with_reducible (first|assumption|exact ER|refine EJ (h _)|apply EJ|intro _) | split | dsimp only
theorem IL{P:Program}{Q:Value->Prop}{o:BinOp}{k:FloatKind}{x y:Nat}(h:∀v,Q v):EL P Q (Op.floatArith o k x y):=by unfold Op.floatArith;repeat' first | with_reducible (first|assumption|exact ER|refine EJ (h _)|apply Iz|refine EI ?_|apply EJ|intro _) | split | dsimp only
theorem JK{P:Program}{Q:Value->Prop}{o:BinOp}{k:FloatKind}{x y:Nat}(h:∀v,Q v):EL P Q (Op.floatCmp o k x y):=by unfold Op.floatCmp;repeat' first | with_reducible (first|assumption|exact ER|refine EJ (h _)|apply EJ|intro _) | split | dsimp only
theorem Jf{P:Program}{Q:Value->Prop}{o:BinOp}{x y:ByteArray}(h:∀v,Q v):EL P Q (Op.stringOp o x y):=by unfold Op.stringOp;repeat' first | with_reducible (first|assumption|exact ER) | ((with_reducible refine ES ?_);exact True.intro) | with_reducible (first|refine EJ (h _)|apply EJ|intro _) | split | dsimp only
theorem Ox{P:Program}{Q:Value->Prop}{o:UnOp}{x:Value}(h:∀v,Q v):EL P Q (Op.unary o x):=by unfold Op.unary;repeat' first | with_reducible (first|assumption|exact ER) | ((with_reducible refine ES ?_);exact True.intro) | with_reducible (first|refine EJ (h _)|apply KC|apply Jb|apply EJ|intro _) | split | dsimp only
theorem IC{P:Program}{Q:Value->Prop}{a b:FloatKind}{x:Nat}(h:∀v,Q v):EL P Q (Conv.floatToFloat a x b):=by unfold Conv.floatToFloat;repeat' first | with_reducible (first|assumption|refine EJ (h _)|apply Iz|refine EI ?_|apply EJ|intro _) | split | dsimp only
theorem J6{P:Program}{Q:Nat->Prop}{o:BinOp}{k:FloatKind}{x y:Nat}(h:∀v,Q v):EL P Q (Op.Complex.arith o k x y):=by unfold Op.Complex.arith;repeat' first | with_reducible (first|assumption|exact ER|refine EJ (h _)|apply IL|refine EI ?_|apply EJ|intro _) | split | dsimp only
theorem PE{P:Program}{Q:Bool->Prop}{o:BinOp}{k:FloatKind}{x y:Nat}(h:∀v,Q v):EL P Q (Op.Complex.cmp o k x y):=by unfold Op.Complex.cmp;repeat' first | with_reducible (first|assumption|apply JK|apply J9|refine EI ?_|intro _) | split | dsimp only
theorem OP{P:Program}{Q:Nat->Prop}{a b:FloatKind}{x:Nat}(h:∀v,Q v):EL P Q (Op.Complex.conv a x b):=by unfold Op.Complex.conv;repeat' first | with_reducible (first|assumption|exact ER|refine EJ (h _)|apply IC|refine EI ?_|apply EJ|intro _) | split | dsimp only
theorem KJ{P:Program}{Q:(Nat × Nat)->Prop}{a b c d:Nat}(h:∀v,Q v):EL P Q (Op.Complex.product a b c d):=by unfold Op.Complex.product Op.Complex.mul Op.Complex.sub Op.Complex.add;repeat' first | with_reducible (first|assumption|refine EJ (h _)|apply J6|refine EI ?_|apply EJ|intro _) | split | dsimp only
theorem Jr{P:Program}{Q:(Nat × Nat)->Prop}{s a b c d:Nat}(h:∀v,Q v):EL P Q (Op.Complex.corrected s a b c d):=by unfold Op.Complex.corrected Op.Complex.mul Op.Complex.sub Op.Complex.add;repeat' first | with_reducible (first|assumption|refine EJ (h _)|apply J6|refine EI ?_|apply EJ|intro _) | split | dsimp only
theorem Kg{P:Program}{Q:(Nat × Nat)->Prop}{a b c d:Nat}(h:∀v,Q v):EL P Q (Op.Complex.quotient a b c d):=by unfold Op.Complex.quotient Op.Complex.mul Op.Complex.sub Op.Complex.add Op.Complex.quo;repeat' first | with_reducible (first|assumption|refine EJ (h _)|apply Jr|apply PE|apply J6|refine EI ?_|apply EJ|intro _) | split | dsimp only
theorem Ke{P:Program}{Q:Value->Prop}{o:BinOp}{k:FloatKind}{a b c d:Nat}(h:∀v,Q v):EL P Q (Op.complexOp o k a b c d):=by unfold Op.complexOp;repeat' first | with_reducible (first|assumption|exact ER|refine EJ (h _)|apply Kg|apply KJ|apply OP|apply PE|apply J6|refine EI ?_|apply EJ|intro _) | split | dsimp only
theorem Jo{P:Program}{Q:(Nat × Nat)->Prop}{a b:Addr}(h:∀v,Q v):EL P Q (Op.twoPlaces a b):=by unfold Op.twoPlaces;repeat' first | with_reducible assumption | ((with_reducible refine ES ?_);exact True.intro) | with_reducible (first|refine EJ (h _)|apply J4|apply Hw|refine EI ?_|apply EJ|intro _) | split | dsimp only
theorem LX{P:Program}{Q:Value->Prop}{k:IntKind}{a b:Addr}(h:∀v,Q v):EL P Q (Op.addrSub k a b):=by unfold Op.addrSub;repeat' first | with_reducible (first|assumption|refine EJ (h _)|apply Jo|refine EI ?_|apply EJ|intro _) | split | dsimp only
theorem LB{P:Program}{Q:Value->Prop}{o:BinOp}{a b:Addr}(h:∀v,Q v):EL P Q (Op.addrCmp o a b):=by unfold Op.addrCmp;repeat' first | with_reducible assumption | ((with_reducible refine ES ?_);exact True.intro) | with_reducible (first|refine EJ (h _)|apply Jo|refine EI ?_|apply EJ|intro _) | split | dsimp only
theorem LJ{P:Program}{Q:Value->Prop}{k:IntKind}{a:Addr}{n:Int}(h:∀v,Q v):EL P Q (Op.addrMod k a n):=by
 refine⟨fun s=>?_,fun e n=>.inr rfl⟩;cases s with
 | none=>exact trivial
 | some x=>
  show EL P Q (typeInfo x.1 >>= fun i=>_);dsimp only;repeat' first | with_reducible assumption | ((with_reducible refine ES ?_);exact True.intro) | with_reducible (first|refine EJ (h _)|apply J4|apply F7|refine EI ?_|apply EJ|intro _) | split | dsimp only
theorem Jk{P:Program}{Q:Value->Prop}{x:Array TypeId}{t:TypeId}{args:Array Value}(h:∀v,Q v):EL P Q (Builtin.unsafeAdd_ x t args):=by
 have key:∀(a:Addr) (n:Int),EL P Q (do
     let some (e, cells) ← shape a.block | unsupported (.unsafePointer "Add")
     let p ← program
     match cellAtBytes p p.depth e (cells / p.cellsOf e) a.off n with
     | some off=>pure (Value.pointer (some { a with off }))
     | none => unsupported (.unsafePointer "Add")) := by
   intro a n;refine⟨fun s=>?_,fun e c=>.inl ?_⟩
   . cases s with
     | none=>exact trivial
     | some x=>
      show EL P Q (match cellAtBytes P P.depth x.1 (x.2 / P.cellsOf x.1) a.off n with
        | some off=>pure (Value.pointer (some { a with off }))
        | none => unsupported (.unsafePointer "Add"))
      split
      . exact h _
      . exact trivial
   . intro w;have:cellAtBytes P P.depth e (0 / P.cellsOf e) a.off n=none:=by
      unfold cellAtBytes;simp only[Nat.zero_div];split
      . rfl
      . cases hb:byteOfCell P P.depth e (a.off % P.cellsOf e)with
        | none=>rfl
        | some here=>
         show(if _ then _ else _)=_;rw[if_pos]
         . rfl
         . rw[Bool.or_eq_true,decide_eq_true_eq,decide_eq_true_eq,Nat.zero_mul];exact Int.lt_or_le _ _
     show GV ((match cellAtBytes P P.depth e (0 / P.cellsOf e) a.off n with
        | some off=>pure (Value.pointer (some { a with off }))
        | none => unsupported (.unsafePointer "Add") : Sem Value).run P w) = none
     rw[this];rfl
 unfold Builtin.unsafeAdd_;rcases args with⟨_|⟨a,_|⟨b,_|⟨c,r⟩⟩⟩⟩
 . exact trivial
 . cases a<;>exact trivial
 rotate_left
 . cases a<;>exact trivial
 cases a<;>try exact trivial
 show EL P Q (asInt b >>= _);repeat' first | exact key _ _ | with_reducible assumption | ((with_reducible refine ES ?_);exact True.intro) | with_reducible (first|refine EJ (h _)|apply KQ|apply JZ|refine EI ?_|apply EJ|intro _) | split | dsimp only
theorem I4{P:Program}{Q:Value->Prop}{t:TypeId}{x y:Value}(h:∀v,Q v):EL P Q (movedNumber t x y):=by unfold movedNumber;repeat' first | with_reducible assumption | ((with_reducible refine ES ?_);exact True.intro) | with_reducible (first|refine EJ (h _)|apply Jk|apply GR|apply KW|apply E8|refine EI ?_|apply EJ|intro _) | split | dsimp only
theorem Iw{P:Program}{Q:Value->Prop}{t:TypeId}{x y:Value}(h:∀v,Q v):EL P Q (movedPointer t x y):=by unfold movedPointer;repeat' first | with_reducible assumption | ((with_reducible refine ES ?_);exact True.intro) | with_reducible (first|apply Jk|apply JR|refine EI ?_|intro _) | split | dsimp only
theorem QA{P:Program}{Q:Value->Prop}{o:BinOp}{t:TypeId}{x y:Value}(heq:o=.eql\/o=.neq->∀Q':Bool->Prop,(∀v,Q' v)->EL P Q' (Op.equal t x y))(h:∀v,Q v):EL P Q (binOp o t x y):=by
 unfold binOp
 repeat' first | with_reducible (first|refine heq (.inl rfl) _ (fun _=>?_)|refine heq (.inr rfl) _ (fun _=>?_)|assumption|exact ER) | ((with_reducible refine ES ?_);exact True.intro) | with_reducible (first|refine EJ (h _)|apply Iw|apply I4|apply LJ|apply LB|apply LX|apply Ke|apply Jf|apply JK|apply IL|apply Nj|apply OV|apply KC|apply M9|apply Jb|apply GR|apply E8|refine EI ?_|apply EJ|intro _) | split | dsimp only
def Oi(P:Program)(t:TypeId):Bool:=
 match P.underlying t with
 | some (.int _) | some .string | some .bool | some (.slice _)=>true
 | _=>false
theorem R5{P:Program}{Q:Bool->Prop}{t:TypeId}{x y:Value}(ht:Oi P t=true)(h:∀v,Q v):EL P Q (Op.equal t x y):=by
 unfold Op.equal;generalize Op.maxDepth=d;cases d with
 | zero=>exact trivial
 | succ d=>
  unfold Op.equalIn;refine EI (G5 fun u hu=>?_);unfold Oi at ht;rw[hu]at ht;cases u<;>simp only[Bool.false_eq_true]at ht
  all_goals
   repeat' first | contradiction | with_reducible (first|assumption|exact ER) | ((with_reducible refine ES ?_);exact True.intro) | with_reducible (first|refine EJ (h _)|apply J4|apply GR|apply F7|apply Hw|refine EI ?_|apply EJ|intro _) | split | dsimp only
theorem Qc{P:Program}{Q:Unit->Prop}{o:BinOp}{t:TypeId}{a b:Operand}{x y:Value}(ht:Oi P t=true)(h:∀v,Q v):EL P Q (eqGuard o t a b x y):=by
 have key:∀(Q':Bool->Prop),(∀v,Q' v)->EL P Q' (Op.eqGuardIn Op.maxDepth t x y):=by
  intro Q' h;generalize Op.maxDepth=d;cases d with
  | zero=>exact trivial
  | succ d=>
   unfold Op.eqGuardIn;refine EI (G5 fun u hu=>?_);unfold Oi at ht;rw[hu]at ht;cases u<;>simp only[Bool.false_eq_true]at ht
   all_goals exact h _
 unfold eqGuard;repeat' first | with_reducible assumption | ((with_reducible refine ES ?_);exact True.intro) | with_reducible (first|refine EJ (h _)|refine key _ (fun _=>?_)|apply Hw|refine EI ?_|apply EJ|intro _) | split | dsimp only
theorem NM{P:Program}{α:Type}{Q:α->Prop}{r:Nat}{f:Obj->Sem α}(h1:∀o,EL P Q (f o))(h2:∀c e,Dead P (f (.coro none))\/f (.pending c e)=f (.coro none)):EL P Q (getObj r >>= f):=⟨h1,h2⟩
theorem U0{P:Program}{Q:Value->Prop}{a:Array TypeId}{t:TypeId}{v:Array Value}(h:∀v,Q v):EL P Q (Builtin.len_ a t v):=by unfold Builtin.len_;repeat' first | with_reducible (first|assumption|exact ER|refine EJ (h _)) | (with_reducible refine NM (fun _=>?_) (fun _ _=>.inr rfl)) | with_reducible (first|apply E8|refine EI ?_|apply EJ|intro _) | split | dsimp only
theorem VW{P:Program}{Q:Value->Prop}{a:Array TypeId}{t:TypeId}{v:Array Value}(h:∀v,Q v):EL P Q (Builtin.cap_ a t v):=by unfold Builtin.cap_;repeat' first | with_reducible (first|assumption|exact ER|refine EJ (h _)) | (with_reducible refine NM (fun _=>?_) (fun _ _=>.inr rfl)) | with_reducible (first|apply E8|refine EI ?_|apply EJ|intro _) | split | dsimp only
theorem Nz{P:Program}{Q:Nat->Prop}{v:Value}(h:∀v,Q v):EL P Q (Builtin.lenOf v):=by unfold Builtin.lenOf;repeat' first | with_reducible (first|assumption|exact ER|refine EJ (h _)|apply EJ|intro _) | split | dsimp only
theorem IQ{P:Program}{Q:Array Value->Prop}{s n:Nat}{v:Value}(h:∀v,Q v):EL P Q (Builtin.firstCells s n v):=by unfold Builtin.firstCells;repeat' first | with_reducible (first|assumption|exact ER|refine EJ (h _)|apply Jj|apply EJ|intro _) | split | dsimp only
theorem QD{P:Program}{Q:Value->Prop}{a:Array TypeId}{t:TypeId}{v:Array Value}(h:∀v,Q v):EL P Q (Builtin.copy_ a t v):=by unfold Builtin.copy_;repeat' first | with_reducible (first|assumption|exact ER|refine EJ (h _)|apply IQ|apply Nz|apply G6|apply Gz|apply E8|refine EI ?_|apply EJ|intro _) | split | dsimp only
theorem Ri{P:Program}{Q:Value->Prop}{x y:Value}(h:∀v,Q v):EL P Q (Builtin.max2 x y):=by unfold Builtin.max2;repeat' first | with_reducible (first|assumption|exact ER) | ((with_reducible refine ES ?_);exact True.intro) | with_reducible (first|refine EJ (h _)|apply Jf|apply J9|apply Iz|refine EI ?_|apply EJ|intro _) | split | dsimp only
theorem Rx{P:Program}{Q:Value->Prop}{x y:Value}(h:∀v,Q v):EL P Q (Builtin.min2 x y):=by unfold Builtin.min2;repeat' first | with_reducible (first|assumption|exact ER) | ((with_reducible refine ES ?_);exact True.intro) | with_reducible (first|refine EJ (h _)|apply Jf|apply J9|apply Iz|refine EI ?_|apply EJ|intro _) | split | dsimp only
theorem VO{P:Program}{Q:Value->Prop}{f:Value->Value->Sem Value}(hf:∀(Q':Value->Prop) a b,(∀v,Q' v)->EL P Q' (f a b))(h:∀v,Q v):∀{l:List Value} {x:Value},EL P Q (l.foldlM f x):=by
 intro l;induction l with
 | nil=>intro x;exact h x
 | cons y l ih=>
  intro x;rw[List.foldlM_cons];exact EI (hf _ _ _ fun _=>ih)
theorem Vd{P:Program}{Q:Value->Prop}{a:Array TypeId}{t:TypeId}{v:Array Value}(h:∀v,Q v):EL P Q (Builtin.max_ a t v):=by
 unfold Builtin.max_;split
 . exact trivial
 . exact VO (fun _ _ _ h=>Ri h) h
theorem VB{P:Program}{Q:Value->Prop}{a:Array TypeId}{t:TypeId}{v:Array Value}(h:∀v,Q v):EL P Q (Builtin.min_ a t v):=by
 unfold Builtin.min_;split
 . exact trivial
 . exact VO (fun _ _ _ h=>Rx h) h
theorem K8{P:Program}{α:Type}{Q:α->Prop}{a:Addr}{n:Nat}{f:Bool->Sem α}(hf:∀b,EL P Q (f b))(hd:∀b,Dead P (f b)):EL P Q (Builtin.holdsCells a n >>= f):=by
 refine⟨fun s=>?_,fun e c=>.inl ?_⟩
 . cases s with
   | none=>exact hf _
   | some x=>exact hf _
 . exact hd _
theorem Qj{P:Program}{α:Type}{a:Addr}{n:Nat}{f:Bool->Sem α}(hd:∀b,Dead P (f b)):Dead P (Builtin.holdsCells a n >>= f):=by intro w;show GV ((Sem.bind (Sem.shape a.block Sem.pure) _).run P w)=none;show GV ((Sem.bind ((match w.shape? a.block with | some (_,n')=>pure (a.spot.isNone&&a.off+n<=n') | none=>pure false):Sem Bool) f).run P w)=none;split<;>exact hd _ w
theorem VZ{P:Program}{α:Type}{a:Addr}{f:Bool->Sem α}(hd:∀b,Dead P (f b)):Dead P (frozen a >>= f):=fun w=>hd _ w
theorem Sz{P:Program}{α:Type}{Q:α->Prop}{a:Addr}{f:Bool->Sem α}(hf:∀b,EL P Q (f b))(hd:∀b,Dead P (f b)):EL P Q (frozen a >>= f):=
 ⟨fun b=>hf b,fun w es h=>absurd (by rw[Sem.runT_fst];exact hd true w) h⟩
theorem Sc{P:Program}{α:Type}{Q:α->Prop}{size sLen n:Nat}{base:Option Addr}{x:Value}{f:Bool->Sem α}(hf:∀b,EL P Q (f b))(hd:∀b,Dead P (f b)) :
  EL P Q (Builtin.mayShare size sLen n base x >>= f):=by
 have tail:∀there:Bool,EL P Q ((do
    if !there then return true
    match x with
    | .slice (some b) _ _=>do pure (!(← Builtin.holdsCells b (n*size))||base.any (·.block==b.block))
    | _=>pure false:Sem Bool) >>= f)/\Dead P ((do
    if !there then return true
    match x with
    | .slice (some b) _ _=>do pure (!(← Builtin.holdsCells b (n*size))||base.any (·.block==b.block))
    | _=>pure false:Sem Bool) >>= f):=by
  intro there;cases there with
  | false=>exact⟨hf _,fun w=>hd _ w⟩
  | true=>
    cases x with
    | slice b l c=>
     cases b with
     | none=>exact⟨hf _,fun w=>hd _ w⟩
     | some b=>
      constructor
      . show EL P Q ((Builtin.holdsCells b (n*size) >>= fun v=>pure (!v||base.any (·.block==b.block))) >>= f);rw[bind_assoc];exact K8 (fun _=>hf _) (fun _=>hd _)
      . show Dead P ((Builtin.holdsCells b (n*size) >>= fun v=>pure (!v||base.any (·.block==b.block))) >>= f);rw[bind_assoc];exact Qj (fun _=>hd _)
    | _=>exact⟨hf _,fun w=>hd _ w⟩
 unfold Builtin.mayShare;cases base with
 | none=>exact(tail true).1
 | some a=>
  dsimp only;rw[bind_assoc];refine K8 (fun v=>?_) (fun v=>?_)
  . rw[bind_assoc];exact Sz (fun z=>(tail (v&&!z)).1) fun z=>(tail (v&&!z)).2
  . rw[bind_assoc];exact VZ fun z=>(tail (v&&!z)).2
theorem Nk{P:Program}{Q:Value->Prop}{a:Array TypeId}{t:TypeId}{v:Array Value}(h:∀v,Q v):EL P Q (Builtin.append_ a t v):=by
 have huge:∀{α:Type} {Q:α->Prop} {size sLen n:Nat} {base:Option Addr} {x:Value} {u:Unsupported},Y2 u->EL P Q (do
    if !(← Builtin.mayShare size sLen n base x)then mark .noRoom
    unsupported u:Sem α):=by
  intro α Q size sLen n base x u hu;refine Sc (fun b=>?_) (fun b=>?_)
  . cases b<;>simp only[Bool.not_true,Bool.not_false,Bool.false_eq_true,↓reduceIte]
    . exact⟨trivial,hu⟩
    . exact hu
  . cases b<;>(intro w;rfl)
 unfold Builtin.append_;repeat' first | with_reducible (first|assumption|exact ER|refine EJ (h _)) | ((with_reducible refine huge ?_);exact True.intro) | with_reducible (first|refine G6 (fun _=>?_)|apply IQ|apply Nz|apply KF|apply JZ|apply FC|apply KG|apply G6|apply Gz|apply H8|apply F7|apply E8|apply Iz|refine EI ?_|apply EJ|intro _) | simp only[Bool.not_true,Bool.not_false,Bool.false_eq_true,↓reduceIte] | split | dsimp only
section
theorem gX{P:Program}{α β:Type}{f:α->Sem β}(hf:∀(Q':β->Prop) a,(∀v,Q' v)->EL P Q' (f a)){Q:Array β->Prop}(h:∀v,Q v){a:Array α}:EL P Q (a.mapM f):=by
 rw[Array.mapM_eq_mapM_toList];refine Te ?_;have key:∀(l:List α) (Q:List β->Prop),(∀v,Q v)->EL P Q (l.mapM f):=by
  intro l;induction l with
  | nil=>intro Q h;rw[List.mapM_nil];exact EJ (h _)
  | cons x l ih=>
   intro Q h;rw[List.mapM_cons];exact EI (hf _ _ fun _=>EI (ih _ fun _=>EJ (h _)))
 exact key _ _ fun _=>h _
theorem Pz{P:Program}{Q:Value->Prop}{fn:Func}{tmps:Array Value}(h:∀v,Q v):EL P Q (results fn tmps):=by
 unfold results;refine EI (gX (fun Q' x h=>?_) fun _=>EJ (h _));cases x with
 | tmp t=>exact EJ (h _)
 | cell a t=>exact EI (II fun _=>KA h)
theorem Qz{P:Program}{Q:Value->Prop}{t:TypeId}{ps:Array (Nat × Value)}(h:∀v,Q v):EL P Q (Instr.build t ps):=by
 unfold Instr.build
 repeat' first | with_reducible (first|assumption|exact ER) | ((with_reducible refine ES ?_);exact True.intro) | with_reducible (first|exact Lu|refine EJ (h _)|refine gX (fun _ _ h=>EI (Gz fun _=>EJ (h _))) (fun _=>?_)|apply Nk|apply VB|apply Vd|apply Rx|apply Ri|apply QD|apply IQ|apply Nz|apply VW|apply U0|apply Iw|apply I4|apply Jk|apply LJ|apply LB|apply LX|apply Jo|apply Ke|apply Kg|apply Jr|apply KJ|apply OP|apply PE|apply J6|apply IC|apply Ox|apply Jf|apply JK|apply IL|apply Nj|apply OV|apply KC|apply M9|apply Jb|apply KT|apply Ii|apply Ka|apply LY|apply OQ|apply Ik|apply JA|apply LA|apply Oz|apply OB|apply Lx|apply Wm|apply OW|apply LZ|apply Ls|apply MZ|apply Jq|apply M7|apply J4|apply Nn|apply GR|apply JR|apply KQ|apply KF|apply H9|apply II|apply OA|apply Mi|apply J9|apply JZ|apply Jm|apply Hq|apply FC|apply Oe|apply KW|apply KI|apply KG|apply JJ|apply KA|apply G6|apply Jj|apply Ig|apply Ni|apply Ns|apply Gz|apply H8|apply Nv|apply F7|apply E8|apply Iz|apply La|apply Px|apply OG|apply Hw|apply Te|refine EI ?_|apply EJ|intro _) | split | dsimp only
theorem L9{P:Program}{Q:Value->Prop}{t:TypeId}{n:Nat}{ps:Array (Nat × Value)}(h:∀v,Q v):EL P Q (Instr.buildSlice t n ps):=by
 unfold Instr.buildSlice
 repeat' first | with_reducible (first|assumption|exact ER) | ((with_reducible refine ES ?_);exact True.intro) | with_reducible (first|exact Lu|refine EJ (h _)|apply Qz|apply Nk|apply VB|apply Vd|apply Rx|apply Ri|apply QD|apply IQ|apply Nz|apply VW|apply U0|apply Iw|apply I4|apply Jk|apply LJ|apply LB|apply LX|apply Jo|apply Ke|apply Kg|apply Jr|apply KJ|apply OP|apply PE|apply J6|apply IC|apply Ox|apply Jf|apply JK|apply IL|apply Nj|apply OV|apply KC|apply M9|apply Jb|apply KT|apply Ii|apply Ka|apply LY|apply OQ|apply Ik|apply JA|apply LA|apply Oz|apply OB|apply Lx|apply Wm|apply OW|apply LZ|apply Ls|apply MZ|apply Jq|apply M7|apply J4|apply Nn|apply GR|apply JR|apply KQ|apply KF|apply H9|apply II|apply OA|apply Mi|apply J9|apply JZ|apply Jm|apply Hq|apply FC|apply Oe|apply KW|apply KI|apply KG|apply JJ|apply KA|apply G6|apply Jj|apply Ig|apply Ni|apply Ns|apply Gz|apply H8|apply Nv|apply F7|apply E8|apply Iz|apply La|apply Px|apply OG|apply Hw|apply Te|refine EI ?_|apply EJ|intro _) | split | dsimp only
theorem O4{P:Program}{Q:Value->Prop}{k:FloatKind}{n:Nat}{d:IntKind}(h:∀v,Q v):EL P Q (Conv.floatToInt k n d):=by
 unfold Conv.floatToInt
 repeat' first | with_reducible (first|assumption|exact ER) | ((with_reducible refine ES ?_);exact True.intro) | with_reducible (first|exact Lu|refine EJ (h _)|apply L9|apply Qz|apply Nk|apply VB|apply Vd|apply Rx|apply Ri|apply QD|apply IQ|apply Nz|apply VW|apply U0|apply Iw|apply I4|apply Jk|apply LJ|apply LB|apply LX|apply Jo|apply Ke|apply Kg|apply Jr|apply KJ|apply OP|apply PE|apply J6|apply IC|apply Ox|apply Jf|apply JK|apply IL|apply Nj|apply OV|apply KC|apply M9|apply Jb|apply KT|apply Ii|apply Ka|apply LY|apply OQ|apply Ik|apply JA|apply LA|apply Oz|apply OB|apply Lx|apply Wm|apply OW|apply LZ|apply Ls|apply MZ|apply Jq|apply M7|apply J4|apply Nn|apply GR|apply JR|apply KQ|apply KF|apply H9|apply II|apply OA|apply Mi|apply J9|apply JZ|apply Jm|apply Hq|apply FC|apply Oe|apply KW|apply KI|apply KG|apply JJ|apply KA|apply G6|apply Jj|apply Ig|apply Ni|apply Ns|apply Gz|apply H8|apply Nv|apply F7|apply E8|apply Iz|apply La|apply Px|apply OG|apply Hw|apply Te|refine EI ?_|apply EJ|intro _) | split | dsimp only
theorem Xt{P:Program}{Q:Value->Prop}{k:IntKind}{n:Int}(h:∀v,Q v):EL P Q (Conv.intToInt k n):=by
 unfold Conv.intToInt
 repeat' first | with_reducible (first|assumption|exact ER) | ((with_reducible refine ES ?_);exact True.intro) | with_reducible (first|exact Lu|refine EJ (h _)|apply O4|apply L9|apply Qz|apply Nk|apply VB|apply Vd|apply Rx|apply Ri|apply QD|apply IQ|apply Nz|apply VW|apply U0|apply Iw|apply I4|apply Jk|apply LJ|apply LB|apply LX|apply Jo|apply Ke|apply Kg|apply Jr|apply KJ|apply OP|apply PE|apply J6|apply IC|apply Ox|apply Jf|apply JK|apply IL|apply Nj|apply OV|apply KC|apply M9|apply Jb|apply KT|apply Ii|apply Ka|apply LY|apply OQ|apply Ik|apply JA|apply LA|apply Oz|apply OB|apply Lx|apply Wm|apply OW|apply LZ|apply Ls|apply MZ|apply Jq|apply M7|apply J4|apply Nn|apply GR|apply JR|apply KQ|apply KF|apply H9|apply II|apply OA|apply Mi|apply J9|apply JZ|apply Jm|apply Hq|apply FC|apply Oe|apply KW|apply KI|apply KG|apply JJ|apply KA|apply G6|apply Jj|apply Ig|apply Ni|apply Ns|apply Gz|apply H8|apply Nv|apply F7|apply E8|apply Iz|apply La|apply Px|apply OG|apply Hw|apply Te|refine EI ?_|apply EJ|intro _) | split | dsimp only
def Vq(P:Program)(t:TypeId):Bool:=
 match P.underlying t with
 | some (.int _)=>true
 | _=>false
theorem Y7{P:Program}{t:TypeId}(h:Vq P t=true):∃k,P.underlying t=some (.int k):=by
 unfold Vq at h;split at h
 . rename_i k e;exact⟨k,e⟩
 . cases h
theorem RQ{P:Program}{Q:Value->Prop}{s d:TypeId}{x:Value}(hs:Vq P s=true)(hd:Vq P d=true)(h:∀v,Q v):EL P Q (convert s d x):=by
 obtain⟨k,hk⟩:=Y7 hs;obtain⟨k',hk'⟩:=Y7 hd;unfold convert;refine EI (G5 fun a ha=>EI (G5 fun b hb=>?_));obtain rfl:=Option.some.inj (ha.symm.trans hk);obtain rfl:=Option.some.inj (hb.symm.trans hk');cases x with
 | int j n=>exact Xt h
 | float j n=>exact O4 h
 | pointer a=>cases a<;>exact trivial
 | _=>exact trivial
theorem Sq{P:Program}:∀{l:List FieldStep} {t:TypeId} {x:Option Value} {Q:Except (Option Bool) (TypeId × Option Value)->Prop},(∀v,Q v)->EL P Q (followBlind l t x):=by
 intro l;induction l with
 | nil=>intro t x Q h;unfold followBlind;exact EJ (h _)
 | cons s l ih=>
  intro t x Q h;unfold followBlind;refine EI (E8 fun d=>?_);repeat' first | exact ER | exact EJ (h _) | exact ih h | refine EI (Oe fun _=>?_) | split
theorem Xg{P:Program}:∀{n:Nat} {t:TypeId} {x:Value} {m:String} {Q:Option Bool->Prop},(∀v,Q v)->EL P Q (nilAhead n t x m):=by
 intro n;induction n with
 | zero=>intro t x m Q h;unfold nilAhead;exact EJ (h _)
 | succ n ih=>
  intro t x m Q h;unfold nilAhead;refine EI (F7 fun d=>?_);repeat' first | exact ER | exact EJ (h _) | exact ih h | refine EI (Sq fun _=>?_) | refine EI (E8 fun _=>?_) | split
theorem X4{P:Program}{Q:Next->Prop}{x:Value}(h:∀v,Q (.value v)):EL P Q (match x with
   | .pointer none | .nilIface | .nilFunc=>runtimePanic .nilDeref
   | .func (.method name) first captured=>
     match(first[0]?:Option Value)with
     | some .nilIface=>runtimePanic .nilDeref
     | some (.iface t w)=>do
       if(← nilAhead ((← program).types.size+Made.depth) t w name) != some false then
        unsupported (.noEntry "op/nilCheck.the method's receiver behind this interface value is a nil pointer, or cannot be seen to be none, and the arguments act or may panic (ledger 612)")
       pure (.value (.func (.method name) first captured))
     | _=>pure (.value (.func (.method name) first captured))
   | x=>pure (.value x):Sem Next):=by
 split
 . exact FC
 . exact FC
 . exact FC
 . split
   . exact FC
   . refine EI (show EL P _ program from EI (Xg fun _=>?_));dsimp only;split
     . exact EI (ES True.intro)
     . exact EJ (h _)
   . exact EJ (h _)
 . exact EJ (h _)
theorem Uc{P:Program}{Q:Value->Prop}{x:Value}{s t:TypeId}{b:Bool}(h:∀v,Q v):EL P Q (Instr.typeAssert x s t b):=by unfold Instr.typeAssert;refine EI (E8 fun d=>?_);repeat' first | exact ER | exact FC | exact EJ (h _) | refine EI (H8 fun _=>?_) | refine EI (F7 fun _=>?_) | split
theorem XO{P:Program}{Q:Value->Prop}{t:TypeId}{x:Value}(h:∀v,Q v):EL P Q (Instr.makeChan t x):=by
 unfold Instr.makeChan;refine EI (JZ fun d=>EI (E8 fun d=>?_));split
 . refine EI (F7 fun d=>?_);split
   . exact EI (FC)
   . exact EI (show EL P _ (newObj _)from⟨trivial,fun _=>EJ (h _)⟩)
 . exact ER
def IY(L:FuncId->Prop):Next->Prop
 | .value _=>True
 | .skip=>True
 | .enter f _=>L f
 | _=>False
def Oq(P:Program)(f:FuncId):Prop:=
 ∃fn e, P.funcs[f]? = some fn/\(fn.name == "runtime.NumGoroutine") = false/\fn.body.isNone = true/\Extern.findNext fn = none/\Extern.find fn = some e/\∀args, EL P (fun _ => True) (e args)
def SS:Builtin->Bool
 | .len | .cap | .append | .copy | .max | .min=>true
 | _=>false
def isEq:BinOp->Bool
 | .eql | .neq=>true
 | _=>false
def Vh:Operand->Bool
 | .const (.pointer none)=>true
 | _=>false
theorem Y3{x:Operand}(h:Vh x=true):x=.const (.pointer none):=by
 unfold Vh at h;split at h
 . rfl
 . cases h
class Host where
 bar:FuncId->Bool
variable [Host]
def K5(P:Program)(o:Oper):Bool:=
 match o.op with
 | .move _ | .assign _ | .pick _ _ _ | .alloc _ | .box _ _ | .build _ _ | .buildSlice _ _ _ | .load _ _ | .store _ _ _ | .unOp _ _ _ | .makeSlice _ _ _ | .slice _ _ _ _ _
 | .fieldAddr _ _ _ | .field _ _ _ | .indexAddr _ _ _ | .index _ _ _ | .extract _ _ | .makeInterface _ _ | .makeFunc _ _ _ | .nilCheck _ | .typeAssert _ _ _ _ | .makeChan _ _=>true
 | .binOp op t x y _=>!isEq op||(Oi P t||(Vh x||Vh y))
 | .convert s d _=>Vq P s&&Vq P d
 | .call c=>match c.callee with
  | .value (.func g)=>!Host.bar g
  | .builtin b=>SS b
  | _=>false
 | _=>false
def Ij(o:Oper):Option FuncId:=
 match o.op with
 | .call c=>match c.callee with
  | .value (.func g)=>some g
  | _=>none
 | _=>none
theorem LP{P:Program}{o:Oper}{g:FuncId}(ho:K5 P o=true)(hc:Ij o=some g):Host.bar g=false:=by
 obtain⟨dst,op,type,pos,after,guard⟩:=o;cases op with
 | call c=>
  obtain⟨callee,pE,ats⟩:=c;cases callee with
  | value f=>
   cases f with
   | func g'=>
    cases hc
    have:(!Host.bar g)=true:=ho
    simpa using this
   | _=>cases hc
  | _=>cases hc
 | _=>cases hc
def Yn(P : Program)(f : FuncId) : Prop := ∃fn c, P.funcs[f]? = some fn/\(fn.name == "runtime.NumGoroutine") = false/\fn.body = some c
section
variable {P:Program}{L:FuncId->Prop}
theorem JC{m:Sem Value}(h:∀Q:Value->Prop,(∀v,Q v)->EL P Q m):EL P (IY L) (do pure (.value (← m)):Sem Next):=EI (h _ fun _=>trivial)
theorem Agy{m:Sem Unit}(h:∀Q:Unit->Prop,(∀v,Q v)->EL P Q m):EL P (IY L) (do m;pure .skip:Sem Next):=EI (h _ fun _=>trivial)
theorem Sv{f:FuncId}{args:Array Value}(hL:L f)(hf:Yn P f):EL P (IY L) (callFunc f args):=by obtain⟨fn,c,h1,h2,h3⟩:=hf;show EL P (IY L) (match P.funcs[f]? with | none=>_ | some fn=>_);rw[h1];simp only[h2,h3,Option.isNone_some,Bool.false_eq_true,if_false];exact hL
theorem QH{f:FuncId}{args:Array Value}(hf:Oq P f):EL P (IY L) (callFunc f args):=by obtain⟨fn,e,h1,h2,h3,h4,h5,h6⟩:=hf;show EL P (IY L) (match P.funcs[f]? with | none=>_ | some fn=>_);rw[h1];simp only[h2,h3,h4,h5,Bool.false_eq_true,if_false,if_true];exact⟨trivial,show EL P (IY L) (e args >>= fun v=>pure (.value v))from EI ((h6 args).mono fun _ _=>trivial)⟩
theorem ZG{b:Builtin}{ats:Array TypeId}{t:TypeId}{cs:Array Bool}{args:Array Value}(hb:SS b=true):EL P (IY L) (builtin b ats t cs args):=by
 cases b<;>first | (exact absurd hb (by decide)) | skip
 . exact JC fun Q h=>Nk h
 . exact JC fun Q h=>VW h
 . exact JC fun Q h=>QD h
 . exact JC fun Q h=>U0 h
 . exact JC fun Q h=>Vd h
 . exact JC fun Q h=>VB h
theorem Uu{Q:Unit->Prop}{op:BinOp}{t:TypeId}{a b:Operand}{x y:Value}(ho:isEq op=false)(h:∀v,Q v):EL P Q (eqGuard op t a b x y):=by cases op<;>first | (exact absurd ho (by decide)) | exact h _
theorem UH{Q:Bool->Prop}{t:TypeId}{x:Value}(h:∀v,Q v):EL P Q (Op.equal t x (.pointer none)):=by
 unfold Op.equal;generalize Op.maxDepth=d;cases d with
 | zero=>exact trivial
 | succ d=>
  unfold Op.equalIn;refine EI (G5 fun u hu=>?_);repeat' first | contradiction | (injections;done) | with_reducible exact ER | ((with_reducible refine ES ?_);exact True.intro) | with_reducible refine EJ (h _) | split | unfold samePointer
theorem TL{Q:Bool->Prop}{t:TypeId}{x:Value}(h:∀v,Q v):EL P Q (Op.equal t (.pointer none) x):=by
 unfold Op.equal;generalize Op.maxDepth=d;cases d with
 | zero=>exact trivial
 | succ d=>
  unfold Op.equalIn;refine EI (G5 fun u hu=>?_);repeat' first | contradiction | (injections;done) | with_reducible exact ER | ((with_reducible refine ES ?_);exact True.intro) | with_reducible refine EJ (h _) | split | unfold samePointer
theorem Rb{Q:Unit->Prop}{op:BinOp}{t:TypeId}{a b:Operand}{x:Value}(h:∀v,Q v):EL P Q (eqGuard op t a b x (.pointer none)):=by cases op<;>cases x<;>exact h _
theorem Ry{Q:Unit->Prop}{op:BinOp}{t:TypeId}{a b:Operand}{x:Value}(h:∀v,Q v):EL P Q (eqGuard op t a b (.pointer none) x):=by cases op<;>cases x<;>exact h _
theorem Rj{ρ:Operand->Value}{o:Oper}(hρ:∀g,ρ (.func g)=.func (.func g) #[] #[])(zN:∀v,ρ (.const v)=v)(hc:∀g,Ij o=some g->(L g/\Yn P g)\/Oq P g)(ho:K5 P o=true):EL P (IY L) (execOp ρ o):=by
 obtain⟨dst,op,type,pos,after,guard⟩:=o;cases op with
 | move x=>exact trivial
 | assign x=>exact trivial
 | pick c a b=>exact EI (J9 fun _=>trivial)
 | alloc e=>exact JC fun Q h=>OW h
 | box e x=>exact JC fun Q h=>Wm h
 | build t ps=>exact JC fun Q h=>Qz h
 | buildSlice t n ps=>exact JC fun Q h=>L9 h
 | load t a=>exact JC fun Q h=>MZ h
 | store t a x=>exact Agy fun Q h=>LA h
 | unOp op t x=>exact JC fun Q h=>Ox h
 | makeSlice t l c=>exact JC fun Q h=>Ka h
 | slice t x l h m=>exact JC fun Q h=>LY h
 | fieldAddr s x f=>exact JC fun Q h=>Ls h
 | field s x f=>exact JC fun Q h=>OB h
 | indexAddr t x i=>exact JC fun Q h=>LZ h
 | index t x i=>exact JC fun Q h=>Oz h
 | extract t i=>exact JC fun Q h=>Lx h
 | makeInterface t x=>exact JC fun Q h=>Ii h
 | makeFunc f x y=>exact JC fun Q h=>KT h
 | nilCheck x=>exact X4 fun _=>trivial
 | typeAssert x s t b=>exact JC fun Q h=>Uc h
 | makeChan t x=>exact JC fun Q h=>XO h
 | binOp op t x y t'=>
  have ho':(!isEq op||(Oi P t||(Vh x||Vh y)))=true:=ho;cases he:isEq op with
  | false=>exact JC fun Q h=>EI (Uu he fun _=>QA (fun e=>by rcases e with rfl | rfl<;>exact absurd he (by decide)) h)
  | true=>
   have ht:Oi P t=true\/Vh x=true\/Vh y=true:=by simpa [he]using ho'
   rcases ht with ht|ht|ht
   . exact JC fun Q h=>EI (Qc ht fun _=>QA (fun _ Q' h'=>R5 ht h') h)
   . obtain rfl:=Y3 ht;exact JC fun Q h=>by rw[zN];exact EI (Ry fun _=>QA (fun _ Q' h'=>TL h') h)
   . obtain rfl:=Y3 ht;exact JC fun Q h=>by rw[zN];exact EI (Rb fun _=>QA (fun _ Q' h'=>UH h') h)
 | convert s d x=>
  have ho':(Vq P s&&Vq P d)=true:=ho;rw[Bool.and_eq_true]at ho';exact JC fun Q h=>RQ ho'.1 ho'.2 h
 | call c=>
  obtain⟨callee,pE,ats⟩:=c;cases callee with
  | value f=>
   cases f with
   | func g=>
     show EL P (IY L) (Deferred.ofValue (ρ (.func g)) _ >>= fun d=>invoke d.target d.args);rw[hρ];show EL P (IY L) (callFunc g _);rcases hc g rfl with h|h
     . exact Sv h.1 h.2
     . exact QH h
   | _=>exact absurd ho Bool.false_ne_true
  | builtin b=>exact ZG ho
  | invoke r m=>exact absurd ho Bool.false_ne_true
 | _=>exact absurd ho Bool.false_ne_true
end
end
section
def sh(w:World)(τ:Nat->Question->Nat)(d:Nat):World:={ w with tape:=τ,drawn:=d }
def WM{α:Type}:Result α->World
 | .ok _ w=>w
 | .halt _ w=>w
def ji{α:Type}(r:Result α)(τ:Nat->Question->Nat)(d:Nat):Result α:=
 match r with
 | .ok a w=>.ok a (sh w τ d)
 | .halt h w=>.halt h (sh w τ d)
section
variable {P:Program}{τ:Nat->Question->Nat}{d:Nat}{w:World}
@[simp] theorem YV:(sh w τ d).heap=w.heap:=rfl
@[simp] theorem oo:(sh w τ d).tape=τ:=rfl
@[simp] theorem bP:(sh w τ d).drawn=d:=rfl
theorem Yu(a:Addr):(sh w τ d).cell? a=w.cell? a:=rfl
theorem lM(at_:Addr)(u:TypeId)(k:Addr)(b:Bool):(sh w τ d).seen P at_ u k b=w.seen P at_ u k b:=rfl
theorem X6(a:Addr)(b:Bool):(sh w τ d).farLoad P a b=w.farLoad P a b:=rfl
theorem Xh(a:Addr)(v:Value):(sh w τ d).setCell a v=sh (w.setCell a v) τ d:=rfl
theorem Qf{ε α β:Type}(x:Except ε α)(f g:α->Except ε β)(h:β->β)(e:∀a,f a=(g a).map h):x.bind f=(x.bind g).map h:=by
 cases x with
 | error e=>rfl
 | ok a=>exact e a
theorem VE(a:Addr)(v:Value)(b:Bool):(sh w τ d).farStore P a v b=match w.farStore P a v b with
  | .ok (w',ts)=>.ok (sh w' τ d,ts)
  | .error h=>.error h:=by
 have key:∀at_ u,(sh w τ d).viewStore P at_ u a v b=(w.viewStore P at_ u a v b).map fun r=>(sh r.1 τ d,r.2):=by
  intro at_ u;unfold World.viewStore;rw[lM];cases ht:!tight P P.depth u with
  | true=>rfl
  | false=>
   cases hs:w.seen P at_ u a b with
   | error e=>rfl
   | ok r=>
    obtain⟨c,e,frozen,first,like,cells⟩:=r;simp only[Bool.false_eq_true,if_false];cases hb:v.bytes? with
    | none=>rfl
    | some bytes=>
     by_cases hl:some bytes.length≠Option.map (fun x=>x.length) like.bytes?
     . show(if _ then _ else _)=Except.map _ (if _ then _ else _);rw[if_pos hl,if_pos hl];rfl
     . show(if _ then _ else _)=Except.map _ (if _ then _ else _);rw[if_neg hl,if_neg hl];exact Qf _ _ _ _ fun _=>rfl
 unfold World.farStore;simp only[YV];cases ho:w.heap[a.block]? with
 | none=>rfl
 | some o=>
  cases o with
  | view at_ u=>
   simp only[key];cases w.viewStore P at_ u a v b<;>rfl
  | _=>rfl
theorem KM{a:Addr}{v:Value}{b:Bool}{w':World}{ts:List Addr}(h:w.farStore P a v b=.ok (w',ts)):w'.drawn=w.drawn/\w'.tape=w.tape:=by
 unfold World.farStore at h;cases ho:w.heap[a.block]? with
 | none=>rw[ho]at h;cases h
 | some o=>
  rw[ho]at h;cases o with
  | view at_ u=>
   simp only[]at h;cases hv:w.viewStore P at_ u a v b with
   | error e=>rw[hv]at h;cases h
   | ok r=>
    rw[hv]at h;cases h
    unfold World.viewStore at hv;simp only[bind,Except.bind,pure,Except.pure,throw,throwThe,MonadExceptOf.throw]at hv;repeat' split at hv
    all_goals first | (cases hv;done) | (cases hv;exact⟨rfl,rfl⟩)
  | _=>cases h
variable {α:Type}{Q:α->Prop}
theorem TM(v:Value):(∃cs,v=.agg cs)\/(∃cs,v=.tuple cs)\/((∀cs,v≠.agg cs)/\∀cs,v≠.tuple cs):=by cases v<;>simp
theorem Kz {m:Mode}{a:Addr}{v:Value}{k:Sem α}(n1:∀ cs,v≠.agg cs)(n2:∀ cs,v≠.tuple cs){es:Array Event}(w:World):(Sem.store m a v k).runT P w es=match w.cell? a with
        | some _ => if w.frozen? a then(.halt (.unsupported (.unsafePointer "a write to bytes that a string shares")) w, es)else k.runT P (w.setCell a v) (es.push ⟨.cell a, true, m==.atomic⟩)
        | none=>match w.farStore P a v (m==.atomic)with
          | .ok (w,touched)=>k.runT P w (es++touched.toArray.map (⟨.cell ·,true,m==.atomic⟩))
          | .error h=>(.halt h w,es):=by
  cases v<;>first | (exact absurd rfl (n1 _)) | (exact absurd rfl (n2 _)) | (simp only[Sem.runT]<;>rfl)
theorem VD:∀{m:Sem α} {w:World} {es:Array Event},EL P Q m->w.drawn<=(WM (m.runT P w es).1).drawn:=by
 intro m;induction m with
 | pure a=>intro w es _;exact Nat.le_refl _
 | load m a k ih=>
  intro w es ht;simp only[Sem.runT];split
  . exact ih _ (ht _)
  . split
    . exact ih _ (ht _)
    . exact Nat.le_refl _
 | store m a v k ih=>
  intro w es ht;rcases TM v with⟨cs,rfl⟩|⟨cs,rfl⟩|⟨n1,n2⟩
  . exact Nat.le_refl _
  . exact Nat.le_refl _
  rw[Kz n1 n2];split
  . split
    . exact Nat.le_refl _
    . exact ih ht (w:=w.setCell a v)
  . split
    . rename_i h
      exact Nat.le_trans (Nat.le_of_eq (KM h).1.symm) (ih ht)
    . exact Nat.le_refl _
 | new o k ih=>intro w es ht;exact ih _ (ht.2 _) (w:={ w with heap:=w.heap.push o })
 | shape r k ih=>intro w es ht;exact ih _ (ht.1 _)
 | freeze a n k ih=>intro w es ht;exact ht.elim
 | frozen a k ih=>intro w es ht;exact ih _ (ht.1 _)
 | getObj r k ih=>
  intro w es ht;simp only[Sem.runT];split
  . exact Nat.le_refl _
  . exact ih _ (ht.1 _)
  . exact Nat.le_refl _
 | setObj r o k ih=>intro w es ht;exact ht.elim
 | choose q k ih=>
  intro w es ht;simp only[Sem.runT];split
  . exact ih _ (ht _)
  . exact Nat.le_trans (Nat.le_succ _) (ih _ (ht _) (w:={ w with drawn:=w.drawn+1 }))
 | sys c k ih=>intro w es ht;exact ht.elim
 | program k ih=>intro w es ht;exact ih _ ht
 | mark m k ih=>intro w es ht;exact ih ht.2
 | halt x=>intro w es _;exact Nat.le_refl _
theorem X9:∀{m:Sem α} {w:World} {es:Array Event} {τ:Nat->Question->Nat} {d:Nat},EL P Q m->
  (∀i,w.drawn+i<(WM (m.runT P w es).1).drawn->τ (d+i)=w.tape (w.drawn+i))->
  m.runT P (sh w τ d) es=(ji (m.runT P w es).1 τ (d+((WM (m.runT P w es).1).drawn-w.drawn)),(m.runT P w es).2):=by
 intro m;induction m with
 | pure a=>intro w es τ d _ _;simp[Sem.runT,-Sem.runT_eq,ji,WM]
 | load m a k ih=>
  intro w es τ d ht Ib;simp only[Sem.runT,Yu,X6]at Ib ⊢;cases hc:w.cell? a with
  | some v=>rw[hc]at Ib;exact ih _ (ht _) Ib
  | none=>
    rw[hc]at Ib;simp only[]at Ib ⊢;cases hf:w.farLoad P a (m==.atomic)with
    | ok r=>rw[hf]at Ib;exact ih _ (ht _) Ib
    | error h=>simp[ji,WM]
 | store m a v k ih=>
  intro w es τ d ht Ib;rcases TM v with⟨cs,rfl⟩|⟨cs,rfl⟩|⟨n1,n2⟩
  . simp[Sem.runT,-Sem.runT_eq,ji,WM]
  . simp[Sem.runT,-Sem.runT_eq,ji,WM]
  rw[Kz n1 n2]at Ib;rw[Kz n1 n2,Kz n1 n2];simp only[Yu,Xh,VE];cases hc:w.cell? a with
  | some x=>
    rw[hc]at Ib;simp only[]at Ib ⊢;by_cases hf:w.frozen? a=true
    . rw[if_pos (show(sh w τ d).frozen? a=true from hf),if_pos hf];simp[ji,WM]
    . rw[if_neg hf]at Ib;rw[if_neg (show ¬ (sh w τ d).frozen? a=true from hf),if_neg hf];exact ih ht Ib
  | none=>
    rw[hc]at Ib;simp only[]at Ib ⊢;cases hf:w.farStore P a v (m==.atomic)with
    | ok r=>
      obtain⟨w',ts⟩:=r;rw[hf]at Ib;simp only[]at Ib ⊢;obtain⟨e1,e2⟩:=KM hf;rw[← e1,← e2]at Ib;rw[← e1];exact ih ht Ib
    | error h=>simp[ji,WM]
 | new o k ih=>intro w es τ d ht Ib;exact ih _ (ht.2 _) (w:={ w with heap:=w.heap.push o }) Ib
 | shape r k ih=>intro w es τ d ht Ib;exact ih _ (ht.1 _) Ib
 | freeze a n k ih=>intro w es τ d ht;exact ht.elim
 | frozen a k ih=>intro w es τ d ht Ib;exact ih _ (ht.1 _) Ib
 | getObj r k ih=>
  intro w es τ d ht Ib;simp only[Sem.runT,YV]at Ib ⊢;cases ho:w.heap[r]? with
  | none=>simp[ji,WM]
  | some o=>
    rw[ho]at Ib;cases o<;>first | (exact ih _ (ht.1 _) Ib) | simp[ji,WM]
 | setObj r o k ih=>intro w es τ d ht;exact ht.elim
 | choose q k ih=>
  intro w es τ d ht Ib;simp only[Sem.runT,oo,bP]at Ib ⊢;cases hq:q.forced with
  | true=>simp only[hq,if_true]at Ib ⊢;exact ih _ (ht _) Ib
  | false=>
    simp only[hq,Bool.false_eq_true,if_false]at Ib ⊢;have hle:=VD (ht (q.cut (w.tape w.drawn q))) (w:={ w with drawn:=w.drawn+1 }) (es:=es);have h0:τ d=w.tape w.drawn:=Ib 0 (by simp only[Nat.add_zero];exact hle);rw[h0];have:=ih (q.cut (w.tape w.drawn q)) (ht _) (w:={ w with drawn:=w.drawn+1 }) (es:=es) (τ:=τ) (d:=d+1) (fun i hi=>by have:=Ib (i+1) (by simp only[]at hi ⊢;omega);rw[show d+1+i=d+(i+1)by omega,this];show w.tape (w.drawn+(i+1))=w.tape (w.drawn+1+i);rw[show w.drawn+(i+1)=w.drawn+1+i by omega])
    rw[show d+((WM (Sem.runT P (k (q.cut (w.tape w.drawn q))) { w with drawn:=w.drawn+1 } es).1).drawn-w.drawn)=d+1+((WM (Sem.runT P (k (q.cut (w.tape w.drawn q))) { w with drawn:=w.drawn+1 } es).1).drawn-(w.drawn+1))by simp only[]at hle;omega];exact this
 | sys c k ih=>intro w es τ d ht;exact ht.elim
 | program k ih=>intro w es τ d ht Ib;exact ih _ ht Ib
 | mark m k ih=>intro w es τ d ht Ib;exact ih ht.2 Ib
 | halt x=>intro w es τ d _ _;simp[Sem.runT,-Sem.runT_eq,ji,WM]
def GY(w:World):Prop:=∀(b:Nat) c e,w.heap[b]?≠some (Obj.pending c e)
theorem F6{B:Hid}{w:World}(hR:Rows B w):GY (EF B w):=by
 intro b c e h;cases hB:B b with
 | true=>
  obtain⟨c',e',f',hc⟩:=hR b hB;rw[H6 hB hc]at h;cases h
 | false=>
  rw[Fu hB]at h;cases ho:w.heap[b]? with
  | none=>rw[ho]at h;cases h
  | some o=>
   rw[ho]at h;cases o<;>simp[dep]at h
def YD:Halt->Prop
 | .panic _=>True
 | .stuck _=>True
 | .unsupported u=>Y2 u
 | _=>False
def kindOk(Q:α->Prop):Result α->Prop
 | .ok a _=>Q a
 | .halt h _=>YD h
theorem PN(hN:GY w)(a:Addr)(s:String):YD (w.noCell a s):=by
 unfold World.noCell;split
 . rename_i h;exact absurd h (hN _ _ _)
 . exact trivial
 . exact trivial
theorem Ur(hN:GY w){a:Addr}{b:Bool}{h:Halt}(e:w.farLoad P a b=.error h):YD h:=by
 unfold World.farLoad at e;split at e
 . split at e
   . cases e
   . cases e;exact trivial
 . cases e;exact PN hN _ _
theorem RV(hN:GY w){a:Addr}{v:Value}{b:Bool}{h:Halt}(e:w.farStore P a v b=.error h):YD h:=by
 unfold World.farStore at e;split at e
 . split at e
   . cases e
   . cases e;exact trivial
 . cases e;exact PN hN _ _
theorem GY.setObj(hN:GY w){r:Nat}{o:Obj}(ho:∀c e,o≠.pending c e):GY { w with heap:=w.heap.setIfInBounds r o }:=by
 intro b c e h;simp only[Array.getElem?_setIfInBounds]at h;split at h
 . split at h
   . exact ho _ _ (Option.some.inj h)
   . cases h
 . exact hN _ _ _ h
theorem GY.setCell(hN:GY w){a:Addr}{v:Value}:GY (w.setCell a v):=by
 intro b c e h;simp only[World.setCell,Array.getElem?_modify]at h;split at h
 . cases ho:w.heap[b]? with
   | none=>rw[ho]at h;cases h
   | some o=>
    rw[ho]at h;cases o with
    | pending c' e'=>exact hN _ _ _ ho
    | _=>simp at h
 . exact hN _ _ _ h
theorem GY.far(hN:GY w){a:Addr}{v:Value}{b:Bool}{w':World}{ts:List Addr}(h:w.farStore P a v b=.ok (w',ts)):GY w':=by
 unfold World.farStore at h;cases ho:w.heap[a.block]? with
 | none=>rw[ho]at h;cases h
 | some o=>
  rw[ho]at h;cases o with
  | view at_ u=>
   simp only[]at h;cases hv:w.viewStore P at_ u a v b with
   | error e=>rw[hv]at h;cases h
   | ok r=>
    rw[hv]at h;cases h
    unfold World.viewStore at hv;simp only[bind,Except.bind,pure,Except.pure,throw,throwThe,MonadExceptOf.throw]at hv;repeat' split at hv
    all_goals first | (cases hv;done) | (cases hv;exact hN.setObj (fun _ _=>nofun))
  | _=>cases h
theorem Pt:∀{m:Sem α} {w:World} {es:Array Event},EL P Q m->GY w->kindOk Q (m.runT P w es).1:=by
 intro m;induction m with
 | pure a=>intro w es ht _;exact ht
 | load m a k ih=>
  intro w es ht hN;simp only[Sem.runT];cases hc:w.cell? a with
  | some v=>exact ih _ (ht _) hN
  | none=>
    simp only[];cases hf:w.farLoad P a (m==.atomic)with
    | ok r=>exact ih _ (ht _) hN
    | error h=>exact Ur hN hf
 | store m a v k ih=>
  intro w es ht hN;rcases TM v with⟨cs,rfl⟩|⟨cs,rfl⟩|⟨n1,n2⟩
  . exact trivial
  . exact trivial
  rw[Kz n1 n2];cases hc:w.cell? a with
  | some x=>
    simp only[];split
    . exact trivial
    . exact ih ht hN.setCell
  | none=>
    simp only[];cases hf:w.farStore P a v (m==.atomic)with
    | ok r=>exact ih ht (hN.far hf)
    | error h=>exact RV hN hf
 | new o k ih=>
  intro w es ht hN;refine ih _ (ht.2 _) (w:={ w with heap:=w.heap.push o }) fun b c e h=>?_;simp only[Array.getElem?_push]at h;split at h
  . obtain rfl:=Option.some.inj h;exact ht.1
  . exact hN _ _ _ h
 | shape r k ih=>intro w es ht hN;exact ih _ (ht.1 _) hN
 | freeze a n k ih=>intro w es ht;exact ht.elim
 | frozen a k ih=>intro w es ht hN;exact ih _ (ht.1 _) hN
 | getObj r k ih=>
  intro w es ht hN;simp only[Sem.runT];cases ho:w.heap[r]? with
  | none=>exact trivial
  | some o=>cases o<;>first | exact ih _ (ht.1 _) hN | exact trivial
 | setObj r o k ih=>intro w es ht;exact ht.elim
 | choose q k ih=>
  intro w es ht hN;simp only[Sem.runT];split
  . exact ih _ (ht _) hN
  . exact ih _ (ht _) (w:={ w with drawn:=w.drawn+1 }) hN
 | sys c k ih=>intro w es ht;exact ht.elim
 | program k ih=>intro w es ht hN;exact ih _ ht hN
 | mark m k ih=>intro w es ht hN;exact ih ht.2 hN
 | halt x=>
  intro w es ht hN;cases x<;>first | exact trivial | exact ht
theorem Xw:∀{m:Sem α} {w:World} {es:Array Event},EL P Q m->(WM (m.runT P w es).1).tape=w.tape:=by
 intro m;induction m with
 | pure a=>intro w es _;rfl
 | load m a k ih=>
  intro w es ht;simp only[Sem.runT];cases hc:w.cell? a with
  | some v=>exact ih _ (ht _)
  | none=>
    simp only[];cases hf:w.farLoad P a (m==.atomic)with
    | ok r=>exact ih _ (ht _)
    | error h=>rfl
 | store m a v k ih=>
  intro w es ht;rcases TM v with⟨cs,rfl⟩|⟨cs,rfl⟩|⟨n1,n2⟩
  . rfl
  . rfl
  rw[Kz n1 n2];cases hc:w.cell? a with
  | some x=>
    simp only[];split
    . rfl
    . exact ih ht (w:=w.setCell a v)
  | none=>
    simp only[];cases hf:w.farStore P a v (m==.atomic)with
    | ok r=>exact(ih ht).trans (KM hf).2
    | error h=>rfl
 | new o k ih=>intro w es ht;exact ih _ (ht.2 _) (w:={ w with heap:=w.heap.push o })
 | shape r k ih=>intro w es ht;exact ih _ (ht.1 _)
 | freeze a n k ih=>intro w es ht;exact ht.elim
 | frozen a k ih=>intro w es ht;exact ih _ (ht.1 _)
 | getObj r k ih=>
  intro w es ht;simp only[Sem.runT];cases ho:w.heap[r]? with
  | none=>rfl
  | some o=>cases o<;>first | exact ih _ (ht.1 _) | rfl
 | setObj r o k ih=>intro w es ht;exact ht.elim
 | choose q k ih=>
  intro w es ht;simp only[Sem.runT];split
  . exact ih _ (ht _)
  . exact ih _ (ht _) (w:={ w with drawn:=w.drawn+1 })
 | sys c k ih=>intro w es ht;exact ht.elim
 | program k ih=>intro w es ht;exact ih _ ht
 | mark m k ih=>intro w es ht;exact ih ht.2
 | halt x=>intro w es ht;rfl
theorem LM{B:Hid}{m:Sem α}{w:World}{es:Array Event}{τ:Nat->Question->Nat}{d:Nat}(ht:EL P Q m)(hR:Rows B w){x:α ⊕ Value}{w1:World}(h:GV (m.runT P (sh (EF B w) τ d) es).1=some (x,w1))(Ib:∀i,d+i<w1.drawn->w.tape (w.drawn+i)=τ (d+i)) :
   ∃w2 es2,GV (m.runT P w es).1=some (x,w2)/\w1=sh (EF B w2) τ (d+(w2.drawn-w.drawn))/\Kept B w w2/\(∀a,x=.inl a->Q a)/\
    (m.runT P w es).2=es++es2/\(m.runT P (sh (EF B w) τ d) es).2=es++es2/\∀e∈es2,Jv B w2.heap.size e:=by
 have hw1:WM (m.runT P (sh (EF B w) τ d) es).1=w1:=by
   cases x with
   | inl a=>rw[Jy h];rfl
   | inr v=>rw[Mf h];rfl
 have hs:=X9 (w:=sh (EF B w) τ d) (es:=es) (τ:=w.tape) (d:=w.drawn) ht (fun i hi=>by rw[hw1]at hi;exact Ib i hi);have he:sh (sh (EF B w) τ d) w.tape w.drawn=EF B w:=rfl;rw[he,hw1]at hs;have hd:d<=w1.drawn:=by rw[← hw1];exact VD (w:=sh (EF B w) τ d) (es:=es) ht
 have hx:GV (m.runT P (EF B w) es).1=some (x,sh w1 w.tape (w.drawn+(w1.drawn-d))):=by
   rw[hs];cases x with
   | inl a=>rw[Jy h];rfl
   | inr v=>rw[Mf h];rfl
 obtain⟨w2,es2,h1,h2,h3,h4,h5,h6,h7⟩:=fG ht hR x _ hx;refine⟨w2,es2,h1,?_,h3,h4,h5,?_,h7⟩
 . have e1:w2.drawn=w.drawn+(w1.drawn-d):=by rw[show w2.drawn=(EF B w2).drawn from rfl,← h2];rfl
   have e2:w1.tape=τ:=by
    have:=(Xw (P:=P) (w:=sh (EF B w) τ d) (es:=es) ht)
    rw[hw1]at this;exact this
   have:sh (EF B w2) τ (d+(w2.drawn-w.drawn))=sh (sh w1 w.tape (w.drawn+(w1.drawn-d))) τ (d+(w2.drawn-w.drawn)):=by rw[h2]
   rw[this,e1];show w1={ w1 with tape:=τ,drawn:=_ }
   rw[show d+(w.drawn+(w1.drawn-d)-w.drawn)=w1.drawn by omega,← e2]
 . rw[← h6,hs]
end
end
end Go.LT
namespace Go.LT
open Go Go.Conc
section
variable [Host]
def Hg(P:Program):Code->Bool
 | .skip | .ret | .exit _ | .label _ | .refuse _=>true
 | .region _ ops _=>ops.all (K5 P)
 | .seq a b | .cond _ a b=>Hg P a&&Hg P b
 | .block _ b | .loop b | .scope b=>Hg P b
 | _=>false
def Gn(P:Program):Item->Bool
 | .code c=>Hg P c
 | .inBlock _=>true
 | .inLoop b | .inScope b=>Hg P b
 | .inRegion ops l=>l.all fun i=>(ops[i]?).all (K5 P)
 | _=>false
theorem J3{P:Program}{ops:Array Oper}(h:ops.all (K5 P)=true)(l:List Nat):Gn P (.inRegion ops l)=true:=by
 show(l.all fun i=>(ops[i]?).all (K5 P))=true;rw[List.all_eq_true];intro i _;cases ho:ops[i]? with
 | none=>rfl
 | some o=>
  rw[Array.all_eq_true]at h;obtain⟨hlt,he⟩:=zGE ho
  simpa [← he]using h i hlt
theorem Nh{P:Program}{ops:Array Oper}{i:Nat}{rest:List Nat}{o:Oper}(h:Gn P (.inRegion ops (i :: rest))=true)(ho:ops[i]?=some o):K5 P o=true:=by have h':((i :: rest).all fun i=>(ops[i]?).all (K5 P))=true:=h;simp only[List.all_cons,ho,Option.all_some,Bool.and_eq_true]at h';exact h'.1
theorem Np{P:Program}{ops:Array Oper}{i:Nat}{rest:List Nat}(h:Gn P (.inRegion ops (i :: rest))=true):Gn P (.inRegion ops rest)=true:=by have h':((i :: rest).all fun i=>(ops[i]?).all (K5 P))=true:=h;rw[List.all_cons,Bool.and_eq_true]at h';exact h'.2
def Lets(P:Program)(f:FuncId):Prop:=
 P.inits.idxOf? f = none/\((∃fn c, P.funcs[f]? = some fn/\(fn.name == "runtime.NumGoroutine") = false/\fn.body = some c/\Hg P c = true)\/Oq P f\/Host.bar f = true)
def Fb(F:FuncId->Prop)(f:FuncId):Prop:=F f/\Host.bar f=false
structure Ih(P:Program)(F:FuncId->Prop)(fr:Frame):Prop where
 kind:fr.kind=.normal
 round:fr.roundOf=none
 defers:fr.defers=[]
 todo:∀it∈fr.todo,Gn P it=true
 fn:F fr.fn
 eZ:∀chain,fr.mode=.panicking chain->∀e∈chain,e.goexit=false
section
variable {P:Program}{F:FuncId->Prop}
theorem Ih.finish{fr:Frame}(h:Ih P F fr)(v:Value):Ih P F (fr.finish v):=by
 obtain⟨fn,tmps,todo,defers,mode,kind,roundOf⟩:=fr;obtain⟨h1,h2,h3,h4,h5,h6⟩:=h;unfold Frame.finish;cases todo with
 | nil=>exact⟨h1,h2,h3,h4,h5,h6⟩
 | cons it k=>
  have hi:=h4 it (by simp);have hk:∀x∈k,Gn P x=true:=fun x hx=>h4 x (by simp at hx ⊢;exact .inr hx);cases it with
  | inRegion ops l=>
   cases l with
   | nil=>exact⟨h1,h2,h3,h4,h5,h6⟩
   | cons i rest=>
    refine⟨h1,h2,h3,fun x hx=>?_,h5,h6⟩;rcases List.mem_cons.1 hx with rfl|hx
    . exact Np hi
    . exact hk x hx
  | code c=>exact⟨h1,h2,h3,h4,h5,h6⟩
  | inBlock b=>exact⟨h1,h2,h3,h4,h5,h6⟩
  | inLoop b=>exact⟨h1,h2,h3,h4,h5,h6⟩
  | inScope b=>exact⟨h1,h2,h3,h4,h5,h6⟩
  | _=>exact absurd hi Bool.false_ne_true
theorem Ih.raise{fr:Frame}(h:Ih P F fr){vs:List PanicEntry}(hv:∀e∈vs,e.goexit=false):Ih P F (fr.raise vs):=by
 unfold Frame.raise;split
 . rename_i chain hm
   exact⟨h.kind,h.round,h.defers,h.todo,h.fn,fun c hc e he=>by
    cases hc
    rcases List.mem_append.1 he with he|he
    . exact hv e he
    . exact h.eZ _ hm e he⟩
 . exact⟨h.kind,h.round,h.defers,h.todo,h.fn,fun c hc e he=>by cases hc;exact hv e he⟩
theorem Ih.enter(hF:∀f,F f->Lets P f){f:FuncId}(hf:Fb F f)(args:Array Value):Ih P F (Frame.enter P f args .normal):=by
 refine⟨rfl,rfl,rfl,fun it hit=>?_,hf.1,fun c hc=>by cases hc⟩;simp only[Frame.enter,List.mem_singleton]at hit;subst hit;rcases(hF f hf.1).2 with⟨fn,c,h1,_,h2,h3⟩|⟨fn,e,h1,_,h2,_⟩|hb
 . simp[h1,h2,Gn,h3]
 . have:fn.body=none:=by simpa using h2
   simp[h1,this,Gn,Hg]
 . rw[hf.2]at hb;cases hb
theorem ZO{id:Nat}:∀{k k':List Item},exitTo id k=some k'->(∀x∈k,Gn P x=true)->∀x∈k',Gn P x=true:=by
 intro k;induction k with
 | nil=>intro k' h;cases h
 | cons it k ih=>
  intro k' h hk;have hk':∀x∈k,Gn P x=true:=fun x hx=>hk x (by simp;exact .inr hx);unfold exitTo at h;split at h
  . rename_i heq
    cases heq
    split at h
    . cases h;exact hk'
    . exact ih h hk'
  . rename_i heq
    cases heq
    exact ih h hk'
  . cases ‹_›
theorem O1{fr:Frame}{o:Oper}{g:FuncId}{w:World}(hm:fr.mode=.run)(XD:fr.oper?=some o)(hc:Ij o=some g) :
  fr.about P w=some g:=by
 have:∃ops i rest k,fr.todo=.inRegion ops (i :: rest) :: k/\ops[i]?=some o:=by
  unfold Frame.oper? at XD;split at XD
  . exact⟨_,_,_,_,by assumption,XD⟩
  . cases XD
 obtain⟨ops,i,rest,k,ht,ho⟩:=this;obtain⟨dst,op,type,pos,after,guard⟩:=o;unfold Frame.about;simp only[hm,ht,ho];cases op with
 | call c=>
  obtain⟨callee,pE,ats⟩:=c;cases callee with
  | value f=>
    cases f with
    | func g'=>cases hc;rfl
    | _=>cases hc
  | _=>cases hc
 | _=>cases hc
def Ms(P:Program)(F:FuncId->Prop)(B:Hid)(main:Bool)(τ:Nat->Question->Nat)(d:Nat)(fr:Frame)(s t:List Frame)(w:World):GStep->Prop
 | .go g w1 es=>(∀i,d+i<w1.drawn->w.tape (w.drawn+i)=τ (d+i))->∃fr' s' w2,g=G fr' s'/\w1=sh (EF B w2) τ (d+(w2.drawn-w.drawn))/\
   stepG P main (G fr (s++t)) w=.go (G fr' (s'++t)) w2 es/\Kept B w w2/\(∀e∈es,Jv B w2.heap.size e)/\∀x∈fr' :: s',Ih P F x
 | .ended ..=>True
 | _=>False
section
variable {B:Hid}{main:Bool}{τ:Nat->Question->Nat}{d:Nat}{fr:Frame}{s t:List Frame}{w:World}
theorem M6{fr':Frame}(h:∀(m:Bool) (cs:List Frame) (w:World),stepG P m (G fr cs) w=.go (G fr' cs) w)(hok:∀x∈fr' :: s,Ih P F x):Ms P F B main τ d fr s t w (stepG P true (G fr s) (sh (EF B w) τ d)):=by rw[h];exact fun _=>⟨fr',s,w,rfl,by simp,h _ _ _,Kept.refl B w,by simp,hok⟩
theorem Ue(hF:∀f,F f->Lets P f)(hR:Rows B w)(hfr:∀x∈fr :: s,Ih P F x)(hmode:fr.mode=.run){sem:Sem Next}(hT:EL P (IY (Fb F)) sem)(hw:∀d wr r sv k,fr.todo≠.call d wr r sv :: k)(h:∀(m:Bool) (cs:List Frame) (w:World),stepG P m (G fr cs) w=stepG.apply P true fr cs none sem w):Ms P F B main τ d fr s t w (stepG P true (G fr s) (sh (EF B w) τ d)):=by
 have h0:=hfr fr (by simp);have hs:∀x∈s,Ih P F x:=fun x hx=>hfr x (by simp;exact .inr hx);have Mg:(fr.kind==CallKind.early)=false:=by rw[h0.kind];rfl
 have hk:=Pt (es:=#[]) hT (w:=sh (EF B w) τ d) (F6 hR);have over:=fun x w1=>LM (es:=#[]) (τ:=τ) (d:=d) hT hR (x:=x) (w1:=w1);rw[h];have key:∀(x:Next ⊕ Value) w1,GV (sem.runT P (sh (EF B w) τ d) #[]).1=some (x,w1)->(∀i,d+i<w1.drawn->w.tape (w.drawn+i)=τ (d+i))->∃w2,GV (sem.runT P w #[]).1=some (x,w2)/\w1=sh (EF B w2) τ (d+(w2.drawn-w.drawn))/\Kept B w w2/\
   (∀a,x=.inl a->IY (Fb F) a)/\(sem.runT P w #[]).2=(sem.runT P (sh (EF B w) τ d) #[]).2/\∀e∈seen P fr.fn (sem.runT P (sh (EF B w) τ d) #[]).2,Jv B w2.heap.size e:=by
  intro x w1 hx Ib;obtain⟨w2,es2,h1,h2,h3,h4,h5,h6,h7⟩:=over x w1 hx Ib;refine⟨w2,h1,h2,h3,h4,h5.trans h6.symm,fun e he=>h7 e ?_⟩;have:=mem_seen he;rw[h6]at this
  simpa using this
 generalize hr:sem.runT P (sh (EF B w) τ d) #[]=r at hk key;obtain⟨r,es⟩:=r;unfold stepG.apply;simp only[if_true,hr,Mg,Bool.false_eq_true,if_false];cases r with
 | ok n w1=>
  cases n with
  | value v=>
   intro Ib;obtain⟨w2,h1,h2,h3,h4,h5,h6⟩:=key (.inl (.value v)) w1 rfl Ib;refine⟨fr.finish v,s,w2,rfl,h2,?_,h3,by simpa [GStep.after]using h6,fun x hx=>?_⟩
   . rw[h];unfold stepG.apply;generalize hr2:sem.runT P w #[]=r2 at h1 h5;obtain⟨r2,es2⟩:=r2;obtain rfl:=Jy h1;obtain rfl:es2=es:=h5;simp only[if_true,hr2,Mg,Bool.false_eq_true,if_false];rfl
   . rcases List.mem_cons.1 hx with rfl | hx
     . exact h0.finish v
     . exact hs x hx
  | skip=>
   intro Ib;obtain⟨w2,h1,h2,h3,h4,h5,h6⟩:=key (.inl .skip) w1 rfl Ib;refine⟨fr.finish undef,s,w2,rfl,h2,?_,h3,by simpa [GStep.after]using h6,fun x hx=>?_⟩
   . rw[h];unfold stepG.apply;generalize hr2:sem.runT P w #[]=r2 at h1 h5;obtain⟨r2,es2⟩:=r2;obtain rfl:=Jy h1;obtain rfl:es2=es:=h5;simp only[if_true,hr2,Mg,Bool.false_eq_true,if_false];rfl
   . rcases List.mem_cons.1 hx with rfl | hx
     . exact h0.finish undef
     . exact hs x hx
  | enter f args=>
   intro Ib;obtain⟨w2,h1,h2,h3,h4,h5,h6⟩:=key (.inl (.enter f args)) w1 rfl Ib;refine⟨Frame.enter P f args .normal,fr :: s,w2,by split<;>first | rfl | (rename_i e;exact absurd e (hw _ _ _ _ _)),h2,?_,h3,by simpa [GStep.after]using h6,fun x hx=>?_⟩
   . rw[h];unfold stepG.apply;generalize hr2:sem.runT P w #[]=r2 at h1 h5;obtain⟨r2,es2⟩:=r2;obtain rfl:=Jy h1;obtain rfl:es2=es:=h5;simp only[if_true,hr2,Mg,Bool.false_eq_true,if_false];split<;>first | rfl | (rename_i e;exact absurd e (hw _ _ _ _ _))
   . rcases List.mem_cons.1 hx with rfl | hx
     . exact Ih.enter hF (h4 _ rfl) args
     . exact hfr x hx
  | _=>exact hk.elim
 | halt x w1=>
  cases x with
  | panic v=>
   intro Ib;obtain⟨w2,h1,h2,h3,h4,h5,h6⟩:=key (.inr v) w1 rfl Ib;refine⟨fr.raise [{ v,recovered:=false }],s,w2,rfl,h2,?_,h3,by simpa [GStep.after]using h6,fun x hx=>?_⟩
   . rw[h];unfold stepG.apply;generalize hr2:sem.runT P w #[]=r2 at h1 h5;obtain⟨r2,es2⟩:=r2;obtain rfl:=Mf h1;obtain rfl:es2=es:=h5;simp only[if_true,hr2,Mg,Bool.false_eq_true,if_false];rfl
   . rcases List.mem_cons.1 hx with rfl | hx
     . exact h0.raise (by simp)
     . exact hs x hx
  | stuck m=>exact trivial
  | unsupported u=>cases u<;>first | exact hk.elim | exact trivial
  | _=>exact hk.elim
theorem ZH{fr:Frame}(h:Ih P F fr){todo:List Item}(ht:∀x∈todo,Gn P x=true):Ih P F { fr with todo }:=⟨h.kind,h.round,h.defers,ht,h.fn,h.eZ⟩
theorem Xv(hF:∀f,F f->Lets P f)(hR:Rows B w)(hfr:∀x∈fr :: s,Ih P F x)(hmode:fr.mode=.run)(hab:∀o g,fr.oper?=some o->Ij o=some g->F g) :
  Ms P F B main τ d fr s t w (stepG P true (G fr s) (sh (EF B w) τ d)):=by
 have h0:=hfr fr (by simp);have hs:∀x∈s,Ih P F x:=fun x hx=>hfr x (by simp;exact .inr hx);have hto:∀{fr':Frame},Ih P F fr'->∀x∈fr' :: s,Ih P F x:=fun h x hx=>by
  rcases List.mem_cons.1 hx with rfl|hx
  . exact h
  . exact hs x hx
 have hrnd:=h0.round;have htodo:=h0.todo;have hmv:∀todo,(∀(m:Bool) (cs:List Frame) (w:World),stepG P m (G fr cs) w=.go (G { fr with todo } cs) w)->(∀x∈todo,Gn P x=true)->Ms P F B main τ d fr s t w (stepG P true (G fr s) (sh (EF B w) τ d)):=
  fun todo h hk=>M6 h (hto (ZH h0 hk))
 have hret:(∀(m:Bool) (cs:List Frame) (w:World),stepG P m (G fr cs) w=.go (G { fr with mode:=.returning } cs) w)->Ms P F B main τ d fr s t w (stepG P true (G fr s) (sh (EF B w) τ d)):=
  fun h=>M6 h (hto ⟨h0.kind,h0.round,h0.defers,h0.todo,h0.fn,fun c hc=>by cases hc⟩)
 have hend:(∃o w' es,stepG P true (G fr s) (sh (EF B w) τ d)=.ended o w' es)->Ms P F B main τ d fr s t w (stepG P true (G fr s) (sh (EF B w) τ d)):=by rintro⟨o,w',es,h⟩;rw[h];exact trivial
 obtain⟨fn,tmps,todo,defers,mode,kind,roundOf⟩:=fr;simp only at hmode hrnd htodo;subst hmode hrnd;cases todo with
 | nil=>exact hret fun m cs w=>by simp[G,stepG,stepG.exec]
 | cons it k=>
  have hi:=htodo it (by simp);have hk:∀x∈k,Gn P x=true:=fun x hx=>htodo x (by simp;exact .inr hx);have cons:∀{a:Item} {l:List Item},Gn P a=true->(∀x∈l,Gn P x=true)->∀x∈a :: l,Gn P x=true:=fun ha hl x hx=>by
    rcases List.mem_cons.1 hx with rfl|hx
    . exact ha
    . exact hl x hx
  cases it with
  | code c=>
    cases c with
    | skip=>exact hmv k (fun m cs w=>by simp[G,stepG,stepG.exec]) hk
    | label l=>exact hmv k (fun m cs w=>by simp[G,stepG,stepG.exec]) hk
    | ret=>exact hret fun m cs w=>by simp[G,stepG,stepG.exec]
    | refuse why=>exact hend ⟨_,_,_,by simp[G,stepG,stepG.exec];exact⟨rfl,rfl,rfl⟩⟩
    | seq a b=>
      have hab':(Hg P a&&Hg P b)=true:=hi;rw[Bool.and_eq_true]at hab';exact hmv (.code a :: .code b :: k) (fun m cs w=>by simp[G,stepG,stepG.exec]) (cons hab'.1 (cons hab'.2 hk))
    | cond c a b=>
      have hab':(Hg P a&&Hg P b)=true:=hi;rw[Bool.and_eq_true]at hab';by_cases hb:∃v,Frame.eval { fn,tmps,todo:=.code (.cond c a b) :: k,defers,mode:=.run,kind } c=.bool v
      . obtain⟨v,hv⟩:=hb;refine hmv (.code (if v then a else b) :: k) (fun m cs w=>by simp[G,stepG,stepG.exec,hv]) (cons ?_ hk);cases v
        . exact hab'.2
        . exact hab'.1
      . refine hend ?_;generalize he:Frame.eval { fn,tmps,todo:=.code (.cond c a b) :: k,defers,mode:=.run,kind } c=e at hb;cases e with
        | bool v=>exact absurd ⟨v,rfl⟩ hb
        | _=>exact⟨_,_,_,by simp[G,stepG,stepG.exec,he];exact⟨rfl,rfl,rfl⟩⟩
    | block id b=>exact hmv (.code b :: .inBlock id :: k) (fun m cs w=>by simp[G,stepG,stepG.exec]) (cons hi (cons rfl hk))
    | loop b=>exact hmv (.code b :: .inLoop b :: k) (fun m cs w=>by simp[G,stepG,stepG.exec]) (cons hi (cons hi hk))
    | scope b=>exact hmv (.code b :: .inScope b :: k) (fun m cs w=>by simp[G,stepG,stepG.exec]) (cons hi (cons hi hk))
    | exit id=>
      cases he:exitTo id k with
      | some k'=>exact hmv k' (fun m cs w=>by simp[G,stepG,stepG.exec,he]) (ZO he hk)
      | none=>exact hend ⟨_,_,_,by simp[G,stepG,stepG.exec,he];exact⟨rfl,rfl,rfl⟩⟩
    | region id ops draw=>
      cases draw with
      | false=>exact hmv (.inRegion ops (List.range ops.size) :: k) (fun m cs w=>by simp[G,stepG,stepG.exec]) (cons (J3 hi _) hk)
      | true=>
        have hst:∀(m:Bool) (cs:List Frame) (w:World),stepG P m (G { fn,tmps,todo:=.code (.region id ops true) :: k,defers,mode:=.run,kind } cs) w =
            .go (G { fn,tmps,todo:=.inRegion ops (Region.schedule (P.follows .mixedOrders) ops (w.tape w.drawn (.order fn id))) :: k,defers,mode:=.run,kind } cs) { w with drawn:=w.drawn+1 }:=fun m cs w=>by
          simp[G,stepG,stepG.exec,choose,Sem.run,Question.forced,Question.cut]
        rw[hst];intro Ib;have h1:=Ib 0 (by simp[sh]);refine⟨_,s,{ w with drawn:=w.drawn+1 },rfl,?_,(hst _ _ _).trans ?_,⟨rfl,rfl,rfl,Nat.le_succ _,Nat.le_refl _,fun _ _=>rfl,fun _ _ h _=>h,fun _ _ _ h=>h,fun _ _=>rfl⟩,by simp,hto ⟨h0.kind,rfl,h0.defers,cons (J3 hi _) hk,h0.fn,fun c hc=>by cases hc⟩⟩
        . simp[sh,EF]
        . simp only[Nat.add_zero]at h1;rw[h1];rfl
    | rangeFunc f ps a b=>exact absurd hi Bool.false_ne_true
    | goto l=>exact absurd hi Bool.false_ne_true
  | inBlock id=>exact hmv k (fun m cs w=>by simp[G,stepG,stepG.exec]) hk
  | inLoop b=>exact hmv (.code b :: .inLoop b :: k) (fun m cs w=>by simp[G,stepG,stepG.exec]) (cons hi (cons hi hk))
  | inScope b=>exact hmv k (fun m cs w=>by simp[G,stepG,stepG.exec]) hk
  | inRegion ops l=>
    cases l with
    | nil=>exact hmv k (fun m cs w=>by simp[G,stepG,stepG.exec]) hk
    | cons i rest=>
      cases hw:((ops[i]?).map (Region.wanted · (yielded ops tmps))).getD false with
      | false=>
        refine M6 (fr':=Frame.finish { fn,tmps,todo:=.inRegion ops (i :: rest) :: k,defers,mode:=.run,kind } undef) (fun m cs w=>?_) (hto (h0.finish undef));simp[G,stepG,stepG.exec,hw]
      | true=>
        cases ho:ops[i]? with
        | none=>rw[ho]at hw;cases hw
        | some o=>
          have XD:K5 P o=true:=Nh hi ho;refine Ue (sem:=execOp (Frame.eval { fn,tmps,todo:=.inRegion ops (i :: rest) :: k,defers,mode:=.run,kind }) o) hF hR hfr rfl ?_ (fun _ _ _ _ _ h=>by cases h) (fun m cs w=>?_)
          . refine Rj (fun g=>rfl) (fun v=>rfl) (fun g hg=>?_) XD;have hFg:=hab o g (by simp[Frame.oper?,ho]) hg;rcases(hF g hFg).2 with⟨f,c,h1,h2,h3,_⟩|h|h
            . exact .inl ⟨⟨hFg,LP XD hg⟩,f,c,h1,h2,h3⟩
            . exact .inr h
            . rw[LP XD hg]at h;cases h
          . have hw':Region.wanted o (yielded ops tmps)=true:=by rw[ho]at hw;exact hw
            obtain⟨dst,op,type,pos,after,guard⟩:=o;simp[G,stepG,stepG.exec,stepG.oper,Frame.oper?,ho,hw']
  | inRangeFunc l=>exact absurd hi Bool.false_ne_true
  | endRangeFunc l=>exact absurd hi Bool.false_ne_true
  | beginRound=>exact absurd hi Bool.false_ne_true
  | call d w r sv=>exact absurd hi Bool.false_ne_true
  | extern r a=>exact absurd hi Bool.false_ne_true
theorem Qs{c:Frame}{s:List Frame}(hR:Rows B w)(hfr:∀x∈fr :: c :: s,Ih P F x)(hmode:fr.mode≠.run) :
  Ms P F B main τ d fr (c :: s) t w (stepG P true (G fr (c :: s)) (sh (EF B w) τ d)):=by
 have h0:=hfr fr (by simp);have hc:=hfr c (by simp);have hs:∀x∈s,Ih P F x:=fun x hx=>hfr x (by simp;exact .inr (.inr hx));have hto:∀{c':Frame},Ih P F c'->∀x∈c' :: s,Ih P F x:=fun h x hx=>by
  rcases List.mem_cons.1 hx with rfl|hx
  . exact h
  . exact hs x hx
 have hdef:=h0.defers;have hkind:=h0.kind;obtain⟨fn,tmps,todo,defers,mode,kind,roundOf⟩:=fr;simp only at hmode hdef hkind;subst hdef hkind;cases mode with
 | run=>exact absurd rfl hmode
 | returning=>
  cases hf:P.funcs[fn]? with
  | none=>
    have hst:∀(m:Bool) (cs:List Frame) (w:World),stepG P m (G { fn,tmps,todo,defers:=[],mode:=.returning,kind:=.normal,roundOf } (c :: cs)) w=.go (G (c.finish (tmps.getD 0 undef)) cs) w:=fun m cs w=>by simp[G,stepG,unwind,hf,doReturn]
    rw[hst];exact fun _=>⟨_,s,w,rfl,by simp,hst _ _ _,Kept.refl B w,by simp,hto (hc.finish _)⟩
  | some f=>
    have hT:EL P (fun _=>True) (results f tmps):=Pz fun _=>trivial;have hst:∀(m:Bool) (cs:List Frame) (w:World),stepG P m (G { fn,tmps,todo,defers:=[],mode:=.returning,kind:=.normal,roundOf } (c :: cs)) w =
      GStep.after (seen P fn ((results f tmps).runT P w #[]).2) (match((results f tmps).runT P w #[]).1 with
       | .ok v w=>.go (G (c.finish v) cs) w
       | .halt (.stuck s) w=>.ended (.stuck s (Frame.pos P { fn,tmps,todo,defers:=[],mode:=.returning,kind:=.normal,roundOf })) w
       | .halt _ w => .ended (.stuck "return: the result variables cannot be read" (Frame.pos P { fn, tmps, todo, defers := [], mode := .returning, kind := .normal, roundOf })) w) := fun m cs w => by
     simp only[G,stepG,unwind,hf];generalize(results f tmps).runT P w #[]=r;obtain⟨r,es⟩:=r;cases r with
     | ok v w=>rfl
     | halt x w=>cases x<;>rfl
    rw[hst];have over:=fun x w1=>LM (es:=#[]) (τ:=τ) (d:=d) hT hR (x:=x) (w1:=w1);generalize hr:(results f tmps).runT P (sh (EF B w) τ d) #[]=r at over;obtain⟨r,es⟩:=r;cases r with
    | ok v w1=>
     intro Ib;obtain⟨w2,es2,h1,h2,h3,h4,h5,h6,h7⟩:=over (.inl v) w1 rfl Ib;simp only[Array.empty_append]at h5 h6;subst h6;refine⟨_,s,w2,rfl,h2,(hst _ _ _).trans ?_,h3,fun e he=>h7 e (mem_seen (by simpa [GStep.after]using he)),hto (hc.finish v)⟩;generalize hr2:(results f tmps).runT P w #[]=r2 at h1 h5;obtain⟨r2,es2⟩:=r2;obtain rfl:=Jy h1;obtain rfl:es2=es:=h5;rfl
    | halt x w1=>cases x<;>exact trivial
 | panicking chain=>
  by_cases hca:Frame.catches P { fn,tmps,todo,defers:=[],mode:=.panicking chain,kind:=.normal,roundOf }=true
  . have:∃o w' es,stepG P true (G { fn,tmps,todo,defers:=[],mode:=.panicking chain,kind:=.normal,roundOf } (c :: s)) (sh (EF B w) τ d)=.ended o w' es:=by simp only[G,stepG,unwind,hca,if_true];exact⟨_,_,_,rfl⟩
    obtain⟨o,w',es,h⟩:=this;rw[h];exact trivial
  . have hst:∀(m:Bool) (cs:List Frame) (w:World),stepG P m (G { fn,tmps,todo,defers:=[],mode:=.panicking chain,kind:=.normal,roundOf } (c :: cs)) w=.go (G (c.raise chain) cs) w:=fun m cs w=>by simp only[G,stepG,unwind,hca,if_false,Bool.false_eq_true]
    rw[hst];exact fun _=>⟨_,s,w,rfl,by simp,hst _ _ _,Kept.refl B w,by simp,hto (hc.raise (h0.eZ chain rfl))⟩
theorem bottom(hF:∀f,F f->Lets P f)(h0:Ih P F fr)(hmode:fr.mode≠.run) :
  (∃o w' es,stepG P true (G fr []) w=.ended o w' es)\/∃g' w' es,stepG P true (G fr []) w=.go g' w' es/\g'.dying.isNone=false:=by
 have hdef:=h0.defers;have hkind:=h0.kind;have hfn:=(hF _ h0.fn).1;have hno:=h0.eZ;obtain⟨fn,tmps,todo,defers,mode,kind,roundOf⟩:=fr;simp only at hmode hdef hkind hfn hno;subst hdef hkind;cases mode with
 | run=>exact absurd rfl hmode
 | returning=>
  left
  cases hf:P.funcs[fn]? with
  | none=>exact⟨_,_,_,by simp only[G,stepG,unwind,hf,doReturn,hfn];rfl⟩
  | some f=>
    simp only[G,stepG,unwind,hf];generalize(results f tmps).runT P w #[]=r;obtain⟨r,es⟩:=r;cases r with
    | ok v w=>exact⟨_,_,_,by simp only[doReturn,hfn];rfl⟩
    | halt x w=>cases x<;>exact⟨_,_,_,rfl⟩
 | panicking chain=>
  have hg:(chain.head?.any (·.goexit))=false:=by
    cases chain with
    | nil=>rfl
    | cons e l=>simpa using hno _ rfl e (by simp)
  simp only[G,stepG,unwind,hg,Bool.false_eq_true,if_false];split
  . exact .inl ⟨_,_,_,rfl⟩
  . split
    . exact .inr ⟨_,_,_,rfl,rfl⟩
    . exact .inl ⟨_,_,_,rfl⟩
    . exact .inl ⟨_,_,_,rfl⟩
end
end
end
end Go.LT
end
