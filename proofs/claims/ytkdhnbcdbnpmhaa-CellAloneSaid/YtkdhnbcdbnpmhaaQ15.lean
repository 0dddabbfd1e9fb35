/-
  Part 15 of the proof that CellAlone returns true for every input and leaves its arguments as they were. No further condition.
-/
import Derived.Test.YtkdhnbcdbnpmhaaQ14
set_option linter.unusedVariables false
set_option linter.unusedSectionVars false
set_option maxHeartbeats 4000000
namespace Go.LK
open Go Go.Conc Go.LT Go.LC
section
variable {P:Program}{main:Bool}{Γ:Type}{S:HY P main Γ}{Cl Cs Sg:Type}{D:Dr Cl Cs Sg}{m:Mem Sg}{Xr:FuncId}
theorem Js.write (I:Js S D m Xr){s₀ s:I.St}{σ:Sg}{Z8 W W':World}{N:Nat}(hA:I.At s σ W)(hO:I.On s₀ Z8 s W)(ho:I.own s N)(hc:¬ I.core s N)(hk:¬ I.kept s₀ N)(hr:∃ c e f,W'.heap[N]?=some (Obj.cells c e f))(hb:∀ b,b≠N->W'.heap[b]?=W.heap[b]?)(hs:W'.heap.size=W.heap.size):I.At s σ W'/\I.On s₀ Z8 s W':=by
  have hsh:=(I.row hA ho).1;refine ⟨I.put hA (m.eq σ W W' (fun b h=>.of (hb b fun e=>hsh (e ▸ h))) (I.inv hA)) (fun b h=>hb b fun e=>hc (e ▸ h)) (fun b h=>?_) (Nat.le_of_eq hs.symm),hO.le,hO.core,fun b h=>⟨(hO.kept b h).1,(hb b fun e=>hk (e ▸ h)).trans (hO.kept b h).2⟩,by rw [hs];exact hO.size,hO.fuel⟩;by_cases e:b=N
  . rw [e];exact hr
  . rw [hb b e];exact (I.row hA h).2
end
end Go.LK
namespace Go.LT
open Go Go.Conc
theorem Qr {P:Program}{main:Bool}{Γ:Type}{S:HY P main Γ}{γ:Γ}{W:World}{f:FuncId}{tm:Array Value}{Y:List Item}{c:Frame}{cs:List Frame}{fn:Func}{v:Value}(hf:P.funcs[f]?=some fn)(hr:Reads P fn tm W v)(h:JL S.L γ (G (c.finish v) cs) W):JL S.L γ (G { (base f).at ⟨tm,[]⟩ Y with mode:=.returning } (c :: cs)) W:=JW.returns (S:=S) hf hr h
theorem Jf {P:Program}{fn:Func}{p:Tmp}{ty:TypeId}(h:fn.results=#[.cell p ty]){tm:Array Value}{W:World}{g:Nat}{t:TypeId}{cs:Array Value}{fr:Nat × Nat}{d:TypeDesc}(hp:tm.getD p undef=.pointer (some ⟨g,0,none⟩))(hg:W.heap[g]?=some (.cells cs t fr))(hu:P.underlying ty=some d)(hd:(match d with | .struct _ | .array _ _=>true | _=>false)=true)(hi:(P.info? ty).map (·.size)=some cs.size):Reads P fn tm W (.agg cs):=fun GQ ha=>by
  obtain ⟨τ,d',rfl⟩:=ha;exact results_cell_row h tm _ g t cs fr d hp hg hu hd hi
end Go.LT
namespace Go.Proofs.Ytkdhnbcdbnpmhaa
open Go Go.Conc Go.LT Go.LC Go.LK Go.RowKit
noncomputable def do0:Code:=match Try.f138.body with | some (.seq c _)=>c | _=>.skip
noncomputable def do1:Code:=match Try.f138.body with | some (.seq _ (.seq (.seq c _) _))=>c | _=>.skip
noncomputable def Rh:Code:=match Try.f138.body with | some (.seq _ (.seq (.seq _ c) _))=>c | _=>.skip
noncomputable def kG:Code:=match Try.f138.body with | some (.seq _ (.seq _ c))=>c | _=>.skip
theorem kU:Try.f138.body=some (.seq do0 (.seq (.seq do1 Rh) kG)):=rfl
def Jb (c:G5)(pv:Value):Value:=.agg #[.int .i64 c.kind,.int .i64 c.a,.int .i64 c.b,.int .i64 c.c,pv]
def Q6 (e:An)(iv:Value):Value:=.agg #[.int .i64 0,.int .i64 0,.int .i64 0,.bool e.ok,.int .i64 e.n,.int .i64 e.m,.int .i64 e.err,iv,.slice none 0 0]
section
variable {main:Bool}{Γ:Type}{S:HY Try.prog main Γ}{m:Mem (List Int)}{cb ct n:Nat}{cf:Frame}{fs:List Frame}{W:World}{σ:List Int}
def Vp (ct N:Nat)(wv cv:Value)(k:Int):Array Value:=#[.pointer (some ⟨ct,0,none⟩),wv,cv,undef,undef,.pointer (some ⟨N,0,none⟩),.pointer (some ⟨N+1,0,none⟩),.pointer (some ⟨N,0,none⟩),.int .i64 k,undef,undef,undef,undef,undef,undef,undef,undef,undef,undef,undef,undef,undef,undef,undef,undef,undef,undef,undef,undef,undef,undef,undef,undef,undef,undef,undef,undef,undef,undef,undef,undef,undef,undef,undef,undef,undef,undef,undef,undef,undef,undef,undef,undef,undef,undef,undef,undef,undef,undef,undef,undef,undef,undef,undef,undef,undef,undef,undef,undef,undef,undef,undef,undef,undef,undef,undef,undef,undef,undef,undef,undef,undef,undef,undef,undef,undef,undef,undef,undef,undef,undef,undef,undef,undef,undef,undef,undef,undef,undef,undef,undef,undef,undef,undef,undef]
theorem Nj (I:Js S He m 63){s:I.St}{c:G5}{pv:Value}(hA:I.At s σ W)(hS:I.R4 s σ c)(hJ:∀ s' W' N,I.At s' σ W'->I.On s W s' W'->I.R4 s' σ c->I.kept s' (N+1)->(I.own s' (N+1)/\¬ I.core s' (N+1)/\¬ I.kept s (N+1))->W'.heap[N]?=some (.cells #[.int .i64 c.kind,.int .i64 c.a,.int .i64 c.b,.int .i64 c.c,pv] 32 (0,0))->
      W'.heap[N+1]?=some (.cells #[.int .i64 0,.int .i64 0,.int .i64 0,.bool false,.int .i64 0,.int .i64 0,.int .i64 0,.slice none 0 0,.slice none 0 0] 51 (0,0))->
      JL S.L (I.γ s') (G ((base 138).at ⟨Vp ct N I.wv (Jb c pv) c.kind,[]⟩ [.code Rh,.code kG]) (cf :: fs)) W') :
    JW S.base (I.γ s) (G (Frame.enter Try.prog 138 #[.pointer (some ⟨ct,0,none⟩),I.wv,Jb c pv] .normal) (cf :: fs)) W:=by
  have ht:#[.pointer (some ⟨ct,0,none⟩),I.wv,Jb c pv] ++ Array.replicate (Try.f138.ntmps - (#[.pointer (some ⟨ct,0,none⟩),I.wv,Jb c pv]:Array Value).size) undef=#[.pointer (some ⟨ct,0,none⟩),I.wv,Jb c pv,undef,undef,undef,undef,undef,undef,undef,undef,undef,undef,undef,undef,undef,undef,undef,undef,undef,undef,undef,undef,undef,undef,undef,undef,undef,undef,undef,undef,undef,undef,undef,undef,undef,undef,undef,undef,undef,undef,undef,undef,undef,undef,undef,undef,undef,undef,undef,undef,undef,undef,undef,undef,undef,undef,undef,undef,undef,undef,undef,undef,undef,undef,undef,undef,undef,undef,undef,undef,undef,undef,undef,undef,undef,undef,undef,undef,undef,undef,undef,undef,undef,undef,undef,undef,undef,undef,undef,undef,undef,undef,undef,undef,undef,undef,undef,undef,undef,undef,undef,undef,undef,undef]:=by
    have:Try.f138.ntmps=105:=by kernel_rfl
    rw [this];walk_nrm
  rw [enter_at _ Try.func138 kU,ht];generalize hw:I.wv=wv;show JL S.L (I.γ s) _ W;dsimp only;refine GY stepG_seq ?_;refine HY.Ht (S:=S) (b:=base 138) [] (by simp) (by kernel_rfl) nE (by kernel_rfl) fun GQ ha=>?_;obtain ⟨hA1,Ke⟩:=I.alike hA ha;have HH:=Lib.hid (And.intro hJ (And.intro hS (And.intro hA1 Ke)));clear hJ hS hA hA1 Ke;simp only [do0,Try.f138,Jb];gi_wp2;obtain ⟨hJ,hS,hA1,Ke⟩:=HH.out;clear HH;generalize ho1:Obj.cells #[Value.int IntKind.i64 c.kind,Value.int IntKind.i64 c.a,Value.int IntKind.i64 c.b,Value.int IntKind.i64 c.c,pv] 32=o1;generalize ho2:Obj.cells #[Value.int IntKind.i64 0,Value.int IntKind.i64 0,Value.int IntKind.i64 0,Value.bool false,Value.int IntKind.i64 0,Value.int IntKind.i64 0,Value.int IntKind.i64 0,Value.slice none 0 0,Value.slice none 0 0] 51=o2
  obtain ⟨s1,hA2,hO2,e1,o1',k1,b1,_⟩:=I.lay (W':=GQ.alloc o1) (N:=GQ.heap.size) hA1 rfl ⟨_,_,_,by rw [heap_alloc_new];exact congrArg some ho1.symm⟩ (fun b hb=>Below.heap_alloc _ _ _ hb) (by simp);obtain ⟨s2,hA3,hO3,e2,o2',k2,b2,_⟩:=I.lay (W':=(GQ.alloc o1).alloc o2) (N:=(GQ.alloc o1).heap.size) hA2 rfl ⟨_,_,_,by rw [heap_alloc_new];exact congrArg some ho2.symm⟩ (fun b hb=>Below.heap_alloc _ _ _ hb) (by simp);have hsz:(GQ.alloc o1).heap.size=GQ.heap.size+1:=by simp
  have q1:((GQ.alloc o1).alloc o2).heap[GQ.heap.size]?=some o1:=by rw [Below.heap_alloc _ _ _ (by simp)];exact heap_alloc_new _ _
  have q2:((GQ.alloc o1).alloc o2).heap[GQ.heap.size+1]?=some o2:=by rw [← hsz];exact heap_alloc_new _ _
  have q3:I.kept s2 (GQ.heap.size+1):=(k2 _).2 (.inr hsz.symm);have q6:I.own s2 (GQ.heap.size+1)/\¬ I.core s2 (GQ.heap.size+1)/\¬ I.kept s (GQ.heap.size+1):=by
    have hown:∀ b,I.own s b->b < GQ.heap.size:=fun b hb=>by obtain ⟨_,c,e,f,h⟩:=I.row hA1 hb;exact (Array.getElem?_eq_some_iff.1 h).1
    refine ⟨(o2' _).2 (.inr hsz.symm),fun h=>?_,fun h=>?_⟩
    . have:=hown _ (I.Pq hA1 ((hO2.core _).1 ((hO3.core _).1 h)));omega
    . have:=hown _ (I.JX hA1 h);omega
  have q4:=Ke.trans (hO2.trans hO3);have q5:=b2 _ (b1 _ hS);have e3:I.γ s=I.γ s2:=(e2.trans e1).symm;rw [e3];generalize (GQ.alloc o1).alloc o2=W3 at *;generalize GQ.heap.size=N at *;have hc:W3.cell? ⟨N,0,none⟩=some (.int .i64 c.kind):=by rw [← ho1] at q1;simp [World.cell?,q1]
  show JL S.L (I.γ s2) _ W3;refine GY stepG_seq ?_;refine GY stepG_seq ?_;simp only [do1,Try.f138];refine Hu fun _ hkk=>?_
  (refine Hf ?_;walk_nrm)
  refine HY.read (S:=S) (.int .i64 c.kind) rfl rfl nE hc (fun w h=>by go_simp) (fun w h e he=>by simp [go_sem,h] at he;exact he) ?_;walk_nrm;refine Hw ?_;cases hkk;subst ho1 ho2;have:=hJ s2 W3 N hA3 q4 q5 q3 q6 q1 q2;rw [hw] at this;exact this
theorem Afh (I:Js S He m 63)(hm:Ir m ct cb n){s:I.St}{c:G5}{pv:Value}(hk:c.kind=1)(hA:I.At s σ W)(hS:I.R4 s σ c)(hL:I.Leaves cf fs)(hJ:∀ s' σ' W' e,I.At s' σ' W'->I.On s W s' W'->I.End s' σ' (e,false)->e.ints=[]->JW S.base (I.γ s') (G (cf.finish (Q6 e (.slice none 0 0))) fs) W') :
    JW S.base (I.γ s) (G (Frame.enter Try.prog 138 #[.pointer (some ⟨ct,0,none⟩),I.wv,Jb c pv] .normal) (cf :: fs)) W:=by
  refine Nj I hA hS fun s1 W1 N hA1 Ke hS1 hN PO q1 q2=>?_;generalize hw:I.wv=wv;generalize Jb c pv=cv;rw [hk];unfold Vp;dsimp only;have hbl:∃ c0,Rh=.block 0 c0/\c0=(match Rh with | .block _ c=>c | _=>.skip):=⟨_,rfl,rfl⟩
  obtain ⟨c0,hc0,hc1⟩:=hbl;rw [hc0];refine GY stepG_block ?_;rw [hc1];simp only [Rh,Try.f138];refine GY stepG_seq ?_;refine Hu fun _ hkk=>?_;iterate 2 (refine Hf ?_;walk_nrm)
  refine Hw ?_;cases hkk;refine JL.Iq rfl ?_;refine Hu fun _ hkk=>?_;iterate 3 (refine Hf ?_;walk_nrm)
  refine HY.read (S:=S) (ad:=⟨N,1,none⟩) (.int .i64 c.a) rfl rfl nE (by simp [World.cell?,q1]) (fun w h=>by go_simp) (fun w h e he=>by simp [go_sem,h] at he;exact he) ?_;walk_nrm;refine JL.enter rfl rfl nE rfl Try.func20 (by kernel_rfl) (by kernel_rfl) ?_;walk_nrm;rw [← hw];refine RQ I hm hk hA1 (I.Vm hS1 (by simp [He,hk])) (I.pop Try.func138 hL) fun s2 σ2 W2 e hA2 hO2 hE he=>?_;rw [Frame.finish_at];rw [hw];obtain ⟨VX,en,em,Jw,NA⟩:=e;simp only at he ⊢;have hrow:W2.heap[N+1]?=_:=((hO2.kept _ hN).2).trans q2;have hO3:=Ke.trans hO2;have hown:I.own s2 (N+1):=I.JX hA2 (hO2.kept _ hN).1;have hcore:¬ I.core s2 (N+1):=fun h=>PO.2.1 ((hO2.core _).1 h);have M6:=PO.2.2;show JL S.L (I.γ s2) _ W2;walk_nrm;iterate 3 (refine Hf ?_;walk_nrm)
  obtain ⟨rfl,rfl,rfl⟩:=he;have HH:=Lib.hid (And.intro hJ (And.intro hA2 (And.intro hO3 (And.intro hE (And.intro hown (And.intro hcore M6))))));clear hJ hA2 hO3 hE hown hcore M6 PO hN hA1 Ke hS1 hA hS hO2 q1 q2;refine HY.JR (S:=S) (b:=base 138) 8 [] (by simp) (by kernel_rfl) nE rfl (by kernel_rfl) fun GQ ha=>?_;have hW:GQ.heap=W2.heap:=by obtain ⟨τ,d,rfl⟩:=ha;rfl
  rw [← hW] at hrow;dsimp only [List.drop];have g3:GQ.cell? ⟨N+1,3,none⟩=some (.bool false):=by simp [World.cell?,hrow]
  have g4:GQ.cell? ⟨N+1,4,none⟩=some (.int .i64 0):=by simp [World.cell?,hrow]
  have g6:GQ.cell? ⟨N+1,6,none⟩=some (.int .i64 0):=by simp [World.cell?,hrow]
  have z3:GQ.frozen? ⟨N+1,3,none⟩=false:=by simp [World.frozen?,hrow]
  have z4:GQ.frozen? ⟨N+1,4,none⟩=false:=by simp [World.frozen?,hrow]
  have z6:GQ.frozen? ⟨N+1,6,none⟩=false:=by simp [World.frozen?,hrow]
  have HR:=Lib.hid (And.intro hrow hW);clear hrow hW;gi_wp2;refine ⟨rfl,?_⟩;obtain ⟨hrow,hW⟩:=HR.out;clear HR;have hf:∃ W3:World,W3=((GQ.setCell ⟨N+1,4,none⟩ (.int .i64 en)).setCell ⟨N+1,6,none⟩ (.int .i64 Jw)):=⟨_,rfl⟩
  obtain ⟨W3,hW3⟩:=hf;rw [← hW3];have hrow3:W3.heap[N+1]?=some (.cells #[.int .i64 0,.int .i64 0,.int .i64 0,.bool false,.int .i64 en,.int .i64 0,.int .i64 Jw,.slice none 0 0,.slice none 0 0] 51 (0,0)):=by rw [hW3];simp [World.setCell,Array.getElem?_modify,hrow]
  have IC:∀ b,b≠N+1->W3.heap[b]?=W2.heap[b]?:=fun b hb=>by rw [hW3,← hW];simp [World.setCell,Array.getElem?_modify,hb.symm]
  have Ji:W3.heap.size=W2.heap.size:=by rw [hW3,← hW];simp [World.setCell]
  clear hW3 hrow hW g3 g4 g6 z3 z4 z6;show JL S.L (I.γ s2) _ W3;refine Hw ?_;cases hkk;refine GY stepG_inBlock ?_;refine HY.Ht (S:=S) (b:=base 138) [] (by simp) (by kernel_rfl) nE (by kernel_rfl) fun W4 VU=>?_;have Ov:W4.heap=W3.heap:=by obtain ⟨τ,d,rfl⟩:=VU;rfl
  rw [← Ov] at hrow3;simp only [← Ov] at IC Ji;have c0:W4.cell? ⟨N+1,0,none⟩=some (.int .i64 0):=by simp [World.cell?,hrow3]
  have c1:W4.cell? ⟨N+1,1,none⟩=some (.int .i64 0):=by simp [World.cell?,hrow3]
  have c2:W4.cell? ⟨N+1,2,none⟩=some (.int .i64 0):=by simp [World.cell?,hrow3]
  have c3:W4.cell? ⟨N+1,3,none⟩=some (.bool false):=by simp [World.cell?,hrow3]
  have c4:W4.cell? ⟨N+1,4,none⟩=some (.int .i64 en):=by simp [World.cell?,hrow3]
  have c5:W4.cell? ⟨N+1,5,none⟩=some (.int .i64 0):=by simp [World.cell?,hrow3]
  have c6:W4.cell? ⟨N+1,6,none⟩=some (.int .i64 Jw):=by simp [World.cell?,hrow3]
  have c7:W4.cell? ⟨N+1,7,none⟩=some (.slice none 0 0):=by simp [World.cell?,hrow3]
  have c8:W4.cell? ⟨N+1,8,none⟩=some (.slice none 0 0):=by simp [World.cell?,hrow3]
  have zz:∀ o,W4.frozen? ⟨N+1,o,none⟩=false:=fun o=>by simp [World.frozen?,hrow3]
  have z0:=zz 0;have z1:=zz 1;have z2:=zz 2;have z3:=zz 3;have z4:=zz 4;have z5:=zz 5;have z6:=zz 6;have z7:=zz 7;have z8:=zz 8;clear zz;have HR:=Lib.hid (And.intro hrow3 (And.intro IC Ji));clear hrow3 IC Ji Ov;have hfin:RowKit.Hid (∀ W5 tm,W5.heap[N+1]?=some (.cells #[.int .i64 0,.int .i64 0,.int .i64 0,.bool false,.int .i64 en,.int .i64 0,.int .i64 Jw,.slice none 0 0,.slice none 0 0] 51 (0,0))->(∀ b,b≠N+1->W5.heap[b]?=W4.heap[b]?)->W5.heap.size=W4.heap.size->tm.getD 6 undef=.pointer (some ⟨N+1,0,none⟩)->
      TB S (I.γ s2) (base 138) [] [] (cf :: fs) .ret ⟨tm,[]⟩ W5):=Lib.hid fun W5 tm h1 h2 h3 h4 Y=>by
    obtain ⟨hJ,hA2,hO3,hE,hown,hcore,M6⟩:=HH.out;obtain ⟨_,IC,Ji⟩:=HR.out;obtain ⟨SF,R8⟩:=I.write hA2 hO3 hown hcore M6 ⟨_,_,_,h1⟩ (fun b hb=>(h2 b hb).trans (IC b hb)) (h3.trans Ji);exact Qr Try.func138 (Jf Try.results138 h4 h1 Try.underlying51 rfl (by kernel_rfl)) (hJ s2 σ2 W5 _ SF R8 hE rfl)
  clear HH;simp only [kG,Try.f138];gi_wp2;obtain ⟨hrow3,_,_⟩:=HR.out;clear HR;exact hfin.out _ _ (by simp [World.setCell,Array.getElem?_modify,hrow3]) (fun b hb=>by simp [World.setCell,Array.getElem?_modify,hb.symm]) (by simp [World.setCell]) rfl
theorem Ae9 (I:Js S He m 63)(hm:Ir m ct cb n){s:I.St}{c:G5}{pv:Value}(hk:c.kind=2)(hA:I.At s σ W)(hS:I.R4 s σ c)(hL:I.Leaves cf fs)(hJ:∀ s' σ' W' e,I.At s' σ' W'->I.On s W s' W'->I.End s' σ' (e,false)->e.ints=[]->JW S.base (I.γ s') (G (cf.finish (Q6 e (.slice none 0 0))) fs) W') :
    JW S.base (I.γ s) (G (Frame.enter Try.prog 138 #[.pointer (some ⟨ct,0,none⟩),I.wv,Jb c pv] .normal) (cf :: fs)) W:=by
  refine Nj I hA hS fun s1 W1 N hA1 Ke hS1 hN PO q1 q2=>?_;generalize hw:I.wv=wv;generalize Jb c pv=cv;rw [hk];unfold Vp;dsimp only;have hbl:∃ c0,Rh=.block 0 c0/\c0=(match Rh with | .block _ c=>c | _=>.skip):=⟨_,rfl,rfl⟩
  obtain ⟨c0,hc0,hc1⟩:=hbl;rw [hc0];refine GY stepG_block ?_;rw [hc1];simp only [Rh,Try.f138];refine GY stepG_seq ?_;refine Hu fun _ hkk=>?_;iterate 2 (refine Hf ?_;walk_nrm)
  refine Hw ?_;cases hkk;refine JL.Ho rfl ?_;refine GY stepG_seq ?_;refine Hu fun _ hkk=>?_;iterate 2 (refine Hf ?_;walk_nrm)
  refine Hw ?_;cases hkk;refine JL.Iq rfl ?_;refine Hu fun _ hkk=>?_;iterate 3 (refine Hf ?_;walk_nrm)
  refine HY.read (S:=S) (ad:=⟨N,1,none⟩) (.int .i64 c.a) rfl rfl nE (by simp [World.cell?,q1]) (fun w h=>by go_simp) (fun w h e he=>by simp [go_sem,h] at he;exact he) ?_;walk_nrm
  (refine Hf ?_;walk_nrm)
  refine HY.read (S:=S) (ad:=⟨N,2,none⟩) (.int .i64 c.b) rfl rfl nE (by simp [World.cell?,q1]) (fun w h=>by go_simp) (fun w h e he=>by simp [go_sem,h] at he;exact he) ?_;walk_nrm;refine JL.enter rfl rfl nE rfl Try.func21 (by kernel_rfl) (by kernel_rfl) ?_;walk_nrm;rw [← hw];refine Vg I hm hk hA1 (I.Vm hS1 (by simp [He,hk])) (I.pop Try.func138 hL) fun s2 σ2 W2 e hA2 hO2 hE he=>?_;rw [Frame.finish_at];rw [hw];obtain ⟨VX,en,em,Jw,NA⟩:=e;simp only at he ⊢;have hrow:W2.heap[N+1]?=_:=((hO2.kept _ hN).2).trans q2;have hO3:=Ke.trans hO2;have hown:I.own s2 (N+1):=I.JX hA2 (hO2.kept _ hN).1;have hcore:¬ I.core s2 (N+1):=fun h=>PO.2.1 ((hO2.core _).1 h);have M6:=PO.2.2;show JL S.L (I.γ s2) _ W2;walk_nrm;obtain ⟨rfl,rfl,rfl,rfl⟩:=he;have HH:=Lib.hid (And.intro hJ (And.intro hA2 (And.intro hO3 (And.intro hE (And.intro hown (And.intro hcore M6))))))
  clear hJ hA2 hO3 hE hown hcore M6 PO hN hA1 Ke hS1 hA hS hO2 q1 q2;refine HY.JR (S:=S) (b:=base 138) 7 [] (by simp) (by kernel_rfl) nE rfl (by kernel_rfl) fun GQ ha=>?_;have hW:GQ.heap=W2.heap:=by obtain ⟨τ,d,rfl⟩:=ha;rfl
  rw [← hW] at hrow;dsimp only [List.drop];have g3:GQ.cell? ⟨N+1,3,none⟩=some (.bool false):=by simp [World.cell?,hrow]
  have g4:GQ.cell? ⟨N+1,4,none⟩=some (.int .i64 0):=by simp [World.cell?,hrow]
  have g6:GQ.cell? ⟨N+1,6,none⟩=some (.int .i64 0):=by simp [World.cell?,hrow]
  have z3:GQ.frozen? ⟨N+1,3,none⟩=false:=by simp [World.frozen?,hrow]
  have z4:GQ.frozen? ⟨N+1,4,none⟩=false:=by simp [World.frozen?,hrow]
  have z6:GQ.frozen? ⟨N+1,6,none⟩=false:=by simp [World.frozen?,hrow]
  have HR:=Lib.hid (And.intro hrow hW);clear hrow hW;gi_wp2;refine ⟨rfl,?_⟩;obtain ⟨hrow,hW⟩:=HR.out;clear HR;have hf:∃ W3:World,W3=(GQ.setCell ⟨N+1,6,none⟩ (.int .i64 Jw)):=⟨_,rfl⟩
  obtain ⟨W3,hW3⟩:=hf;rw [← hW3];have hrow3:W3.heap[N+1]?=some (.cells #[.int .i64 0,.int .i64 0,.int .i64 0,.bool false,.int .i64 0,.int .i64 0,.int .i64 Jw,.slice none 0 0,.slice none 0 0] 51 (0,0)):=by rw [hW3];simp [World.setCell,Array.getElem?_modify,hrow]
  have IC:∀ b,b≠N+1->W3.heap[b]?=W2.heap[b]?:=fun b hb=>by rw [hW3,← hW];simp [World.setCell,Array.getElem?_modify,hb.symm]
  have Ji:W3.heap.size=W2.heap.size:=by rw [hW3,← hW];simp [World.setCell]
  clear hW3 hrow hW g3 g4 g6 z3 z4 z6;show JL S.L (I.γ s2) _ W3;refine Hw ?_;cases hkk;refine GY stepG_inBlock ?_;refine HY.Ht (S:=S) (b:=base 138) [] (by simp) (by kernel_rfl) nE (by kernel_rfl) fun W4 VU=>?_;have Ov:W4.heap=W3.heap:=by obtain ⟨τ,d,rfl⟩:=VU;rfl
  rw [← Ov] at hrow3;simp only [← Ov] at IC Ji;have c0:W4.cell? ⟨N+1,0,none⟩=some (.int .i64 0):=by simp [World.cell?,hrow3]
  have c1:W4.cell? ⟨N+1,1,none⟩=some (.int .i64 0):=by simp [World.cell?,hrow3]
  have c2:W4.cell? ⟨N+1,2,none⟩=some (.int .i64 0):=by simp [World.cell?,hrow3]
  have c3:W4.cell? ⟨N+1,3,none⟩=some (.bool false):=by simp [World.cell?,hrow3]
  have c4:W4.cell? ⟨N+1,4,none⟩=some (.int .i64 0):=by simp [World.cell?,hrow3]
  have c5:W4.cell? ⟨N+1,5,none⟩=some (.int .i64 0):=by simp [World.cell?,hrow3]
  have c6:W4.cell? ⟨N+1,6,none⟩=some (.int .i64 Jw):=by simp [World.cell?,hrow3]
  have c7:W4.cell? ⟨N+1,7,none⟩=some (.slice none 0 0):=by simp [World.cell?,hrow3]
  have c8:W4.cell? ⟨N+1,8,none⟩=some (.slice none 0 0):=by simp [World.cell?,hrow3]
  have zz:∀ o,W4.frozen? ⟨N+1,o,none⟩=false:=fun o=>by simp [World.frozen?,hrow3]
  have z0:=zz 0;have z1:=zz 1;have z2:=zz 2;have z3:=zz 3;have z4:=zz 4;have z5:=zz 5;have z6:=zz 6;have z7:=zz 7;have z8:=zz 8;clear zz;have HR:=Lib.hid (And.intro hrow3 (And.intro IC Ji));clear hrow3 IC Ji Ov;have hfin:RowKit.Hid (∀ W5 tm,W5.heap[N+1]?=some (.cells #[.int .i64 0,.int .i64 0,.int .i64 0,.bool false,.int .i64 0,.int .i64 0,.int .i64 Jw,.slice none 0 0,.slice none 0 0] 51 (0,0))->(∀ b,b≠N+1->W5.heap[b]?=W4.heap[b]?)->W5.heap.size=W4.heap.size->tm.getD 6 undef=.pointer (some ⟨N+1,0,none⟩)->
      TB S (I.γ s2) (base 138) [] [] (cf :: fs) .ret ⟨tm,[]⟩ W5):=Lib.hid fun W5 tm h1 h2 h3 h4 Y=>by
    obtain ⟨hJ,hA2,hO3,hE,hown,hcore,M6⟩:=HH.out;obtain ⟨_,IC,Ji⟩:=HR.out;obtain ⟨SF,R8⟩:=I.write hA2 hO3 hown hcore M6 ⟨_,_,_,h1⟩ (fun b hb=>(h2 b hb).trans (IC b hb)) (h3.trans Ji);exact Qr Try.func138 (Jf Try.results138 h4 h1 Try.underlying51 rfl (by kernel_rfl)) (hJ s2 σ2 W5 _ SF R8 hE rfl)
  clear HH;simp only [kG,Try.f138];gi_wp2;obtain ⟨hrow3,_,_⟩:=HR.out;clear HR;exact hfin.out _ _ (by simp [World.setCell,Array.getElem?_modify,hrow3]) (fun b hb=>by simp [World.setCell,Array.getElem?_modify,hb.symm]) (by simp [World.setCell]) rfl
theorem Ac0 (I:Js S He m 63)(hm:Ir m ct cb n){s:I.St}{c:G5}{pv:Value}(hk:c.kind=3)(hA:I.At s σ W)(hS:I.R4 s σ c)(hL:I.Leaves cf fs)(hJ:∀ s' σ' W' e,I.At s' σ' W'->I.On s W s' W'->I.End s' σ' (e,false)->e.ints=[]->JW S.base (I.γ s') (G (cf.finish (Q6 e (.slice none 0 0))) fs) W') :
    JW S.base (I.γ s) (G (Frame.enter Try.prog 138 #[.pointer (some ⟨ct,0,none⟩),I.wv,Jb c pv] .normal) (cf :: fs)) W:=by
  refine Nj I hA hS fun s1 W1 N hA1 Ke hS1 hN PO q1 q2=>?_;generalize hw:I.wv=wv;generalize Jb c pv=cv;rw [hk];unfold Vp;dsimp only;have hbl:∃ c0,Rh=.block 0 c0/\c0=(match Rh with | .block _ c=>c | _=>.skip):=⟨_,rfl,rfl⟩
  obtain ⟨c0,hc0,hc1⟩:=hbl;rw [hc0];refine GY stepG_block ?_;rw [hc1];simp only [Rh,Try.f138];refine GY stepG_seq ?_;refine Hu fun _ hkk=>?_;iterate 2 (refine Hf ?_;walk_nrm)
  refine Hw ?_;cases hkk;refine JL.Ho rfl ?_;refine GY stepG_seq ?_;refine Hu fun _ hkk=>?_;iterate 2 (refine Hf ?_;walk_nrm)
  refine Hw ?_;cases hkk;refine JL.Ho rfl ?_;refine GY stepG_seq ?_;refine Hu fun _ hkk=>?_;iterate 2 (refine Hf ?_;walk_nrm)
  refine Hw ?_;cases hkk;refine JL.Iq rfl ?_;refine Hu fun _ hkk=>?_;iterate 3 (refine Hf ?_;walk_nrm)
  refine HY.read (S:=S) (ad:=⟨N,1,none⟩) (.int .i64 c.a) rfl rfl nE (by simp [World.cell?,q1]) (fun w h=>by go_simp) (fun w h e he=>by simp [go_sem,h] at he;exact he) ?_;walk_nrm
  (refine Hf ?_;walk_nrm)
  refine HY.read (S:=S) (ad:=⟨N,2,none⟩) (.int .i64 c.b) rfl rfl nE (by simp [World.cell?,q1]) (fun w h=>by go_simp) (fun w h e he=>by simp [go_sem,h] at he;exact he) ?_;walk_nrm;refine JL.enter rfl rfl nE rfl Try.func22 (by kernel_rfl) (by kernel_rfl) ?_;walk_nrm;rw [← hw];refine Vx I hm hk hA1 (I.Vm hS1 (by simp [He,hk])) (I.pop Try.func138 hL) fun s2 σ2 W2 e hA2 hO2 hE he=>?_;rw [Frame.finish_at];rw [hw];obtain ⟨VX,en,em,Jw,NA⟩:=e;simp only at he ⊢;have hrow:W2.heap[N+1]?=_:=((hO2.kept _ hN).2).trans q2;have hO3:=Ke.trans hO2;have hown:I.own s2 (N+1):=I.JX hA2 (hO2.kept _ hN).1;have hcore:¬ I.core s2 (N+1):=fun h=>PO.2.1 ((hO2.core _).1 h);have M6:=PO.2.2;show JL S.L (I.γ s2) _ W2;walk_nrm;iterate 3 (refine Hf ?_;walk_nrm)
  obtain ⟨rfl,rfl,rfl⟩:=he;have HH:=Lib.hid (And.intro hJ (And.intro hA2 (And.intro hO3 (And.intro hE (And.intro hown (And.intro hcore M6))))));clear hJ hA2 hO3 hE hown hcore M6 PO hN hA1 Ke hS1 hA hS hO2 q1 q2;refine HY.JR (S:=S) (b:=base 138) 10 [] (by simp) (by kernel_rfl) nE rfl (by kernel_rfl) fun GQ ha=>?_;have hW:GQ.heap=W2.heap:=by obtain ⟨τ,d,rfl⟩:=ha;rfl
  rw [← hW] at hrow;dsimp only [List.drop];have g3:GQ.cell? ⟨N+1,3,none⟩=some (.bool false):=by simp [World.cell?,hrow]
  have g4:GQ.cell? ⟨N+1,4,none⟩=some (.int .i64 0):=by simp [World.cell?,hrow]
  have g6:GQ.cell? ⟨N+1,6,none⟩=some (.int .i64 0):=by simp [World.cell?,hrow]
  have z3:GQ.frozen? ⟨N+1,3,none⟩=false:=by simp [World.frozen?,hrow]
  have z4:GQ.frozen? ⟨N+1,4,none⟩=false:=by simp [World.frozen?,hrow]
  have z6:GQ.frozen? ⟨N+1,6,none⟩=false:=by simp [World.frozen?,hrow]
  have HR:=Lib.hid (And.intro hrow hW);clear hrow hW;gi_wp2;refine ⟨rfl,?_⟩;obtain ⟨hrow,hW⟩:=HR.out;clear HR;have hf:∃ W3:World,W3=((GQ.setCell ⟨N+1,4,none⟩ (.int .i64 en)).setCell ⟨N+1,6,none⟩ (.int .i64 Jw)):=⟨_,rfl⟩
  obtain ⟨W3,hW3⟩:=hf;rw [← hW3];have hrow3:W3.heap[N+1]?=some (.cells #[.int .i64 0,.int .i64 0,.int .i64 0,.bool false,.int .i64 en,.int .i64 0,.int .i64 Jw,.slice none 0 0,.slice none 0 0] 51 (0,0)):=by rw [hW3];simp [World.setCell,Array.getElem?_modify,hrow]
  have IC:∀ b,b≠N+1->W3.heap[b]?=W2.heap[b]?:=fun b hb=>by rw [hW3,← hW];simp [World.setCell,Array.getElem?_modify,hb.symm]
  have Ji:W3.heap.size=W2.heap.size:=by rw [hW3,← hW];simp [World.setCell]
  clear hW3 hrow hW g3 g4 g6 z3 z4 z6;show JL S.L (I.γ s2) _ W3;refine Hw ?_;cases hkk;refine GY stepG_inBlock ?_;refine HY.Ht (S:=S) (b:=base 138) [] (by simp) (by kernel_rfl) nE (by kernel_rfl) fun W4 VU=>?_;have Ov:W4.heap=W3.heap:=by obtain ⟨τ,d,rfl⟩:=VU;rfl
  rw [← Ov] at hrow3;simp only [← Ov] at IC Ji;have c0:W4.cell? ⟨N+1,0,none⟩=some (.int .i64 0):=by simp [World.cell?,hrow3]
  have c1:W4.cell? ⟨N+1,1,none⟩=some (.int .i64 0):=by simp [World.cell?,hrow3]
  have c2:W4.cell? ⟨N+1,2,none⟩=some (.int .i64 0):=by simp [World.cell?,hrow3]
  have c3:W4.cell? ⟨N+1,3,none⟩=some (.bool false):=by simp [World.cell?,hrow3]
  have c4:W4.cell? ⟨N+1,4,none⟩=some (.int .i64 en):=by simp [World.cell?,hrow3]
  have c5:W4.cell? ⟨N+1,5,none⟩=some (.int .i64 0):=by simp [World.cell?,hrow3]
  have c6:W4.cell? ⟨N+1,6,none⟩=some (.int .i64 Jw):=by simp [World.cell?,hrow3]
  have c7:W4.cell? ⟨N+1,7,none⟩=some (.slice none 0 0):=by simp [World.cell?,hrow3]
  have c8:W4.cell? ⟨N+1,8,none⟩=some (.slice none 0 0):=by simp [World.cell?,hrow3]
  have zz:∀ o,W4.frozen? ⟨N+1,o,none⟩=false:=fun o=>by simp [World.frozen?,hrow3]
  have z0:=zz 0;have z1:=zz 1;have z2:=zz 2;have z3:=zz 3;have z4:=zz 4;have z5:=zz 5;have z6:=zz 6;have z7:=zz 7;have z8:=zz 8;clear zz;have HR:=Lib.hid (And.intro hrow3 (And.intro IC Ji));clear hrow3 IC Ji Ov;have hfin:RowKit.Hid (∀ W5 tm,W5.heap[N+1]?=some (.cells #[.int .i64 0,.int .i64 0,.int .i64 0,.bool false,.int .i64 en,.int .i64 0,.int .i64 Jw,.slice none 0 0,.slice none 0 0] 51 (0,0))->(∀ b,b≠N+1->W5.heap[b]?=W4.heap[b]?)->W5.heap.size=W4.heap.size->tm.getD 6 undef=.pointer (some ⟨N+1,0,none⟩)->
      TB S (I.γ s2) (base 138) [] [] (cf :: fs) .ret ⟨tm,[]⟩ W5):=Lib.hid fun W5 tm h1 h2 h3 h4 Y=>by
    obtain ⟨hJ,hA2,hO3,hE,hown,hcore,M6⟩:=HH.out;obtain ⟨_,IC,Ji⟩:=HR.out;obtain ⟨SF,R8⟩:=I.write hA2 hO3 hown hcore M6 ⟨_,_,_,h1⟩ (fun b hb=>(h2 b hb).trans (IC b hb)) (h3.trans Ji);exact Qr Try.func138 (Jf Try.results138 h4 h1 Try.underlying51 rfl (by kernel_rfl)) (hJ s2 σ2 W5 _ SF R8 hE rfl)
  clear HH;simp only [kG,Try.f138];gi_wp2;obtain ⟨hrow3,_,_⟩:=HR.out;clear HR;exact hfin.out _ _ (by simp [World.setCell,Array.getElem?_modify,hrow3]) (fun b hb=>by simp [World.setCell,Array.getElem?_modify,hb.symm]) (by simp [World.setCell]) rfl
theorem Ac9 (I:Js S He m 63)(hm:Ir m ct cb n){s:I.St}{c:G5}{pv:Value}(hk:c.kind=4)(hA:I.At s σ W)(hS:I.R4 s σ c)(hL:I.Leaves cf fs)(hJ:∀ s' σ' W' e,I.At s' σ' W'->I.On s W s' W'->I.End s' σ' (e,false)->e.ints=[]->JW S.base (I.γ s') (G (cf.finish (Q6 e (.slice none 0 0))) fs) W') :
    JW S.base (I.γ s) (G (Frame.enter Try.prog 138 #[.pointer (some ⟨ct,0,none⟩),I.wv,Jb c pv] .normal) (cf :: fs)) W:=by
  refine Nj I hA hS fun s1 W1 N hA1 Ke hS1 hN PO q1 q2=>?_;generalize hw:I.wv=wv;generalize Jb c pv=cv;rw [hk];unfold Vp;dsimp only;have hbl:∃ c0,Rh=.block 0 c0/\c0=(match Rh with | .block _ c=>c | _=>.skip):=⟨_,rfl,rfl⟩
  obtain ⟨c0,hc0,hc1⟩:=hbl;rw [hc0];refine GY stepG_block ?_;rw [hc1];simp only [Rh,Try.f138];refine GY stepG_seq ?_;refine Hu fun _ hkk=>?_;iterate 2 (refine Hf ?_;walk_nrm)
  refine Hw ?_;cases hkk;refine JL.Ho rfl ?_;refine GY stepG_seq ?_;refine Hu fun _ hkk=>?_;iterate 2 (refine Hf ?_;walk_nrm)
  refine Hw ?_;cases hkk;refine JL.Ho rfl ?_;refine GY stepG_seq ?_;refine Hu fun _ hkk=>?_;iterate 2 (refine Hf ?_;walk_nrm)
  refine Hw ?_;cases hkk;refine JL.Ho rfl ?_;refine GY stepG_seq ?_;refine Hu fun _ hkk=>?_;iterate 2 (refine Hf ?_;walk_nrm)
  refine Hw ?_;cases hkk;refine JL.Iq rfl ?_;refine Hu fun _ hkk=>?_;iterate 3 (refine Hf ?_;walk_nrm)
  refine HY.read (S:=S) (ad:=⟨N,1,none⟩) (.int .i64 c.a) rfl rfl nE (by simp [World.cell?,q1]) (fun w h=>by go_simp) (fun w h e he=>by simp [go_sem,h] at he;exact he) ?_;walk_nrm
  (refine Hf ?_;walk_nrm)
  refine HY.read (S:=S) (ad:=⟨N,2,none⟩) (.int .i64 c.b) rfl rfl nE (by simp [World.cell?,q1]) (fun w h=>by go_simp) (fun w h e he=>by simp [go_sem,h] at he;exact he) ?_;walk_nrm;refine JL.enter rfl rfl nE rfl Try.func23 (by kernel_rfl) (by kernel_rfl) ?_;walk_nrm;rw [← hw];refine Ve I hm hk hA1 (I.Vm hS1 (by simp [He,hk])) (I.pop Try.func138 hL) fun s2 σ2 W2 e hA2 hO2 hE he=>?_;rw [Frame.finish_at];rw [hw];obtain ⟨VX,en,em,Jw,NA⟩:=e;simp only at he ⊢;have hrow:W2.heap[N+1]?=_:=((hO2.kept _ hN).2).trans q2;have hO3:=Ke.trans hO2;have hown:I.own s2 (N+1):=I.JX hA2 (hO2.kept _ hN).1;have hcore:¬ I.core s2 (N+1):=fun h=>PO.2.1 ((hO2.core _).1 h);have M6:=PO.2.2;show JL S.L (I.γ s2) _ W2;walk_nrm;iterate 3 (refine Hf ?_;walk_nrm)
  obtain ⟨rfl,rfl,rfl⟩:=he;have HH:=Lib.hid (And.intro hJ (And.intro hA2 (And.intro hO3 (And.intro hE (And.intro hown (And.intro hcore M6))))));clear hJ hA2 hO3 hE hown hcore M6 PO hN hA1 Ke hS1 hA hS hO2 q1 q2;refine HY.JR (S:=S) (b:=base 138) 10 [] (by simp) (by kernel_rfl) nE rfl (by kernel_rfl) fun GQ ha=>?_;have hW:GQ.heap=W2.heap:=by obtain ⟨τ,d,rfl⟩:=ha;rfl
  rw [← hW] at hrow;dsimp only [List.drop];have g3:GQ.cell? ⟨N+1,3,none⟩=some (.bool false):=by simp [World.cell?,hrow]
  have g4:GQ.cell? ⟨N+1,4,none⟩=some (.int .i64 0):=by simp [World.cell?,hrow]
  have g6:GQ.cell? ⟨N+1,6,none⟩=some (.int .i64 0):=by simp [World.cell?,hrow]
  have z3:GQ.frozen? ⟨N+1,3,none⟩=false:=by simp [World.frozen?,hrow]
  have z4:GQ.frozen? ⟨N+1,4,none⟩=false:=by simp [World.frozen?,hrow]
  have z6:GQ.frozen? ⟨N+1,6,none⟩=false:=by simp [World.frozen?,hrow]
  have HR:=Lib.hid (And.intro hrow hW);clear hrow hW;gi_wp2;refine ⟨rfl,?_⟩;obtain ⟨hrow,hW⟩:=HR.out;clear HR;have hf:∃ W3:World,W3=((GQ.setCell ⟨N+1,4,none⟩ (.int .i64 en)).setCell ⟨N+1,6,none⟩ (.int .i64 Jw)):=⟨_,rfl⟩
  obtain ⟨W3,hW3⟩:=hf;rw [← hW3];have hrow3:W3.heap[N+1]?=some (.cells #[.int .i64 0,.int .i64 0,.int .i64 0,.bool false,.int .i64 en,.int .i64 0,.int .i64 Jw,.slice none 0 0,.slice none 0 0] 51 (0,0)):=by rw [hW3];simp [World.setCell,Array.getElem?_modify,hrow]
  have IC:∀ b,b≠N+1->W3.heap[b]?=W2.heap[b]?:=fun b hb=>by rw [hW3,← hW];simp [World.setCell,Array.getElem?_modify,hb.symm]
  have Ji:W3.heap.size=W2.heap.size:=by rw [hW3,← hW];simp [World.setCell]
  clear hW3 hrow hW g3 g4 g6 z3 z4 z6;show JL S.L (I.γ s2) _ W3;refine Hw ?_;cases hkk;refine GY stepG_inBlock ?_;refine HY.Ht (S:=S) (b:=base 138) [] (by simp) (by kernel_rfl) nE (by kernel_rfl) fun W4 VU=>?_;have Ov:W4.heap=W3.heap:=by obtain ⟨τ,d,rfl⟩:=VU;rfl
  rw [← Ov] at hrow3;simp only [← Ov] at IC Ji;have c0:W4.cell? ⟨N+1,0,none⟩=some (.int .i64 0):=by simp [World.cell?,hrow3]
  have c1:W4.cell? ⟨N+1,1,none⟩=some (.int .i64 0):=by simp [World.cell?,hrow3]
  have c2:W4.cell? ⟨N+1,2,none⟩=some (.int .i64 0):=by simp [World.cell?,hrow3]
  have c3:W4.cell? ⟨N+1,3,none⟩=some (.bool false):=by simp [World.cell?,hrow3]
  have c4:W4.cell? ⟨N+1,4,none⟩=some (.int .i64 en):=by simp [World.cell?,hrow3]
  have c5:W4.cell? ⟨N+1,5,none⟩=some (.int .i64 0):=by simp [World.cell?,hrow3]
  have c6:W4.cell? ⟨N+1,6,none⟩=some (.int .i64 Jw):=by simp [World.cell?,hrow3]
  have c7:W4.cell? ⟨N+1,7,none⟩=some (.slice none 0 0):=by simp [World.cell?,hrow3]
  have c8:W4.cell? ⟨N+1,8,none⟩=some (.slice none 0 0):=by simp [World.cell?,hrow3]
  have zz:∀ o,W4.frozen? ⟨N+1,o,none⟩=false:=fun o=>by simp [World.frozen?,hrow3]
  have z0:=zz 0;have z1:=zz 1;have z2:=zz 2;have z3:=zz 3;have z4:=zz 4;have z5:=zz 5;have z6:=zz 6;have z7:=zz 7;have z8:=zz 8;clear zz;have HR:=Lib.hid (And.intro hrow3 (And.intro IC Ji));clear hrow3 IC Ji Ov;have hfin:RowKit.Hid (∀ W5 tm,W5.heap[N+1]?=some (.cells #[.int .i64 0,.int .i64 0,.int .i64 0,.bool false,.int .i64 en,.int .i64 0,.int .i64 Jw,.slice none 0 0,.slice none 0 0] 51 (0,0))->(∀ b,b≠N+1->W5.heap[b]?=W4.heap[b]?)->W5.heap.size=W4.heap.size->tm.getD 6 undef=.pointer (some ⟨N+1,0,none⟩)->
      TB S (I.γ s2) (base 138) [] [] (cf :: fs) .ret ⟨tm,[]⟩ W5):=Lib.hid fun W5 tm h1 h2 h3 h4 Y=>by
    obtain ⟨hJ,hA2,hO3,hE,hown,hcore,M6⟩:=HH.out;obtain ⟨_,IC,Ji⟩:=HR.out;obtain ⟨SF,R8⟩:=I.write hA2 hO3 hown hcore M6 ⟨_,_,_,h1⟩ (fun b hb=>(h2 b hb).trans (IC b hb)) (h3.trans Ji);exact Qr Try.func138 (Jf Try.results138 h4 h1 Try.underlying51 rfl (by kernel_rfl)) (hJ s2 σ2 W5 _ SF R8 hE rfl)
  clear HH;simp only [kG,Try.f138];gi_wp2;obtain ⟨hrow3,_,_⟩:=HR.out;clear HR;exact hfin.out _ _ (by simp [World.setCell,Array.getElem?_modify,hrow3]) (fun b hb=>by simp [World.setCell,Array.getElem?_modify,hb.symm]) (by simp [World.setCell]) rfl
theorem Adi (I:Js S He m 63)(hm:Ir m ct cb n){s:I.St}{c:G5}{pv:Value}(hk:c.kind=5)(hA:I.At s σ W)(hS:I.R4 s σ c)(hL:I.Leaves cf fs)(hJ:∀ s' σ' W' e,I.At s' σ' W'->I.On s W s' W'->I.End s' σ' (e,false)->e.ints=[]->JW S.base (I.γ s') (G (cf.finish (Q6 e (.slice none 0 0))) fs) W') :
    JW S.base (I.γ s) (G (Frame.enter Try.prog 138 #[.pointer (some ⟨ct,0,none⟩),I.wv,Jb c pv] .normal) (cf :: fs)) W:=by
  refine Nj I hA hS fun s1 W1 N hA1 Ke hS1 hN PO q1 q2=>?_;generalize hw:I.wv=wv;generalize Jb c pv=cv;rw [hk];unfold Vp;dsimp only;have hbl:∃ c0,Rh=.block 0 c0/\c0=(match Rh with | .block _ c=>c | _=>.skip):=⟨_,rfl,rfl⟩
  obtain ⟨c0,hc0,hc1⟩:=hbl;rw [hc0];refine GY stepG_block ?_;rw [hc1];simp only [Rh,Try.f138];refine GY stepG_seq ?_;refine Hu fun _ hkk=>?_;iterate 2 (refine Hf ?_;walk_nrm)
  refine Hw ?_;cases hkk;refine JL.Ho rfl ?_;refine GY stepG_seq ?_;refine Hu fun _ hkk=>?_;iterate 2 (refine Hf ?_;walk_nrm)
  refine Hw ?_;cases hkk;refine JL.Ho rfl ?_;refine GY stepG_seq ?_;refine Hu fun _ hkk=>?_;iterate 2 (refine Hf ?_;walk_nrm)
  refine Hw ?_;cases hkk;refine JL.Ho rfl ?_;refine GY stepG_seq ?_;refine Hu fun _ hkk=>?_;iterate 2 (refine Hf ?_;walk_nrm)
  refine Hw ?_;cases hkk;refine JL.Ho rfl ?_;refine GY stepG_seq ?_;refine Hu fun _ hkk=>?_;iterate 2 (refine Hf ?_;walk_nrm)
  refine Hw ?_;cases hkk;refine JL.Iq rfl ?_;refine Hu fun _ hkk=>?_;iterate 3 (refine Hf ?_;walk_nrm)
  refine HY.read (S:=S) (ad:=⟨N,1,none⟩) (.int .i64 c.a) rfl rfl nE (by simp [World.cell?,q1]) (fun w h=>by go_simp) (fun w h e he=>by simp [go_sem,h] at he;exact he) ?_;walk_nrm
  (refine Hf ?_;walk_nrm)
  refine HY.read (S:=S) (ad:=⟨N,2,none⟩) (.int .i64 c.b) rfl rfl nE (by simp [World.cell?,q1]) (fun w h=>by go_simp) (fun w h e he=>by simp [go_sem,h] at he;exact he) ?_;walk_nrm
  (refine Hf ?_;walk_nrm)
  refine HY.read (S:=S) (ad:=⟨N,3,none⟩) (.int .i64 c.c) rfl rfl nE (by simp [World.cell?,q1]) (fun w h=>by go_simp) (fun w h e he=>by simp [go_sem,h] at he;exact he) ?_;walk_nrm;refine JL.enter rfl rfl nE rfl Try.func24 (by kernel_rfl) (by kernel_rfl) ?_;walk_nrm;rw [← hw];refine R7 I hm hk hA1 (I.Vm hS1 (by simp [He,hk])) (I.pop Try.func138 hL) fun s2 σ2 W2 e hA2 hO2 hE he=>?_;rw [Frame.finish_at];rw [hw];obtain ⟨VX,en,em,Jw,NA⟩:=e;simp only at he ⊢;have hrow:W2.heap[N+1]?=_:=((hO2.kept _ hN).2).trans q2;have hO3:=Ke.trans hO2;have hown:I.own s2 (N+1):=I.JX hA2 (hO2.kept _ hN).1;have hcore:¬ I.core s2 (N+1):=fun h=>PO.2.1 ((hO2.core _).1 h);have M6:=PO.2.2;show JL S.L (I.γ s2) _ W2;walk_nrm;iterate 3 (refine Hf ?_;walk_nrm)
  obtain ⟨rfl,rfl,rfl⟩:=he;have HH:=Lib.hid (And.intro hJ (And.intro hA2 (And.intro hO3 (And.intro hE (And.intro hown (And.intro hcore M6))))));clear hJ hA2 hO3 hE hown hcore M6 PO hN hA1 Ke hS1 hA hS hO2 q1 q2;refine HY.JR (S:=S) (b:=base 138) 12 [] (by simp) (by kernel_rfl) nE rfl (by kernel_rfl) fun GQ ha=>?_;have hW:GQ.heap=W2.heap:=by obtain ⟨τ,d,rfl⟩:=ha;rfl
  rw [← hW] at hrow;dsimp only [List.drop];have g3:GQ.cell? ⟨N+1,3,none⟩=some (.bool false):=by simp [World.cell?,hrow]
  have g4:GQ.cell? ⟨N+1,4,none⟩=some (.int .i64 0):=by simp [World.cell?,hrow]
  have g6:GQ.cell? ⟨N+1,6,none⟩=some (.int .i64 0):=by simp [World.cell?,hrow]
  have z3:GQ.frozen? ⟨N+1,3,none⟩=false:=by simp [World.frozen?,hrow]
  have z4:GQ.frozen? ⟨N+1,4,none⟩=false:=by simp [World.frozen?,hrow]
  have z6:GQ.frozen? ⟨N+1,6,none⟩=false:=by simp [World.frozen?,hrow]
  have HR:=Lib.hid (And.intro hrow hW);clear hrow hW;gi_wp2;refine ⟨rfl,?_⟩;obtain ⟨hrow,hW⟩:=HR.out;clear HR;have hf:∃ W3:World,W3=((GQ.setCell ⟨N+1,3,none⟩ (.bool VX)).setCell ⟨N+1,6,none⟩ (.int .i64 Jw)):=⟨_,rfl⟩
  obtain ⟨W3,hW3⟩:=hf;rw [← hW3];have hrow3:W3.heap[N+1]?=some (.cells #[.int .i64 0,.int .i64 0,.int .i64 0,.bool VX,.int .i64 0,.int .i64 0,.int .i64 Jw,.slice none 0 0,.slice none 0 0] 51 (0,0)):=by rw [hW3];simp [World.setCell,Array.getElem?_modify,hrow]
  have IC:∀ b,b≠N+1->W3.heap[b]?=W2.heap[b]?:=fun b hb=>by rw [hW3,← hW];simp [World.setCell,Array.getElem?_modify,hb.symm]
  have Ji:W3.heap.size=W2.heap.size:=by rw [hW3,← hW];simp [World.setCell]
  clear hW3 hrow hW g3 g4 g6 z3 z4 z6;show JL S.L (I.γ s2) _ W3;refine Hw ?_;cases hkk;refine GY stepG_inBlock ?_;refine HY.Ht (S:=S) (b:=base 138) [] (by simp) (by kernel_rfl) nE (by kernel_rfl) fun W4 VU=>?_;have Ov:W4.heap=W3.heap:=by obtain ⟨τ,d,rfl⟩:=VU;rfl
  rw [← Ov] at hrow3;simp only [← Ov] at IC Ji;have c0:W4.cell? ⟨N+1,0,none⟩=some (.int .i64 0):=by simp [World.cell?,hrow3]
  have c1:W4.cell? ⟨N+1,1,none⟩=some (.int .i64 0):=by simp [World.cell?,hrow3]
  have c2:W4.cell? ⟨N+1,2,none⟩=some (.int .i64 0):=by simp [World.cell?,hrow3]
  have c3:W4.cell? ⟨N+1,3,none⟩=some (.bool VX):=by simp [World.cell?,hrow3]
  have c4:W4.cell? ⟨N+1,4,none⟩=some (.int .i64 0):=by simp [World.cell?,hrow3]
  have c5:W4.cell? ⟨N+1,5,none⟩=some (.int .i64 0):=by simp [World.cell?,hrow3]
  have c6:W4.cell? ⟨N+1,6,none⟩=some (.int .i64 Jw):=by simp [World.cell?,hrow3]
  have c7:W4.cell? ⟨N+1,7,none⟩=some (.slice none 0 0):=by simp [World.cell?,hrow3]
  have c8:W4.cell? ⟨N+1,8,none⟩=some (.slice none 0 0):=by simp [World.cell?,hrow3]
  have zz:∀ o,W4.frozen? ⟨N+1,o,none⟩=false:=fun o=>by simp [World.frozen?,hrow3]
  have z0:=zz 0;have z1:=zz 1;have z2:=zz 2;have z3:=zz 3;have z4:=zz 4;have z5:=zz 5;have z6:=zz 6;have z7:=zz 7;have z8:=zz 8;clear zz;have HR:=Lib.hid (And.intro hrow3 (And.intro IC Ji));clear hrow3 IC Ji Ov;have hfin:RowKit.Hid (∀ W5 tm,W5.heap[N+1]?=some (.cells #[.int .i64 0,.int .i64 0,.int .i64 0,.bool VX,.int .i64 0,.int .i64 0,.int .i64 Jw,.slice none 0 0,.slice none 0 0] 51 (0,0))->(∀ b,b≠N+1->W5.heap[b]?=W4.heap[b]?)->W5.heap.size=W4.heap.size->tm.getD 6 undef=.pointer (some ⟨N+1,0,none⟩)->
      TB S (I.γ s2) (base 138) [] [] (cf :: fs) .ret ⟨tm,[]⟩ W5):=Lib.hid fun W5 tm h1 h2 h3 h4 Y=>by
    obtain ⟨hJ,hA2,hO3,hE,hown,hcore,M6⟩:=HH.out;obtain ⟨_,IC,Ji⟩:=HR.out;obtain ⟨SF,R8⟩:=I.write hA2 hO3 hown hcore M6 ⟨_,_,_,h1⟩ (fun b hb=>(h2 b hb).trans (IC b hb)) (h3.trans Ji);exact Qr Try.func138 (Jf Try.results138 h4 h1 Try.underlying51 rfl (by kernel_rfl)) (hJ s2 σ2 W5 _ SF R8 hE rfl)
  clear HH;simp only [kG,Try.f138];gi_wp2;obtain ⟨hrow3,_,_⟩:=HR.out;clear HR;exact hfin.out _ _ (by simp [World.setCell,Array.getElem?_modify,hrow3]) (fun b hb=>by simp [World.setCell,Array.getElem?_modify,hb.symm]) (by simp [World.setCell]) rfl
theorem Afq (I:Js S He m 63)(hm:Ir m ct cb n){s:I.St}{c:G5}{pv:Value}(hk:c.kind=6)(hA:I.At s σ W)(hS:I.R4 s σ c)(hL:I.Leaves cf fs)(hJ:∀ s' σ' W' e,I.At s' σ' W'->I.On s W s' W'->I.End s' σ' (e,false)->e.ints=[]->JW S.base (I.γ s') (G (cf.finish (Q6 e (.slice none 0 0))) fs) W') :
    JW S.base (I.γ s) (G (Frame.enter Try.prog 138 #[.pointer (some ⟨ct,0,none⟩),I.wv,Jb c pv] .normal) (cf :: fs)) W:=by
  refine Nj I hA hS fun s1 W1 N hA1 Ke hS1 hN PO q1 q2=>?_;generalize hw:I.wv=wv;generalize Jb c pv=cv;rw [hk];unfold Vp;dsimp only;have hbl:∃ c0,Rh=.block 0 c0/\c0=(match Rh with | .block _ c=>c | _=>.skip):=⟨_,rfl,rfl⟩
  obtain ⟨c0,hc0,hc1⟩:=hbl;rw [hc0];refine GY stepG_block ?_;rw [hc1];simp only [Rh,Try.f138];refine GY stepG_seq ?_;refine Hu fun _ hkk=>?_;iterate 2 (refine Hf ?_;walk_nrm)
  refine Hw ?_;cases hkk;refine JL.Ho rfl ?_;refine GY stepG_seq ?_;refine Hu fun _ hkk=>?_;iterate 2 (refine Hf ?_;walk_nrm)
  refine Hw ?_;cases hkk;refine JL.Ho rfl ?_;refine GY stepG_seq ?_;refine Hu fun _ hkk=>?_;iterate 2 (refine Hf ?_;walk_nrm)
  refine Hw ?_;cases hkk;refine JL.Ho rfl ?_;refine GY stepG_seq ?_;refine Hu fun _ hkk=>?_;iterate 2 (refine Hf ?_;walk_nrm)
  refine Hw ?_;cases hkk;refine JL.Ho rfl ?_;refine GY stepG_seq ?_;refine Hu fun _ hkk=>?_;iterate 2 (refine Hf ?_;walk_nrm)
  refine Hw ?_;cases hkk;refine JL.Ho rfl ?_;refine GY stepG_seq ?_;refine Hu fun _ hkk=>?_;iterate 2 (refine Hf ?_;walk_nrm)
  refine Hw ?_;cases hkk;refine JL.Iq rfl ?_;refine Hu fun _ hkk=>?_;iterate 3 (refine Hf ?_;walk_nrm)
  refine HY.read (S:=S) (ad:=⟨N,1,none⟩) (.int .i64 c.a) rfl rfl nE (by simp [World.cell?,q1]) (fun w h=>by go_simp) (fun w h e he=>by simp [go_sem,h] at he;exact he) ?_;walk_nrm
  (refine Hf ?_;walk_nrm)
  refine HY.read (S:=S) (ad:=⟨N,2,none⟩) (.int .i64 c.b) rfl rfl nE (by simp [World.cell?,q1]) (fun w h=>by go_simp) (fun w h e he=>by simp [go_sem,h] at he;exact he) ?_;walk_nrm;refine JL.enter rfl rfl nE rfl Try.func25 (by kernel_rfl) (by kernel_rfl) ?_;walk_nrm;rw [← hw];refine U7 I hm hA1 (I.Vm hS1 (by simp [He,hk])) (I.pop Try.func138 hL) fun s2 σ2 W2 e hA2 hO2 hE he=>?_;rw [Frame.finish_at];rw [hw];obtain ⟨VX,en,em,Jw,NA⟩:=e;simp only at he ⊢;have hrow:W2.heap[N+1]?=_:=((hO2.kept _ hN).2).trans q2;have hO3:=Ke.trans hO2;have hown:I.own s2 (N+1):=I.JX hA2 (hO2.kept _ hN).1;have hcore:¬ I.core s2 (N+1):=fun h=>PO.2.1 ((hO2.core _).1 h);have M6:=PO.2.2;show JL S.L (I.γ s2) _ W2;walk_nrm;iterate 3 (refine Hf ?_;walk_nrm)
  obtain ⟨rfl,rfl,rfl⟩:=he;have HH:=Lib.hid (And.intro hJ (And.intro hA2 (And.intro hO3 (And.intro hE (And.intro hown (And.intro hcore M6))))));clear hJ hA2 hO3 hE hown hcore M6 PO hN hA1 Ke hS1 hA hS hO2 q1 q2;refine HY.JR (S:=S) (b:=base 138) 10 [] (by simp) (by kernel_rfl) nE rfl (by kernel_rfl) fun GQ ha=>?_;have hW:GQ.heap=W2.heap:=by obtain ⟨τ,d,rfl⟩:=ha;rfl
  rw [← hW] at hrow;dsimp only [List.drop];have g3:GQ.cell? ⟨N+1,3,none⟩=some (.bool false):=by simp [World.cell?,hrow]
  have g4:GQ.cell? ⟨N+1,4,none⟩=some (.int .i64 0):=by simp [World.cell?,hrow]
  have g6:GQ.cell? ⟨N+1,6,none⟩=some (.int .i64 0):=by simp [World.cell?,hrow]
  have z3:GQ.frozen? ⟨N+1,3,none⟩=false:=by simp [World.frozen?,hrow]
  have z4:GQ.frozen? ⟨N+1,4,none⟩=false:=by simp [World.frozen?,hrow]
  have z6:GQ.frozen? ⟨N+1,6,none⟩=false:=by simp [World.frozen?,hrow]
  have HR:=Lib.hid (And.intro hrow hW);clear hrow hW;gi_wp2;refine ⟨rfl,?_⟩;obtain ⟨hrow,hW⟩:=HR.out;clear HR;have hf:∃ W3:World,W3=((GQ.setCell ⟨N+1,4,none⟩ (.int .i64 en)).setCell ⟨N+1,6,none⟩ (.int .i64 Jw)):=⟨_,rfl⟩
  obtain ⟨W3,hW3⟩:=hf;rw [← hW3];have hrow3:W3.heap[N+1]?=some (.cells #[.int .i64 0,.int .i64 0,.int .i64 0,.bool false,.int .i64 en,.int .i64 0,.int .i64 Jw,.slice none 0 0,.slice none 0 0] 51 (0,0)):=by rw [hW3];simp [World.setCell,Array.getElem?_modify,hrow]
  have IC:∀ b,b≠N+1->W3.heap[b]?=W2.heap[b]?:=fun b hb=>by rw [hW3,← hW];simp [World.setCell,Array.getElem?_modify,hb.symm]
  have Ji:W3.heap.size=W2.heap.size:=by rw [hW3,← hW];simp [World.setCell]
  clear hW3 hrow hW g3 g4 g6 z3 z4 z6;show JL S.L (I.γ s2) _ W3;refine Hw ?_;cases hkk;refine GY stepG_inBlock ?_;refine HY.Ht (S:=S) (b:=base 138) [] (by simp) (by kernel_rfl) nE (by kernel_rfl) fun W4 VU=>?_;have Ov:W4.heap=W3.heap:=by obtain ⟨τ,d,rfl⟩:=VU;rfl
  rw [← Ov] at hrow3;simp only [← Ov] at IC Ji;have c0:W4.cell? ⟨N+1,0,none⟩=some (.int .i64 0):=by simp [World.cell?,hrow3]
  have c1:W4.cell? ⟨N+1,1,none⟩=some (.int .i64 0):=by simp [World.cell?,hrow3]
  have c2:W4.cell? ⟨N+1,2,none⟩=some (.int .i64 0):=by simp [World.cell?,hrow3]
  have c3:W4.cell? ⟨N+1,3,none⟩=some (.bool false):=by simp [World.cell?,hrow3]
  have c4:W4.cell? ⟨N+1,4,none⟩=some (.int .i64 en):=by simp [World.cell?,hrow3]
  have c5:W4.cell? ⟨N+1,5,none⟩=some (.int .i64 0):=by simp [World.cell?,hrow3]
  have c6:W4.cell? ⟨N+1,6,none⟩=some (.int .i64 Jw):=by simp [World.cell?,hrow3]
  have c7:W4.cell? ⟨N+1,7,none⟩=some (.slice none 0 0):=by simp [World.cell?,hrow3]
  have c8:W4.cell? ⟨N+1,8,none⟩=some (.slice none 0 0):=by simp [World.cell?,hrow3]
  have zz:∀ o,W4.frozen? ⟨N+1,o,none⟩=false:=fun o=>by simp [World.frozen?,hrow3]
  have z0:=zz 0;have z1:=zz 1;have z2:=zz 2;have z3:=zz 3;have z4:=zz 4;have z5:=zz 5;have z6:=zz 6;have z7:=zz 7;have z8:=zz 8;clear zz;have HR:=Lib.hid (And.intro hrow3 (And.intro IC Ji));clear hrow3 IC Ji Ov;have hfin:RowKit.Hid (∀ W5 tm,W5.heap[N+1]?=some (.cells #[.int .i64 0,.int .i64 0,.int .i64 0,.bool false,.int .i64 en,.int .i64 0,.int .i64 Jw,.slice none 0 0,.slice none 0 0] 51 (0,0))->(∀ b,b≠N+1->W5.heap[b]?=W4.heap[b]?)->W5.heap.size=W4.heap.size->tm.getD 6 undef=.pointer (some ⟨N+1,0,none⟩)->
      TB S (I.γ s2) (base 138) [] [] (cf :: fs) .ret ⟨tm,[]⟩ W5):=Lib.hid fun W5 tm h1 h2 h3 h4 Y=>by
    obtain ⟨hJ,hA2,hO3,hE,hown,hcore,M6⟩:=HH.out;obtain ⟨_,IC,Ji⟩:=HR.out;obtain ⟨SF,R8⟩:=I.write hA2 hO3 hown hcore M6 ⟨_,_,_,h1⟩ (fun b hb=>(h2 b hb).trans (IC b hb)) (h3.trans Ji);exact Qr Try.func138 (Jf Try.results138 h4 h1 Try.underlying51 rfl (by kernel_rfl)) (hJ s2 σ2 W5 _ SF R8 hE rfl)
  clear HH;simp only [kG,Try.f138];gi_wp2;obtain ⟨hrow3,_,_⟩:=HR.out;clear HR;exact hfin.out _ _ (by simp [World.setCell,Array.getElem?_modify,hrow3]) (fun b hb=>by simp [World.setCell,Array.getElem?_modify,hb.symm]) (by simp [World.setCell]) rfl
theorem Acs (I:Js S He m 63)(hm:Ir m ct cb n){s:I.St}{c:G5}{pv:Value}(hk:c.kind=7)(hA:I.At s σ W)(hS:I.R4 s σ c)(hL:I.Leaves cf fs)(hJ:∀ s' σ' W' e,I.At s' σ' W'->I.On s W s' W'->I.End s' σ' (e,false)->e.ints=[]->JW S.base (I.γ s') (G (cf.finish (Q6 e (.slice none 0 0))) fs) W') :
    JW S.base (I.γ s) (G (Frame.enter Try.prog 138 #[.pointer (some ⟨ct,0,none⟩),I.wv,Jb c pv] .normal) (cf :: fs)) W:=by
  refine Nj I hA hS fun s1 W1 N hA1 Ke hS1 hN PO q1 q2=>?_;generalize hw:I.wv=wv;generalize Jb c pv=cv;rw [hk];unfold Vp;dsimp only;have hbl:∃ c0,Rh=.block 0 c0/\c0=(match Rh with | .block _ c=>c | _=>.skip):=⟨_,rfl,rfl⟩
  obtain ⟨c0,hc0,hc1⟩:=hbl;rw [hc0];refine GY stepG_block ?_;rw [hc1];simp only [Rh,Try.f138];refine GY stepG_seq ?_;refine Hu fun _ hkk=>?_;iterate 2 (refine Hf ?_;walk_nrm)
  refine Hw ?_;cases hkk;refine JL.Ho rfl ?_;refine GY stepG_seq ?_;refine Hu fun _ hkk=>?_;iterate 2 (refine Hf ?_;walk_nrm)
  refine Hw ?_;cases hkk;refine JL.Ho rfl ?_;refine GY stepG_seq ?_;refine Hu fun _ hkk=>?_;iterate 2 (refine Hf ?_;walk_nrm)
  refine Hw ?_;cases hkk;refine JL.Ho rfl ?_;refine GY stepG_seq ?_;refine Hu fun _ hkk=>?_;iterate 2 (refine Hf ?_;walk_nrm)
  refine Hw ?_;cases hkk;refine JL.Ho rfl ?_;refine GY stepG_seq ?_;refine Hu fun _ hkk=>?_;iterate 2 (refine Hf ?_;walk_nrm)
  refine Hw ?_;cases hkk;refine JL.Ho rfl ?_;refine GY stepG_seq ?_;refine Hu fun _ hkk=>?_;iterate 2 (refine Hf ?_;walk_nrm)
  refine Hw ?_;cases hkk;refine JL.Ho rfl ?_;refine GY stepG_seq ?_;refine Hu fun _ hkk=>?_;iterate 2 (refine Hf ?_;walk_nrm)
  refine Hw ?_;cases hkk;refine JL.Iq rfl ?_;refine Hu fun _ hkk=>?_;iterate 3 (refine Hf ?_;walk_nrm)
  refine HY.read (S:=S) (ad:=⟨N,1,none⟩) (.int .i64 c.a) rfl rfl nE (by simp [World.cell?,q1]) (fun w h=>by go_simp) (fun w h e he=>by simp [go_sem,h] at he;exact he) ?_;walk_nrm
  (refine Hf ?_;walk_nrm)
  refine HY.read (S:=S) (ad:=⟨N,2,none⟩) (.int .i64 c.b) rfl rfl nE (by simp [World.cell?,q1]) (fun w h=>by go_simp) (fun w h e he=>by simp [go_sem,h] at he;exact he) ?_;walk_nrm;refine JL.enter rfl rfl nE rfl Try.func26 (by kernel_rfl) (by kernel_rfl) ?_;walk_nrm;rw [← hw];refine VR I hm hA1 (I.Vm hS1 (by simp [He,hk])) (I.pop Try.func138 hL) fun s2 σ2 W2 e hA2 hO2 hE he=>?_;rw [Frame.finish_at];rw [hw];obtain ⟨VX,en,em,Jw,NA⟩:=e;simp only at he ⊢;have hrow:W2.heap[N+1]?=_:=((hO2.kept _ hN).2).trans q2;have hO3:=Ke.trans hO2;have hown:I.own s2 (N+1):=I.JX hA2 (hO2.kept _ hN).1;have hcore:¬ I.core s2 (N+1):=fun h=>PO.2.1 ((hO2.core _).1 h);have M6:=PO.2.2;show JL S.L (I.γ s2) _ W2;walk_nrm;iterate 3 (refine Hf ?_;walk_nrm)
  obtain ⟨rfl,rfl,rfl⟩:=he;have HH:=Lib.hid (And.intro hJ (And.intro hA2 (And.intro hO3 (And.intro hE (And.intro hown (And.intro hcore M6))))));clear hJ hA2 hO3 hE hown hcore M6 PO hN hA1 Ke hS1 hA hS hO2 q1 q2;refine HY.JR (S:=S) (b:=base 138) 10 [] (by simp) (by kernel_rfl) nE rfl (by kernel_rfl) fun GQ ha=>?_;have hW:GQ.heap=W2.heap:=by obtain ⟨τ,d,rfl⟩:=ha;rfl
  rw [← hW] at hrow;dsimp only [List.drop];have g3:GQ.cell? ⟨N+1,3,none⟩=some (.bool false):=by simp [World.cell?,hrow]
  have g4:GQ.cell? ⟨N+1,4,none⟩=some (.int .i64 0):=by simp [World.cell?,hrow]
  have g6:GQ.cell? ⟨N+1,6,none⟩=some (.int .i64 0):=by simp [World.cell?,hrow]
  have z3:GQ.frozen? ⟨N+1,3,none⟩=false:=by simp [World.frozen?,hrow]
  have z4:GQ.frozen? ⟨N+1,4,none⟩=false:=by simp [World.frozen?,hrow]
  have z6:GQ.frozen? ⟨N+1,6,none⟩=false:=by simp [World.frozen?,hrow]
  have HR:=Lib.hid (And.intro hrow hW);clear hrow hW;gi_wp2;refine ⟨rfl,?_⟩;obtain ⟨hrow,hW⟩:=HR.out;clear HR;have hf:∃ W3:World,W3=((GQ.setCell ⟨N+1,4,none⟩ (.int .i64 en)).setCell ⟨N+1,6,none⟩ (.int .i64 Jw)):=⟨_,rfl⟩
  obtain ⟨W3,hW3⟩:=hf;rw [← hW3];have hrow3:W3.heap[N+1]?=some (.cells #[.int .i64 0,.int .i64 0,.int .i64 0,.bool false,.int .i64 en,.int .i64 0,.int .i64 Jw,.slice none 0 0,.slice none 0 0] 51 (0,0)):=by rw [hW3];simp [World.setCell,Array.getElem?_modify,hrow]
  have IC:∀ b,b≠N+1->W3.heap[b]?=W2.heap[b]?:=fun b hb=>by rw [hW3,← hW];simp [World.setCell,Array.getElem?_modify,hb.symm]
  have Ji:W3.heap.size=W2.heap.size:=by rw [hW3,← hW];simp [World.setCell]
  clear hW3 hrow hW g3 g4 g6 z3 z4 z6;show JL S.L (I.γ s2) _ W3;refine Hw ?_;cases hkk;refine GY stepG_inBlock ?_;refine HY.Ht (S:=S) (b:=base 138) [] (by simp) (by kernel_rfl) nE (by kernel_rfl) fun W4 VU=>?_;have Ov:W4.heap=W3.heap:=by obtain ⟨τ,d,rfl⟩:=VU;rfl
  rw [← Ov] at hrow3;simp only [← Ov] at IC Ji;have c0:W4.cell? ⟨N+1,0,none⟩=some (.int .i64 0):=by simp [World.cell?,hrow3]
  have c1:W4.cell? ⟨N+1,1,none⟩=some (.int .i64 0):=by simp [World.cell?,hrow3]
  have c2:W4.cell? ⟨N+1,2,none⟩=some (.int .i64 0):=by simp [World.cell?,hrow3]
  have c3:W4.cell? ⟨N+1,3,none⟩=some (.bool false):=by simp [World.cell?,hrow3]
  have c4:W4.cell? ⟨N+1,4,none⟩=some (.int .i64 en):=by simp [World.cell?,hrow3]
  have c5:W4.cell? ⟨N+1,5,none⟩=some (.int .i64 0):=by simp [World.cell?,hrow3]
  have c6:W4.cell? ⟨N+1,6,none⟩=some (.int .i64 Jw):=by simp [World.cell?,hrow3]
  have c7:W4.cell? ⟨N+1,7,none⟩=some (.slice none 0 0):=by simp [World.cell?,hrow3]
  have c8:W4.cell? ⟨N+1,8,none⟩=some (.slice none 0 0):=by simp [World.cell?,hrow3]
  have zz:∀ o,W4.frozen? ⟨N+1,o,none⟩=false:=fun o=>by simp [World.frozen?,hrow3]
  have z0:=zz 0;have z1:=zz 1;have z2:=zz 2;have z3:=zz 3;have z4:=zz 4;have z5:=zz 5;have z6:=zz 6;have z7:=zz 7;have z8:=zz 8;clear zz;have HR:=Lib.hid (And.intro hrow3 (And.intro IC Ji));clear hrow3 IC Ji Ov;have hfin:RowKit.Hid (∀ W5 tm,W5.heap[N+1]?=some (.cells #[.int .i64 0,.int .i64 0,.int .i64 0,.bool false,.int .i64 en,.int .i64 0,.int .i64 Jw,.slice none 0 0,.slice none 0 0] 51 (0,0))->(∀ b,b≠N+1->W5.heap[b]?=W4.heap[b]?)->W5.heap.size=W4.heap.size->tm.getD 6 undef=.pointer (some ⟨N+1,0,none⟩)->
      TB S (I.γ s2) (base 138) [] [] (cf :: fs) .ret ⟨tm,[]⟩ W5):=Lib.hid fun W5 tm h1 h2 h3 h4 Y=>by
    obtain ⟨hJ,hA2,hO3,hE,hown,hcore,M6⟩:=HH.out;obtain ⟨_,IC,Ji⟩:=HR.out;obtain ⟨SF,R8⟩:=I.write hA2 hO3 hown hcore M6 ⟨_,_,_,h1⟩ (fun b hb=>(h2 b hb).trans (IC b hb)) (h3.trans Ji);exact Qr Try.func138 (Jf Try.results138 h4 h1 Try.underlying51 rfl (by kernel_rfl)) (hJ s2 σ2 W5 _ SF R8 hE rfl)
  clear HH;simp only [kG,Try.f138];gi_wp2;obtain ⟨hrow3,_,_⟩:=HR.out;clear HR;exact hfin.out _ _ (by simp [World.setCell,Array.getElem?_modify,hrow3]) (fun b hb=>by simp [World.setCell,Array.getElem?_modify,hb.symm]) (by simp [World.setCell]) rfl
theorem Ac3 (I:Js S He m 63)(hm:Ir m ct cb n){s:I.St}{c:G5}{pv:Value}(hk:¬ (1<=c.kind/\c.kind<=7))(hA:I.At s σ W)(hS:I.R4 s σ c)(hL:I.Leaves cf fs)(hJ:∀ s' σ' W' e,I.At s' σ' W'->I.On s W s' W'->I.End s' σ' (e,false)->e.ints=[]->JW S.base (I.γ s') (G (cf.finish (Q6 e (.slice none 0 0))) fs) W') :
    JW S.base (I.γ s) (G (Frame.enter Try.prog 138 #[.pointer (some ⟨ct,0,none⟩),I.wv,Jb c pv] .normal) (cf :: fs)) W:=by
  refine Nj I hA hS fun s1 W1 N hA1 Ke hS1 hN PO q1 q2=>?_;generalize hw:I.wv=wv;generalize Jb c pv=cv;obtain ⟨k,qH⟩:∃ k,k=c.kind:=⟨_,rfl⟩
  rw [← qH];rw [← qH] at hk;unfold Vp;dsimp only;have hbl:∃ c0,Rh=.block 0 c0/\c0=(match Rh with | .block _ c=>c | _=>.skip):=⟨_,rfl,rfl⟩
  obtain ⟨c0,hc0,hc1⟩:=hbl;rw [hc0];refine GY stepG_block ?_;rw [hc1];simp only [Rh,Try.f138];refine GY stepG_seq ?_;refine Hu fun _ hkk=>?_;iterate 2 (refine Hf ?_;walk_nrm)
  refine Hw ?_;cases hkk;refine JL.Ho (by simp [Act.eval];omega) ?_;refine GY stepG_seq ?_;refine Hu fun _ hkk=>?_;iterate 2 (refine Hf ?_;walk_nrm)
  refine Hw ?_;cases hkk;refine JL.Ho (by simp [Act.eval];omega) ?_;refine GY stepG_seq ?_;refine Hu fun _ hkk=>?_;iterate 2 (refine Hf ?_;walk_nrm)
  refine Hw ?_;cases hkk;refine JL.Ho (by simp [Act.eval];omega) ?_;refine GY stepG_seq ?_;refine Hu fun _ hkk=>?_;iterate 2 (refine Hf ?_;walk_nrm)
  refine Hw ?_;cases hkk;refine JL.Ho (by simp [Act.eval];omega) ?_;refine GY stepG_seq ?_;refine Hu fun _ hkk=>?_;iterate 2 (refine Hf ?_;walk_nrm)
  refine Hw ?_;cases hkk;refine JL.Ho (by simp [Act.eval];omega) ?_;refine GY stepG_seq ?_;refine Hu fun _ hkk=>?_;iterate 2 (refine Hf ?_;walk_nrm)
  refine Hw ?_;cases hkk;refine JL.Ho (by simp [Act.eval];omega) ?_;refine GY stepG_seq ?_;refine Hu fun _ hkk=>?_;iterate 2 (refine Hf ?_;walk_nrm)
  refine Hw ?_;cases hkk;refine JL.Ho (by simp [Act.eval];omega) ?_;refine Hu fun _ hkk=>?_;have hE:=I.ends hS1 (e:=({ err:=40 },false)) (by simp only [He];rw [if_neg (by omega),if_neg (by omega),if_neg (by omega)]);have hA2:=hA1;have hO2:=Js.On.refl I s1 W1;have hrow:W1.heap[N+1]?=_:=((hO2.kept _ hN).2).trans q2;have hO3:=Ke.trans hO2;have hown:I.own s1 (N+1):=I.JX hA2 (hO2.kept _ hN).1;have hcore:¬ I.core s1 (N+1):=fun h=>PO.2.1 ((hO2.core _).1 h);have M6:=PO.2.2;show JL S.L (I.γ s1) _ W1;have HH:=Lib.hid (And.intro hJ (And.intro hA2 (And.intro hO3 (And.intro hE (And.intro hown (And.intro hcore M6))))));clear hJ hA2 hO3 hE hown hcore M6 PO hN hA1 Ke hS1 hA hS hO2 q1 q2 qH;refine HY.JR (S:=S) (b:=base 138) 0 [] (by simp) (by kernel_rfl) nE rfl (by kernel_rfl) fun GQ ha=>?_;have hW:GQ.heap=W1.heap:=by obtain ⟨τ,d,rfl⟩:=ha;rfl
  rw [← hW] at hrow;dsimp only [List.drop];have g3:GQ.cell? ⟨N+1,3,none⟩=some (.bool false):=by simp [World.cell?,hrow]
  have g4:GQ.cell? ⟨N+1,4,none⟩=some (.int .i64 0):=by simp [World.cell?,hrow]
  have g6:GQ.cell? ⟨N+1,6,none⟩=some (.int .i64 0):=by simp [World.cell?,hrow]
  have z3:GQ.frozen? ⟨N+1,3,none⟩=false:=by simp [World.frozen?,hrow]
  have z4:GQ.frozen? ⟨N+1,4,none⟩=false:=by simp [World.frozen?,hrow]
  have z6:GQ.frozen? ⟨N+1,6,none⟩=false:=by simp [World.frozen?,hrow]
  have HR:=Lib.hid (And.intro hrow hW);clear hrow hW;gi_wp2;refine ⟨rfl,?_⟩;obtain ⟨hrow,hW⟩:=HR.out;clear HR;have hf:∃ W3:World,W3=(GQ.setCell ⟨N+1,6,none⟩ (.int .i64 40)):=⟨_,rfl⟩
  obtain ⟨W3,hW3⟩:=hf;rw [← hW3];have hrow3:W3.heap[N+1]?=some (.cells #[.int .i64 0,.int .i64 0,.int .i64 0,.bool false,.int .i64 0,.int .i64 0,.int .i64 40,.slice none 0 0,.slice none 0 0] 51 (0,0)):=by rw [hW3];simp [World.setCell,Array.getElem?_modify,hrow]
  have IC:∀ b,b≠N+1->W3.heap[b]?=W1.heap[b]?:=fun b hb=>by rw [hW3,← hW];simp [World.setCell,Array.getElem?_modify,hb.symm]
  have Ji:W3.heap.size=W1.heap.size:=by rw [hW3,← hW];simp [World.setCell]
  clear hW3 hrow hW g3 g4 g6 z3 z4 z6;show JL S.L (I.γ s1) _ W3;refine Hw ?_;cases hkk;refine GY stepG_inBlock ?_;refine HY.Ht (S:=S) (b:=base 138) [] (by simp) (by kernel_rfl) nE (by kernel_rfl) fun W4 VU=>?_;have Ov:W4.heap=W3.heap:=by obtain ⟨τ,d,rfl⟩:=VU;rfl
  rw [← Ov] at hrow3;simp only [← Ov] at IC Ji;have c0:W4.cell? ⟨N+1,0,none⟩=some (.int .i64 0):=by simp [World.cell?,hrow3]
  have c1:W4.cell? ⟨N+1,1,none⟩=some (.int .i64 0):=by simp [World.cell?,hrow3]
  have c2:W4.cell? ⟨N+1,2,none⟩=some (.int .i64 0):=by simp [World.cell?,hrow3]
  have c3:W4.cell? ⟨N+1,3,none⟩=some (.bool false):=by simp [World.cell?,hrow3]
  have c4:W4.cell? ⟨N+1,4,none⟩=some (.int .i64 0):=by simp [World.cell?,hrow3]
  have c5:W4.cell? ⟨N+1,5,none⟩=some (.int .i64 0):=by simp [World.cell?,hrow3]
  have c6:W4.cell? ⟨N+1,6,none⟩=some (.int .i64 40):=by simp [World.cell?,hrow3]
  have c7:W4.cell? ⟨N+1,7,none⟩=some (.slice none 0 0):=by simp [World.cell?,hrow3]
  have c8:W4.cell? ⟨N+1,8,none⟩=some (.slice none 0 0):=by simp [World.cell?,hrow3]
  have zz:∀ o,W4.frozen? ⟨N+1,o,none⟩=false:=fun o=>by simp [World.frozen?,hrow3]
  have z0:=zz 0;have z1:=zz 1;have z2:=zz 2;have z3:=zz 3;have z4:=zz 4;have z5:=zz 5;have z6:=zz 6;have z7:=zz 7;have z8:=zz 8;clear zz;have HR:=Lib.hid (And.intro hrow3 (And.intro IC Ji));clear hrow3 IC Ji Ov;have hfin:RowKit.Hid (∀ W5 tm,W5.heap[N+1]?=some (.cells #[.int .i64 0,.int .i64 0,.int .i64 0,.bool false,.int .i64 0,.int .i64 0,.int .i64 40,.slice none 0 0,.slice none 0 0] 51 (0,0))->(∀ b,b≠N+1->W5.heap[b]?=W4.heap[b]?)->W5.heap.size=W4.heap.size->tm.getD 6 undef=.pointer (some ⟨N+1,0,none⟩)->
      TB S (I.γ s1) (base 138) [] [] (cf :: fs) .ret ⟨tm,[]⟩ W5):=Lib.hid fun W5 tm h1 h2 h3 h4 Y=>by
    obtain ⟨hJ,hA2,hO3,hE,hown,hcore,M6⟩:=HH.out;obtain ⟨_,IC,Ji⟩:=HR.out;obtain ⟨SF,R8⟩:=I.write hA2 hO3 hown hcore M6 ⟨_,_,_,h1⟩ (fun b hb=>(h2 b hb).trans (IC b hb)) (h3.trans Ji);exact Qr Try.func138 (Jf Try.results138 h4 h1 Try.underlying51 rfl (by kernel_rfl)) (hJ s1 σ W5 _ SF R8 hE rfl)
  clear HH;simp only [kG,Try.f138];gi_wp2;obtain ⟨hrow3,_,_⟩:=HR.out;clear HR;exact hfin.out _ _ (by simp [World.setCell,Array.getElem?_modify,hrow3]) (fun b hb=>by simp [World.setCell,Array.getElem?_modify,hb.symm]) (by simp [World.setCell]) rfl
theorem lq (I:Js S He m 63)(hm:Ir m ct cb n){s:I.St}{c:G5}{pv:Value}(hA:I.At s σ W)(hS:I.R4 s σ c)(hL:I.Leaves cf fs)(hJ:∀ s' σ' W' e,I.At s' σ' W'->I.On s W s' W'->I.End s' σ' (e,false)->e.ints=[]->JW S.base (I.γ s') (G (cf.finish (Q6 e (.slice none 0 0))) fs) W') :
    JW S.base (I.γ s) (G (Frame.enter Try.prog 138 #[.pointer (some ⟨ct,0,none⟩),I.wv,Jb c pv] .normal) (cf :: fs)) W:=by
  by_cases h:1<=c.kind/\c.kind<=7
  . obtain h | h | h | h | h | h | h:c.kind=1\/c.kind=2\/c.kind=3\/c.kind=4\/c.kind=5\/c.kind=6\/c.kind=7:=by omega
    . exact Afh I hm h hA hS hL hJ
    . exact Ae9 I hm h hA hS hL hJ
    . exact Ac0 I hm h hA hS hL hJ
    . exact Ac9 I hm h hA hS hL hJ
    . exact Adi I hm h hA hS hL hJ
    . exact Afq I hm h hA hS hL hJ
    . exact Acs I hm h hA hS hL hJ
  . exact Ac3 I hm h hA hS hL hJ
end
end Go.Proofs.Ytkdhnbcdbnpmhaa
