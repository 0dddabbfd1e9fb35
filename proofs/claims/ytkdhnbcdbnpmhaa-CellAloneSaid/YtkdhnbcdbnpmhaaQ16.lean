/-
  Part 16 of the proof that CellAlone returns true for every input and leaves its arguments as they were. No further condition.
-/
import Derived.Test.YtkdhnbcdbnpmhaaQ12
import Derived.Test.YtkdhnbcdbnpmhaaQ15
import Derived.Conc.WgGenN2
set_option linter.unusedVariables false
set_option linter.unusedSectionVars false
set_option maxHeartbeats 8000000
set_option maxRecDepth 100000
namespace Go.LT
open Go Go.Conc
section
variable {P:Program}{main:Bool}{Γ:Type}{S:Sn P main Γ}{γ:Γ}{W:World}{b:Frame}{a:Act}{k:List Item}{c:Frame}{cs:List Frame}
theorem JL.qC {ops:Array Oper}{i:Nat}{rest:List Nat}{o:Oper}{f:FuncId}{x:Operand}{name:String}{args:Array Operand}{ats:Array TypeId}{args':Array Value}(ho:ops[i]?=some o)(hw:Region.wanted o (yielded ops a.tmps)=true)(hk:b.kind≠.early)(hop:o.op=.call { callee:=.invoke x name,args,argTypes:=ats })(hr:∀ w es,(callMethod (a.eval x) name (args.map a.eval)).runT P w es=(.ok (.enter f args') w,es))(h:JL S γ (G (Frame.enter P f args' .normal) (b.at a (.inRegion ops (i :: rest) :: k) :: cs)) W) :
    JL S γ (G (b.at a (.inRegion ops (i :: rest) :: k)) cs) W:=by
  have he:∀ w,(execOp a.eval o).runT P w #[]=(.ok (.enter f args') w,#[]):=fun w=>by
    unfold execOp;simp only [hop];show (invoke (.fn (.method name) #[]) (#[a.eval x] ++ args.map a.eval)).runT P w #[]=_;unfold invoke;have h0:(#[a.eval x] ++ args.map a.eval)[0]?=some (a.eval x):=by rw [Array.getElem?_append_left (by simp)];rfl
    have h1:(#[a.eval x] ++ args.map a.eval).extract 1 (#[a.eval x] ++ args.map a.eval).size=args.map a.eval:=by
      apply Array.ext'
      simp
      rw [List.take_of_length_le (by simp)]
    simp only [h0,h1];exact hr w #[]
  refine .ctl rfl (fun w=>?_) h;rw [stepG_enter (w':=w) ho hw hk (by rw [← Sem.runT_fst (es:=#[]),he])];have:listed P b.fn a o w=#[]:=by unfold listed;show seen P b.fn ((execOp a.eval o).runT P w #[]).2=#[];rw [he];exact seen_none P _
  rw [this]
theorem JL.WY {ops:Array Oper}{i:Nat}{rest:List Nat}{o:Oper}{ats:Array TypeId}(ho:ops[i]?=some o)(hw:Region.wanted o (yielded ops a.tmps)=true)(hk:b.kind=.deferred)(hop:o.op=.call { callee:=.builtin .recover,args:=#[],argTypes:=ats })(hc:c.mode=.returning)(h:JL S γ (G (b.at (a.put o.dst .nilIface) (.inRegion ops rest :: k)) (c :: cs)) W):JL S γ (G (b.at a (.inRegion ops (i :: rest) :: k)) (c :: cs)) W:=by
  refine .ctl rfl (fun w=>?_) h;rw [stepG_oper ho hw];have hr:(execOp a.eval o).runT P w #[]=(.ok .recover w,#[]):=by unfold execOp;simp only [hop];rfl
  have hfin:(b.at a (.inRegion ops (i :: rest) :: k)).finish .nilIface=b.at (a.put o.dst .nilIface) (.inRegion ops rest :: k):=by rw [Frame.finish_at,ho];rfl
  rw [← hfin];have hm:tryRecover (b.at a (.inRegion ops (i :: rest) :: k)) (c :: cs)=none:=by unfold tryRecover;simp [Frame.at,hk,hc]
  have hse:seen P b.fn #[]=#[]:=seen_none P _;have hk':((CallKind.deferred == CallKind.early):Bool)=false:=rfl;simp only [Frame.at,hk] at hm hse;simp [stepG.apply,hr,G,Frame.at,hk,GStep.after,hm,hse,-Sem.runT_eq]
theorem JL.Yd {ops:Array Oper}{i:Nat}{rest:List Nat}{o:Oper}{f:FuncId}{x:Operand}{args:Array Operand}{ats:Array TypeId}{caps:Array Value}(ho:ops[i]?=some o)(hw:Region.wanted o (yielded ops a.tmps)=true)(hk:b.kind≠.early)(hop:o.op=.defer { callee:=.value x,args,argTypes:=ats })(hx:a.eval x=.func (.func f) #[] caps)(h:JL S γ (G (b.at (Act.put ⟨a.tmps,{ target:=.fn (.func f) caps,args:=args.map a.eval } :: a.defers⟩ o.dst undef) (.inRegion ops rest :: k)) cs) W):JL S γ (G (b.at a (.inRegion ops (i :: rest) :: k)) cs) W:=by
  refine .ctl rfl (fun w=>?_) h;have hr:(execOp a.eval o).run P w=.ok (.defer { target:=.fn (.func f) caps,args:=args.map a.eval }) w:=by unfold execOp;simp [hop,resolve,Deferred.ofValue,hx]
  have he:(execOp a.eval o).events P w #[]=#[]:=by unfold execOp;simp [hop,resolve,Deferred.ofValue,hx]
  have hfin:(b.at ⟨a.tmps,{ target:=.fn (.func f) caps,args:=args.map a.eval } :: a.defers⟩ (.inRegion ops (i :: rest) :: k)).finish undef=b.at (Act.put ⟨a.tmps,{ target:=.fn (.func f) caps,args:=args.map a.eval } :: a.defers⟩ o.dst undef) (.inRegion ops rest :: k):=by rw [Frame.finish_at,ho];rfl
  have hk':(b.kind == CallKind.early)=false:=by simpa using hk
  rw [stepG_oper ho hw,← hfin];have hse:=seen_none P b.fn;simp [stepG.apply,hr,he,G,Frame.at,hk',GStep.after,hse]
end
end Go.LT
namespace Go.LT
open Go Go.Conc
section
variable {P:Program}{main:Bool}{Γ:Type}{S:HY P main Γ}{γ:Γ}{W:World}
theorem HY.Jm {b:Frame}{k:List Item}{cs:List Frame}{ds:List Deferred}{tm:Array Value}{ops:Array Oper}(j n:Nat)(L:List FuncId)(hL:∀ g∈L,@Lets (Host.only b.fn) P g)(hi:P.inits.idxOf? b.fn=none)(TP:b.kind≠.early){is rest:List Nat}(his:is=List.range' j ((ops.toList.drop j).take n).length ++ rest)(hok:((ops.toList.drop j).take n).all (@M4 (Host.only b.fn) P)=true)(h:∀ GQ,Alike W GQ->wpListIn (Fence.list (b.fn :: L) none) 0 P ops (Behind S γ fun tm=>G (b.at ⟨tm,ds⟩ (.inRegion ops rest :: k)) cs) ((ops.toList.drop j).take n) ⟨tm,[]⟩ GQ):JL S.L γ (G (b.at ⟨tm,ds⟩ (.inRegion ops is :: k)) cs) W:=
  HY.Aat j ((ops.toList.drop j).take n) L hL hi TP his (fun i o ho=>by
    rw [List.getElem?_take] at ho;split at ho
    . rw [List.getElem?_drop] at ho;rw [← Array.getElem?_toList];exact ho
    . cases ho) hok h
end
end Go.LT
namespace Go.Proofs.Ytkdhnbcdbnpmhaa
open Go Go.Conc Go.LT Go.LC Go.LK Go.RowKit
section
variable {main:Bool}{Γ:Type}{S:HY Try.prog main Γ}{Cs Sg:Type}{D:Dr G5 Cs Sg}{m:Mem Sg}
structure RD (I:Js S D m 63)(dv:Value)(Ry:FuncId)(recv:Value):Prop where
  Aaa : ∀ wv cv w es, (callMethod dv "Do" #[wv, cv]).runT Try.prog w es = (.ok (.enter Ry #[recv, wv, cv]) w, es)
  doj:∀ {s:I.St} {σ:Sg} {W:World} {c:G5} {cf:Frame} {fs:List Frame} {pv:Value},I.At s σ W->I.R4 s σ c->I.Leaves cf fs->
    (∀ s' σ' W' e iv,I.At s' σ' W'->I.On s W s' W'->I.End s' σ' (e,false)->Jg W' (fun g=>I.kept s' g/\¬ I.kept s g) iv e.ints->JW S.base (I.γ s') (G (cf.finish (Q6 e iv)) fs) W')->
    JW S.base (I.γ s) (G (Frame.enter Try.prog Ry #[recv,I.wv,Jb c pv] .normal) (cf :: fs)) W
variable {cf:Frame}{fs:List Frame}{W:World}{σ:Sg}
noncomputable def ds0:Code:=match Try.f104.body with | some (.seq c _)=>c | _=>.skip
noncomputable def ds1:Code:=match Try.f104.body with | some (.seq _ (.seq c _))=>c | _=>.skip
noncomputable def ds2:Code:=match Try.f104.body with | some (.seq _ (.seq _ c))=>c | _=>.skip
theorem oK:Try.f104.body=some (.seq ds0 (.seq ds1 ds2)):=rfl
noncomputable def dd0:Code:=match Try.f118.body with | some (.seq c _)=>c | _=>.skip
noncomputable def dd1:Code:=match Try.f118.body with | some (.seq _ c)=>c | _=>.skip
theorem nu:Try.f118.body=some (.seq dd0 dd1):=rfl
theorem Qe {w:World}{own:Nat->Prop}{iv:Value}{l:List Int}(h:Jg w own iv l):∃ ao n c,iv=.slice ao n c:=by
  rcases h with ⟨_,rfl⟩|⟨_,g,c,rfl,_⟩
  . exact ⟨_,_,_,rfl⟩
  . exact ⟨_,_,_,rfl⟩
def oN (N:Nat):Deferred:={ target:=.fn (.func 118) #[.pointer (some ⟨N+2,0,none⟩),.pointer (some ⟨N,0,none⟩)],args:=#[] }
theorem Z4 (I:Js S D m 63){s:I.St}{c:G5}{pv dv:Value}(hA:I.At s σ W)(hS:I.R4 s σ c)(hJ:∀ s' W' N,I.At s' σ W'->I.On s W s' W'->I.R4 s' σ c->I.kept s' (N+2)/\I.kept s' N/\¬ I.core s' (N+2)/\¬ I.kept s (N+2)->W'.heap[N]?=some (.cells #[I.wv] 109 (0,0))->W'.heap[N+1]?=some (.cells #[.int .i64 c.kind,.int .i64 c.a,.int .i64 c.b,.int .i64 c.c,pv] 32 (0,0))->
      W'.heap[N+2]?=some (.cells #[.int .i64 0,.int .i64 0,.int .i64 0,.bool false,.int .i64 0,.int .i64 0,.int .i64 0,.slice none 0 0,.slice none 0 0] 51 (0,0))->
      JL S.L (I.γ s') (G ((base 104).at ⟨#[I.wv,dv,Jb c pv,.pointer (some ⟨N,0,none⟩),undef,.pointer (some ⟨N+1,0,none⟩),.pointer (some ⟨N+2,0,none⟩),undef,undef,undef,undef,undef],[]⟩ [.code (.seq ds1 ds2)]) (cf :: fs)) W')(hwv:∃ a,I.wv=.pointer a)(hpv:∃ a n c,pv=.slice a n c) :
    JW S.base (I.γ s) (G (Frame.enter Try.prog 104 #[I.wv,dv,Jb c pv] .normal) (cf :: fs)) W:=by
  have ht:#[I.wv,dv,Jb c pv] ++ Array.replicate (Try.f104.ntmps - (#[I.wv,dv,Jb c pv]:Array Value).size) undef=#[I.wv,dv,Jb c pv,undef,undef,undef,undef,undef,undef,undef,undef,undef]:=by
    have:Try.f104.ntmps=12:=by kernel_rfl
    rw [this];walk_nrm
  rw [enter_at _ Try.func104 oK,ht];obtain ⟨wa,hw⟩:=hwv;obtain ⟨pa,pn,pc,rfl⟩:=hpv;simp only [hw] at hJ ⊢;show JL S.L (I.γ s) _ W;refine GY stepG_seq ?_;refine HY.Ht (S:=S) (b:=base 104) [] (by simp) (by kernel_rfl) nE (by kernel_rfl) fun GQ ha=>?_;obtain ⟨hA1,Ke⟩:=I.alike hA ha;have HH:=Lib.hid (And.intro hJ (And.intro hS (And.intro hA1 Ke)));clear hJ hS hA hA1 Ke;simp only [ds0,Try.f104,Jb];gi_wp2;obtain ⟨hJ,hS,hA1,Ke⟩:=HH.out;clear HH;generalize ho1:Obj.cells #[Value.pointer wa] 109=o1;generalize ho2:Obj.cells #[Value.int IntKind.i64 c.kind,Value.int IntKind.i64 c.a,Value.int IntKind.i64 c.b,Value.int IntKind.i64 c.c,Value.slice pa pn pc] 32=o2
  generalize ho3:Obj.cells #[Value.int IntKind.i64 0,Value.int IntKind.i64 0,Value.int IntKind.i64 0,Value.bool false,Value.int IntKind.i64 0,Value.int IntKind.i64 0,Value.int IntKind.i64 0,Value.slice none 0 0,Value.slice none 0 0] 51=o3;obtain ⟨s1,hA2,hO2,e1,f1,k1,b1,_⟩:=I.lay (W':=GQ.alloc o1) (N:=GQ.heap.size) hA1 rfl ⟨_,_,_,by rw [heap_alloc_new];exact congrArg some ho1.symm⟩ (fun b hb=>Below.heap_alloc _ _ _ hb) (by simp);obtain ⟨s2,hA3,hO3,e2,f2,k2,b2,_⟩:=I.lay (W':=(GQ.alloc o1).alloc o2) (N:=(GQ.alloc o1).heap.size) hA2 rfl ⟨_,_,_,by rw [heap_alloc_new];exact congrArg some ho2.symm⟩ (fun b hb=>Below.heap_alloc _ _ _ hb) (by simp);obtain ⟨s3,XU,hO4,e3,f3,k3,b3,_⟩:=I.lay (W':=((GQ.alloc o1).alloc o2).alloc o3) (N:=((GQ.alloc o1).alloc o2).heap.size) hA3 rfl ⟨_,_,_,by rw [heap_alloc_new];exact congrArg some ho3.symm⟩ (fun b hb=>Below.heap_alloc _ _ _ hb) (by simp)
  have hsz:(GQ.alloc o1).heap.size=GQ.heap.size+1:=by simp
  have hsz2:((GQ.alloc o1).alloc o2).heap.size=GQ.heap.size+2:=by simp
  have q1:(((GQ.alloc o1).alloc o2).alloc o3).heap[GQ.heap.size]?=some o1:=by rw [Below.heap_alloc _ _ _ (by simp;omega),Below.heap_alloc _ _ _ (by simp)];exact heap_alloc_new _ _
  have q2:(((GQ.alloc o1).alloc o2).alloc o3).heap[GQ.heap.size+1]?=some o2:=by rw [Below.heap_alloc _ _ _ (by simp),← hsz];exact heap_alloc_new _ _
  have q3:(((GQ.alloc o1).alloc o2).alloc o3).heap[GQ.heap.size+2]?=some o3:=by rw [← hsz2];exact heap_alloc_new _ _
  have q6:I.kept s3 (GQ.heap.size+2)/\I.kept s3 GQ.heap.size/\¬ I.core s3 (GQ.heap.size+2)/\¬ I.kept s (GQ.heap.size+2):=by
    have hown:∀ b,I.own s b->b < GQ.heap.size:=fun b hb=>by obtain ⟨_,c,e,f,h⟩:=I.row hA1 hb;exact (Array.getElem?_eq_some_iff.1 h).1
    refine ⟨(k3 _).2 (.inr hsz2.symm),(k3 _).2 (.inl ((k2 _).2 (.inl ((k1 _).2 (.inr rfl))))),fun h=>?_,fun h=>?_⟩
    . have:=hown _ (I.Pq hA1 ((hO2.core _).1 ((hO3.core _).1 ((hO4.core _).1 h))));omega
    . have:=hown _ (I.JX hA1 h);omega
  have q4:=Ke.trans (hO2.trans (hO3.trans hO4));have q5:=b3 _ (b2 _ (b1 _ hS));have e4:I.γ s=I.γ s3:=(e3.trans (e2.trans e1)).symm;rw [e4];generalize ((GQ.alloc o1).alloc o2).alloc o3=W3 at *;generalize GQ.heap.size=N at *;subst ho1 ho2 ho3;exact hJ s3 W3 N XU q4 q5 q6 q1 q2 q3
theorem ZF (I:Js S D m 63){dv recv:Value}{Ry:FuncId}(hD:RD I dv Ry recv){s:I.St}{c:G5}{pv:Value}(hA:I.At s σ W)(hS:I.R4 s σ c)(hwv:∃ a,I.wv=.pointer a)(hpv:∃ a n c,pv=.slice a n c)(hdv:∃ t v,dv=.iface t v)(hLd:∀ tm k N,I.Leaves ((base 104).at ⟨tm,[oN N]⟩ k) (cf :: fs))(hJ:∀ s' σ' W' e iv,I.At s' σ' W'->I.On s W s' W'->I.End s' σ' (e,false)->Jg W' (fun g=>I.kept s' g/\¬ I.kept s g) iv e.ints->JW S.base (I.γ s') (G (cf.finish (Q6 e iv)) fs) W') :
    JW S.base (I.γ s) (G (Frame.enter Try.prog 104 #[I.wv,dv,Jb c pv] .normal) (cf :: fs)) W:=by
  refine Z4 I hA hS (fun s1 W1 N hA1 Ke hS1 hN q1 q2 q3=>?_) hwv hpv;obtain ⟨wa,hw⟩:=hwv;obtain ⟨pa,pn,pc,rfl⟩:=hpv;obtain ⟨dt,dw,rfl⟩:=hdv;refine GY stepG_seq ?_;simp only [ds1,Try.f104];refine Hu fun _ hkk=>?_;refine JL.KX (.func (.func 118) #[] #[.pointer (some ⟨N+2,0,none⟩),.pointer (some ⟨N,0,none⟩)]) rfl rfl nE (fun _=>by kernel_rfl) ?_;walk_nrm;refine JL.Yd rfl rfl nE rfl rfl ?_;walk_nrm;refine Hw ?_;cases hkk;simp only [ds2,Try.f104];refine GY stepG_seq ?_;refine Hu fun _ hkk=>?_
  (refine Hf ?_;walk_nrm)
  rw [hw] at q1;refine HY.read (S:=S) (ad:=⟨N,0,none⟩) (.pointer wa) rfl rfl nE (by simp [World.cell?,q1]) (fun w h=>by go_simp) (fun w h e he=>by simp [go_sem,h] at he;exact he) ?_;walk_nrm;refine HY.Jm (S:=S) (b:=base 104) 2 1 [] (by simp) (by kernel_rfl) nE (rest:=[3,4]) rfl (by kernel_rfl) fun GQ ha=>?_;obtain ⟨hA2,hO2⟩:=I.alike hA1 ha;have hW:GQ.heap=W1.heap:=by obtain ⟨τ,d,rfl⟩:=ha;rfl
  rw [← hW] at q1 q2 q3;have hO3:=Ke.trans hO2;have hN2:I.kept s1 (N+2):=hN.1;have HH:=Lib.hid (And.intro hJ (And.intro hS1 (And.intro hA2 (And.intro hO3 (And.intro hN q3)))));clear hJ hA2 hO3 Ke hO2 hA1 hS1 hA hS q3 hW hN hN2;dsimp only [List.drop,List.take];have c0:GQ.cell? ⟨N+1,0,none⟩=some (.int .i64 c.kind):=by simp [World.cell?,q2]
  have c1:GQ.cell? ⟨N+1,1,none⟩=some (.int .i64 c.a):=by simp [World.cell?,q2]
  have c2:GQ.cell? ⟨N+1,2,none⟩=some (.int .i64 c.b):=by simp [World.cell?,q2]
  have c3:GQ.cell? ⟨N+1,3,none⟩=some (.int .i64 c.c):=by simp [World.cell?,q2]
  have c4:GQ.cell? ⟨N+1,4,none⟩=some (.slice pa pn pc):=by simp [World.cell?,q2]
  clear q1 q2;gi_wp2;refine ⟨rfl,?_⟩;obtain ⟨hJ,hS1,hA2,hO3,hN,q3⟩:=HH.out;clear HH c0 c1 c2 c3 c4;show JL S.L (I.γ s1) _ GQ;dsimp only;have hme:=hD.Aaa (.pointer wa) (Jb c (.slice pa pn pc));refine JL.qC (f:=Ry) (args':=#[recv,.pointer wa,Jb c (.slice pa pn pc)]) rfl rfl nE rfl (fun w es=>?_) ?_
  . rw [List.map_toArray];simp only [List.map_cons,List.map_nil,Act.eval,Array.getD_eq_getD_getElem?,List.getElem?_toArray,List.getElem?_cons_succ,List.getElem?_cons_zero,Option.getD_some];exact hme w es
  clear hme;rw [← hw];refine hD.doj hA2 hS1 (by rw [hw];exact hLd _ _ N) fun s2 σ2 W2 e iv XU hO4 hE hiv=>?_;rw [Frame.finish_at];rw [hw];have hrow:W2.heap[N+2]?=_:=((hO4.kept _ hN.1).2).trans q3;have R8:=hO3.trans hO4;have hown:I.own s2 (N+2):=I.JX XU (hO4.kept _ hN.1).1;have hcore:¬ I.core s2 (N+2):=fun h=>hN.2.2.1 ((hO4.core _).1 h);have M6:=hN.2.2.2;show JL S.L (I.γ s2) _ W2;walk_nrm;obtain ⟨VX,en,em,Jw,NA⟩:=e;unfold Q6;obtain ⟨io,il,ic,rfl⟩:=Qe hiv;refine HY.JR (S:=S) (b:=base 104) 4 [] (by simp) (by kernel_rfl) nE rfl (by kernel_rfl) fun W3 Ky=>?_;have hW3:W3.heap=W2.heap:=by obtain ⟨τ,d,rfl⟩:=Ky;rfl
  rw [← hW3] at hrow;have zz:∀ o,W3.frozen? ⟨N+2,o,none⟩=false:=fun o=>by simp [World.frozen?,hrow]
  have c0:W3.cell? ⟨N+2,0,none⟩=some (.int .i64 0):=by simp [World.cell?,hrow]
  have c1:W3.cell? ⟨N+2,1,none⟩=some (.int .i64 0):=by simp [World.cell?,hrow]
  have c2:W3.cell? ⟨N+2,2,none⟩=some (.int .i64 0):=by simp [World.cell?,hrow]
  have c3:W3.cell? ⟨N+2,3,none⟩=some (.bool false):=by simp [World.cell?,hrow]
  have c4:W3.cell? ⟨N+2,4,none⟩=some (.int .i64 0):=by simp [World.cell?,hrow]
  have c5:W3.cell? ⟨N+2,5,none⟩=some (.int .i64 0):=by simp [World.cell?,hrow]
  have c6:W3.cell? ⟨N+2,6,none⟩=some (.int .i64 0):=by simp [World.cell?,hrow]
  have c7:W3.cell? ⟨N+2,7,none⟩=some (.slice none 0 0):=by simp [World.cell?,hrow]
  have c8:W3.cell? ⟨N+2,8,none⟩=some (.slice none 0 0):=by simp [World.cell?,hrow]
  have z0:=zz 0;have z1:=zz 1;have z2:=zz 2;have z3:=zz 3;have z4:=zz 4;have z5:=zz 5;have z6:=zz 6;have z7:=zz 7;have z8:=zz 8;clear zz;have HH:=Lib.hid (And.intro hJ (And.intro XU (And.intro R8 (And.intro hE (And.intro hown (And.intro hcore (And.intro M6 (And.intro hiv (And.intro hrow (And.intro hW3 (And.intro hN hO3)))))))))));clear hJ XU R8 hE hown hcore M6 hiv hrow hW3 hN hO4 hA2 hO3 hS1 q3;dsimp only [List.drop];gi_wp2;refine ⟨rfl,?_⟩;obtain ⟨hJ,XU,R8,hE,hown,hcore,M6,hiv,hrow,hW3,hN,hO3⟩:=HH.out;clear HH;generalize Yz:World.setCell _ _ _=W5;have PN:W5.heap[N+2]?=some (.cells #[.int .i64 0,.int .i64 0,.int .i64 0,.bool VX,.int .i64 en,.int .i64 em,.int .i64 Jw,.slice io il ic,.slice none 0 0] 51 (0,0)):=by rw [← Yz];simp [World.setCell,Array.getElem?_modify,hrow]
  have Sm:∀ b,b≠N+2->W5.heap[b]?=W2.heap[b]?:=fun b hb=>by rw [← Yz,← hW3];simp [World.setCell,Array.getElem?_modify,hb.symm]
  have hsz5:W5.heap.size=W2.heap.size:=by rw [← Yz,← hW3];simp [World.setCell]
  clear Yz hrow hW3 c0 c1 c2 c3 c4 c5 c6 c7 c8 z0 z1 z2 z3 z4 z5 z6 z7 z8;obtain ⟨SF,rO⟩:=I.write XU R8 hown hcore M6 ⟨_,_,_,PN⟩ Sm hsz5;have om:Jg W5 (fun g=>I.kept s2 g/\¬ I.kept s g) (.slice io il ic) NA:=(hiv.TW fun g hg=>.of (Sm g fun e=>hg.2 (e ▸ hN.1))).mono fun g hg=>⟨hg.1,fun h=>hg.2 (hO3.kept g h).1⟩
  show JL S.L (I.γ s2) _ W5;dsimp only;refine Hw ?_;cases hkk;refine GY stepG_ret' ?_;refine JW.defers (S:=S.base) Try.func118 (by kernel_rfl) rfl (by simp) ?_;rw [enter_atD _ Try.func118 nu];have ht:#[] ++ #[.pointer (some ⟨N+2,0,none⟩),.pointer (some ⟨N,0,none⟩)] ++ Array.replicate (Try.f118.ntmps - (#[] ++ #[.pointer (some ⟨N+2,0,none⟩),.pointer (some ⟨N,0,none⟩)]:Array Value).size) undef=#[.pointer (some ⟨N+2,0,none⟩),.pointer (some ⟨N,0,none⟩),undef,undef,undef,undef,undef,undef,undef,undef,undef,undef,undef,undef,undef,undef,undef,undef,undef]:=by
    have:Try.f118.ntmps=19:=by kernel_rfl
    rw [this];walk_nrm
  rw [ht];show JL S.L (I.γ s2) _ W5;generalize hcf:(Jz _ _ _ _ _ _:Frame)=cd;have hcm:cd.mode=.returning:=by rw [← hcf]
  refine GY stepG_seq ?_;simp only [dd0,Try.f118];refine Hu fun _ hkk=>?_;refine JL.WY rfl rfl rfl rfl hcm ?_;walk_nrm
  (refine Hf ?_;walk_nrm)
  refine Hw ?_;cases hkk;simp only [dd1,Try.f118];refine GY stepG_seq ?_;refine GY stepG_seq ?_;refine Hu fun _ hkk=>?_
  (refine Hf ?_;walk_nrm)
  refine JL.KX (.tuple #[.agg #[],.bool false]) rfl rfl nE (fun _=>by kernel_rfl) ?_;walk_nrm
  (refine Hf ?_;walk_nrm)
  refine JL.KX (.agg #[]) rfl rfl nE (fun _=>by kernel_rfl) ?_;walk_nrm;refine JL.KX (.bool false) rfl rfl nE (fun _=>by kernel_rfl) ?_;walk_nrm;have HH:=Lib.hid (And.intro hJ (And.intro SF (And.intro rO (And.intro hE (And.intro om (And.intro hcf PN))))));clear hJ SF rO hE om PN XU R8 hown hcore M6 hiv hN hO3 Sm hsz5;refine HY.JR (S:=S) (b:=baseD 118) 5 [] (by simp) (by kernel_rfl) nE rfl (by kernel_rfl) fun W6 xY=>?_;dsimp only [List.drop];gi_wp2;refine ⟨rfl,?_⟩;obtain ⟨hJ,SF,rO,hE,om,hcf,PN⟩:=HH.out;clear HH;obtain ⟨hA6,vZ⟩:=I.alike SF xY;obtain ⟨s3,hA7,hO8,e1,_,_,_,_,_,b4⟩:=I.lay (W':=W6.alloc (.cells #[] 180)) (N:=W6.heap.size) hA6 rfl ⟨_,_,_,heap_alloc_new _ _⟩ (fun b hb=>Below.heap_alloc _ _ _ hb) (by simp);have hE7:=b4 _ hE;have hO9:=rO.trans (vZ.trans hO8);have bF:W6.heap=W5.heap:=by obtain ⟨τ,d,rfl⟩:=xY;rfl
  have hlt:N+2 < W6.heap.size:=by rw [bF];exact (Array.getElem?_eq_some_iff.1 PN).1
  have qb:=PN;rw [← bF] at qb;have Aa8:=(Below.heap_alloc W6 (.cells #[] 180) _ hlt).trans qb;have Aee:Jg (W6.alloc (.cells #[] 180)) (fun g=>I.kept s3 g/\¬ I.kept s g) (.slice io il ic) NA:=(om.TW fun g hg=>.of (((vZ.trans hO8).kept g hg.1).2)).mono fun g hg=>⟨((vZ.trans hO8).kept g hg.1).1,hg.2⟩
  rw [← e1];generalize W6.alloc (.cells #[] 180)=W7 at *;show JL S.L (I.γ s3) _ W7;dsimp only;refine Hw ?_;cases hkk;refine GY stepG_seq ?_;refine Hu fun _ hkk=>?_
  (refine Hf ?_;walk_nrm)
  refine Hw ?_;cases hkk;refine JL.Ho rfl ?_;refine GY stepG_skip ?_;refine GY stepG_seq ?_;refine Hu fun _ hkk=>?_
  (refine Hf ?_;walk_nrm)
  refine JL.KX (.bool false) rfl rfl nE (fun _=>by kernel_rfl) ?_;walk_nrm;refine Hw ?_;cases hkk;refine JL.Ho rfl ?_;refine GY stepG_skip ?_;refine GY stepG_end ?_;refine JL.leaveD rfl rfl Try.func118 rfl hcm ?_;rw [← hcf];exact Qr Try.func104 (Jf Try.results104 rfl Aa8 Try.underlying51 rfl (by kernel_rfl)) (hJ s3 σ2 W7 _ _ hA7 hO9 hE7 Aee)
end
end Go.Proofs.Ytkdhnbcdbnpmhaa
namespace Go.LK
open Go Go.Conc Go.LT Go.LC
open Go.ConcN (WgLive RW AtK1 AtD1 AtD2 AtD3 AtD4)
open Go.ConcR (KK wgBlock WgAt stA smA rd wr mk DC0)
section
section
variable {P:Program}{ty:TypeId}{Wg:Nat}{Stop:Goroutine->World->Prop}{W:World}
abbrev GX (P:Program)(ty:TypeId)(Wg:Nat)(Stop:Goroutine->World->Prop)(m:Nat)(g:Goroutine)(w:World):Prop:=Goes P false (RX ty Wg) DC0 Stop m g w
def SG (P:Program)(ty:TypeId)(Wg:Nat)(Stop:Goroutine->World->Prop):Sn P false Unit where
  B:=fun _=>TT
  J:=fun _ g _=>∃ m,∀ w,WgLive ty Wg w->GX P ty Wg Stop m g w
  live:=fun _=>WgLive ty Wg
  idle:=fun γ g g' W hs h hJ w hw=>by obtain ⟨m,hg⟩:=hJ w hw;exact ⟨m+1,fun w hl=>Goes.step hs fun w₁ h₁=>by rw [h w₁ (h₁.live hl)];exact ⟨⟨rfl,rfl⟩,hg _ (h₁.live hl)⟩⟩
theorem SG.stop {g:Goroutine}(h:∀ w,WgLive ty Wg w->Stop g w):JL (SG P ty Wg Stop) () g W:=fun w _=>⟨0,fun w hl=>Goes.stop fun w₁ h₁=>h w₁ (h₁.live hl)⟩
theorem SG.goes {g:Goroutine}(h:∀ W,JL (SG P ty Wg Stop) () g W):∃ m,∀ w,WgLive ty Wg w->GX P ty Wg Stop m g w:=h (GN TT default) default ⟨.refl _,Mg _⟩
theorem SG.at {g:Goroutine}{w:World}(hl:WgLive ty Wg w)(h:∀ W,JL (SG P ty Wg Stop) () g W):∃ m,GX P ty Wg Stop m g w:=let ⟨m,hg⟩:=SG.goes h;⟨m,hg w hl⟩
def Zy (P:Program)(d:Nat):Sn P false Unit where
  B:=fun _=>TT
  J:=fun _ g _=>∃ q,QuitsD P q d g
  live:=fun _ _=>True
  idle:=fun γ g g' W hs h hJ w hw=>by obtain ⟨q,hq⟩:=hJ w hw;exact ⟨q+1,QuitsD.ctl hs (fun w=>h w trivial) hq⟩
theorem Zy.of {d:Nat}{g:Goroutine}(h:∀ W,JL (Zy P d) () g W):∃ q,QuitsD P q d g:=h (GN TT default) default ⟨.refl _,Mg _⟩
theorem Zy.end {d q:Nat}{g:Goroutine}(h:QuitsD P q d g):JL (Zy P d) () g W:=fun _ _=>⟨q,h⟩
theorem Zy.said {d:Nat}{g g':Goroutine}(e:Event)(he:e.mute=true)(hs:g.status=.running)(h:∀ w,stepG P false g w=.go g' w #[e])(hJ:JL (Zy P (deafBehind d #[e])) () g' W):JL (Zy P d) () g W:=fun w hw=>by obtain ⟨q,hq⟩:=hJ w hw;exact ⟨q+1,QuitsD.said e he hs h hq⟩
end
end
end Go.LK
namespace Go.LK
open Go Go.Conc Go.LT Go.LC Go.Conc.Lib Go.ConcR.Gen Go.RowKit
open Go.ConcN (WgLive RW AtK1 AtD1 AtD2 AtD3 AtD4)
open Go.ConcR (KK wgBlock WgAt stA smA rd wr mk DC0)
section
section
variable {P:Program}{L:WgLink}{Wg:Nat}{b₀:Frame}{a₀:Act}{ops₀:Array Oper}{i₀:Nat}{rest₀:List Nat}{k₀:List Item}{cs:List Frame}
theorem wR (H:WgLib P L)(hT:∀ W,JL (Zy P 0) () (G (b₀.at (a₀.put ((ops₀[i₀]?).bind (·.dst)) (.tuple #[])) (.inRegion ops₀ rest₀ :: k₀)) cs) W)(W:World) :
    JL (SG P L.tWg Wg (Qx P L.tWg Wg)) () (G ((base L.add).at ⟨#[.pointer (some ⟨Wg,0,none⟩),.int .i64 (-1)] ++ Array.replicate 115 undef,[]⟩ [.code (body_add L)]) (b₀.at a₀ (.inRegion ops₀ (i₀ :: rest₀) :: k₀) :: cs)) W:=by
  lib_facts
  simp only [body_add,addFn,Option.getD_some];walk_nrm;refine GY stepG_seq ?_;refine JL.Iq rfl ?_;refine GY stepG_seq ?_;refine GY stepG_seq ?_;refine Hu fun _ hkk=>?_;iterate 2 (refine Hf ?_;walk_nrm)
  refine Hw ?_;cases hkk;refine JL.Iq rfl ?_;refine Hu fun _ hkk=>?_
  (refine Hf ?_;walk_nrm)
  refine JL.value (.pointer (some ⟨Wg,0,none⟩)) rfl rfl (by k_ne) (fun w hl=>by
    have hcv:=run_convert_to_unsafe (P:=P) H.underlying_tWgP H.underlying_tUP H.room_tWg (ConcN.Gen.WgLive.cell0 (show WgLive L.tWg Wg w from hl)).choose_spec;go_simp) (fun w hl e he=>by
    have hce:=fun es=>events_convert_to_unsafe (P:=P) H.underlying_tWgP H.underlying_tUP H.room_tWg (ConcN.Gen.WgLive.cell0 (show WgLive L.tWg Wg w from hl)).choose_spec es;simp [go_sem,hce] at he) ?_
  walk_nrm;refine SG.stop fun w hl=>⟨rfl,_,stepG_markAt .releaseMerge (by simp) rfl rfl (by k_ne) rfl H.f_relMerge (x_relMerge_n L) (x_relMerge_b L) (x_relMerge_x L) (x_relMerge_f L) (by simp [Act.eval,stA]),SG.at hl fun W=>?_⟩
  clear hl;walk_nrm;refine Hw ?_;cases hkk;refine GY stepG_seq ?_;refine Hu fun _ hkk=>?_;refine SG.stop fun w hl=>⟨rfl,_,stepG_mark0 .disable (by simp) rfl rfl (by k_ne) rfl H.f_disable (x_disable_n L) (x_disable_b L) (x_disable_x L) (x_disable_f L),SG.at hl fun W=>?_⟩
  clear hl;walk_nrm;refine Hw ?_;cases hkk;refine Hu fun _ hkk=>?_;refine GY (stepG_defer rfl rfl (by first|exact iO|exact fO|decide|assumption) rfl) ?_;walk_nrm;refine Hw ?_;cases hkk;refine GY stepG_seq ?_;refine Hu fun _ hkk=>?_
  (refine Hf ?_;walk_nrm)
  refine Hw ?_;cases hkk;refine GY stepG_seq ?_;refine GY stepG_seq ?_;refine Hu fun _ hkk=>?_;refine JL.pure (.bool false) rfl rfl (by k_ne) rfl H.f_inBubble (x_inBubble_n L) (x_inBubble_b L) (x_inBubble_x L) (x_inBubble_f L) ?_;walk_nrm;refine Hw ?_;cases hkk;refine JL.Ho rfl ?_;refine GY stepG_skip ?_;refine GY stepG_seq ?_;refine Hu fun _ hkk=>?_;iterate 6 (refine Hf ?_;walk_nrm)
  refine JL.call rfl rfl (by first|exact iO|exact fO|decide|assumption) rfl H.f_uAdd (nm_uAdd L) rfl ?_;walk_nrm;simp only [uAddFn];walk_nrm;refine GY stepG_seq ?_;refine Hu fun _ hkk=>?_
  (refine Hf ?_;walk_nrm)
  refine Hw ?_;cases hkk;refine GY stepG_seq ?_;refine Hu fun _ hkk=>?_;iterate 4 (refine Hf ?_;walk_nrm)
  refine SG.stop fun w hl=>⟨rfl,fun v wt hwt hv hw=>?_⟩
  clear hl;have eS:IntKind.u64.wrap (((v:Nat)+1) * KK+wt+18446744069414584320)=(v:Int) * KK+wt:=by rw [IntKind.wrap_u64];simp only [KK];omega
  refine ⟨_,(stepG_add_atomic rfl rfl (by k_ne) rfl H.f_addU64 (x_addU64_n L) (x_addU64_b L) (x_addU64_x L) .u64 (x_addU64_f L) rfl rfl (show w.cell? (stA Wg)=_ from hw.cellSt) (hw.thaw 0)).trans (by rw [eS];rfl),fun hl=>?_,fun hn=>Zy.of fun W=>?_⟩
  ·
    obtain ⟨rfl,rfl⟩:=hl;have z:((0:Nat):Int) * KK+((1:Nat):Int)=1:=by simp
    have hl1:WgLive L.tWg Wg (w.setCell (stA Wg) (.int .u64 (((0:Nat):Int) * KK+((1:Nat):Int)))):=⟨_,_,hw.setSt _⟩
    simp only [z] at hl1 ⊢;clear eS hv hwt;refine SG.at hl1 fun W=>?_;clear hl1 hw;walk_nrm
    (refine Hf ?_;walk_nrm)
    refine Hw ?_;cases hkk;refine GY stepG_ret' ?_;refine JL.leave1 rfl rfl H.f_uAdd rfl ?_;walk_nrm
    (refine Hf ?_;walk_nrm)
    refine Hw ?_;cases hkk;refine GY stepG_seq ?_;refine GY stepG_seq ?_;refine Hu fun _ hkk=>?_;iterate 4 (refine Hf ?_;walk_nrm)
    refine GY (stepG_unwanted rfl rfl) ?_;walk_nrm;refine GY (stepG_unwanted rfl rfl) ?_;walk_nrm
    (refine Hf ?_;walk_nrm)
    refine Hw ?_;cases hkk;refine JL.Ho rfl ?_;refine GY stepG_skip ?_;refine GY stepG_seq ?_;refine Hu fun _ hkk=>?_;iterate 4 (refine Hf ?_;walk_nrm)
    refine Hw ?_;cases hkk;refine GY stepG_seq ?_;refine Hu fun _ hkk=>?_;iterate 4 (refine Hf ?_;walk_nrm)
    refine Hw ?_;cases hkk;refine GY stepG_seq ?_;refine GY stepG_seq ?_;refine Hu fun _ hkk=>?_;iterate 5 (refine Hf ?_;walk_nrm)
    refine GY (stepG_unwanted rfl rfl) ?_;walk_nrm;refine GY (stepG_unwanted rfl rfl) ?_;walk_nrm;refine GY (stepG_unwanted rfl rfl) ?_;walk_nrm;refine GY (stepG_unwanted rfl rfl) ?_;walk_nrm
    (refine Hf ?_;walk_nrm)
    refine Hw ?_;cases hkk;refine JL.Ho rfl ?_;refine GY stepG_skip ?_;refine GY stepG_seq ?_;refine GY stepG_seq ?_;refine Hu fun _ hkk=>?_;iterate 2 (refine Hf ?_;walk_nrm)
    refine Hw ?_;cases hkk;refine JL.Ho rfl ?_;refine GY stepG_skip ?_;refine GY stepG_seq ?_;refine GY stepG_seq ?_;refine Hu fun _ hkk=>?_;iterate 7 (refine Hf ?_;walk_nrm)
    refine GY (stepG_unwanted rfl rfl) ?_;walk_nrm;refine GY (stepG_unwanted rfl rfl) ?_;walk_nrm;refine GY (stepG_unwanted rfl rfl) ?_;walk_nrm;refine GY (stepG_unwanted rfl rfl) ?_;walk_nrm
    (refine Hf ?_;walk_nrm)
    refine Hw ?_;cases hkk;refine JL.Ho rfl ?_;refine GY stepG_skip ?_;refine GY stepG_seq ?_;refine GY stepG_seq ?_;refine Hu fun _ hkk=>?_;iterate 6 (refine Hf ?_;walk_nrm)
    refine Hw ?_;cases hkk;refine JL.Ho rfl ?_;refine GY stepG_skip ?_;refine GY stepG_seq ?_;refine GY stepG_seq ?_;refine Hu fun _ hkk=>?_;iterate 3 (refine Hf ?_;walk_nrm)
    refine JL.call rfl rfl (by first|exact iO|exact fO|decide|assumption) rfl H.f_uLoad (nm_uLoad L) rfl ?_;walk_nrm;simp only [uLoadFn];walk_nrm;refine GY stepG_seq ?_;refine Hu fun _ hkk=>?_
    (refine Hf ?_;walk_nrm)
    refine Hw ?_;cases hkk;refine GY stepG_seq ?_;refine Hu fun _ hkk=>?_;iterate 3 (refine Hf ?_;walk_nrm)
    refine SG.stop fun w hl=>⟨rfl,fun hw=>⟨_,stepG_load_atomic rfl rfl (by k_ne) rfl H.f_loadU64 (x_loadU64_n L) (x_loadU64_b L) (x_loadU64_x L) .u64 (x_loadU64_f L) rfl hw.cellSt,SG.at hl fun W=>?_⟩⟩
    clear hw hl;walk_nrm
    (refine Hf ?_;walk_nrm)
    refine Hw ?_;cases hkk;refine GY stepG_ret' ?_;refine JL.leave1 rfl rfl H.f_uLoad rfl ?_;walk_nrm;iterate 2 (refine Hf ?_;walk_nrm)
    refine Hw ?_;cases hkk;refine JL.Ho rfl ?_;refine GY stepG_skip ?_;refine GY stepG_seq ?_;refine Hu fun _ hkk=>?_;iterate 3 (refine Hf ?_;walk_nrm)
    refine JL.call rfl rfl (by first|exact iO|exact fO|decide|assumption) rfl H.f_uStore (nm_uStore L) rfl ?_;walk_nrm;simp only [uStoreFn];walk_nrm;refine Hu fun _ hkk=>?_;iterate 4 (refine Hf ?_;walk_nrm)
    refine SG.stop fun w hl=>⟨rfl,fun hw=>⟨_,stepG_store_atomic rfl rfl (by k_ne) rfl H.f_storeU64 (x_storeU64_n L) (x_storeU64_b L) (x_storeU64_x L) (x_storeU64_f L) rfl rfl hw.cellSt (hw.thaw 0),SG.at ⟨_,_,hw.setSt 0⟩ fun W=>?_⟩⟩
    clear hw hl;walk_nrm;refine Hw ?_;cases hkk;refine GY stepG_end ?_;refine JL.leave0 rfl rfl H.f_uStore rfl ?_;walk_nrm;refine Hw ?_;cases hkk;refine GY stepG_seq ?_;refine GY stepG_seq ?_;refine Hu fun _ hkk=>?_
    (refine Hf ?_;walk_nrm)
    refine Hw ?_;cases hkk;refine JL.Ho rfl ?_;refine GY stepG_skip ?_;refine GY stepG_block ?_;refine GY stepG_loop ?_;refine GY stepG_seq ?_;refine GY stepG_seq ?_;refine Hu fun _ hkk=>?_;iterate 2 (refine Hf ?_;walk_nrm)
    refine Hw ?_;cases hkk;refine JL.Iq rfl ?_;refine GY stepG_skip ?_;refine GY stepG_seq ?_;refine GY stepG_block ?_;refine Hu fun _ hkk=>?_;iterate 3 (refine Hf ?_;walk_nrm)
    refine SG.stop fun w hl=>⟨rfl,mayWake_entry rfl rfl H.f_semrelease (x_semrelease_b L),fun hw=>⟨_,(stepG_semrelease rfl rfl (by k_ne) rfl H.f_semrelease (x_semrelease_n L) (x_semrelease_b L) (x_semrelease_x L) (x_semrelease_f L) (by simp [Act.eval,smA]) hw.cellSm (hw.thaw 1)).trans (by rfl),Zy.of fun W=>?_⟩⟩
    clear hw hl;walk_nrm;refine Hw ?_;cases hkk;refine GY stepG_inBlock ?_;refine Hu fun _ hkk=>?_;iterate 3 (refine Hf ?_;walk_nrm)
    refine Hw ?_;cases hkk;refine GY stepG_inLoop ?_;refine GY stepG_seq ?_;refine GY stepG_seq ?_;refine Hu fun _ hkk=>?_;iterate 2 (refine Hf ?_;walk_nrm)
    refine Hw ?_;cases hkk;refine JL.Ho rfl ?_;refine JL.exit rfl ?_;refine GY stepG_end ?_;refine Zy.said (mk .enable) rfl rfl (fun w=>stepG_unwind_entry (v:=.tuple #[]) (evs:=#[mk .enable]) rfl H.f_enable (x_enable_n L) (x_enable_b L) (x_enable_x L) (x_enable_f L) (by simp [Extern.Race.none_]) (by simp [mk]) (by simp [mk])) ?_;refine JL.leave0 rfl rfl H.f_add rfl ?_;exact hT _
  ·
    have hd:deafBehind 1 #[mk .enable]=0:=rfl;rcases Nat.eq_zero_or_pos v with rfl|hvp
    . obtain rfl:wt=0:=by omega
      have z:((0:Nat):Int) * KK+((0:Nat):Int)=0:=by simp
      simp only [z];clear eS hv hwt hn hw;walk_nrm
      (refine Hf ?_;walk_nrm)
      refine Hw ?_;cases hkk;refine GY stepG_ret' ?_;refine JL.leave1 rfl rfl H.f_uAdd rfl ?_;walk_nrm
      (refine Hf ?_;walk_nrm)
      refine Hw ?_;cases hkk;refine GY stepG_seq ?_;refine GY stepG_seq ?_;refine Hu fun _ hkk=>?_;iterate 4 (refine Hf ?_;walk_nrm)
      refine GY (stepG_unwanted rfl rfl) ?_;walk_nrm;refine GY (stepG_unwanted rfl rfl) ?_;walk_nrm
      (refine Hf ?_;walk_nrm)
      refine Hw ?_;cases hkk;refine JL.Ho rfl ?_;refine GY stepG_skip ?_;refine GY stepG_seq ?_;refine Hu fun _ hkk=>?_;iterate 4 (refine Hf ?_;walk_nrm)
      refine Hw ?_;cases hkk;refine GY stepG_seq ?_;refine Hu fun _ hkk=>?_;iterate 4 (refine Hf ?_;walk_nrm)
      refine Hw ?_;cases hkk;refine GY stepG_seq ?_;refine GY stepG_seq ?_;refine Hu fun _ hkk=>?_;iterate 5 (refine Hf ?_;walk_nrm)
      refine GY (stepG_unwanted rfl rfl) ?_;walk_nrm;refine GY (stepG_unwanted rfl rfl) ?_;walk_nrm;refine GY (stepG_unwanted rfl rfl) ?_;walk_nrm;refine GY (stepG_unwanted rfl rfl) ?_;walk_nrm
      (refine Hf ?_;walk_nrm)
      refine Hw ?_;cases hkk;refine JL.Ho rfl ?_;refine GY stepG_skip ?_;refine GY stepG_seq ?_;refine GY stepG_seq ?_;refine Hu fun _ hkk=>?_;iterate 2 (refine Hf ?_;walk_nrm)
      refine Hw ?_;cases hkk;refine JL.Ho rfl ?_;refine GY stepG_skip ?_;refine GY stepG_seq ?_;refine GY stepG_seq ?_;refine Hu fun _ hkk=>?_;iterate 3 (refine Hf ?_;walk_nrm)
      refine GY (stepG_unwanted rfl rfl) ?_;walk_nrm;refine GY (stepG_unwanted rfl rfl) ?_;walk_nrm;iterate 2 (refine Hf ?_;walk_nrm)
      refine GY (stepG_unwanted rfl rfl) ?_;walk_nrm;refine GY (stepG_unwanted rfl rfl) ?_;walk_nrm;refine GY (stepG_unwanted rfl rfl) ?_;walk_nrm;refine GY (stepG_unwanted rfl rfl) ?_;walk_nrm
      (refine Hf ?_;walk_nrm)
      refine Hw ?_;cases hkk;refine JL.Ho rfl ?_;refine GY stepG_skip ?_;refine GY stepG_seq ?_;refine GY stepG_seq ?_;refine Hu fun _ hkk=>?_;iterate 6 (refine Hf ?_;walk_nrm)
      refine Hw ?_;cases hkk;refine JL.Iq rfl ?_;refine GY stepG_ret' ?_;refine Zy.said (mk .enable) rfl rfl (fun w=>stepG_unwind_entry (v:=.tuple #[]) (evs:=#[mk .enable]) rfl H.f_enable (x_enable_n L) (x_enable_b L) (x_enable_x L) (x_enable_f L) (by simp [Extern.Race.none_]) (by simp [mk]) (by simp [mk])) ?_;refine JL.leave0 rfl rfl H.f_add rfl ?_;exact hT _
    . obtain ⟨S,hS⟩:∃ S:Int,(v:Int) * KK+wt=S:=⟨_,rfl⟩
      have a1:S / 4294967296=(v:Int):=by rw [← hS];simp only [KK];omega
      have b1:bits .and .u64 S 2147483648=0:=by rw [← hS];have:=ConcN.st_flag v wt (by omega) hwt;simpa [KK] using this
      have b2:bits .and .u64 S 2147483647=(wt:Int):=by rw [← hS];have:=ConcN.st_waiters v wt (by omega) hwt;simpa [KK] using this
      have c1:IntKind.i32.wrap (v:Int)=(v:Int):=by rw [IntKind.wrap_i32];omega
      have q3:decide ((v:Int) < 0)=false:=decide_eq_false (by omega);have q4:decide (0 < (v:Int))=true:=decide_eq_true (by omega);simp only [hS];obtain rfl|rfl:wt=0\/wt=1:=by omega
      . have b3:bits .and .u64 S 2147483647=0:=by simpa using b2
        clear eS hn hw hS b2;walk_nrm
        (refine Hf ?_;walk_nrm)
        refine Hw ?_;cases hkk;refine GY stepG_ret' ?_;refine JL.leave1 rfl rfl H.f_uAdd rfl ?_;walk_nrm
        (refine Hf ?_;walk_nrm)
        refine Hw ?_;cases hkk;refine GY stepG_seq ?_;refine GY stepG_seq ?_;refine Hu fun _ hkk=>?_;iterate 4 (refine Hf ?_;walk_nrm)
        refine GY (stepG_unwanted rfl rfl) ?_;walk_nrm;refine GY (stepG_unwanted rfl rfl) ?_;walk_nrm
        (refine Hf ?_;walk_nrm)
        refine Hw ?_;cases hkk;refine JL.Ho rfl ?_;refine GY stepG_skip ?_;refine GY stepG_seq ?_;refine Hu fun _ hkk=>?_;iterate 4 (refine Hf ?_;walk_nrm)
        refine Hw ?_;cases hkk;refine GY stepG_seq ?_;refine Hu fun _ hkk=>?_;iterate 4 (refine Hf ?_;walk_nrm)
        refine Hw ?_;cases hkk;refine GY stepG_seq ?_;refine GY stepG_seq ?_;refine Hu fun _ hkk=>?_;iterate 5 (refine Hf ?_;walk_nrm)
        refine GY (stepG_unwanted rfl rfl) ?_;walk_nrm;refine GY (stepG_unwanted rfl rfl) ?_;walk_nrm;refine GY (stepG_unwanted rfl rfl) ?_;walk_nrm;refine GY (stepG_unwanted rfl rfl) ?_;walk_nrm
        (refine Hf ?_;walk_nrm)
        refine Hw ?_;cases hkk;refine JL.Ho rfl ?_;refine GY stepG_skip ?_;refine GY stepG_seq ?_;refine GY stepG_seq ?_;refine Hu fun _ hkk=>?_;iterate 2 (refine Hf ?_;walk_nrm)
        refine Hw ?_;cases hkk;refine JL.Ho rfl ?_;refine GY stepG_skip ?_;refine GY stepG_seq ?_;refine GY stepG_seq ?_;refine Hu fun _ hkk=>?_;iterate 3 (refine Hf ?_;walk_nrm)
        refine GY (stepG_unwanted rfl rfl) ?_;walk_nrm;refine GY (stepG_unwanted rfl rfl) ?_;walk_nrm;iterate 2 (refine Hf ?_;walk_nrm)
        refine GY (stepG_unwanted rfl rfl) ?_;walk_nrm;refine GY (stepG_unwanted rfl rfl) ?_;walk_nrm;refine GY (stepG_unwanted rfl rfl) ?_;walk_nrm;refine GY (stepG_unwanted rfl rfl) ?_;walk_nrm
        (refine Hf ?_;walk_nrm)
        refine Hw ?_;cases hkk;refine JL.Ho rfl ?_;refine GY stepG_skip ?_;refine GY stepG_seq ?_;refine GY stepG_seq ?_;refine Hu fun _ hkk=>?_;iterate 3 (refine Hf ?_;walk_nrm)
        refine GY (stepG_unwanted rfl rfl) ?_;walk_nrm;refine GY (stepG_unwanted rfl rfl) ?_;walk_nrm
        (refine Hf ?_;walk_nrm)
        refine Hw ?_;cases hkk;refine JL.Iq rfl ?_;refine GY stepG_ret' ?_;refine Zy.said (mk .enable) rfl rfl (fun w=>stepG_unwind_entry (v:=.tuple #[]) (evs:=#[mk .enable]) rfl H.f_enable (x_enable_n L) (x_enable_b L) (x_enable_x L) (x_enable_f L) (by simp [Extern.Race.none_]) (by simp [mk]) (by simp [mk])) ?_;refine JL.leave0 rfl rfl H.f_add rfl ?_;exact hT _
      . have b3:bits .and .u64 S 2147483647=1:=by simpa using b2
        clear eS hn hw hS b2;walk_nrm
        (refine Hf ?_;walk_nrm)
        refine Hw ?_;cases hkk;refine GY stepG_ret' ?_;refine JL.leave1 rfl rfl H.f_uAdd rfl ?_;walk_nrm
        (refine Hf ?_;walk_nrm)
        refine Hw ?_;cases hkk;refine GY stepG_seq ?_;refine GY stepG_seq ?_;refine Hu fun _ hkk=>?_;iterate 4 (refine Hf ?_;walk_nrm)
        refine GY (stepG_unwanted rfl rfl) ?_;walk_nrm;refine GY (stepG_unwanted rfl rfl) ?_;walk_nrm
        (refine Hf ?_;walk_nrm)
        refine Hw ?_;cases hkk;refine JL.Ho rfl ?_;refine GY stepG_skip ?_;refine GY stepG_seq ?_;refine Hu fun _ hkk=>?_;iterate 4 (refine Hf ?_;walk_nrm)
        refine Hw ?_;cases hkk;refine GY stepG_seq ?_;refine Hu fun _ hkk=>?_;iterate 4 (refine Hf ?_;walk_nrm)
        refine Hw ?_;cases hkk;refine GY stepG_seq ?_;refine GY stepG_seq ?_;refine Hu fun _ hkk=>?_;iterate 5 (refine Hf ?_;walk_nrm)
        refine GY (stepG_unwanted rfl rfl) ?_;walk_nrm;refine GY (stepG_unwanted rfl rfl) ?_;walk_nrm;refine GY (stepG_unwanted rfl rfl) ?_;walk_nrm;refine GY (stepG_unwanted rfl rfl) ?_;walk_nrm
        (refine Hf ?_;walk_nrm)
        refine Hw ?_;cases hkk;refine JL.Ho rfl ?_;refine GY stepG_skip ?_;refine GY stepG_seq ?_;refine GY stepG_seq ?_;refine Hu fun _ hkk=>?_;iterate 2 (refine Hf ?_;walk_nrm)
        refine Hw ?_;cases hkk;refine JL.Ho rfl ?_;refine GY stepG_skip ?_;refine GY stepG_seq ?_;refine GY stepG_seq ?_;refine Hu fun _ hkk=>?_;iterate 7 (refine Hf ?_;walk_nrm)
        refine GY (stepG_unwanted rfl rfl) ?_;walk_nrm;refine GY (stepG_unwanted rfl rfl) ?_;walk_nrm;refine GY (stepG_unwanted rfl rfl) ?_;walk_nrm;refine GY (stepG_unwanted rfl rfl) ?_;walk_nrm
        (refine Hf ?_;walk_nrm)
        refine Hw ?_;cases hkk;refine JL.Ho rfl ?_;refine GY stepG_skip ?_;refine GY stepG_seq ?_;refine GY stepG_seq ?_;refine Hu fun _ hkk=>?_;iterate 3 (refine Hf ?_;walk_nrm)
        refine GY (stepG_unwanted rfl rfl) ?_;walk_nrm;refine GY (stepG_unwanted rfl rfl) ?_;walk_nrm
        (refine Hf ?_;walk_nrm)
        refine Hw ?_;cases hkk;refine JL.Iq rfl ?_;refine GY stepG_ret' ?_;refine Zy.said (mk .enable) rfl rfl (fun w=>stepG_unwind_entry (v:=.tuple #[]) (evs:=#[mk .enable]) rfl H.f_enable (x_enable_n L) (x_enable_b L) (x_enable_x L) (x_enable_f L) (by simp [Extern.Race.none_]) (by simp [mk]) (by simp [mk])) ?_;refine JL.leave0 rfl rfl H.f_add rfl ?_;exact hT _
end
end
section
section
variable {P:Program}{L:WgLink}{Wg:Nat}{c:Frame}{cs:List Frame}
theorem yE (H:WgLib P L)(hcm:c.mode=.returning)(hT:∀ W,JL (Zy P 0) () (G c cs) W)(W:World) :
    JL (SG P L.tWg Wg (Qx P L.tWg Wg)) () (G ((baseD L.done).at ⟨#[.pointer (some ⟨Wg,0,none⟩),undef,undef,undef],[]⟩ [.code (body_done L)]) (c :: cs)) W:=by
  lib_facts
  simp only [body_done,doneFn,Option.getD_some];refine Hu fun _ hkk=>?_
  (refine Hf ?_;walk_nrm)
  refine JL.call (c:=body_add L) rfl rfl nE rfl H.f_add (nm_add L) rfl ?_;have hn:(addFn L).ntmps=117:=rfl;rw [hn];simp only [List.map_toArray,List.map_cons,List.map_nil,Act.eval,Array.getD_eq_getD_getElem?,List.getElem?_toArray,List.getElem?_cons_succ,List.getElem?_cons_zero,Option.getD_some,List.size_toArray,List.length_cons,List.length_nil,Nat.reduceAdd,Nat.reduceSub];refine wR H (fun W=>?_) W;walk_nrm;refine Hw ?_;cases hkk;refine GY stepG_end ?_;exact JL.leaveD rfl rfl H.f_done rfl hcm (hT W)
end
end
end Go.LK
namespace Go.Proofs.Ytkdhnbcdbnpmhaa
open Go Go.Conc Go.LT Go.LC Go.LK Go.RowKit
open Go.ConcN (WgLive)
section
noncomputable def pc0:Code:=match Try.f78.body with | some (.seq c _)=>c | _=>.skip
noncomputable def pc1:Code:=match Try.f78.body with | some (.seq _ (.seq c _))=>c | _=>.skip
noncomputable def pc2:Code:=match Try.f78.body with | some (.seq _ (.seq _ (.seq c _)))=>c | _=>.skip
noncomputable def VO:Code:=match Try.f78.body with | some (.seq _ (.seq _ (.seq _ (.block _ (.loop c)))))=>c | _=>.skip
theorem kR:Try.f78.body=some (.seq pc0 (.seq pc1 (.seq pc2 (.block 0 (.loop VO))))):=rfl
noncomputable def pl3:Code:=match VO with | .seq c _=>c | _=>.skip
noncomputable def vU:Code:=match VO with | .seq _ (.seq _ (.seq _ c))=>c | _=>.skip
noncomputable def Vu:Code:=match VO with | .seq _ (.seq _ (.seq (.block _ c) _))=>c | _=>.skip
theorem Yl:VO=.seq pl3 (.seq (.cond (.tmp 13) .skip (.exit 0)) (.seq (.block 1 Vu) vU)):=rfl
noncomputable def pb4:Code:=match Vu with | .seq c _=>c | _=>.skip
noncomputable def pb5:Code:=match Vu with | .seq _ (.seq c _)=>c | _=>.skip
noncomputable def pb6:Code:=match Vu with | .seq _ (.seq _ (.seq c _))=>c | _=>.skip
noncomputable def pb7:Code:=match Vu with | .seq _ (.seq _ (.seq _ (.seq c _)))=>c | _=>.skip
noncomputable def pb8:Code:=match Vu with | .seq _ (.seq _ (.seq _ (.seq _ (.seq c _))))=>c | _=>.skip
noncomputable def bW:Code:=match Vu with | .seq _ (.seq _ (.seq _ (.seq _ (.seq _ c))))=>c | _=>.skip
theorem uU:Vu=.seq pb4 (.seq pb5 (.seq pb6 (.seq pb7 (.seq pb8 bW)))):=rfl
section
variable {Cs Sg:Type}{D:Dr G5 Cs Sg}{m:Mem Sg}{ρ:Rn}{b k:Nat}{cf:Frame}{fs:List Frame}{W:World}{σ:Sg}
def wu (s:Jl G5 Cs Sg ρ)(σ:Sg):Prop:=s.gr=false/\s.z.cur=none/\s.z.bg=0/\s.x.1.1.tgt=({ s.z with over:=s.z.todo.isEmpty },σ,s.z.todo.isEmpty)
theorem dZ {cc:Code}{s:Jl G5 Cs Sg ρ}{wv dv cv:Value}{pb:Nat}{ds:List Deferred}{K:List Item}{v7 v8 v9 Aa Ab Ac Ae Af Ah Ai Aj Ak Al Am Ao Ap Aq Ar Au Av Aw Ay Az AA AB AJ AL AO AP AQ AU AV AX AY AZ A8 A9 Ba Bb Bc Bf Bh Bj Bl Bp Bq Br Bu Bv Bw Bz BD BF BG BH BI BJ BK BL BM BN BO BP BQ BR BS BU BX BZ Ca Cb Cc Ce Cg:Value}(hns:¬ ρ.shut)(hA:Mq m b k s σ W)(hT:wu s σ)(hpb:s.pb=pb){c:G5}{l:List G5}(htd:s.z.todo=c :: l)(hJ:∀ (s':Jl G5 Cs Sg ρ) (t:Nat) (σ':Sg) (W':World),Mq m b k ⟨s'.x,s'.own,s'.core,s'.pb,{ s.z with st:=t },true,s.ans⟩ σ' W'->s'.x.1.1.v.h=s.x.1.1.v.h->s'.x.1.1.v.t=s.x.1.1.v.t->s'.own=s.own->s'.core=s.core->s'.pb=s.pb->s'.x.1.2+1=s.x.1.2->s'.x.1.1.tgt=D.hold s.z t σ'->(∀ g,s.own g/\g≠b->W'.heap[g]?=W.heap[g]?)->W.heap.size<=W'.heap.size->
      JL (SW (H9 D m) ρ Try.prog).L s'.x (G ((base 78).at ⟨#[wv,dv,cv,.pointer (some ⟨pb,0,none⟩),undef,undef,undef,v7,v8,v9,Aa,Ab,Ac,Ae,Af,Ah,.pointer (some ⟨b,0,none⟩),.tuple #[],.pointer (some ⟨b,0,none⟩),.tuple #[],Am,Ao,Ap,Aq,Ar,Au,Av,Aw,Ay,Az,AA,AB,AJ,AL,AO,AP,AQ,AU,AV,AX,AY,AZ,A8,A9,Ba,Bb,Bc,Bf,Bh,Bj,Bl,Bp,Bq,Br,Bu,Bv,Bw,Bz,BD,BF,BG,BH,BI,BJ,BK,BL,BM,BN,BO,BP,BQ,BR,BS,BU,BX,BZ,Ca,Cb,Cc,Ce,Cg],ds⟩ (.code cc :: K)) (cf :: fs)) W') :
    JL (SW (H9 D m) ρ Try.prog).L s.x (G ((base 78).at ⟨#[wv,dv,cv,.pointer (some ⟨pb,0,none⟩),undef,undef,undef,v7,v8,v9,Aa,Ab,Ac,Ae,Af,Ah,Ai,Aj,Ak,Al,Am,Ao,Ap,Aq,Ar,Au,Av,Aw,Ay,Az,AA,AB,AJ,AL,AO,AP,AQ,AU,AV,AX,AY,AZ,A8,A9,Ba,Bb,Bc,Bf,Bh,Bj,Bl,Bp,Bq,Br,Bu,Bv,Bw,Bz,BD,BF,BG,BH,BI,BJ,BK,BL,BM,BN,BO,BP,BQ,BR,BS,BU,BX,BZ,Ca,Cb,Cc,Ce,Cg],ds⟩ (.code pb5 :: .code (.seq pb6 cc) :: K)) (cf :: fs)) W:=by
  obtain ⟨x,own,core,pb',z,gr,ans⟩:=s;obtain rfl:pb'=pb:=hpb;obtain ⟨hgr,hcur,hbg,Ot⟩:=hT;simp only at hgr hcur hbg Ot htd;subst hgr;obtain rfl:x.1.1.v.b=b:=hA.vb;obtain rfl:x.1.1.v.k=k:=hA.vk;have hcap:=hA.cap;have hpc:=hA.pc;simp only at hpc;rw [htd] at Ot;simp only [List.isEmpty_cons] at Ot;dsimp only;simp only [pb5,Vu,VO,Try.f78];refine Hu fun _ hkk=>?_;refine HY.read (S:=SW (H9 D m) ρ Try.prog) (ad:=⟨pb',0,none⟩) (.pointer (some ⟨x.1.1.v.b,0,none⟩)) rfl rfl nE hpc (fun w h=>by go_simp) (fun w h e he=>by simp [go_sem,h] at he;exact he) ?_;walk_nrm;refine JL.enter rfl rfl nE rfl Try.func86 (by kernel_rfl) (by kernel_rfl) ?_;walk_nrm;cases hkk;generalize hK:Item.code (.seq pb6 cc) :: K=K6;have h:=hA.row;simp only at h;refine Ti h fun GQ ha=>SI ?_;obtain ⟨τ,d,rfl⟩:=ha
  have hsel:∀ (c:Frame) (cs:List Frame) (w:World),stepG Try.prog false (G ((base 86).at ⟨O7 x.1.1.v.b x.1.1.v.k ρ.come ρ.gone,[]⟩ [.inRegion MV [0,1,2,3],.code Nk]) (c :: cs)) w =
      .comm (G ((base 86).at ⟨O7 x.1.1.v.b x.1.1.v.k ρ.come ρ.gone,[]⟩ [.inRegion MV [0,1,2,3],.code Nk]) (c :: cs)) (Kj ρ x.1.1.v.k) true .select w #[]:=fun c cs w=>by
    rw [YV];have h1:=hA.zi;have h2:=hA.zg;simp only [Kj,h1,h2]
  have hcell:∀ o v,W.cell? ⟨x.1.1.v.b,o,none⟩=some v->(sh W τ d).cell? ⟨x.1.1.v.b,o,none⟩=some v:=fun _ _ h=>h;have hm:∀ {σ:Sg},m.Inv σ W->m.Inv σ (sh W τ d):=fun h=>m.eq _ W _ (fun b _=>.of rfl) h;have h':=h;unfold IQ at h';have hrec:uF x.1.1.v.k ({ z with over:=false }:Wk G5 Cs) x.1.1.v.b own (sh W τ d):=⟨hA.zk,hA.co _ hA.cb,_,_,_,_,_,by have e2:=hA.zf;simp only at e2;simp only [e2];exact h,(hA.am.mono fun g hg=>⟨hA.co g hg.1,hg.2.1⟩).TW fun g _=>.of rfl⟩
  have hz':({ z with over:=false }:Wk G5 Cs)=z:=by have e1:=hA.zo;simp only at e1;rw [← e1]
  have jl:({ k:=z.k,todo:=c :: l,cur:=z.cur,st:=z.st,bg:=z.bg,ow:=z.ow,out:=z.out,fell:=z.fell }:Wk G5 Cs)=z:=by rw [← htd];exact hz'
  rw [jl] at Ot;rw [hz'] at hrec;refine SW.sit (M:=H9 D m) (own:=own) (pb:=pb') rfl (hsel _ _) (by rw [Ot];exact hm hA.inv) hA.sh (by rw [Ot];exact hrec) (hA.co _ hA.RL) hA.o1 hA.o2 hA.o3 hA.NU (fun e=>by rw [Ot] at e;cases e) fun _=>⟨⟨hcell _ _ (by simp [World.cell?,h']),hcell _ _ (by simp [World.cell?,h']),hpc⟩,?_⟩
  have htw:#[.pointer (some ⟨x.1.1.v.b,0,none⟩)] ++ Array.replicate (Try.f87.ntmps - #[Value.pointer (some ⟨x.1.1.v.b,0,none⟩)].size) undef=#[.pointer (some ⟨x.1.1.v.b,0,none⟩),undef,undef,undef,undef,undef,undef,undef,undef,undef,undef,undef,undef,undef,undef,undef,undef,undef,undef,undef,undef,undef,undef]:=by
    have:Try.f87.ntmps=23:=by kernel_rfl
    rw [this];walk_nrm
  refine ⟨?gs,fun v' hs home hh=>RN fun Hl=>?sit,fun hsh=>absurd hsh hns,?hold⟩
  case sit=>
    unfold Kj;refine Rm ?_;rw [Frame.finish_at];walk_nrm;refine GY stepG_region_end ?_;rw [← hK];refine GY stepG_seq ?_;simp only [pb6,Vu,VO,Try.f78];refine JL.region (l:=[0,1]) rfl fun _ hk3=>?_;cases hk3
    refine JQ.load (.pointer (some ⟨x.1.1.v.b,0,none⟩)) rfl rfl nE (fun w hK=>by
      have h2:=hK.2.2;rw [hs.pb,hs.b] at h2;go_simp) (fun w hK e he=>by
      have h2:=hK.2.2;rw [hs.pb,hs.b] at h2;simp [go_sem,h2] at he;subst he;exact ⟨_,rfl,.inr (.inr (by rw [hs.pb])),by unfold bX;rw [hs.pb];show pb' < _;omega⟩) ?_
    walk_nrm;refine JL.call rfl rfl nE rfl Try.func87 (by kernel_rfl) Sc ?_;rw [List.map_toArray];simp only [List.map_cons,List.map_nil,Act.eval,Array.getD_eq_getD_getElem?,List.getElem?_toArray,List.getElem?_cons_succ,List.getElem?_cons_zero,Option.getD_some];rw [htw,← hs.t,← hs.b];refine WH hA.zi hA.zg ?_;rw [hs.t,hs.b];exact hh
  case hold=>
    intro r' hr v' hs t σ' W' y e1 e2 e3 Px hn0 hH hI;have h2:IQ W' x.1.1.v.b x.1.1.v.k x.1.1.v.t ρ.come ρ.gone false z.st z.bg z.ow ans false false:=by unfold IQ;rw [hH.own _ (hA.o1 _ hA.NU)];exact h
    refine UW h2 fun W'' h3 h4 h5=>?_;rw [Frame.finish_at];show JL (SW (H9 D m) ρ Try.prog).L y _ W'';walk_nrm;refine GY stepG_region_end ?_;rw [Ot] at e2;have hso:v'.own=own:=hs.own;have hoth:∀ g,own g->g≠x.1.1.v.b->W''.heap[g]?=W.heap[g]?:=fun g hg hne=>(h4 g hne).trans (hH.own g hg);have hbS:¬ m.Sh x.1.1.v.b:=(hA.o3 _ (hA.co _ hA.cb)).2.1;refine hJ ⟨y,own,core,pb',z,true,ans⟩ t σ' W'' ?_ (by show y.1.1.v.h=_;rw [e1,hs.h]) (by show y.1.1.v.t=_;rw [e1,hs.t]) rfl rfl rfl (by show y.1.2+1=x.1.2;omega) e2 (fun g hg=>hoth g hg.1 hg.2) (by rw [h5];exact hH.size);exact {
            zi:=hA.zi,zg:=hA.zg,vb:=by show y.1.1.v.b=_;rw [e1,hs.b],vk:=by show y.1.1.v.k=_;rw [e1,hs.k]
            row:=by show IQ W'' _ _ y.1.1.v.t _ _ _ _ _ _ _ _ _;rw [e1,hs.t];exact h3
            zk:=hA.zk,zo:=hA.zo,zf:=hA.zf
            am:=hA.am.TW fun g hg=>.of (hoth g (hA.co g hg.1) hg.2.1)
            inv:=m.eq σ' W' W'' (fun g hg=>.of (h4 g fun e=>hbS (e ▸ hg))) hI
            sh:=fun g hg=>Px.sh g hg,low:=fun g hg=>Px.low g hg
            size:=by show y.1.1.n0<=_;rw [hn0,h5];exact Nat.le_refl _
            Yu:=fun g hg=>by
              show g < y.1.1.n0;have hg':own g:=by rw [← hso,← e1];exact hg
              obtain ⟨_,_,c,e,f,hc⟩:=hA.o3 g hg';have:=(Array.getElem?_eq_some_iff.1 hc).1;have h6:W.heap.size<=W'.heap.size:=hH.size;rw [hn0];omega
            cb:=hA.cb,RL:=hA.RL,co:=hA.co
            o1:=fun g hg=>by rw [← hso,← e1];exact hg
            o2:=fun g hg=>.inl (by show y.1.1.v.own g;rw [e1,hso];exact hg)
            o3:=fun g hg=>⟨Px.own g (by rw [hso];exact hg),(hA.o3 g hg).2.1,by
              by_cases e:g=x.1.1.v.b
              . rw [e];exact ⟨_,_,_,h3⟩
              . rw [hoth g hg e];exact (hA.o3 g hg).2.2⟩
            NU:=by show y.1.1.v.own _;rw [e1,hso];exact hA.co _ hA.cb
            VW:=hA.VW
            pc:=by rw [cell_of (hoth pb' (hA.co _ hA.RL) hA.VW)];exact hA.pc
            cap:=by simp at hcap ⊢;omega }
end
end
section
def Sl (wv dv cv:Value)(pb:Nat)(u7 u8 QV Jo I6:Value)(tm:Array Value):Prop:=∃ v9 Ae Af Ah Ai Aj Ak Al Am Ao Ap Aq Ar Au Av Aw Ay Az AA AB AJ AL AO AP AQ AU AV AX AY AZ A8 A9 Ba Bb Bc Bf Bh Bj Bl Bp Bq Br Bu Bv Bw Bz BD BF BG BH BI BJ BK BL BM BN BO BP BQ BR BS BU BX BZ Ca Cb Cc Ce Cg,tm=#[wv,dv,cv,.pointer (some ⟨pb,0,none⟩),undef,undef,undef,u7,u8,v9,QV,Jo,I6,Ae,Af,Ah,Ai,Aj,Ak,Al,Am,Ao,Ap,Aq,Ar,Au,Av,Aw,Ay,Az,AA,AB,AJ,AL,AO,AP,AQ,AU,AV,AX,AY,AZ,A8,A9,Ba,Bb,Bc,Bf,Bh,Bj,Bl,Bp,Bq,Br,Bu,Bv,Bw,Bz,BD,BF,BG,BH,BI,BJ,BK,BL,BM,BN,BO,BP,BQ,BR,BS,BU,BX,BZ,Ca,Cb,Cc,Ce,Cg]
section
variable {Cs Sg:Type}{D:Dr G5 Cs Sg}{m:Mem Sg}{ρ:Rn}{b k:Nat}{cf:Frame}{fs:List Frame}{W:World}{σ:Sg}
variable {x:Wx (Wk G5 Cs) Sg ρ}{own core:Nat->Prop}{pb:Nat}{z:Wk G5 Cs}{ans:Value}{gr:Bool}{wv dv cv u7 u8 QV Jo I6:Value}{ds:List Deferred}{K:List Item}
theorem IQ.cells {W:World}{b k t co go:Nat}{gr:Bool}{st bg ow:Int}{ans:Value}{dn fl:Bool}(h:IQ W b k t co go gr st bg ow ans dn fl) :
    W.cell? ⟨b,5,none⟩=some (.bool gr)/\W.cell? ⟨b,6,none⟩=some (.int .i64 st)/\W.cell? ⟨b,7,none⟩=some (.int .i64 bg)/\W.cell? ⟨b,8,none⟩=some (.int .i64 ow)/\W.cell? ⟨b,9,none⟩=some ans/\W.cell? ⟨b,10,none⟩=some (.bool dn)/\W.cell? ⟨b,11,none⟩=some (.bool fl):=by
  unfold IQ at h;simp [World.cell?,h]
theorem Io {W W':World}(h:LT.Alike W W'):W'.heap=W.heap:=by obtain ⟨τ,d,rfl⟩:=h;rfl
theorem Mq.alike {s:Jl G5 Cs Sg ρ}{W':World}(h:Mq m b k s σ W)(hh:W'.heap=W.heap):Mq m b k s σ W':=by
  have hc:∀ a,W'.cell? a=W.cell? a:=fun a=>by simp [World.cell?,hh]
  exact { h with row:=by have:=h.row;unfold IQ at this ⊢;rw [hh];exact this
                 am:=h.am.TW fun g _=>.of (by rw [hh])
                 inv:=m.eq σ W W' (fun g _=>.of (by rw [hh])) h.inv
                 size:=by rw [hh];exact h.size
                 o3:=fun g hg=>by rw [hh];exact h.o3 g hg
                 pc:=by rw [hc];exact h.pc }
theorem qX (hA:Mq m b k ⟨x,own,core,pb,z,true,ans⟩ σ W)(hcap:x.1.2+1 < 2 ^ 62){tm:Array Value}(hs:Sl wv dv cv pb u7 u8 QV Jo I6 tm)(hJ:∀ W' tm',Sl wv dv cv pb u7 u8 QV Jo I6 tm'->Mq m b k ⟨x,own,core,pb,{ z with bg:=z.st,ow:=0 },true,ans⟩ σ W'->KA b W W'->JL (SW (H9 D m) ρ Try.prog).L x (G ((base 78).at ⟨tm',ds⟩ K) (cf :: fs)) W') :
    JL (SW (H9 D m) ρ Try.prog).L x (G ((base 78).at ⟨tm,ds⟩ (.code pb7 :: K)) (cf :: fs)) W:=by
  obtain ⟨v9,Ae,Af,Ah,Ai,Aj,Ak,Al,Am,Ao,Ap,Aq,Ar,Au,Av,Aw,Ay,Az,AA,AB,AJ,AL,AO,AP,AQ,AU,AV,AX,AY,AZ,A8,A9,Ba,Bb,Bc,Bf,Bh,Bj,Bl,Bp,Bq,Br,Bu,Bv,Bw,Bz,BD,BF,BG,BH,BI,BJ,BK,BL,BM,BN,BO,BP,BQ,BR,BS,BU,BX,BZ,Ca,Cb,Cc,Ce,Cg,rfl⟩:=hs;refine HY.Ht (S:=SW (H9 D m) ρ Try.prog) (b:=base 78) [] (by simp) (by kernel_rfl) nE (by kernel_rfl) fun GQ ha=>?_;have hA1:=hA.alike (Io ha);obtain ⟨c5,c6,c7,c8,c9,c10,c11⟩:=hA1.row.cells;have f7:GQ.frozen? ⟨b,7,none⟩=false:=hA1.row.frozen;have f8:GQ.frozen? ⟨b,8,none⟩=false:=hA1.row.frozen;have hpc:=hA1.pc;have HH:=Lib.hid (And.intro hJ (And.intro hA (And.intro hA1 hcap)));clear hJ hA hA1 hcap;simp only at hpc c5 c6 c7 c8 c9 c10 c11;dsimp only;simp only [pb7,Vu,VO,Try.f78];gi_region
  obtain ⟨hJ,hA,hA1,hcap⟩:=HH.out;clear HH;have hrow:=hA1.row;unfold IQ at hrow;generalize hW':World.setCell _ _ _=W';have hh:=Io ha;have ht:KA b W W'.drew:=⟨fun g hg=>by
    show W'.heap[g]?=_;rw [← hW',← hh];simp [World.setCell,Array.getElem?_modify,hg.symm],by
    show W'.heap.size=_;rw [← hW',← hh];simp [World.setCell]⟩
  refine hJ W'.drew _ ⟨_,_,_,_,_,_,_,_,_,_,_,_,_,_,_,_,_,_,_,_,_,_,_,_,_,_,_,_,_,_,_,_,_,_,_,_,_,_,_,_,_,_,_,_,_,_,_,_,_,_,_,_,_,_,_,_,_,_,_,_,_,_,_,_,_,_,_,_,_,rfl⟩ (hA.turn ?_ ht rfl rfl rfl rfl (by simp;omega)) ht;show W'.heap[b]?=_;rw [← hW'];simp [World.setCell,Array.getElem?_modify,hrow]
end
end
end Go.Proofs.Ytkdhnbcdbnpmhaa
