/-
  Part 9 of the proof that CellOrders is true of every input of bulk at most 1048576.
-/
import Derived.Test.YtdkfdedgfilhbaaQ08
import Derived.Conc.WgGenN2
import Derived.OrdersIn
set_option linter.unusedVariables false
set_option linter.unusedSectionVars false
set_option linter.unusedSimpArgs false
set_option maxHeartbeats 8000000
set_option maxRecDepth 100000
noncomputable section
namespace Go.LT
open Go Go.Conc
section
variable {P:Program}{main:Bool}{Γ:Type}{S:O8 P main Γ}{γ:Γ}{W:World}{b:Frame}{a:Act}{k:List Item}{c:Frame}{cs:List Frame}
theorem JL.qJ{ops:Array Oper}{i:Nat}{rest:List Nat}{o:Oper}{f:FuncId}{x:Operand}{name:String}{args:Array Operand}{ats:Array TypeId}{args':Array Value}(ho:ops[i]?=some o)(hw:Region.wanted o (yielded ops a.tmps)=true)(hk:b.kind≠.early)(hop:o.op=.call { callee:=.invoke x name,args,argTypes:=ats })(hr:∀w es,(callMethod (a.eval x) name (args.map a.eval)).runT P w es=(.ok (.enter f args') w,es))(h:JL S γ (G (Frame.enter P f args' .normal) (b.at a (.inRegion ops (i :: rest) :: k) :: cs)) W) :
  JL S γ (G (b.at a (.inRegion ops (i :: rest) :: k)) cs) W:=by
 have he:∀w,(execOp a.eval o).runT P w #[]=(.ok (.enter f args') w,#[]):=fun w=>by
  unfold execOp;simp only[hop];show(invoke (.fn (.method name) #[]) (#[a.eval x]++args.map a.eval)).runT P w #[]=_;unfold invoke;have h0:(#[a.eval x]++args.map a.eval)[0]?=some (a.eval x):=by rw[Array.getElem?_append_left (by simp)];rfl
  have h1:(#[a.eval x]++args.map a.eval).extract 1 (#[a.eval x]++args.map a.eval).size=args.map a.eval:=by
   apply Array.ext'
   simp
   rw[List.take_of_length_le (by simp)]
  simp only[h0,h1];exact hr w #[]
 refine .ctl rfl (fun w=>?_) h;rw[stepG_enter (w':=w) ho hw hk (by rw[← Sem.runT_fst (es:=#[]),he])];have:listed P b.fn a o w=#[]:=by unfold listed;show seen P b.fn ((execOp a.eval o).runT P w #[]).2=#[];rw[he];exact seen_none P _
 rw[this]
theorem JL.Vm{ops:Array Oper}{i:Nat}{rest:List Nat}{o:Oper}{ats:Array TypeId}(ho:ops[i]?=some o)(hw:Region.wanted o (yielded ops a.tmps)=true)(hk:b.kind=.deferred)(hop:o.op=.call { callee:=.builtin .recover,args:=#[],argTypes:=ats })(hc:c.mode=.returning)(h:JL S γ (G (b.at (a.put o.dst .nilIface) (.inRegion ops rest :: k)) (c :: cs)) W):JL S γ (G (b.at a (.inRegion ops (i :: rest) :: k)) (c :: cs)) W:=by
 refine .ctl rfl (fun w=>?_) h;rw[stepG_oper ho hw];have hr:(execOp a.eval o).runT P w #[]=(.ok .recover w,#[]):=by unfold execOp;simp only[hop];rfl
 have hfin:(b.at a (.inRegion ops (i :: rest) :: k)).finish .nilIface=b.at (a.put o.dst .nilIface) (.inRegion ops rest :: k):=by rw[Frame.finish_at,ho];rfl
 rw[← hfin];have hm:tryRecover (b.at a (.inRegion ops (i :: rest) :: k)) (c :: cs)=none:=by unfold tryRecover;simp[Frame.at,hk,hc]
 have hse:seen P b.fn #[]=#[]:=seen_none P _;have hk':((CallKind.deferred==CallKind.early):Bool)=false:=rfl;simp only[Frame.at,hk]at hm hse;simp[stepG.apply,hr,G,Frame.at,hk,GStep.after,hm,hse,-Sem.runT_eq]
theorem JL.Xq{ops:Array Oper}{i:Nat}{rest:List Nat}{o:Oper}{f:FuncId}{x:Operand}{args:Array Operand}{ats:Array TypeId}{caps:Array Value}(ho:ops[i]?=some o)(hw:Region.wanted o (yielded ops a.tmps)=true)(hk:b.kind≠.early)(hop:o.op=.defer { callee:=.value x,args,argTypes:=ats })(hx:a.eval x=.func (.func f) #[] caps)(h:JL S γ (G (b.at (Act.put ⟨a.tmps,{ target:=.fn (.func f) caps,args:=args.map a.eval } :: a.defers⟩ o.dst undef) (.inRegion ops rest :: k)) cs) W):JL S γ (G (b.at a (.inRegion ops (i :: rest) :: k)) cs) W:=by
 refine .ctl rfl (fun w=>?_) h;have hr:(execOp a.eval o).run P w=.ok (.defer { target:=.fn (.func f) caps,args:=args.map a.eval }) w:=by unfold execOp;simp[hop,resolve,Deferred.ofValue,hx]
 have he:(execOp a.eval o).events P w #[]=#[]:=by unfold execOp;simp[hop,resolve,Deferred.ofValue,hx]
 have hfin:(b.at ⟨a.tmps,{ target:=.fn (.func f) caps,args:=args.map a.eval } :: a.defers⟩ (.inRegion ops (i :: rest) :: k)).finish undef=b.at (Act.put ⟨a.tmps,{ target:=.fn (.func f) caps,args:=args.map a.eval } :: a.defers⟩ o.dst undef) (.inRegion ops rest :: k):=by rw[Frame.finish_at,ho];rfl
 have hk':(b.kind==CallKind.early)=false:=by simpa using hk
 rw[stepG_oper ho hw,← hfin];have hse:=seen_none P b.fn;simp[stepG.apply,hr,he,G,Frame.at,hk',GStep.after,hse]
end
end Go.LT
namespace Go.LT
open Go Go.Conc
section
variable {P:Program}{main:Bool}{Γ:Type}{S:Fp P main Γ}{γ:Γ}{W:World}
theorem Fp.Kk{b:Frame}{k:List Item}{cs:List Frame}{ds:List Deferred}{tm:Array Value}{ops:Array Oper}(j n:Nat)(L:List FuncId)(hL:∀g∈L,@Lets (Host.only b.fn) P g)(hi:P.inits.idxOf? b.fn=none)(Ro:b.kind≠.early){is rest:List Nat}(his:is=List.range' j ((ops.toList.drop j).take n).length++rest)(hok:((ops.toList.drop j).take n).all (@K5 (Host.only b.fn) P)=true)(h:∀EG,Alike W EG->wpListIn (Fence.list (b.fn :: L) none) 0 P ops (Behind S γ fun tm=>G (b.at ⟨tm,ds⟩ (.inRegion ops rest :: k)) cs) ((ops.toList.drop j).take n) ⟨tm,[]⟩ EG):JL S.L γ (G (b.at ⟨tm,ds⟩ (.inRegion ops is :: k)) cs) W:=
 Fp.zZ j ((ops.toList.drop j).take n) L hL hi Ro his (fun i o ho=>by
  rw[List.getElem?_take]at ho;split at ho
  . rw[List.getElem?_drop]at ho;rw[← Array.getElem?_toList];exact ho
  . cases ho) hok h
end
end Go.LT
namespace Go.Proofs.Ytdkfdedgfilhbaa
open Go Go.Conc Go.LT Go.LC Go.LK Go.RowKit
section
variable {main:Bool}{Γ:Type}{S:Fp Try.prog main Γ}{Cs Sg:Type}{D:Dr EP Cs Sg}{m:Mem Sg}
structure P9(I:GJ S D m 33)(dv:Value)(Qb:FuncId)(recv:Value):Prop where
 Ach : ∀wv cv w es, (callMethod dv "Do" #[wv, cv]).runT Try.prog w es = (.ok (.enter Qb #[recv, wv, cv]) w, es)
 doj:∀{s:I.St} {σ:Sg} {W:World} {c:EP} {cf:Frame} {fs:List Frame} {pv:Value},I.At s σ W->I.Pf s σ c->I.Leaves cf fs->
  (∀s' σ' W' e iv,I.At s' σ' W'->I.On s W s' W'->I.End s' σ' (e,false)->GQ W' (fun g=>I.kept s' g/\¬ I.kept s g) iv e.ints->JW S.base (I.γ s') (G (cf.finish (MN e iv)) fs) W')->
  JW S.base (I.γ s) (G (Frame.enter Try.prog Qb #[recv,I.wv,Gf c pv] .normal) (cf :: fs)) W
variable {cf:Frame}{fs:List Frame}{W:World}{σ:Sg}
def ds0:Code:=match Try.f58.body with | some (.seq c _)=>c | _=>.skip
def ds1:Code:=match Try.f58.body with | some (.seq _ (.seq c _))=>c | _=>.skip
def ds2:Code:=match Try.f58.body with | some (.seq _ (.seq _ c))=>c | _=>.skip
theorem jR:Try.f58.body=some (.seq ds0 (.seq ds1 ds2)):=rfl
def dd0:Code:=match Try.f74.body with | some (.seq c _)=>c | _=>.skip
def dd1:Code:=match Try.f74.body with | some (.seq _ c)=>c | _=>.skip
theorem UN:Try.f74.body=some (.seq dd0 dd1):=rfl
theorem OH{w:World}{own:Nat->Prop}{iv:Value}{l:List Int}(h:GQ w own iv l):∃ao n c,iv=.slice ao n c:=by
 rcases h with⟨_,rfl⟩|⟨_,g,c,rfl,_⟩
 . exact⟨_,_,_,rfl⟩
 . exact⟨_,_,_,rfl⟩
def Qm(N:Nat):Deferred:={ target:=.fn (.func 74) #[.pointer (some ⟨N+2,0,none⟩),.pointer (some ⟨N,0,none⟩)],args:=#[] }
theorem Zx (I:GJ S D m 33){s:I.St}{c:EP}{pv dv:Value}(hA:I.At s σ W)(hS:I.Pf s σ c)(hJ:∀ s' W' N,I.At s' σ W'->I.On s W s' W'->I.Pf s' σ c->I.kept s' (N+2)/\I.kept s' N/\¬ I.core s' (N+2)/\¬ I.kept s (N+2)->W'.heap[N]?=some (.cells #[I.wv] 63 (0,0))->W'.heap[N+1]?=some (.cells #[.int .i64 c.kind,.int .i64 c.a,.int .i64 c.b,.int .i64 c.c,pv] 44 (0,0))->
      W'.heap[N+2]?=some (.cells #[.int .i64 0,.int .i64 0,.int .i64 0,.bool false,.int .i64 0,.int .i64 0,.int .i64 0,.slice none 0 0,.slice none 0 0] 42 (0,0))->
      JL S.L (I.γ s') (G ((base 58).at ⟨#[I.wv,dv,Gf c pv,.pointer (some ⟨N,0,none⟩),undef,.pointer (some ⟨N+1,0,none⟩),.pointer (some ⟨N+2,0,none⟩),undef,undef,undef,undef,undef],[]⟩ [.code (.seq ds1 ds2)]) (cf :: fs)) W')(hwv:∃a,I.wv=.pointer a)(hpv:∃a n c,pv=.slice a n c) :
    JW S.base (I.γ s) (G (Frame.enter Try.prog 58 #[I.wv,dv,Gf c pv] .normal) (cf :: fs)) W:=by
  have ht:#[I.wv,dv,Gf c pv]++Array.replicate (Try.f58.ntmps-(#[I.wv,dv,Gf c pv]:Array Value).size) undef=#[I.wv,dv,Gf c pv,undef,undef,undef,undef,undef,undef,undef,undef,undef]:=by
    have:Try.f58.ntmps=12:=by kernel_rfl
    rw[this];walk_nrm
  rw[enter_at _ Try.func58 jR,ht];obtain⟨wa,hw⟩:=hwv;obtain⟨pa,pn,pc,rfl⟩:=hpv;simp only[hw]at hJ ⊢;show JL S.L (I.γ s) _ W;refine EO ?_;refine Fp.Fz (S:=S) (b:=base 58) [] (by simp) zKR nE zKR fun EG ha=>?_;obtain⟨hA1,HY⟩:=I.alike hA ha;have HH:=Lib.hid (zAI hJ (zAI hS (zAI hA1 HY)));clear hJ hS hA hA1 HY;simp only[ds0,Try.f58,Gf];gi_wp2;obtain⟨hJ,hS,hA1,HY⟩:=HH.out;clear HH;generalize ho1:Obj.cells #[Value.pointer wa] 63=o1;generalize ho2:Obj.cells #[Value.int IntKind.i64 c.kind,Value.int IntKind.i64 c.a,Value.int IntKind.i64 c.b,Value.int IntKind.i64 c.c,Value.slice pa pn pc] 44=o2;generalize ho3:Obj.cells #[Value.int IntKind.i64 0,Value.int IntKind.i64 0,Value.int IntKind.i64 0,Value.bool false,Value.int IntKind.i64 0,Value.int IntKind.i64 0,Value.int IntKind.i64 0,Value.slice none 0 0,Value.slice none 0 0] 42=o3
  obtain⟨s1,hA2,hO2,e1,f1,k1,b1,_⟩:=I.lay (W':=EG.alloc o1) (N:=EG.heap.size) hA1 rfl ⟨_,_,_,by rw[heap_alloc_new];exact congrArg some ho1.symm⟩ (fun b hb=>Below.heap_alloc _ _ _ hb) (by simp);obtain⟨s2,hA3,hO3,e2,f2,k2,b2,_⟩:=I.lay (W':=(EG.alloc o1).alloc o2) (N:=(EG.alloc o1).heap.size) hA2 rfl ⟨_,_,_,by rw[heap_alloc_new];exact congrArg some ho2.symm⟩ (fun b hb=>Below.heap_alloc _ _ _ hb) (by simp);obtain⟨s3,QL,hO4,e3,f3,k3,b3,_⟩:=I.lay (W':=((EG.alloc o1).alloc o2).alloc o3) (N:=((EG.alloc o1).alloc o2).heap.size) hA3 rfl ⟨_,_,_,by rw[heap_alloc_new];exact congrArg some ho3.symm⟩ (fun b hb=>Below.heap_alloc _ _ _ hb) (by simp);have hsz:(EG.alloc o1).heap.size=EG.heap.size+1:=by simp
  have hsz2:((EG.alloc o1).alloc o2).heap.size=EG.heap.size+2:=by simp
  have q1:(((EG.alloc o1).alloc o2).alloc o3).heap[EG.heap.size]?=some o1:=by rw[Below.heap_alloc _ _ _ (by simp;omega),Below.heap_alloc _ _ _ (by simp)];exact heap_alloc_new _ _
  have q2:(((EG.alloc o1).alloc o2).alloc o3).heap[EG.heap.size+1]?=some o2:=by rw[Below.heap_alloc _ _ _ (by simp),← hsz];exact heap_alloc_new _ _
  have q3:(((EG.alloc o1).alloc o2).alloc o3).heap[EG.heap.size+2]?=some o3:=by rw[← hsz2];exact heap_alloc_new _ _
  have q6:I.kept s3 (EG.heap.size+2)/\I.kept s3 EG.heap.size/\¬ I.core s3 (EG.heap.size+2)/\¬ I.kept s (EG.heap.size+2):=by
    have hown:∀b,I.own s b->b<EG.heap.size:=fun b hb=>by obtain⟨_,c,e,f,h⟩:=I.row hA1 hb;exact(zGE h).1
    refine⟨(k3 _).2 (.inr hsz2.symm),(k3 _).2 (.inl ((k2 _).2 (.inl ((k1 _).2 (.inr rfl))))),fun h=>?_,fun h=>?_⟩
    . have:=hown _ (I.Ld hA1 ((hO2.core _).1 ((hO3.core _).1 ((hO4.core _).1 h))));omega
    . have:=hown _ (I.Gm hA1 h);omega
  have q4:=HY.trans (hO2.trans (hO3.trans hO4));have q5:=b3 _ (b2 _ (b1 _ hS));have e4:I.γ s=I.γ s3:=(e3.trans (e2.trans e1)).symm;rw[e4];generalize((EG.alloc o1).alloc o2).alloc o3=W3 at *;generalize EG.heap.size=N at *;subst ho1 ho2 ho3;exact hJ s3 W3 N QL q4 q5 q6 q1 q2 q3
theorem ZV(I:GJ S D m 33){dv recv:Value}{Qb:FuncId}(hD:P9 I dv Qb recv){s:I.St}{c:EP}{pv:Value}(hA:I.At s σ W)(hS:I.Pf s σ c)(hwv:∃a,I.wv=.pointer a)(hpv:∃a n c,pv=.slice a n c)(hdv:∃t v,dv=.iface t v)(hLd:∀tm k N,I.Leaves ((base 58).at ⟨tm,[Qm N]⟩ k) (cf :: fs))(hJ:∀s' σ' W' e iv,I.At s' σ' W'->I.On s W s' W'->I.End s' σ' (e,false)->GQ W' (fun g=>I.kept s' g/\¬ I.kept s g) iv e.ints->JW S.base (I.γ s') (G (cf.finish (MN e iv)) fs) W') :
   JW S.base (I.γ s) (G (Frame.enter Try.prog 58 #[I.wv,dv,Gf c pv] .normal) (cf :: fs)) W:=by
 refine Zx I hA hS (fun s1 W1 N hA1 HY hS1 hN q1 q2 q3=>?_) hwv hpv;obtain⟨wa,hw⟩:=hwv;obtain⟨pa,pn,pc,rfl⟩:=hpv;obtain⟨dt,dw,rfl⟩:=hdv;refine EO ?_;simp only[ds1,Try.f58];refine E9 fun _ hkk=>?_;refine JL.Jc (.func (.func 74) #[] #[.pointer (some ⟨N+2,0,none⟩),.pointer (some ⟨N,0,none⟩)]) rfl rfl nE (fun _=>by kernel_rfl) ?_;walk_nrm;refine JL.Xq rfl rfl nE rfl rfl ?_;walk_nrm;refine E5 ?_;cases hkk;simp only[ds2,Try.f58];refine EO ?_;refine E9 fun _ hkk=>?_
 (refine ET ?_;walk_nrm)
 rw[hw]at q1;refine Fp.read (S:=S) (ad:=⟨N,0,none⟩) (.pointer wa) rfl rfl nE (by simp[World.cell?,q1]) (fun w h=>by go_simp) (fun w h e he=>by simp[go_sem,h]at he;exact he) ?_;walk_nrm;refine Fp.Kk (S:=S) (b:=base 58) 2 1 [] (by simp) zKR nE (rest:=[3,4]) rfl zKR fun EG ha=>?_;obtain⟨hA2,hO2⟩:=I.alike hA1 ha;have hW:EG.heap=W1.heap:=by obtain⟨τ,d,rfl⟩:=ha;rfl
 rw[← hW]at q1 q2 q3;have hO3:=HY.trans hO2;have hN2:I.kept s1 (N+2):=hN.1;have HH:=Lib.hid (zAI hJ (zAI hS1 (zAI hA2 (zAI hO3 (zAI hN q3)))));clear hJ hA2 hO3 HY hO2 hA1 hS1 hA hS q3 hW hN hN2;dsimp only[List.drop,List.take];have c0:EG.cell? ⟨N+1,0,none⟩=some (.int .i64 c.kind):=by simp[World.cell?,q2]
 have c1:EG.cell? ⟨N+1,1,none⟩=some (.int .i64 c.a):=by simp[World.cell?,q2]
 have c2:EG.cell? ⟨N+1,2,none⟩=some (.int .i64 c.b):=by simp[World.cell?,q2]
 have c3:EG.cell? ⟨N+1,3,none⟩=some (.int .i64 c.c):=by simp[World.cell?,q2]
 have c4:EG.cell? ⟨N+1,4,none⟩=some (.slice pa pn pc):=by simp[World.cell?,q2]
 clear q1 q2;gi_wp2;refine⟨rfl,?_⟩;obtain⟨hJ,hS1,hA2,hO3,hN,q3⟩:=HH.out;clear HH c0 c1 c2 c3 c4;show JL S.L (I.γ s1) _ EG;dsimp only;have hme:=hD.Ach (.pointer wa) (Gf c (.slice pa pn pc));refine JL.qJ (f:=Qb) (args':=#[recv,.pointer wa,Gf c (.slice pa pn pc)]) rfl rfl nE rfl (fun w es=>?_) ?_
 . rw[List.map_toArray];simp only[List.map_cons,List.map_nil,Act.eval,Array.getD_eq_getD_getElem?,List.getElem?_toArray,List.getElem?_cons_succ,List.getElem?_cons_zero,Option.getD_some];exact hme w es
 clear hme;rw[← hw];refine hD.doj hA2 hS1 (by rw[hw];exact hLd _ _ N) fun s2 σ2 W2 e iv QL hO4 hE hiv=>?_;rw[Frame.finish_at];rw[hw];have hrow:W2.heap[N+2]?=_:=((hO4.kept _ hN.1).2).trans q3;have UW:=hO3.trans hO4;have hown:I.own s2 (N+2):=I.Gm QL (hO4.kept _ hN.1).1;have hcore:¬ I.core s2 (N+2):=fun h=>hN.2.2.1 ((hO4.core _).1 h);have JI:=hN.2.2.2;show JL S.L (I.γ s2) _ W2;walk_nrm;obtain⟨O6,en,em,Im,MH⟩:=e;unfold MN;obtain⟨io,il,ic,rfl⟩:=OH hiv;refine Fp.Gs (S:=S) (b:=base 58) 4 [] (by simp) zKR nE rfl zKR fun W3 Lm=>?_;have hW3:W3.heap=W2.heap:=by obtain⟨τ,d,rfl⟩:=Lm;rfl
 rw[← hW3]at hrow;have zz:∀o,W3.frozen? ⟨N+2,o,none⟩=false:=fun o=>by simp[World.frozen?,hrow]
 have c0:W3.cell? ⟨N+2,0,none⟩=some (.int .i64 0):=by simp[World.cell?,hrow]
 have c1:W3.cell? ⟨N+2,1,none⟩=some (.int .i64 0):=by simp[World.cell?,hrow]
 have c2:W3.cell? ⟨N+2,2,none⟩=some (.int .i64 0):=by simp[World.cell?,hrow]
 have c3:W3.cell? ⟨N+2,3,none⟩=some (.bool false):=by simp[World.cell?,hrow]
 have c4:W3.cell? ⟨N+2,4,none⟩=some (.int .i64 0):=by simp[World.cell?,hrow]
 have c5:W3.cell? ⟨N+2,5,none⟩=some (.int .i64 0):=by simp[World.cell?,hrow]
 have c6:W3.cell? ⟨N+2,6,none⟩=some (.int .i64 0):=by simp[World.cell?,hrow]
 have c7:W3.cell? ⟨N+2,7,none⟩=some (.slice none 0 0):=by simp[World.cell?,hrow]
 have c8:W3.cell? ⟨N+2,8,none⟩=some (.slice none 0 0):=by simp[World.cell?,hrow]
 have z0:=zz 0;have z1:=zz 1;have z2:=zz 2;have z3:=zz 3;have z4:=zz 4;have z5:=zz 5;have z6:=zz 6;have z7:=zz 7;have z8:=zz 8;clear zz;have HH:=Lib.hid (zAI hJ (zAI QL (zAI UW (zAI hE (zAI hown (zAI hcore (zAI JI (zAI hiv (zAI hrow (zAI hW3 (zAI hN hO3)))))))))));clear hJ QL UW hE hown hcore JI hiv hrow hW3 hN hO4 hA2 hO3 hS1 q3;dsimp only[List.drop];gi_wp2;refine⟨rfl,?_⟩;obtain⟨hJ,QL,UW,hE,hown,hcore,JI,hiv,hrow,hW3,hN,hO3⟩:=HH.out;clear HH;generalize Xp:World.setCell _ _ _=W5;have NK:W5.heap[N+2]?=some (.cells #[.int .i64 0,.int .i64 0,.int .i64 0,.bool O6,.int .i64 en,.int .i64 em,.int .i64 Im,.slice io il ic,.slice none 0 0] 42 (0,0)):=by rw[← Xp];simp[World.setCell,Array.getElem?_modify,hrow]
 have Q0:∀b,b≠N+2->W5.heap[b]?=W2.heap[b]?:=fun b hb=>by rw[← Xp,← hW3];simp[World.setCell,Array.getElem?_modify,hb.symm]
 have hsz5:W5.heap.size=W2.heap.size:=by rw[← Xp,← hW3];simp[World.setCell]
 clear Xp hrow hW3 c0 c1 c2 c3 c4 c5 c6 c7 c8 z0 z1 z2 z3 z4 z5 z6 z7 z8;obtain⟨X7,vE⟩:=I.write QL UW hown hcore JI ⟨_,_,_,NK⟩ Q0 hsz5;have kD:GQ W5 (fun g=>I.kept s2 g/\¬ I.kept s g) (.slice io il ic) MH:=(hiv.RN fun g hg=>.of (Q0 g fun e=>hg.2 (e ▸ hN.1))).mono fun g hg=>⟨hg.1,fun h=>hg.2 (hO3.kept g h).1⟩
 show JL S.L (I.γ s2) _ W5;dsimp only;refine E5 ?_;cases hkk;refine EU stepG_ret' ?_;refine JW.defers (S:=S.base) Try.func74 zKR rfl (by simp) ?_;rw[enter_atD _ Try.func74 UN];have ht:#[]++#[.pointer (some ⟨N+2,0,none⟩),.pointer (some ⟨N,0,none⟩)]++Array.replicate (Try.f74.ntmps-(#[]++#[.pointer (some ⟨N+2,0,none⟩),.pointer (some ⟨N,0,none⟩)]:Array Value).size) undef=#[.pointer (some ⟨N+2,0,none⟩),.pointer (some ⟨N,0,none⟩),undef,undef,undef,undef,undef,undef,undef,undef,undef,undef,undef,undef,undef,undef,undef,undef,undef]:=by
   have:Try.f74.ntmps=19:=by kernel_rfl
   rw[this];walk_nrm
 rw[ht];show JL S.L (I.γ s2) _ W5;generalize hcf:(GH _ _ _ _ _ _:Frame)=cd;have hcm:cd.mode=.returning:=by rw[← hcf]
 refine EO ?_;simp only[dd0,Try.f74];refine E9 fun _ hkk=>?_;refine JL.Vm rfl rfl rfl rfl hcm ?_;walk_nrm
 (refine ET ?_;walk_nrm)
 refine E5 ?_;cases hkk;simp only[dd1,Try.f74];refine EO ?_;refine EO ?_;refine E9 fun _ hkk=>?_
 (refine ET ?_;walk_nrm)
 refine JL.Jc (.tuple #[.agg #[],.bool false]) rfl rfl nE (fun _=>by kernel_rfl) ?_;walk_nrm
 (refine ET ?_;walk_nrm)
 refine JL.Jc (.agg #[]) rfl rfl nE (fun _=>by kernel_rfl) ?_;walk_nrm;refine JL.Jc (.bool false) rfl rfl nE (fun _=>by kernel_rfl) ?_;walk_nrm;have HH:=Lib.hid (zAI hJ (zAI X7 (zAI vE (zAI hE (zAI kD (zAI hcf NK))))));clear hJ X7 vE hE kD NK QL UW hown hcore JI hiv hN hO3 Q0 hsz5;refine Fp.Gs (S:=S) (b:=baseD 74) 5 [] (by simp) zKR nE rfl zKR fun W6 ha6=>?_;dsimp only[List.drop];gi_wp2;refine⟨rfl,?_⟩;obtain⟨hJ,X7,vE,hE,kD,hcf,NK⟩:=HH.out;clear HH;obtain⟨hA6,xu⟩:=I.alike X7 ha6;obtain⟨s3,hA7,hO8,e1,_,_,_,_,_,b4⟩:=I.lay (W':=W6.alloc (.cells #[] 118)) (N:=W6.heap.size) hA6 rfl ⟨_,_,_,heap_alloc_new _ _⟩ (fun b hb=>Below.heap_alloc _ _ _ hb) (by simp);have hE7:=b4 _ hE;have hO9:=vE.trans (xu.trans hO8);have Rq:W6.heap=W5.heap:=by obtain⟨τ,d,rfl⟩:=ha6;rfl
 have hlt:N+2<W6.heap.size:=by rw[Rq];exact(zGE NK).1
 have pW:=NK;rw[← Rq]at pW;have Aah:=(Below.heap_alloc W6 (.cells #[] 118) _ hlt).trans pW;have Ahd:GQ (W6.alloc (.cells #[] 118)) (fun g=>I.kept s3 g/\¬ I.kept s g) (.slice io il ic) MH:=(kD.RN fun g hg=>.of (((xu.trans hO8).kept g hg.1).2)).mono fun g hg=>⟨((xu.trans hO8).kept g hg.1).1,hg.2⟩
 rw[← e1];generalize W6.alloc (.cells #[] 118)=W7 at *;show JL S.L (I.γ s3) _ W7;dsimp only;refine E5 ?_;cases hkk;refine EO ?_;refine E9 fun _ hkk=>?_
 (refine ET ?_;walk_nrm)
 refine E5 ?_;cases hkk;refine JL.EX rfl ?_;refine EU stepG_skip ?_;refine EO ?_;refine E9 fun _ hkk=>?_
 (refine ET ?_;walk_nrm)
 refine JL.Jc (.bool false) rfl rfl nE (fun _=>by kernel_rfl) ?_;walk_nrm;refine E5 ?_;cases hkk;refine JL.EX rfl ?_;refine EU stepG_skip ?_;refine EU stepG_end ?_;refine JL.leaveD rfl rfl Try.func74 rfl hcm ?_;rw[← hcf];exact Yz Try.func58 (Kw Try.results58 rfl Aah Try.underlying42 rfl zKR) (hJ s3 σ2 W7 _ _ hA7 hO9 hE7 Ahd)
end
end Go.Proofs.Ytdkfdedgfilhbaa
namespace Go.LK
open Go Go.Conc Go.LT Go.LC
open Go.ConcN (WgLive RW AtK1 AtD1 AtD2 AtD3 AtD4)
open Go.ConcR (KK wgBlock WgAt stA smA rd wr mk DC0)
section
section
variable {P:Program}{ty:TypeId}{Wg:Nat}{Stop:Goroutine->World->Prop}{W:World}
abbrev GX(P:Program)(ty:TypeId)(Wg:Nat)(Stop:Goroutine->World->Prop)(m:Nat)(g:Goroutine)(w:World):Prop:=Goes P false (RX ty Wg) DC0 Stop m g w
def SG(P:Program)(ty:TypeId)(Wg:Nat)(Stop:Goroutine->World->Prop):O8 P false Unit where
 B:=fun _=>RJ
 J:=fun _ g _=>∃m,∀w,WgLive ty Wg w->GX P ty Wg Stop m g w
 live:=fun _=>WgLive ty Wg
 idle:=fun γ g g' W hs h hJ w hw=>by obtain⟨m,hg⟩:=hJ w hw;exact⟨m+1,fun w hl=>Goes.step hs fun w₁ h₁=>by rw[h w₁ (h₁.live hl)];exact⟨⟨rfl,rfl⟩,hg _ (h₁.live hl)⟩⟩
theorem SG.stop{g:Goroutine}(h:∀w,WgLive ty Wg w->Stop g w):JL (SG P ty Wg Stop) () g W:=fun w _=>⟨0,fun w hl=>Goes.stop fun w₁ h₁=>h w₁ (h₁.live hl)⟩
theorem SG.goes{g:Goroutine}(h:∀W,JL (SG P ty Wg Stop) () g W):∃m,∀w,WgLive ty Wg w->GX P ty Wg Stop m g w:=h (EF RJ default) default ⟨.refl _,JB _⟩
theorem SG.at{g:Goroutine}{w:World}(hl:WgLive ty Wg w)(h:∀W,JL (SG P ty Wg Stop) () g W):∃m,GX P ty Wg Stop m g w:=let⟨m,hg⟩:=SG.goes h;⟨m,hg w hl⟩
def WL(P:Program)(d:Nat):O8 P false Unit where
 B:=fun _=>RJ
 J:=fun _ g _=>∃q,QuitsD P q d g
 live:=fun _ _=>True
 idle:=fun γ g g' W hs h hJ w hw=>by obtain⟨q,hq⟩:=hJ w hw;exact⟨q+1,QuitsD.ctl hs (fun w=>h w trivial) hq⟩
theorem WL.of{d:Nat}{g:Goroutine}(h:∀W,JL (WL P d) () g W):∃q,QuitsD P q d g:=h (EF RJ default) default ⟨.refl _,JB _⟩
theorem WL.end{d q:Nat}{g:Goroutine}(h:QuitsD P q d g):JL (WL P d) () g W:=fun _ _=>⟨q,h⟩
theorem WL.said{d:Nat}{g g':Goroutine}(e:Event)(he:e.mute=true)(hs:g.status=.running)(h:∀w,stepG P false g w=.go g' w #[e])(hJ:JL (WL P (deafBehind d #[e])) () g' W):JL (WL P d) () g W:=fun w hw=>by obtain⟨q,hq⟩:=hJ w hw;exact⟨q+1,QuitsD.said e he hs h hq⟩
end
end
end Go.LK
namespace Go.LK
open Go Go.Conc Go.LT Go.LC Go.Conc.Lib Go.ConcR.Gen Go.RowKit
open Go.ConcN (WgLive RW AtK1 AtD1 AtD2 AtD3 AtD4)
open Go.ConcR (KK wgBlock WgAt stA smA rd wr mk DC0)
section
section
variable {P:Program}{L:WgLink}{Wg:Nat}{b₀:Frame}{a₀:Act}{ops₀:Array Oper}{i₀:Nat}{rest₀:List Nat}{k₀:List Item}{cs:List Frame}
theorem Aaj(H:WgLib P L)(hT:∀W,JL (WL P 0) () (G (b₀.at (a₀.put ((ops₀[i₀]?).bind (·.dst)) (.tuple #[])) (.inRegion ops₀ rest₀ :: k₀)) cs) W)(W:World) :
  JL (SG P L.tWg Wg (Lr P L.tWg Wg)) () (G ((base L.add).at ⟨#[.pointer (some ⟨Wg,0,none⟩),.int .i64 (-1)]++Array.replicate 115 undef,[]⟩ [.code (body_add L)]) (b₀.at a₀ (.inRegion ops₀ (i₀ :: rest₀) :: k₀) :: cs)) W:=by
 lib_facts
 simp only[body_add,addFn,Option.getD_some];walk_nrm;refine EO ?_;refine JL.F3 rfl ?_;refine EO ?_;refine EO ?_;refine E9 fun _ hkk=>?_;iterate 2(refine ET ?_;walk_nrm)
 refine E5 ?_;cases hkk;refine JL.F3 rfl ?_;refine E9 fun _ hkk=>?_
 (refine ET ?_;walk_nrm)
 refine JL.value (.pointer (some ⟨Wg,0,none⟩)) rfl rfl (by k_ne) (fun w hl=>by
  have hcv:=run_convert_to_unsafe (P:=P) H.underlying_tWgP H.underlying_tUP H.room_tWg (ConcN.Gen.WgLive.cell0 (show WgLive L.tWg Wg w from hl)).choose_spec;go_simp) (fun w hl e he=>by
  have hce:=fun es=>events_convert_to_unsafe (P:=P) H.underlying_tWgP H.underlying_tUP H.room_tWg (ConcN.Gen.WgLive.cell0 (show WgLive L.tWg Wg w from hl)).choose_spec es;simp[go_sem,hce]at he) ?_
 walk_nrm;refine SG.stop fun w hl=>⟨rfl,_,stepG_markAt .releaseMerge (by simp) rfl rfl (by k_ne) rfl H.f_relMerge (x_relMerge_n L) (x_relMerge_b L) (x_relMerge_x L) (x_relMerge_f L) (by simp[Act.eval,stA]),SG.at hl fun W=>?_⟩
 clear hl;walk_nrm;refine E5 ?_;cases hkk;refine EO ?_;refine E9 fun _ hkk=>?_;refine SG.stop fun w hl=>⟨rfl,_,stepG_mark0 .disable (by simp) rfl rfl (by k_ne) rfl H.f_disable (x_disable_n L) (x_disable_b L) (x_disable_x L) (x_disable_f L),SG.at hl fun W=>?_⟩
 clear hl;walk_nrm;refine E5 ?_;cases hkk;refine E9 fun _ hkk=>?_;refine EU (stepG_defer rfl rfl (by first|exact cK|exact eT|decide|assumption) rfl) ?_;walk_nrm;refine E5 ?_;cases hkk;refine EO ?_;refine E9 fun _ hkk=>?_
 (refine ET ?_;walk_nrm)
 refine E5 ?_;cases hkk;refine EO ?_;refine EO ?_;refine E9 fun _ hkk=>?_;refine JL.pure (.bool false) rfl rfl (by k_ne) rfl H.f_inBubble (x_inBubble_n L) (x_inBubble_b L) (x_inBubble_x L) (x_inBubble_f L) ?_;walk_nrm;refine E5 ?_;cases hkk;refine JL.EX rfl ?_;refine EU stepG_skip ?_;refine EO ?_;refine E9 fun _ hkk=>?_;iterate 6(refine ET ?_;walk_nrm)
 refine JL.call rfl rfl (by first|exact cK|exact eT|decide|assumption) rfl H.f_uAdd (nm_uAdd L) rfl ?_;walk_nrm;simp only[uAddFn];walk_nrm;refine EO ?_;refine E9 fun _ hkk=>?_
 (refine ET ?_;walk_nrm)
 refine E5 ?_;cases hkk;refine EO ?_;refine E9 fun _ hkk=>?_;iterate 4(refine ET ?_;walk_nrm)
 refine SG.stop fun w hl=>⟨rfl,fun v wt hwt hv hw=>?_⟩
 clear hl;have eS:IntKind.u64.wrap (((v:Nat)+1)*KK+wt+18446744069414584320)=(v:Int)*KK+wt:=by rw[IntKind.wrap_u64];simp only[KK];omega
 refine⟨_,(stepG_add_atomic rfl rfl (by k_ne) rfl H.f_addU64 (x_addU64_n L) (x_addU64_b L) (x_addU64_x L) .u64 (x_addU64_f L) rfl rfl (show w.cell? (stA Wg)=_ from hw.cellSt) (hw.thaw 0)).trans (by rw[eS];rfl),fun hl=>?_,fun hn=>WL.of fun W=>?_⟩
 ·
  obtain⟨rfl,rfl⟩:=hl;have z:((0:Nat):Int)*KK+((1:Nat):Int)=1:=by simp
  have hl1:WgLive L.tWg Wg (w.setCell (stA Wg) (.int .u64 (((0:Nat):Int)*KK+((1:Nat):Int)))):=⟨_,_,hw.setSt _⟩
  simp only[z]at hl1 ⊢;clear eS hv hwt;refine SG.at hl1 fun W=>?_;clear hl1 hw;walk_nrm
  (refine ET ?_;walk_nrm)
  refine E5 ?_;cases hkk;refine EU stepG_ret' ?_;refine JL.leave1 rfl rfl H.f_uAdd rfl ?_;walk_nrm
  (refine ET ?_;walk_nrm)
  refine E5 ?_;cases hkk;refine EO ?_;refine EO ?_;refine E9 fun _ hkk=>?_;iterate 4(refine ET ?_;walk_nrm)
  refine EU (stepG_unwanted rfl rfl) ?_;walk_nrm;refine EU (stepG_unwanted rfl rfl) ?_;walk_nrm
  (refine ET ?_;walk_nrm)
  refine E5 ?_;cases hkk;refine JL.EX rfl ?_;refine EU stepG_skip ?_;refine EO ?_;refine E9 fun _ hkk=>?_;iterate 4(refine ET ?_;walk_nrm)
  refine E5 ?_;cases hkk;refine EO ?_;refine E9 fun _ hkk=>?_;iterate 4(refine ET ?_;walk_nrm)
  refine E5 ?_;cases hkk;refine EO ?_;refine EO ?_;refine E9 fun _ hkk=>?_;iterate 5(refine ET ?_;walk_nrm)
  refine EU (stepG_unwanted rfl rfl) ?_;walk_nrm;refine EU (stepG_unwanted rfl rfl) ?_;walk_nrm;refine EU (stepG_unwanted rfl rfl) ?_;walk_nrm;refine EU (stepG_unwanted rfl rfl) ?_;walk_nrm
  (refine ET ?_;walk_nrm)
  refine E5 ?_;cases hkk;refine JL.EX rfl ?_;refine EU stepG_skip ?_;refine EO ?_;refine EO ?_;refine E9 fun _ hkk=>?_;iterate 2(refine ET ?_;walk_nrm)
  refine E5 ?_;cases hkk;refine JL.EX rfl ?_;refine EU stepG_skip ?_;refine EO ?_;refine EO ?_;refine E9 fun _ hkk=>?_;iterate 7(refine ET ?_;walk_nrm)
  refine EU (stepG_unwanted rfl rfl) ?_;walk_nrm;refine EU (stepG_unwanted rfl rfl) ?_;walk_nrm;refine EU (stepG_unwanted rfl rfl) ?_;walk_nrm;refine EU (stepG_unwanted rfl rfl) ?_;walk_nrm
  (refine ET ?_;walk_nrm)
  refine E5 ?_;cases hkk;refine JL.EX rfl ?_;refine EU stepG_skip ?_;refine EO ?_;refine EO ?_;refine E9 fun _ hkk=>?_;iterate 6(refine ET ?_;walk_nrm)
  refine E5 ?_;cases hkk;refine JL.EX rfl ?_;refine EU stepG_skip ?_;refine EO ?_;refine EO ?_;refine E9 fun _ hkk=>?_;iterate 3(refine ET ?_;walk_nrm)
  refine JL.call rfl rfl (by first|exact cK|exact eT|decide|assumption) rfl H.f_uLoad (nm_uLoad L) rfl ?_;walk_nrm;simp only[uLoadFn];walk_nrm;refine EO ?_;refine E9 fun _ hkk=>?_
  (refine ET ?_;walk_nrm)
  refine E5 ?_;cases hkk;refine EO ?_;refine E9 fun _ hkk=>?_;iterate 3(refine ET ?_;walk_nrm)
  refine SG.stop fun w hl=>⟨rfl,fun hw=>⟨_,stepG_load_atomic rfl rfl (by k_ne) rfl H.f_loadU64 (x_loadU64_n L) (x_loadU64_b L) (x_loadU64_x L) .u64 (x_loadU64_f L) rfl hw.cellSt,SG.at hl fun W=>?_⟩⟩
  clear hw hl;walk_nrm
  (refine ET ?_;walk_nrm)
  refine E5 ?_;cases hkk;refine EU stepG_ret' ?_;refine JL.leave1 rfl rfl H.f_uLoad rfl ?_;walk_nrm;iterate 2(refine ET ?_;walk_nrm)
  refine E5 ?_;cases hkk;refine JL.EX rfl ?_;refine EU stepG_skip ?_;refine EO ?_;refine E9 fun _ hkk=>?_;iterate 3(refine ET ?_;walk_nrm)
  refine JL.call rfl rfl (by first|exact cK|exact eT|decide|assumption) rfl H.f_uStore (nm_uStore L) rfl ?_;walk_nrm;simp only[uStoreFn];walk_nrm;refine E9 fun _ hkk=>?_;iterate 4(refine ET ?_;walk_nrm)
  refine SG.stop fun w hl=>⟨rfl,fun hw=>⟨_,stepG_store_atomic rfl rfl (by k_ne) rfl H.f_storeU64 (x_storeU64_n L) (x_storeU64_b L) (x_storeU64_x L) (x_storeU64_f L) rfl rfl hw.cellSt (hw.thaw 0),SG.at ⟨_,_,hw.setSt 0⟩ fun W=>?_⟩⟩
  clear hw hl;walk_nrm;refine E5 ?_;cases hkk;refine EU stepG_end ?_;refine JL.leave0 rfl rfl H.f_uStore rfl ?_;walk_nrm;refine E5 ?_;cases hkk;refine EO ?_;refine EO ?_;refine E9 fun _ hkk=>?_
  (refine ET ?_;walk_nrm)
  refine E5 ?_;cases hkk;refine JL.EX rfl ?_;refine EU stepG_skip ?_;refine EU stepG_block ?_;refine EU stepG_loop ?_;refine EO ?_;refine EO ?_;refine E9 fun _ hkk=>?_;iterate 2(refine ET ?_;walk_nrm)
  refine E5 ?_;cases hkk;refine JL.F3 rfl ?_;refine EU stepG_skip ?_;refine EO ?_;refine EU stepG_block ?_;refine E9 fun _ hkk=>?_;iterate 3(refine ET ?_;walk_nrm)
  refine SG.stop fun w hl=>⟨rfl,mayWake_entry rfl rfl H.f_semrelease (x_semrelease_b L),fun hw=>⟨_,(stepG_semrelease rfl rfl (by k_ne) rfl H.f_semrelease (x_semrelease_n L) (x_semrelease_b L) (x_semrelease_x L) (x_semrelease_f L) (by simp[Act.eval,smA]) hw.cellSm (hw.thaw 1)).trans (by rfl),WL.of fun W=>?_⟩⟩
  clear hw hl;walk_nrm;refine E5 ?_;cases hkk;refine EU stepG_inBlock ?_;refine E9 fun _ hkk=>?_;iterate 3(refine ET ?_;walk_nrm)
  refine E5 ?_;cases hkk;refine EU stepG_inLoop ?_;refine EO ?_;refine EO ?_;refine E9 fun _ hkk=>?_;iterate 2(refine ET ?_;walk_nrm)
  refine E5 ?_;cases hkk;refine JL.EX rfl ?_;refine JL.exit rfl ?_;refine EU stepG_end ?_;refine WL.said (mk .enable) rfl rfl (fun w=>stepG_unwind_entry (v:=.tuple #[]) (evs:=#[mk .enable]) rfl H.f_enable (x_enable_n L) (x_enable_b L) (x_enable_x L) (x_enable_f L) (by simp[Extern.Race.none_]) (by simp[mk]) (by simp[mk])) ?_;refine JL.leave0 rfl rfl H.f_add rfl ?_;exact hT _
 ·
  have hd:deafBehind 1 #[mk .enable]=0:=rfl;rcases Nat.eq_zero_or_pos v with rfl|hvp
  . obtain rfl:wt=0:=by omega
    have z:((0:Nat):Int)*KK+((0:Nat):Int)=0:=by simp
    simp only[z];clear eS hv hwt hn hw;walk_nrm
    (refine ET ?_;walk_nrm)
    refine E5 ?_;cases hkk;refine EU stepG_ret' ?_;refine JL.leave1 rfl rfl H.f_uAdd rfl ?_;walk_nrm
    (refine ET ?_;walk_nrm)
    refine E5 ?_;cases hkk;refine EO ?_;refine EO ?_;refine E9 fun _ hkk=>?_;iterate 4(refine ET ?_;walk_nrm)
    refine EU (stepG_unwanted rfl rfl) ?_;walk_nrm;refine EU (stepG_unwanted rfl rfl) ?_;walk_nrm
    (refine ET ?_;walk_nrm)
    refine E5 ?_;cases hkk;refine JL.EX rfl ?_;refine EU stepG_skip ?_;refine EO ?_;refine E9 fun _ hkk=>?_;iterate 4(refine ET ?_;walk_nrm)
    refine E5 ?_;cases hkk;refine EO ?_;refine E9 fun _ hkk=>?_;iterate 4(refine ET ?_;walk_nrm)
    refine E5 ?_;cases hkk;refine EO ?_;refine EO ?_;refine E9 fun _ hkk=>?_;iterate 5(refine ET ?_;walk_nrm)
    refine EU (stepG_unwanted rfl rfl) ?_;walk_nrm;refine EU (stepG_unwanted rfl rfl) ?_;walk_nrm;refine EU (stepG_unwanted rfl rfl) ?_;walk_nrm;refine EU (stepG_unwanted rfl rfl) ?_;walk_nrm
    (refine ET ?_;walk_nrm)
    refine E5 ?_;cases hkk;refine JL.EX rfl ?_;refine EU stepG_skip ?_;refine EO ?_;refine EO ?_;refine E9 fun _ hkk=>?_;iterate 2(refine ET ?_;walk_nrm)
    refine E5 ?_;cases hkk;refine JL.EX rfl ?_;refine EU stepG_skip ?_;refine EO ?_;refine EO ?_;refine E9 fun _ hkk=>?_;iterate 3(refine ET ?_;walk_nrm)
    refine EU (stepG_unwanted rfl rfl) ?_;walk_nrm;refine EU (stepG_unwanted rfl rfl) ?_;walk_nrm;iterate 2(refine ET ?_;walk_nrm)
    refine EU (stepG_unwanted rfl rfl) ?_;walk_nrm;refine EU (stepG_unwanted rfl rfl) ?_;walk_nrm;refine EU (stepG_unwanted rfl rfl) ?_;walk_nrm;refine EU (stepG_unwanted rfl rfl) ?_;walk_nrm
    (refine ET ?_;walk_nrm)
    refine E5 ?_;cases hkk;refine JL.EX rfl ?_;refine EU stepG_skip ?_;refine EO ?_;refine EO ?_;refine E9 fun _ hkk=>?_;iterate 6(refine ET ?_;walk_nrm)
    refine E5 ?_;cases hkk;refine JL.F3 rfl ?_;refine EU stepG_ret' ?_;refine WL.said (mk .enable) rfl rfl (fun w=>stepG_unwind_entry (v:=.tuple #[]) (evs:=#[mk .enable]) rfl H.f_enable (x_enable_n L) (x_enable_b L) (x_enable_x L) (x_enable_f L) (by simp[Extern.Race.none_]) (by simp[mk]) (by simp[mk])) ?_;refine JL.leave0 rfl rfl H.f_add rfl ?_;exact hT _
  . obtain⟨S,hS⟩:∃S:Int,(v:Int)*KK+wt=S:=⟨_,rfl⟩
    have a1:S / 4294967296=(v:Int):=by rw[← hS];simp only[KK];omega
    have b1:bits .and .u64 S 2147483648=0:=by rw[← hS];have:=ConcN.st_flag v wt zOM hwt;simpa [KK]using this
    have b2:bits .and .u64 S 2147483647=(wt:Int):=by rw[← hS];have:=ConcN.st_waiters v wt zOM hwt;simpa [KK]using this
    have c1:IntKind.i32.wrap (v:Int)=(v:Int):=by rw[IntKind.wrap_i32];omega
    have q3:decide ((v:Int)<0)=false:=decide_eq_false zOM;have q4:decide (0<(v:Int))=true:=decide_eq_true zOM;simp only[hS];obtain rfl|rfl:wt=0\/wt=1:=by omega
    . have b3:bits .and .u64 S 2147483647=0:=by simpa using b2
      clear eS hn hw hS b2;walk_nrm
      (refine ET ?_;walk_nrm)
      refine E5 ?_;cases hkk;refine EU stepG_ret' ?_;refine JL.leave1 rfl rfl H.f_uAdd rfl ?_;walk_nrm
      (refine ET ?_;walk_nrm)
      refine E5 ?_;cases hkk;refine EO ?_;refine EO ?_;refine E9 fun _ hkk=>?_;iterate 4(refine ET ?_;walk_nrm)
      refine EU (stepG_unwanted rfl rfl) ?_;walk_nrm;refine EU (stepG_unwanted rfl rfl) ?_;walk_nrm
      (refine ET ?_;walk_nrm)
      refine E5 ?_;cases hkk;refine JL.EX rfl ?_;refine EU stepG_skip ?_;refine EO ?_;refine E9 fun _ hkk=>?_;iterate 4(refine ET ?_;walk_nrm)
      refine E5 ?_;cases hkk;refine EO ?_;refine E9 fun _ hkk=>?_;iterate 4(refine ET ?_;walk_nrm)
      refine E5 ?_;cases hkk;refine EO ?_;refine EO ?_;refine E9 fun _ hkk=>?_;iterate 5(refine ET ?_;walk_nrm)
      refine EU (stepG_unwanted rfl rfl) ?_;walk_nrm;refine EU (stepG_unwanted rfl rfl) ?_;walk_nrm;refine EU (stepG_unwanted rfl rfl) ?_;walk_nrm;refine EU (stepG_unwanted rfl rfl) ?_;walk_nrm
      (refine ET ?_;walk_nrm)
      refine E5 ?_;cases hkk;refine JL.EX rfl ?_;refine EU stepG_skip ?_;refine EO ?_;refine EO ?_;refine E9 fun _ hkk=>?_;iterate 2(refine ET ?_;walk_nrm)
      refine E5 ?_;cases hkk;refine JL.EX rfl ?_;refine EU stepG_skip ?_;refine EO ?_;refine EO ?_;refine E9 fun _ hkk=>?_;iterate 3(refine ET ?_;walk_nrm)
      refine EU (stepG_unwanted rfl rfl) ?_;walk_nrm;refine EU (stepG_unwanted rfl rfl) ?_;walk_nrm;iterate 2(refine ET ?_;walk_nrm)
      refine EU (stepG_unwanted rfl rfl) ?_;walk_nrm;refine EU (stepG_unwanted rfl rfl) ?_;walk_nrm;refine EU (stepG_unwanted rfl rfl) ?_;walk_nrm;refine EU (stepG_unwanted rfl rfl) ?_;walk_nrm
      (refine ET ?_;walk_nrm)
      refine E5 ?_;cases hkk;refine JL.EX rfl ?_;refine EU stepG_skip ?_;refine EO ?_;refine EO ?_;refine E9 fun _ hkk=>?_;iterate 3(refine ET ?_;walk_nrm)
      refine EU (stepG_unwanted rfl rfl) ?_;walk_nrm;refine EU (stepG_unwanted rfl rfl) ?_;walk_nrm
      (refine ET ?_;walk_nrm)
      refine E5 ?_;cases hkk;refine JL.F3 rfl ?_;refine EU stepG_ret' ?_;refine WL.said (mk .enable) rfl rfl (fun w=>stepG_unwind_entry (v:=.tuple #[]) (evs:=#[mk .enable]) rfl H.f_enable (x_enable_n L) (x_enable_b L) (x_enable_x L) (x_enable_f L) (by simp[Extern.Race.none_]) (by simp[mk]) (by simp[mk])) ?_;refine JL.leave0 rfl rfl H.f_add rfl ?_;exact hT _
    . have b3:bits .and .u64 S 2147483647=1:=by simpa using b2
      clear eS hn hw hS b2;walk_nrm
      (refine ET ?_;walk_nrm)
      refine E5 ?_;cases hkk;refine EU stepG_ret' ?_;refine JL.leave1 rfl rfl H.f_uAdd rfl ?_;walk_nrm
      (refine ET ?_;walk_nrm)
      refine E5 ?_;cases hkk;refine EO ?_;refine EO ?_;refine E9 fun _ hkk=>?_;iterate 4(refine ET ?_;walk_nrm)
      refine EU (stepG_unwanted rfl rfl) ?_;walk_nrm;refine EU (stepG_unwanted rfl rfl) ?_;walk_nrm
      (refine ET ?_;walk_nrm)
      refine E5 ?_;cases hkk;refine JL.EX rfl ?_;refine EU stepG_skip ?_;refine EO ?_;refine E9 fun _ hkk=>?_;iterate 4(refine ET ?_;walk_nrm)
      refine E5 ?_;cases hkk;refine EO ?_;refine E9 fun _ hkk=>?_;iterate 4(refine ET ?_;walk_nrm)
      refine E5 ?_;cases hkk;refine EO ?_;refine EO ?_;refine E9 fun _ hkk=>?_;iterate 5(refine ET ?_;walk_nrm)
      refine EU (stepG_unwanted rfl rfl) ?_;walk_nrm;refine EU (stepG_unwanted rfl rfl) ?_;walk_nrm;refine EU (stepG_unwanted rfl rfl) ?_;walk_nrm;refine EU (stepG_unwanted rfl rfl) ?_;walk_nrm
      (refine ET ?_;walk_nrm)
      refine E5 ?_;cases hkk;refine JL.EX rfl ?_;refine EU stepG_skip ?_;refine EO ?_;refine EO ?_;refine E9 fun _ hkk=>?_;iterate 2(refine ET ?_;walk_nrm)
      refine E5 ?_;cases hkk;refine JL.EX rfl ?_;refine EU stepG_skip ?_;refine EO ?_;refine EO ?_;refine E9 fun _ hkk=>?_;iterate 7(refine ET ?_;walk_nrm)
      refine EU (stepG_unwanted rfl rfl) ?_;walk_nrm;refine EU (stepG_unwanted rfl rfl) ?_;walk_nrm;refine EU (stepG_unwanted rfl rfl) ?_;walk_nrm;refine EU (stepG_unwanted rfl rfl) ?_;walk_nrm
      (refine ET ?_;walk_nrm)
      refine E5 ?_;cases hkk;refine JL.EX rfl ?_;refine EU stepG_skip ?_;refine EO ?_;refine EO ?_;refine E9 fun _ hkk=>?_;iterate 3(refine ET ?_;walk_nrm)
      refine EU (stepG_unwanted rfl rfl) ?_;walk_nrm;refine EU (stepG_unwanted rfl rfl) ?_;walk_nrm
      (refine ET ?_;walk_nrm)
      refine E5 ?_;cases hkk;refine JL.F3 rfl ?_;refine EU stepG_ret' ?_;refine WL.said (mk .enable) rfl rfl (fun w=>stepG_unwind_entry (v:=.tuple #[]) (evs:=#[mk .enable]) rfl H.f_enable (x_enable_n L) (x_enable_b L) (x_enable_x L) (x_enable_f L) (by simp[Extern.Race.none_]) (by simp[mk]) (by simp[mk])) ?_;refine JL.leave0 rfl rfl H.f_add rfl ?_;exact hT _
end
end
section
section
variable {P:Program}{L:WgLink}{Wg:Nat}{c:Frame}{cs:List Frame}
theorem yH(H:WgLib P L)(hcm:c.mode=.returning)(hT:∀W,JL (WL P 0) () (G c cs) W)(W:World) :
  JL (SG P L.tWg Wg (Lr P L.tWg Wg)) () (G ((baseD L.done).at ⟨#[.pointer (some ⟨Wg,0,none⟩),undef,undef,undef],[]⟩ [.code (body_done L)]) (c :: cs)) W:=by
 lib_facts
 simp only[body_done,doneFn,Option.getD_some];refine E9 fun _ hkk=>?_
 (refine ET ?_;walk_nrm)
 refine JL.call (c:=body_add L) rfl rfl nE rfl H.f_add (nm_add L) rfl ?_;have hn:(addFn L).ntmps=117:=rfl;rw[hn];simp only[List.map_toArray,List.map_cons,List.map_nil,Act.eval,Array.getD_eq_getD_getElem?,List.getElem?_toArray,List.getElem?_cons_succ,List.getElem?_cons_zero,Option.getD_some,List.size_toArray,List.length_cons,List.length_nil,Nat.reduceAdd,Nat.reduceSub];refine Aaj H (fun W=>?_) W;walk_nrm;refine E5 ?_;cases hkk;refine EU stepG_end ?_;exact JL.leaveD rfl rfl H.f_done rfl hcm (hT W)
end
end
end Go.LK
namespace Go.Proofs.Ytdkfdedgfilhbaa
open Go Go.Conc Go.LT Go.LC Go.LK Go.RowKit
open Go.ConcN (WgLive)
section
def pc0:Code:=match Try.f30.body with | some (.seq c _)=>c | _=>.skip
def pc1:Code:=match Try.f30.body with | some (.seq _ (.seq c _))=>c | _=>.skip
def pc2:Code:=match Try.f30.body with | some (.seq _ (.seq _ (.seq c _)))=>c | _=>.skip
def Uf:Code:=match Try.f30.body with | some (.seq _ (.seq _ (.seq _ (.block _ (.loop c)))))=>c | _=>.skip
theorem nD:Try.f30.body=some (.seq pc0 (.seq pc1 (.seq pc2 (.block 0 (.loop Uf))))):=rfl
def pl3:Code:=match Uf with | .seq c _=>c | _=>.skip
def vJ:Code:=match Uf with | .seq _ (.seq _ (.seq _ c))=>c | _=>.skip
def UO:Code:=match Uf with | .seq _ (.seq _ (.seq (.block _ c) _))=>c | _=>.skip
theorem Xl:Uf=.seq pl3 (.seq (.cond (.tmp 13) .skip (.exit 0)) (.seq (.block 1 UO) vJ)):=rfl
def pb4:Code:=match UO with | .seq c _=>c | _=>.skip
def pb5:Code:=match UO with | .seq _ (.seq c _)=>c | _=>.skip
def pb6:Code:=match UO with | .seq _ (.seq _ (.seq c _))=>c | _=>.skip
def pb7:Code:=match UO with | .seq _ (.seq _ (.seq _ (.seq c _)))=>c | _=>.skip
def pb8:Code:=match UO with | .seq _ (.seq _ (.seq _ (.seq _ (.seq c _))))=>c | _=>.skip
def aP:Code:=match UO with | .seq _ (.seq _ (.seq _ (.seq _ (.seq _ c))))=>c | _=>.skip
theorem wm:UO=.seq pb4 (.seq pb5 (.seq pb6 (.seq pb7 (.seq pb8 aP)))):=rfl
section
variable {Cs Sg:Type}{D:Dr EP Cs Sg}{m:Mem Sg}{ρ:Rn}{b k:Nat}{cf:Frame}{fs:List Frame}{W:World}{σ:Sg}
def wY(s:Gr EP Cs Sg ρ)(σ:Sg):Prop:=s.gr=false/\s.z.cur=none/\s.z.bg=0/\s.x.1.1.tgt=({ s.z with over:=s.z.todo.isEmpty },σ,s.z.todo.isEmpty)
theorem gP {cc:Code}{s:Gr EP Cs Sg ρ}{wv dv cv:Value}{pb:Nat}{ds:List Deferred}{K:List Item}{v7 v8 v9 Aa Ab Ac Ae Af Ah Ai Aj Ak Al Am Ao Ap Ar Au Av Aw Ay Az AA AB AJ AL AO AP AQ AU AV AX AY AZ A8 A9 Ba Bb Bc Bf Bh Bj Bl Bp Bq Br Bu Bv Bw Bz BD BF BG BH BI BJ BK BL BM BN BO BP BQ BR BS BU BX BZ Ca Cb Cc Ce Cg Ci:Value}(pK:∀ tm K,Wv ρ Try.prog 118 ((base 30).at ⟨tm,ds⟩ K) (cf :: fs))(hA:Ki m b k s σ W)(hT:wY s σ)(hpb:s.pb=pb){c:EP}{l:List EP}(htd:s.z.todo=c :: l)(hJ:∀ (s':Gr EP Cs Sg ρ) (t:Nat) (σ':Sg) (W':World),Ki m b k ⟨s'.x,s'.own,s'.core,s'.pb,{ s.z with st:=t },true,s.ans⟩ σ' W'->s'.x.1.1.v.h=s.x.1.1.v.h->s'.x.1.1.v.t=s.x.1.1.v.t->s'.own=s.own->s'.core=s.core->s'.pb=s.pb->s'.x.1.2+1=s.x.1.2->s'.x.1.1.tgt=D.hold s.z t σ'->(∀ g,s.own g/\g≠b->W'.heap[g]?=W.heap[g]?)->W.heap.size<=W'.heap.size->
      JL (SW (Fe D m) ρ Try.prog).L s'.x (G ((base 30).at ⟨#[wv,dv,cv,.pointer (some ⟨pb,0,none⟩),undef,undef,undef,v7,v8,v9,Aa,Ab,Ac,Ae,Af,Ah,.pointer (some ⟨b,0,none⟩),.tuple #[],.pointer (some ⟨b,0,none⟩),.tuple #[],Am,Ao,Ap,Ar,Au,Av,Aw,Ay,Az,AA,AB,AJ,AL,AO,AP,AQ,AU,AV,AX,AY,AZ,A8,A9,Ba,Bb,Bc,Bf,Bh,Bj,Bl,Bp,Bq,Br,Bu,Bv,Bw,Bz,BD,BF,BG,BH,BI,BJ,BK,BL,BM,BN,BO,BP,BQ,BR,BS,BU,BX,BZ,Ca,Cb,Cc,Ce,Cg,Ci],ds⟩ (.code cc :: K)) (cf :: fs)) W') :
    JL (SW (Fe D m) ρ Try.prog).L s.x (G ((base 30).at ⟨#[wv,dv,cv,.pointer (some ⟨pb,0,none⟩),undef,undef,undef,v7,v8,v9,Aa,Ab,Ac,Ae,Af,Ah,Ai,Aj,Ak,Al,Am,Ao,Ap,Ar,Au,Av,Aw,Ay,Az,AA,AB,AJ,AL,AO,AP,AQ,AU,AV,AX,AY,AZ,A8,A9,Ba,Bb,Bc,Bf,Bh,Bj,Bl,Bp,Bq,Br,Bu,Bv,Bw,Bz,BD,BF,BG,BH,BI,BJ,BK,BL,BM,BN,BO,BP,BQ,BR,BS,BU,BX,BZ,Ca,Cb,Cc,Ce,Cg,Ci],ds⟩ (.code pb5 :: .code (.seq pb6 cc) :: K)) (cf :: fs)) W:=by
  obtain⟨x,own,core,pb',z,gr,ans⟩:=s;obtain rfl:pb'=pb:=hpb;obtain⟨hgr,hcur,hbg,MC⟩:=hT;simp only at hgr hcur hbg MC htd;subst hgr;obtain rfl:x.1.1.v.b=b:=hA.vb;obtain rfl:x.1.1.v.k=k:=hA.vk;have hcap:=hA.cap;have hpc:=hA.pc;simp only at hpc;rw[htd]at MC;simp only[List.isEmpty_cons]at MC;dsimp only;simp only[pb5,UO,Uf,Try.f30];refine E9 fun _ hkk=>?_;refine Fp.read (S:=SW (Fe D m) ρ Try.prog) (ad:=⟨pb',0,none⟩) (.pointer (some ⟨x.1.1.v.b,0,none⟩)) rfl rfl nE hpc (fun w h=>by go_simp) (fun w h e he=>by simp[go_sem,h]at he;exact he) ?_;walk_nrm;refine JL.enter rfl rfl nE rfl Try.func56 zKR zKR ?_;walk_nrm;cases hkk;generalize hK:Item.code (.seq pb6 cc) :: K=K6;have h:=hA.row;simp only at h;refine QC h fun EG ha=>QJ ?_;obtain⟨τ,d,rfl⟩:=ha
  have hsel:∀(c:Frame) (cs:List Frame) (w:World),stepG Try.prog false (G ((base 56).at ⟨Nq x.1.1.v.b x.1.1.v.k ρ.come ρ.gone,[]⟩ [.inRegion KP [0,1,2,3],.code Li]) (c :: cs)) w =
      .comm (G ((base 56).at ⟨Nq x.1.1.v.b x.1.1.v.k ρ.come ρ.gone,[]⟩ [.inRegion KP [0,1,2,3],.code Li]) (c :: cs)) (IG ρ x.1.1.v.k) true .select w #[]:=fun c cs w=>by
    rw[Y6];have h1:=hA.zi;have h2:=hA.zg;simp only[IG,h1,h2]
  have hcell:∀o v,W.cell? ⟨x.1.1.v.b,o,none⟩=some v->(sh W τ d).cell? ⟨x.1.1.v.b,o,none⟩=some v:=fun _ _ h=>h;have hm:∀{σ:Sg},m.Inv σ W->m.Inv σ (sh W τ d):=fun h=>m.eq _ W _ (fun b _=>.of rfl) h;have h':=h;unfold F9 at h';have hrec:qN x.1.1.v.k ({ z with over:=false }:Wk EP Cs) x.1.1.v.b own (sh W τ d):=⟨hA.zk,hA.co _ hA.cb,_,_,_,_,_,by have e2:=hA.zf;simp only at e2;simp only[e2];exact h,(hA.am.mono fun g hg=>⟨hA.co g hg.1,hg.2.1⟩).RN fun g _=>.of rfl⟩
  have hz':({ z with over:=false }:Wk EP Cs)=z:=by have e1:=hA.zo;simp only at e1;rw[← e1]
  have bV:({ k:=z.k,todo:=c :: l,cur:=z.cur,st:=z.st,bg:=z.bg,ow:=z.ow,out:=z.out,fell:=z.fell }:Wk EP Cs)=z:=by rw[← htd];exact hz'
  rw[bV]at MC;rw[hz']at hrec;refine SW.sit (M:=Fe D m) (own:=own) (pb:=pb') rfl (hsel _ _) (by rw[MC];exact hm hA.inv) hA.sh (by rw[MC];exact hrec) (hA.co _ hA.Qp) hA.o1 hA.o2 hA.o3 hA.Mc (fun e=>by rw[MC]at e;cases e) fun _=>⟨⟨hcell _ _ (by simp[World.cell?,h']),hcell _ _ (by simp[World.cell?,h']),hpc⟩,?_⟩
  have htw:#[.pointer (some ⟨x.1.1.v.b,0,none⟩)]++Array.replicate (Try.f57.ntmps-#[Value.pointer (some ⟨x.1.1.v.b,0,none⟩)].size) undef=#[.pointer (some ⟨x.1.1.v.b,0,none⟩),undef,undef,undef,undef,undef,undef,undef,undef,undef,undef,undef,undef,undef,undef,undef,undef,undef,undef,undef,undef,undef,undef]:=by
    have:Try.f57.ntmps=23:=by kernel_rfl
    rw[this];walk_nrm
  refine⟨?gs,fun v' hs home hh=>Qu fun Fh=>?sit,fun hsh=>?shut,?hold⟩
  case sit=>
    unfold IG;refine P5 ?_;rw[Frame.finish_at];walk_nrm;refine EU stepG_region_end ?_;rw[← hK];refine EO ?_;simp only[pb6,UO,Uf,Try.f30];refine JL.region (l:=[0,1]) rfl fun _ hk3=>?_;cases hk3
    refine JQ.load (.pointer (some ⟨x.1.1.v.b,0,none⟩)) rfl rfl nE (fun w hK=>by
      have h2:=hK.2.2;rw[hs.pb,hs.b]at h2;go_simp) (fun w hK e he=>by
      have h2:=hK.2.2;rw[hs.pb,hs.b]at h2;simp[go_sem,h2]at he;subst he;exact⟨_,rfl,.inr (.inr (by rw[hs.pb])),by unfold aT;rw[hs.pb];show pb'<_;omega⟩) ?_
    walk_nrm;refine JL.call rfl rfl nE rfl Try.func57 zKR QY ?_;rw[List.map_toArray];simp only[List.map_cons,List.map_nil,Act.eval,Array.getD_eq_getD_getElem?,List.getElem?_toArray,List.getElem?_cons_succ,List.getElem?_cons_zero,Option.getD_some];rw[htw,← hs.t,← hs.b];refine U7 hA.zi hA.zg ?_;rw[hs.t,hs.b];exact hh
  case shut=>exact QO (pK _ _)
  case hold=>
    intro r' hr v' hs t σ' W' y e1 e2 e3 NJ hn0 hH hI;have h2:F9 W' x.1.1.v.b x.1.1.v.k x.1.1.v.t ρ.come ρ.gone false z.st z.bg z.ow ans false false:=by unfold F9;rw[hH.own _ (hA.o1 _ hA.Mc)];exact h
    refine Tp h2 fun W'' h3 h4 h5=>?_;rw [Frame.finish_at];show JL (SW (Fe D m) ρ Try.prog).L y _ W'';walk_nrm;refine EU stepG_region_end ?_;rw [MC] at e2;have hso:v'.own=own:=hs.own;have hoth:∀ g,own g->g≠x.1.1.v.b->W''.heap[g]?=W.heap[g]?:=fun g hg hne=>(h4 g hne).trans (hH.own g hg);have hbS:¬ m.Sh x.1.1.v.b:=(hA.o3 _ (hA.co _ hA.cb)).2.1;refine hJ ⟨y,own,core,pb',z,true,ans⟩ t σ' W'' ?_ (by show y.1.1.v.h=_;rw [e1,hs.h]) (by show y.1.1.v.t=_;rw [e1,hs.t]) rfl rfl rfl (by show y.1.2+1=x.1.2;omega) e2 (fun g hg=>hoth g hg.1 hg.2) (by rw [h5];exact hH.size);exact {
            zi:=hA.zi,zg:=hA.zg,vb:=by show y.1.1.v.b=_;rw[e1,hs.b],vk:=by show y.1.1.v.k=_;rw[e1,hs.k]
            row:=by show F9 W'' _ _ y.1.1.v.t _ _ _ _ _ _ _ _ _;rw[e1,hs.t];exact h3
            zk:=hA.zk,zo:=hA.zo,zf:=hA.zf
            am:=hA.am.RN fun g hg=>.of (hoth g (hA.co g hg.1) hg.2.1)
            inv:=m.eq σ' W' W'' (fun g hg=>.of (h4 g fun e=>hbS (e ▸ hg))) hI
            sh:=fun g hg=>NJ.sh g hg,low:=fun g hg=>NJ.low g hg
            size:=by show y.1.1.n0<=_;rw[hn0,h5];exact Nat.le_refl _
            Xu:=fun g hg=>by
              show g<y.1.1.n0;have hg':own g:=by rw[← hso,← e1];exact hg
              obtain⟨_,_,c,e,f,hc⟩:=hA.o3 g hg';have:=(zGE hc).1;have h6:W.heap.size<=W'.heap.size:=hH.size;rw[hn0];omega
            cb:=hA.cb,Qp:=hA.Qp,co:=hA.co
            o1:=fun g hg=>by rw[← hso,← e1];exact hg
            o2:=fun g hg=>.inl (by show y.1.1.v.own g;rw[e1,hso];exact hg)
            o3:=fun g hg=>⟨NJ.own g (by rw[hso];exact hg),(hA.o3 g hg).2.1,by
              by_cases e:g=x.1.1.v.b
              . rw[e];exact⟨_,_,_,h3⟩
              . rw[hoth g hg e];exact(hA.o3 g hg).2.2⟩
            Mc:=by show y.1.1.v.own _;rw[e1,hso];exact hA.co _ hA.cb
            UR:=hA.UR
            pc:=by rw[cell_of (hoth pb' (hA.co _ hA.Qp) hA.UR)];exact hA.pc
            cap:=by simp at hcap ⊢;omega }
end
end
section
def Sl(wv dv cv:Value)(pb:Nat)(u7 u8 O7 GK Gi:Value)(tm:Array Value):Prop:=∃v9 Ae Af Ah Ai Aj Ak Al Am Ao Ap Ar Au Av Aw Ay Az AA AB AJ AL AO AP AQ AU AV AX AY AZ A8 A9 Ba Bb Bc Bf Bh Bj Bl Bp Bq Br Bu Bv Bw Bz BD BF BG BH BI BJ BK BL BM BN BO BP BQ BR BS BU BX BZ Ca Cb Cc Ce Cg Ci,tm=#[wv,dv,cv,.pointer (some ⟨pb,0,none⟩),undef,undef,undef,u7,u8,v9,O7,GK,Gi,Ae,Af,Ah,Ai,Aj,Ak,Al,Am,Ao,Ap,Ar,Au,Av,Aw,Ay,Az,AA,AB,AJ,AL,AO,AP,AQ,AU,AV,AX,AY,AZ,A8,A9,Ba,Bb,Bc,Bf,Bh,Bj,Bl,Bp,Bq,Br,Bu,Bv,Bw,Bz,BD,BF,BG,BH,BI,BJ,BK,BL,BM,BN,BO,BP,BQ,BR,BS,BU,BX,BZ,Ca,Cb,Cc,Ce,Cg,Ci]
section
variable {Cs Sg:Type}{D:Dr EP Cs Sg}{m:Mem Sg}{ρ:Rn}{b k:Nat}{cf:Frame}{fs:List Frame}{W:World}{σ:Sg}
variable {x:Wx (Wk EP Cs) Sg ρ}{own core:Nat->Prop}{pb:Nat}{z:Wk EP Cs}{ans:Value}{gr:Bool}{wv dv cv u7 u8 O7 GK Gi:Value}{ds:List Deferred}{K:List Item}
theorem F9.cells{W:World}{b k t co go:Nat}{gr:Bool}{st bg ow:Int}{ans:Value}{dn fl:Bool}(h:F9 W b k t co go gr st bg ow ans dn fl) :
  W.cell? ⟨b,5,none⟩=some (.bool gr)/\W.cell? ⟨b,6,none⟩=some (.int .i64 st)/\W.cell? ⟨b,7,none⟩=some (.int .i64 bg)/\W.cell? ⟨b,8,none⟩=some (.int .i64 ow)/\W.cell? ⟨b,9,none⟩=some ans/\W.cell? ⟨b,10,none⟩=some (.bool dn)/\W.cell? ⟨b,11,none⟩=some (.bool fl):=by
 unfold F9 at h;simp[World.cell?,h]
theorem FP{W W':World}(h:LT.Alike W W'):W'.heap=W.heap:=by obtain⟨τ,d,rfl⟩:=h;rfl
theorem Ki.alike{s:Gr EP Cs Sg ρ}{W':World}(h:Ki m b k s σ W)(hh:W'.heap=W.heap):Ki m b k s σ W':=by
  have hc:∀a,W'.cell? a=W.cell? a:=fun a=>by simp[World.cell?,hh]
  exact { h with row:=by have:=h.row;unfold F9 at this ⊢;rw [hh];exact this
                 am:=h.am.RN fun g _=>.of (by rw[hh])
                 inv:=m.eq σ W W' (fun g _=>.of (by rw[hh])) h.inv
                 size:=by rw[hh];exact h.size
                 o3:=fun g hg=>by rw[hh];exact h.o3 g hg
                 pc:=by rw[hc];exact h.pc }
theorem wT(hA:Ki m b k ⟨x,own,core,pb,z,true,ans⟩ σ W)(hcap:x.1.2+1<2 ^ 62){tm:Array Value}(hs:Sl wv dv cv pb u7 u8 O7 GK Gi tm)(hJ:∀W' tm',Sl wv dv cv pb u7 u8 O7 GK Gi tm'->Ki m b k ⟨x,own,core,pb,{ z with bg:=z.st,ow:=0 },true,ans⟩ σ W'->IU b W W'->JL (SW (Fe D m) ρ Try.prog).L x (G ((base 30).at ⟨tm',ds⟩ K) (cf :: fs)) W') :
  JL (SW (Fe D m) ρ Try.prog).L x (G ((base 30).at ⟨tm,ds⟩ (.code pb7 :: K)) (cf :: fs)) W:=by
 obtain⟨v9,Ae,Af,Ah,Ai,Aj,Ak,Al,Am,Ao,Ap,Ar,Au,Av,Aw,Ay,Az,AA,AB,AJ,AL,AO,AP,AQ,AU,AV,AX,AY,AZ,A8,A9,Ba,Bb,Bc,Bf,Bh,Bj,Bl,Bp,Bq,Br,Bu,Bv,Bw,Bz,BD,BF,BG,BH,BI,BJ,BK,BL,BM,BN,BO,BP,BQ,BR,BS,BU,BX,BZ,Ca,Cb,Cc,Ce,Cg,Ci,rfl⟩:=hs;refine Fp.Fz (S:=SW (Fe D m) ρ Try.prog) (b:=base 30) [] (by simp) zKR nE zKR fun EG ha=>?_;have hA1:=hA.alike (FP ha);obtain⟨c5,c6,c7,c8,c9,c10,c11⟩:=hA1.row.cells;have f7:EG.frozen? ⟨b,7,none⟩=false:=hA1.row.frozen;have f8:EG.frozen? ⟨b,8,none⟩=false:=hA1.row.frozen;have hpc:=hA1.pc;have HH:=Lib.hid (zAI hJ (zAI hA (zAI hA1 hcap)));clear hJ hA hA1 hcap;simp only at hpc c5 c6 c7 c8 c9 c10 c11;dsimp only;simp only[pb7,UO,Uf,Try.f30];gi_region
 obtain⟨hJ,hA,hA1,hcap⟩:=HH.out;clear HH;have hrow:=hA1.row;unfold F9 at hrow;generalize hW':World.setCell _ _ _=W';have hh:=FP ha;have ht:IU b W W'.drew:=⟨fun g hg=>by
  show W'.heap[g]?=_;rw[← hW',← hh];simp[World.setCell,Array.getElem?_modify,hg.symm],by
  show W'.heap.size=_;rw[← hW',← hh];simp[World.setCell]⟩
 refine hJ W'.drew _ ⟨_,_,_,_,_,_,_,_,_,_,_,_,_,_,_,_,_,_,_,_,_,_,_,_,_,_,_,_,_,_,_,_,_,_,_,_,_,_,_,_,_,_,_,_,_,_,_,_,_,_,_,_,_,_,_,_,_,_,_,_,_,_,_,_,_,_,_,_,_,rfl⟩ (hA.turn ?_ ht rfl rfl rfl rfl (by simp;omega)) ht;show W'.heap[b]?=_;rw[← hW'];simp[World.setCell,Array.getElem?_modify,hrow]
end
end
end Go.Proofs.Ytdkfdedgfilhbaa
namespace Go.LK
open Go Go.Conc Go.LT Go.LC
open Go.ConcN (WgLive)
open Go.ConcR (KK wgBlock WgAt stA smA rd wr mk)
section
variable {P:Program}{ρ:Rn}{m:Nat}{b:Frame}{a:Act}{k:List Item}{cs:List Frame}
theorem GU.c{f:Frame}{g':Goroutine}(h:∀{w},stepG P false (G f cs) w=.go g' w #[])(hJ:GU ρ P m g'):GU ρ P (m+1) (G f cs):=.ctl rfl (fun _ _=>h) hJ
theorem GU.op{ops:Array Oper}{i:Nat}{rest:List Nat}{o:Oper}(v:Value)(ho:ops[i]?=some o)(hw:Region.wanted o (yielded ops a.tmps)=true)(hk:b.kind≠.early)(hr:∀w,(execOp a.eval o).runT P w #[]=(.ok (.value v) w,#[]))(h:GU ρ P m (G (b.at (a.put o.dst v) (.inRegion ops rest :: k)) cs)):GU ρ P (m+1) (G (b.at a (.inRegion ops (i :: rest) :: k)) cs):=
 .ctl rfl (fun w _=>by rw[stepG_value ho hw hk (by rw[← Sem.runT_fst (es:=#[]),hr]),listed_none];show((execOp a.eval o).runT P w #[]).2=#[];rw[hr]) h
theorem GU.nop{ops:Array Oper}{i:Nat}{rest:List Nat}{o:Oper}(ho:ops[i]?=some o)(hw:Region.wanted o (yielded ops a.tmps)=true)(hk:b.kind≠.early)(hr:∀w,(execOp a.eval o).runT P w #[]=(.ok .skip w,#[]))(h:GU ρ P m (G (b.at (a.put o.dst undef) (.inRegion ops rest :: k)) cs)):GU ρ P (m+1) (G (b.at a (.inRegion ops (i :: rest) :: k)) cs):=
 .ctl rfl (fun w _=>by rw[stepG_none ho hw hk (by rw[← Sem.runT_fst (es:=#[]),hr]),listed_none];show((execOp a.eval o).runT P w #[]).2=#[];rw[hr]) h
theorem GU.up{g:Goroutine}(h:GU ρ P m g)(j:Nat):GU ρ P (m+j) g:=by
 induction j with
 | zero=>exact h
 | succ j ih=>exact fun w hl=>(ih w hl).more
theorem GU.reg{id:Nat}{ops:Array Oper}{l:List Nat}(hl:List.range ops.size=l)(h:GU ρ P m (G (b.at a (.inRegion ops l :: k)) cs)):GU ρ P (m+1) (G (b.at a (.code (.region id ops false) :: k)) cs):=
 .c (g':=G (b.at a (.inRegion ops (List.range ops.size) :: k)) cs) stepG_region (by rw[hl];exact h)
theorem WH{ty:TypeId}{Wg:Nat}{w:World}(o:Obj)(h:WgLive ty Wg w):WgLive ty Wg { w with heap:=w.heap.push o }:=by obtain⟨st,sm,h⟩:=h;refine⟨st,sm,?_⟩;unfold WgAt at h ⊢;have hlt:=(zGE h).1;show(w.heap.push o)[Wg]?=_;rw[Array.getElem?_push,if_neg zOM];exact h
theorem GU.lay{ops:Array Oper}{i:Nat}{rest:List Nat}{o:Oper}{ob:Obj}(hok:Rw ob)(ho:ops[i]?=some o)(hw:Region.wanted o (yielded ops a.tmps)=true)(hk:b.kind≠.early)(hr:∀w,(execOp a.eval o).runT P w #[]=(.ok (.value (.pointer (some ⟨w.heap.size,0,none⟩))) (w.alloc ob),#[]))(h:∀N,GU ρ P m (G (b.at (a.put o.dst (.pointer (some ⟨N,0,none⟩))) (.inRegion ops rest :: k)) cs)):GU ρ P (m+1) (G (b.at a (.inRegion ops (i :: rest) :: k)) cs):=fun w hl=>
 Goes.step rfl fun w₁ h₁=>by have hl₁:=h₁.live hl;rw[stepG_value ho hw hk (by rw[← Sem.runT_fst (es:=#[]),hr]),listed_none (by show((execOp a.eval o).runT P w₁ #[]).2=#[];rw[hr])];exact⟨⟨rfl,.inr ⟨ob,hok,rfl⟩⟩,h _ _ (WH ob hl₁)⟩
theorem GU.recover{ops:Array Oper}{i:Nat}{rest:List Nat}{o:Oper}{ats:Array TypeId}{c:Frame}{v:Value}{older:List PanicEntry}(ho:ops[i]?=some o)(hw:Region.wanted o (yielded ops a.tmps)=true)(hk:b.kind=.deferred)(hro:b.roundOf=none)(hop:o.op=.call { callee:=.builtin .recover,args:=#[],argTypes:=ats })(hc:c.mode=.panicking (⟨v,false,false⟩ :: older))(h:GU ρ P m (G (b.at (a.put o.dst v) (.inRegion ops rest :: k)) ({ c with mode:=.panicking (⟨v,true,false⟩ :: older) } :: cs))):GU ρ P (m+1) (G (b.at a (.inRegion ops (i :: rest) :: k)) (c :: cs)):=by
 refine .c ?_ h;intro w;rw[stepG_oper ho hw];have hr:(execOp a.eval o).runT P w #[]=(.ok .recover w,#[]):=by unfold execOp;simp only[hop];rfl
 have hfin:(b.at a (.inRegion ops (i :: rest) :: k)).finish v=b.at (a.put o.dst v) (.inRegion ops rest :: k):=by rw[Frame.finish_at,ho];rfl
 rw[← hfin];have hm:tryRecover (b.at a (.inRegion ops (i :: rest) :: k)) (c :: cs)=some (v,{ c with mode:=.panicking (⟨v,true,false⟩ :: older) } :: cs):=by unfold tryRecover;simp[Frame.at,hk,hc]
 have hse:seen P b.fn #[]=#[]:=seen_none P _;simp only[Frame.at,hk,hro]at hm hse;simp[stepG.apply,hr,G,Frame.at,hk,hro,GStep.after,hm,hse,-Sem.runT_eq]
theorem GU.pops{f:FuncId}{fn:Func}{tm:Array Value}{c:Frame}{ch:List PanicEntry}{κ:CallKind}(Ro:κ=.normal\/κ=.deferred)(hf:P.funcs[f]?=some fn)(h:GU ρ P m (G (c.raise ch) cs)):GU ρ P (m+1) (G (GH f tm k [] (.panicking ch) κ) (c :: cs)):=
 .ctl rfl (fun w _=>by rcases Ro with rfl | rfl<;>simp[G,GH,stepG,unwind,Frame.catches,hf]) h
theorem GU.raise{ops:Array Oper}{i:Nat}{rest:List Nat}{o:Oper}{v:Value}(ho:ops[i]?=some o)(hw:Region.wanted o (yielded ops a.tmps)=true)(hk:b.kind≠.early)(hr:∀w,(execOp a.eval o).runT P w #[]=(.halt (.panic v) w,#[]))(h:GU ρ P m (G ((b.at a (.inRegion ops (i :: rest) :: k)).raise [⟨v,false,false⟩]) cs)):GU ρ P (m+1) (G (b.at a (.inRegion ops (i :: rest) :: k)) cs):=
 .ctl rfl (fun w _=>by rw[PV (v:=v) ho hw hk (by rw[← Sem.runT_fst (es:=#[]),hr]),listed_none];show((execOp a.eval o).runT P w #[]).2=#[];rw[hr]) h
end
end Go.LK
namespace Go.Proofs.Ytdkfdedgfilhbaa
open Go Go.Conc Go.LT Go.LC Go.LK Go.RowKit
abbrev Xn:Value:=.iface 118 (.agg #[])
section
variable {ρ:Rn}{cf:Frame}{fs:List Frame}
theorem iQ(h:Wv ρ Try.prog 118 cf fs)(tm:Array Value)(k:List Item)(N:Nat):Wv ρ Try.prog 118 ((base 58).at ⟨tm,[Qm N]⟩ k) (cf :: fs):=by
 intro ch hch;obtain⟨older,hge,rfl⟩:=hch;obtain⟨m0,h0⟩:=h (⟨Xn,false,false⟩ :: ⟨Xn,true,false⟩ :: older) ⟨_,fun e he=>(List.mem_cons.1 he).elim (fun h=>by rw[h]) (hge e),rfl⟩;refine⟨m0+40,GU.ctl (g':=G (Frame.enter Try.prog 74 (#[]++#[.pointer (some ⟨N+2,0,none⟩),.pointer (some ⟨N,0,none⟩)]) .deferred) (GH 58 tm k [] (.panicking (⟨Xn,false,false⟩ :: older)) .normal :: cf :: fs)) rfl (fun w _=>?_) ?_⟩
 . have hc:(invoke (.fn (.func 74) #[.pointer (some ⟨N+2,0,none⟩),.pointer (some ⟨N,0,none⟩)]) #[]).runT Try.prog w #[]=(.ok (.enter 74 (#[]++#[.pointer (some ⟨N+2,0,none⟩),.pointer (some ⟨N,0,none⟩)])) w,#[]):=Kr Try.func74 zKR UN _ _ _;show stepG Try.prog false (G (GH 58 tm k [Qm N] (.panicking (⟨Xn,false,false⟩ :: older)) .normal) (cf :: fs)) w=_;simp[G,GH,stepG,unwind,callDeferred,Qm,hc,GStep.after,seen,-Sem.runT_eq]
 . rw[enter_atD _ Try.func74 UN];have ht:(#[]++#[.pointer (some ⟨N+2,0,none⟩),.pointer (some ⟨N,0,none⟩)]++Array.replicate (Try.f74.ntmps-((#[]++#[.pointer (some ⟨N+2,0,none⟩),.pointer (some ⟨N,0,none⟩)]:Array Value)).size) undef:Array Value)=#[.pointer (some ⟨N+2,0,none⟩),.pointer (some ⟨N,0,none⟩),undef,undef,undef,undef,undef,undef,undef,undef,undef,undef,undef,undef,undef,undef,undef,undef,undef]:=by
    have:Try.f74.ntmps=19:=by kernel_rfl
    rw[this];walk_nrm
   rw[ht];clear ht;refine GU.c stepG_seq ?_;simp only[dd0,Try.f74];refine GU.reg (l:=[0,1]) rfl ?_;refine GU.recover (v:=Xn) (older:=older) rfl rfl rfl rfl rfl rfl ?_;walk_nrm;refine GU.op Xn rfl rfl nE (fun _=>by kernel_rfl) ?_;walk_nrm;refine GU.c stepG_region_end ?_;simp only[dd1,Try.f74];refine GU.c stepG_seq ?_;refine GU.c stepG_seq ?_;refine GU.reg (l:=[0,1,2,3,4,5,6,7]) rfl ?_;refine GU.op Xn rfl rfl nE (fun _=>by kernel_rfl) ?_;walk_nrm;refine GU.op (.tuple #[.agg #[],.bool true]) rfl rfl nE (fun _=>by kernel_rfl) ?_;walk_nrm;refine GU.op (.tuple #[.agg #[],.bool true]) rfl rfl nE (fun _=>by kernel_rfl) ?_;walk_nrm;refine GU.op (.agg #[]) rfl rfl nE (fun _=>by kernel_rfl) ?_;walk_nrm;refine GU.op (.bool true) rfl rfl nE (fun _=>by kernel_rfl) ?_;walk_nrm;refine GU.lay (ob:=.cells #[] 118 (0,0)) trivial rfl rfl nE (fun _=>by kernel_rfl) fun N'=>?_;walk_nrm
   refine GU.nop rfl rfl nE (fun _=>by kernel_rfl) ?_;walk_nrm;refine GU.op (.bool true) rfl rfl nE (fun _=>by kernel_rfl) ?_;walk_nrm;refine GU.c stepG_region_end ?_;refine GU.c stepG_seq ?_;refine GU.reg (l:=[0]) rfl ?_;refine GU.op (.bool true) rfl rfl nE (fun _=>by kernel_rfl) ?_;walk_nrm;refine GU.c stepG_region_end ?_;refine GU.c (stepG_cond rfl) ?_;refine GU.reg (l:=[0,1]) rfl ?_;refine GU.op Xn rfl rfl nE (fun _=>by kernel_rfl) ?_;walk_nrm;refine GU.raise (v:=Xn) rfl rfl nE (fun _=>by kernel_rfl) ?_;refine GU.pops (f:=74) (ch:=[⟨Xn,false,false⟩]) (.inr rfl) Try.func74 ?_;refine GU.pops (f:=58) (ch:=⟨Xn,false,false⟩ :: ⟨Xn,true,false⟩ :: older) (.inl rfl) Try.func58 ?_;exact GU.up h0 12
end
end Go.Proofs.Ytdkfdedgfilhbaa
namespace Go.Proofs.Ytdkfdedgfilhbaa
open Go Go.Conc Go.LT Go.LC Go.LK Go.RowKit
open Go.ConcN (WgLive)
section
section
variable {Cs Sg:Type}{D:Dr EP Cs Sg}{m:Mem Sg}{ρ:Rn}{b k:Nat}{cf:Frame}{fs:List Frame}{W:World}{σ:Sg}
variable {x:Wx (Wk EP Cs) Sg ρ}{own core:Nat->Prop}{pb:Nat}{z:Wk EP Cs}{ans:Value}{gr:Bool}{wv dv cv u7 u8 O7 GK Gi:Value}{ds:List Deferred}{K:List Item}
theorem Ki.other{s:Gr EP Cs Sg ρ}{W':World}(h:Ki m b k s σ W)(hh:∀g,s.own g\/m.Sh g->W'.heap[g]?=W.heap[g]?)(hs:W.heap.size<=W'.heap.size):Ki m b k s σ W':=by
  exact { h with row:=by have:=h.row;unfold F9 at this ⊢;rw [hh b (.inl (h.co b h.cb))];exact this
                 am:=h.am.RN fun g hg=>.of (hh g (.inl (h.co g hg.1)))
                 inv:=m.eq σ W W' (fun g hg=>.of (hh g (.inr hg))) h.inv
                 size:=Nat.le_trans h.size hs
                 o3:=fun g hg=>by rw[hh g (.inl hg)];exact h.o3 g hg
                 pc:=by rw[cell_of (hh s.pb (.inl (h.co _ h.Qp)))];exact h.pc }
theorem Ki.lt{s:Gr EP Cs Sg ρ}(h:Ki m b k s σ W){g:Nat}(hg:s.own g\/m.Sh g):g<W.heap.size:=by
 rcases hg with hg|hg
 . obtain⟨_,_,c,e,f,hc⟩:=h.o3 g hg;exact(zGE hc).1
 . obtain⟨c,e,f,hc⟩:=m.rows σ W g hg h.inv;exact(zGE hc).1
theorem rJ {s:Gr EP Cs Sg ρ}{recv:Value}{Qb:FuncId}(hD:P9 (KO D m ρ b k) dv Qb recv)(hdv:∃ t v,dv=.iface t v)(pK:∀ tm K,Wv ρ Try.prog 118 ((base 30).at ⟨tm,ds⟩ K) (cf :: fs))(hA:Ki m b k s σ W)(hpb:s.pb=pb){c:EP}{N7:Nat}{pa:Option Addr}{pn pc:Nat}(hB:(KO D m ρ b k).Pf s σ c)(h7:W.heap[N7]?=some (.cells #[.int .i64 c.kind,.int .i64 c.a,.int .i64 c.b,.int .i64 c.c,.slice pa pn pc] 44 (0,0))){tm:Array Value}(hs:Sl wv dv cv pb (.pointer (some ⟨N7,0,none⟩)) u8 O7 GK Gi tm)(hwv:wv=.pointer (some ⟨b,0,none⟩))(hJ:∀ s' σ' W' e iv N8 tm',Sl wv dv cv pb (.pointer (some ⟨N7,0,none⟩)) (.pointer (some ⟨N8,0,none⟩)) O7 GK Gi tm'->Ki m b k s' σ' W'->PLe s s'->(∀ g,s.own g/\g≠b->W'.heap[g]?=W.heap[g]?)->(KO D m ρ b k).End s' σ' (e,false)->GQ W' (fun g=>(s'.own g/\g≠b)/\¬ (s.own g/\g≠b)) iv e.ints->
      ¬ (s'.own N8\/m.Sh N8)->W'.heap[N8]?=some (.cells #[.int .i64 0,.int .i64 0,.int .i64 0,.bool e.ok,.int .i64 e.n,.int .i64 e.m,.int .i64 e.err,iv,.slice none 0 0] 42 (0,0))->W.heap.size<=W'.heap.size->
      JL (SW (Fe D m) ρ Try.prog).L s'.x (G ((base 30).at ⟨tm',ds⟩ K) (cf :: fs)) W') :
    JL (SW (Fe D m) ρ Try.prog).L s.x (G ((base 30).at ⟨tm,ds⟩ (.code pb8 :: K)) (cf :: fs)) W:=by
  obtain⟨v9,Ae,Af,Ah,Ai,Aj,Ak,Al,Am,Ao,Ap,Ar,Au,Av,Aw,Ay,Az,AA,AB,AJ,AL,AO,AP,AQ,AU,AV,AX,AY,AZ,A8,A9,Ba,Bb,Bc,Bf,Bh,Bj,Bl,Bp,Bq,Br,Bu,Bv,Bw,Bz,BD,BF,BG,BH,BI,BJ,BK,BL,BM,BN,BO,BP,BQ,BR,BS,BU,BX,BZ,Ca,Cb,Cc,Ce,Cg,Ci,rfl⟩:=hs;subst hwv;subst hpb;have hpc:=hA.pc;dsimp only;simp only[pb8,UO,Uf,Try.f30];refine E9 fun _ hkk=>?_;refine Fp.read (S:=SW (Fe D m) ρ Try.prog) (ad:=⟨s.pb,0,none⟩) (.pointer (some ⟨b,0,none⟩)) rfl rfl nE hpc (fun w h=>by go_simp) (fun w h e he=>by simp[go_sem,h]at he;exact he) ?_;walk_nrm
  (refine ET ?_;walk_nrm)
  refine Fp.Kk (S:=SW (Fe D m) ρ Try.prog) (b:=base 30) 2 1 [] (by simp) zKR nE (rest:=[3,4,5]) rfl zKR fun EG ha=>?_;have hh:=FP ha;have hA1:=hA.alike hh;rw[← hh]at h7;dsimp only[List.drop,List.take];have c0:EG.cell? ⟨N7,0,none⟩=some (.int .i64 c.kind):=by simp[World.cell?,h7]
  have c1:EG.cell? ⟨N7,1,none⟩=some (.int .i64 c.a):=by simp[World.cell?,h7]
  have c2:EG.cell? ⟨N7,2,none⟩=some (.int .i64 c.b):=by simp[World.cell?,h7]
  have c3:EG.cell? ⟨N7,3,none⟩=some (.int .i64 c.c):=by simp[World.cell?,h7]
  have c4:EG.cell? ⟨N7,4,none⟩=some (.slice pa pn pc):=by simp[World.cell?,h7]
  have HH:=Lib.hid (zAI hJ (zAI hA1 (zAI hB (zAI hh hA))));clear hJ hA hA1 hB hh h7 hpc;gi_wp2;refine⟨rfl,?_⟩;obtain⟨hJ,hA1,hB,hh,hA⟩:=HH.out;clear HH c0 c1 c2 c3 c4;show JL (SW (Fe D m) ρ Try.prog).L s.x _ EG;dsimp only;refine JL.enter rfl rfl nE rfl Try.func58 zKR zKR ?_;rw[List.map_toArray];simp only[List.map_cons,List.map_nil,Act.eval,Array.getD_eq_getD_getElem?,List.getElem?_toArray,List.getElem?_cons_succ,List.getElem?_cons_zero,Option.getD_some];refine ZV (KO D m ρ b k) hD (c:=c) (pv:=.slice pa pn pc) hA1 hB ⟨_,rfl⟩ ⟨pa,pn,pc,rfl⟩ hdv (fun tm k N _=>iQ (pK _ _) tm k N) fun s' σ' W' e iv a1 a2 a3 a4=>?_;rw[Frame.finish_at];have a1':Ki m b k s' σ' W':=a1;have hle:PLe s s':=a2.le;have hkp:∀g,s.own g/\g≠b->W'.heap[g]?=W.heap[g]?:=fun g hg=>(a2.kept g hg).2.trans (by rw[hh]);obtain⟨O6,en,em,Im,MH⟩:=e
  obtain⟨io,il,ic,rfl⟩:=OH a4;have hsz:W.heap.size<=W'.heap.size:=by have:=a2.size;rw[hh]at this;exact this
  have HH:=Lib.hid (zAI hJ (zAI a1' (zAI hle (zAI hkp (zAI a3 (zAI a4 hsz))))));clear hJ a1' hle hkp a3 a4 hsz a1 a2 hA1 hB hh hA;show JL (SW (Fe D m) ρ Try.prog).L s'.x _ W';walk_nrm;unfold MN;refine Fp.Gs (S:=SW (Fe D m) ρ Try.prog) (b:=base 30) 4 [] (by simp) zKR nE rfl zKR fun W3 Lm=>?_;dsimp only[List.drop];gi_wp2;refine⟨rfl,?_⟩;obtain⟨hJ,a1,hle,hkp,a3,a4,hsz⟩:=HH.out;clear HH;have hh3:=FP Lm;have hb3:∀g,g<W'.heap.size->(W3.alloc (.cells #[.int .i64 0,.int .i64 0,.int .i64 0,.bool O6,.int .i64 en,.int .i64 em,.int .i64 Im,.slice io il ic,.slice none 0 0] 42)).heap[g]?=W'.heap[g]?:=fun g hg=>by rw[Below.heap_alloc _ _ _ (by rw[hh3];exact hg),hh3]
  have a5:=a1.other (W':=W3.alloc (.cells #[.int .i64 0,.int .i64 0,.int .i64 0,.bool O6,.int .i64 en,.int .i64 em,.int .i64 Im,.slice io il ic,.slice none 0 0] 42)) (fun g hg=>hb3 g (a1.lt hg)) (by simp[hh3]);show JL (SW (Fe D m) ρ Try.prog).L s'.x _ _;refine E5 ?_;cases hkk;refine hJ s' σ' _ ⟨O6,en,em,Im,MH⟩ (.slice io il ic) W3.heap.size _ ⟨_,_,_,_,_,_,_,_,_,_,_,_,_,_,_,_,_,_,_,_,_,_,_,_,_,_,_,_,_,_,_,_,_,_,_,_,_,_,_,_,_,_,_,_,_,_,_,_,_,_,_,_,_,_,_,_,_,_,_,_,_,_,_,_,_,_,_,_,_,rfl⟩ a5 hle (fun g hg=>(hb3 g (a1.lt (.inl (hle.own g hg.1)))).trans (hkp g hg)) a3 (a4.RN fun g hg=>.of (hb3 g (a1.lt (.inl hg.1.1)))) (fun h=>?_) (heap_alloc_new _ _) (by simp[hh3];omega);have:=a1.lt h;rw[hh3]at this;exact Nat.lt_irrefl _ this
end
end
section
def p9:Code:=match aP with | .seq c _=>c | _=>.skip
def p12:Code:=match aP with | .seq _ (.seq c _)=>c | _=>.skip
def p13:Code:=match aP with | .seq _ (.seq _ (.seq c _))=>c | _=>.skip
def p14:Code:=match aP with | .seq _ (.seq _ (.seq _ (.seq c _)))=>c | _=>.skip
def p15:Code:=match aP with | .seq _ (.seq _ (.seq _ (.seq _ c)))=>c | _=>.skip
theorem vP:aP=.seq p9 (.seq p12 (.seq p13 (.seq p14 p15))):=rfl
section
variable {Cs Sg:Type}{D:Dr EP Cs Sg}{m:Mem Sg}{ρ:Rn}{b k:Nat}{cf:Frame}{fs:List Frame}{W:World}{σ:Sg}
variable {x:Wx (Wk EP Cs) Sg ρ}{own core:Nat->Prop}{pb:Nat}{z:Wk EP Cs}{ans:Value}{gr:Bool}{wv dv cv u7 u8 O7 GK Gi:Value}{ds:List Deferred}{K:List Item}
theorem tu(hA:Ki m b k ⟨x,own,core,pb,z,gr,ans⟩ σ W){tm:Array Value}(hs:Sl wv dv cv pb u7 u8 O7 GK Gi tm)(hJ:∀W' tm',Sl wv dv cv pb u7 u8 O7 GK Gi tm'->Ki m b k ⟨x,own,core,pb,Gr.up ⟨x,own,core,pb,z,gr,ans⟩,false,ans⟩ σ W'->IU b W W'->JL (SW (Fe D m) ρ Try.prog).L x (G ((base 30).at ⟨tm',ds⟩ K) (cf :: fs)) W') :
  JL (SW (Fe D m) ρ Try.prog).L x (G ((base 30).at ⟨tm,ds⟩ (.code p9 :: K)) (cf :: fs)) W:=by
 obtain⟨v9,Ae,Af,Ah,Ai,Aj,Ak,Al,Am,Ao,Ap,Ar,Au,Av,Aw,Ay,Az,AA,AB,AJ,AL,AO,AP,AQ,AU,AV,AX,AY,AZ,A8,A9,Ba,Bb,Bc,Bf,Bh,Bj,Bl,Bp,Bq,Br,Bu,Bv,Bw,Bz,BD,BF,BG,BH,BI,BJ,BK,BL,BM,BN,BO,BP,BQ,BR,BS,BU,BX,BZ,Ca,Cb,Cc,Ce,Cg,Ci,rfl⟩:=hs;refine Fp.Fz (S:=SW (Fe D m) ρ Try.prog) (b:=base 30) [] (by simp) zKR nE zKR fun EG ha=>?_;have hA1:=hA.alike (FP ha);obtain⟨c5,c6,c7,c8,c9,c10,c11⟩:=hA1.row.cells;have f5:EG.frozen? ⟨b,5,none⟩=false:=hA1.row.frozen;have f8:EG.frozen? ⟨b,8,none⟩=false:=hA1.row.frozen;have hpc:=hA1.pc;have hcap:=hA.cap;simp only at hpc c5 c6 c7 c8 c9 c10 c11 hcap;dsimp only;simp only[p9,aP,UO,Uf,Try.f30];have hh:=FP ha;cases gr with
 | false=>
  have HH:=Lib.hid (zAI hJ (zAI hA1 hh));clear hJ hA hA1 hcap hh;gi_wp2;obtain⟨hJ,hA1,hh⟩:=HH.out;exact hJ EG _ ⟨_,_,_,_,_,_,_,_,_,_,_,_,_,_,_,_,_,_,_,_,_,_,_,_,_,_,_,_,_,_,_,_,_,_,_,_,_,_,_,_,_,_,_,_,_,_,_,_,_,_,_,_,_,_,_,_,_,_,_,_,_,_,_,_,_,_,_,_,_,rfl⟩ hA1 ⟨fun g _=>by rw[hh],by rw[hh]⟩
 | true=>
  have hw:RowKit.wrap64 ((z.ow:Int)+1)=((z.ow+1:Nat):Int):=Lp (by simp at hcap;omega);have hl1:(-9223372036854775808:Int)<=(z.ow:Int)+1:=by omega
  have hl2:(z.ow:Int)+1<=9223372036854775807:=by simp at hcap;omega
  have HH:=Lib.hid (zAI hJ (zAI hA (zAI hA1 (zAI hcap (zAI hh hw)))));clear hJ hA hA1 hcap hh hw;gi_wp2;obtain⟨hJ,hA,hA1,hcap,hh,hw⟩:=HH.out;clear HH;have hrow:=hA1.row;unfold F9 at hrow;generalize hW':World.setCell _ _ _=W';have ht:IU b W W':=⟨fun g hg=>by rw[← hW',← hh];simp[World.setCell,Array.getElem?_modify,hg.symm],by rw[← hW',← hh];simp[World.setCell]⟩
  refine hJ W' _ ⟨_,_,_,_,_,_,_,_,_,_,_,_,_,_,_,_,_,_,_,_,_,_,_,_,_,_,_,_,_,_,_,_,_,_,_,_,_,_,_,_,_,_,_,_,_,_,_,_,_,_,_,_,_,_,_,_,_,_,_,_,_,_,_,_,_,_,_,_,_,rfl⟩ (hA.turn (gr':=false) ?_ ht rfl rfl rfl rfl (by simp[Gr.up]at hcap ⊢;omega)) ht;show W'.heap[b]?=_;rw[← hW'];simp[World.setCell,Array.getElem?_modify,hrow,Gr.up]
theorem mJ(hA:Ki m b k ⟨x,own,core,pb,z,gr,ans⟩ σ W){N8:Nat}{q0 q1 q2 q3 q4 q5 q6 q7 q8:Value}(h8:W.heap[N8]?=some (.cells #[q0,q1,q2,q3,q4,q5,q6,q7,q8] 42 (0,0)))(hN:¬ (own N8\/m.Sh N8)){tm:Array Value}(hs:Sl wv dv cv pb u7 (.pointer (some ⟨N8,0,none⟩)) O7 GK Gi tm)(hJ:∀W' tm',Sl wv dv cv pb u7 (.pointer (some ⟨N8,0,none⟩)) O7 GK Gi tm'->Ki m b k ⟨x,own,core,pb,z,gr,ans⟩ σ W'->W'.heap[N8]?=some (.cells #[.int .i64 z.bg,.int .i64 z.st,.int .i64 z.ow,q3,q4,q5,q6,q7,q8] 42 (0,0))->IU N8 W W'->JL (SW (Fe D m) ρ Try.prog).L x (G ((base 30).at ⟨tm',ds⟩ K) (cf :: fs)) W') :
  JL (SW (Fe D m) ρ Try.prog).L x (G ((base 30).at ⟨tm,ds⟩ (.code p12 :: K)) (cf :: fs)) W:=by
 obtain⟨v9,Ae,Af,Ah,Ai,Aj,Ak,Al,Am,Ao,Ap,Ar,Au,Av,Aw,Ay,Az,AA,AB,AJ,AL,AO,AP,AQ,AU,AV,AX,AY,AZ,A8,A9,Ba,Bb,Bc,Bf,Bh,Bj,Bl,Bp,Bq,Br,Bu,Bv,Bw,Bz,BD,BF,BG,BH,BI,BJ,BK,BL,BM,BN,BO,BP,BQ,BR,BS,BU,BX,BZ,Ca,Cb,Cc,Ce,Cg,Ci,rfl⟩:=hs;refine Fp.Fz (S:=SW (Fe D m) ρ Try.prog) (b:=base 30) [] (by simp) zKR nE zKR fun EG ha=>?_;have hh:=FP ha;have hA1:=hA.alike hh;rw[← hh]at h8;obtain⟨c5,c6,c7,c8,c9,c10,c11⟩:=hA1.row.cells;have hpc:=hA1.pc;have e0:EG.cell? ⟨N8,0,none⟩=some q0:=by simp[World.cell?,h8]
 have e1:EG.cell? ⟨N8,1,none⟩=some q1:=by simp[World.cell?,h8]
 have e2:EG.cell? ⟨N8,2,none⟩=some q2:=by simp[World.cell?,h8]
 have f0:EG.frozen? ⟨N8,0,none⟩=false:=by simp[World.frozen?,h8]
 have f1:EG.frozen? ⟨N8,1,none⟩=false:=by simp[World.frozen?,h8]
 have f2:EG.frozen? ⟨N8,2,none⟩=false:=by simp[World.frozen?,h8]
 have hne1:b≠N8:=fun e=>hN (.inl (e ▸ hA.co b hA.cb));have hne2:pb≠N8:=fun e=>hN (.inl (e ▸ hA.co pb hA.Qp));have HH:=Lib.hid (zAI hJ (zAI hA (zAI hN (zAI hh h8))));clear hJ hA hA1 hN hh h8;simp only at hpc c5 c6 c7 c8 c9 c10 c11;dsimp only;simp only[p12,aP,UO,Uf,Try.f30];gi_region
 obtain⟨hJ,hA,hN,hh,h8⟩:=HH.out;clear HH;generalize hW':World.setCell _ _ _=W';have ht:IU N8 W W'.drew:=⟨fun g hg=>by
  show W'.heap[g]?=_;rw[← hW',← hh];simp[World.setCell,Array.getElem?_modify,hg.symm],by
  show W'.heap.size=_;rw[← hW',← hh];simp[World.setCell]⟩
 refine hJ W'.drew _ ⟨_,_,_,_,_,_,_,_,_,_,_,_,_,_,_,_,_,_,_,_,_,_,_,_,_,_,_,_,_,_,_,_,_,_,_,_,_,_,_,_,_,_,_,_,_,_,_,_,_,_,_,_,_,_,_,_,_,_,_,_,_,_,_,_,_,_,_,_,_,rfl⟩ (hA.other (fun g hg=>ht.other g fun e=>hN (e ▸ hg)) (Nat.le_of_eq ht.size.symm)) ?_ ht;show W'.heap[N8]?=_;rw[← hW'];simp[World.setCell,Array.getElem?_modify,h8]
end
end
end Go.Proofs.Ytdkfdedgfilhbaa
namespace Go.LT
open Go Go.Conc
section
section
variable {md:Region.Mode}{ops Ji:Array Oper}{N:Nat}
def Down(md:Region.Mode)(ops:Array Oper)(listed:Array Bool):Prop:=∀(i:Nat) (o:Oper),ops[i]?=some o->listed[i]?=some true->∀e∈o.after,Region.binds md e=true->listed[e.on]?=some true
theorem JM{l:Array Bool}{i:Nat}:l.getD i false=true↔l[i]?=some true:=by
 rw[Array.getD_eq_getD_getElem?];cases l[i]? with
 | none=>simp
 | some b=>simp
theorem Hf{l:Array Bool}{i:Nat}:l.getD i true=false↔l[i]?=some false:=by
 rw[Array.getD_eq_getD_getElem?];cases l[i]? with
 | none=>simp
 | some b=>simp
theorem Y4{ops:Array Oper}{fuel t:Nat}{listed:Array Bool}{acc:List Nat}(h:Region.ready md ops listed=[]):Region.linearise.go md ops fuel t listed acc=acc.reverse:=by
 cases fuel with
 | zero=>simp[Region.linearise.go]
 | succ fuel=>
  simp only[Region.linearise.go];change(match(Region.ready md ops listed)[t % (Region.ready md ops listed).length]? with
   | some i=>Region.linearise.go md ops fuel (t / (Region.ready md ops listed).length) (listed.setIfInBounds i true) (i :: acc)
   | none=>acc.reverse)=_
  rw[h];rfl
theorem Qw{ops:Array Oper}{fuel t i:Nat}{listed:Array Bool}{acc:List Nat}(h:(Region.ready md ops listed)[t % (Region.ready md ops listed).length]?=some i) :
  Region.linearise.go md ops (fuel+1) t listed acc=Region.linearise.go md ops fuel (t / (Region.ready md ops listed).length) (listed.setIfInBounds i true) (i :: acc):=by
 simp only[Region.linearise.go];change(match(Region.ready md ops listed)[t % (Region.ready md ops listed).length]? with
  | some i=>Region.linearise.go md ops fuel (t / (Region.ready md ops listed).length) (listed.setIfInBounds i true) (i :: acc)
  | none=>acc.reverse)=_
 rw[h]
theorem Qr{l:Array Bool}{i:Nat}(h:i<l.size):l[i]?=some true\/l[i]?=some false:=by rw[Array.getElem?_eq_getElem h];cases l[i]<;>simp
theorem QV{listed:Array Bool}(hs:ops.size=N+1)(Kt:∀(i:Nat) (o:Oper),ops[i]?=some o->∀e∈o.after,e.on<i)(h1:listed.size=N+1)(h4:listed[N]?=some false)(hall:∀i,i<N->listed[i]?=some true):Region.ready md ops listed=[N]:=by
 unfold Region.ready;rw[hs,List.range_succ,List.filter_append];have e1:List.filter (fun i=>!listed.getD i true&&((ops[i]?).map (·.after.all fun e=>!Region.binds md e||listed.getD e.on false)).getD false) (List.range N)=[]:=by refine List.filter_eq_nil_iff.2 fun i hi hp=>?_;rw[List.mem_range]at hi;have:=JM.2 (hall i hi);simp only[Bool.and_eq_true,Bool.not_eq_true']at hp;have h2:=Hf.1 hp.1;rw[hall i hi]at h2;cases h2
 rw[e1,List.nil_append,List.filter_cons,List.filter_nil,if_pos];have ho:ops[N]?=some (ops[N]'zOM):=Array.getElem?_eq_getElem zOM;rw[ho,Hf.2 h4];simp only[Bool.not_false,Bool.true_and,Option.map_some,Option.getD_some];rw[Array.all_eq_true'];intro e he;rw[JM.2 (hall _ (Kt N _ ho e he))]
 simp
theorem lU(hs:ops.size=N+1)(hs0:Ji.size=N)(hop:∀i,i<N->Ji[i]?=ops[i]?)(Kt:∀(i:Nat) (o:Oper),ops[i]?=some o->∀e∈o.after,e.on<i)(hcl:∀listed:Array Bool,listed.size=N+1->Down md ops listed->N∈Region.ready md ops listed->∀i,i<N->listed[i]?=some true) :
  ∀(fuel t:Nat) (listed Ja:Array Bool) (acc:List Nat),listed.size=N+1->Ja.size=N->(∀i,i<N->Ja[i]?=listed[i]?)->listed[N]?=some false->Down md ops listed->
    (∃l:List Nat,l.length<=fuel/\∀i,i<N->listed[i]?=some false->i∈l)->
    Region.linearise.go md ops (fuel+1) t listed acc=Region.linearise.go md Ji fuel t Ja acc++[N]:=by
 intro fuel;induction fuel with
 | zero=>
  intro t listed Ja acc h1 h2 h3 h4 h5 ⟨l,hl,hu⟩;have hall:∀i,i<N->listed[i]?=some true:=fun i hi=>by
    rcases Qr (show i<listed.size by omega)with hb|hb
    . exact hb
    . have:=hu i hi hb;rw[List.length_eq_zero_iff.1 (Nat.le_zero.1 hl)]at this;cases this
  have hr:=QV (md:=md) hs Kt h1 h4 hall;rw[Qw (i:=N) (by rw[hr];simp[Nat.mod_one])];simp[Region.linearise.go]
 | succ fuel ih=>
  intro t listed Ja acc h1 h2 h3 h4 h5 ⟨l,hl,hu⟩;by_cases hall:∀i,i<N->listed[i]?=some true
  . have hr:=QV (md:=md) hs Kt h1 h4 hall;have hr0:Region.ready md Ji Ja=[]:=by
      refine List.eq_nil_iff_forall_not_mem.2 fun i hi=>?_;obtain⟨h,o,ho,_⟩:=mem_ready.1 hi;have hlt:i<N:=by rw[← hs0];exact(zGE ho).1
      rw[Hf,h3 i hlt,hall i hlt]at h;cases h
    rw[Qw (i:=N) (by rw[hr];simp[Nat.mod_one]),Y4 hr0,Y4 (by
      refine List.eq_nil_iff_forall_not_mem.2 fun i hi=>?_;obtain⟨h,o,ho,_⟩:=mem_ready.1 hi;have hlt:i<N+1:=by rw[← hs];exact(zGE ho).1
      rw[Hf]at h;by_cases e:i=N
      . subst e;rw[Array.getElem?_setIfInBounds_self_of_lt zOM]at h;cases h
      . rw[Array.getElem?_setIfInBounds_ne (fun z=>e z.symm),hall i zOM]at h;cases h)]
    simp
  . have hN:N∉Region.ready md ops listed:=fun h=>hall (hcl listed h1 h5 h);have hrr:Region.ready md ops listed=Region.ready md Ji Ja:=by
      unfold Region.ready;rw[hs,hs0,List.range_succ,List.filter_append];have e1:List.filter (fun i=>!listed.getD i true&&((ops[i]?).map (·.after.all fun e=>!Region.binds md e||listed.getD e.on false)).getD false) [N]=[]:=by refine List.filter_eq_nil_iff.2 fun i hi hp=>?_;rw[List.mem_singleton]at hi;subst hi;refine hN ?_;unfold Region.ready;rw[List.mem_filter];exact⟨by rw[List.mem_range,hs];omega,hp⟩
      rw[e1,List.append_nil];refine List.filter_congr fun i hi=>?_;rw[List.mem_range]at hi;rw[hop i hi];have e2:Ja.getD i true=listed.getD i true:=by rw[Array.getD_eq_getD_getElem?,Array.getD_eq_getD_getElem?,h3 i hi]
      rw[e2]
      congr 1
      cases ho:ops[i]? with
      | none=>rfl
      | some o=>
        simp only[Option.map_some,Option.getD_some];rw[Bool.eq_iff_iff,Array.all_eq_true',Array.all_eq_true'];have key:∀e∈o.after,Ja.getD e.on false=listed.getD e.on false:=fun e he=>by have:=Kt i o ho e he;rw[Array.getD_eq_getD_getElem?,Array.getD_eq_getD_getElem?,h3 e.on zOM]
        exact⟨fun h e he=>by rw[key e he];exact h e he,fun h e he=>by rw[← key e he];exact h e he⟩
    have hex:∀i,i<N->listed[i]?=some false->∃j,j∈Region.ready md ops listed:=by
      intro i;induction i using Nat.strongRecOn with
      | _ i ihi=>
        intro hi hb;have hlt:i<ops.size:=by omega
        have ho:ops[i]?=some ops[i]:=Array.getElem?_eq_getElem hlt;by_cases hd:∀e∈ops[i].after,listed[e.on]?=some true
        . exact⟨i,mem_ready.2 ⟨Hf.2 hb,_,ho,fun e he _=>JM.2 (hd e he)⟩⟩
        . obtain⟨e,he,hd⟩:∃e,e∈ops[i].after/\¬ listed[e.on]?=some true:=Classical.byContradiction fun hc=>hd fun e he=>Classical.byContradiction fun h=>hc ⟨e,he,h⟩;have hlt2:=Kt i _ ho e he;rcases Qr (show e.on<listed.size by omega)with hb'|hb'
          . exact absurd hb' hd
          . exact ihi e.on hlt2 zOM hb'
    obtain⟨i0,hi0⟩:∃i0,i0<N/\listed[i0]?=some false:=by
      obtain⟨i,hi,hb⟩:∃i,i<N/\¬ listed[i]?=some true:=Classical.byContradiction fun hc=>hall fun i hi=>Classical.byContradiction fun h=>hc ⟨i,hi,h⟩;rcases Qr (show i<listed.size by omega)with hb'|hb'
      . exact absurd hb' hb
      . exact⟨i,hi,hb'⟩
    obtain⟨j0,hj0⟩:=hex i0 hi0.1 hi0.2;have hpos:0<(Region.ready md ops listed).length:=List.length_pos_of_mem hj0;have hlt:=Nat.mod_lt t hpos;have hget:(Region.ready md ops listed)[t % (Region.ready md ops listed).length]?=some (Region.ready md ops listed)[t % (Region.ready md ops listed).length]:=List.getElem?_eq_getElem hlt;generalize hj:(Region.ready md ops listed)[t % (Region.ready md ops listed).length]=j at hget;have hmem:j∈Region.ready md ops listed:=List.mem_of_getElem? hget;obtain⟨hju,o,ho,hod⟩:=mem_ready.1 hmem;have hjN:j<N:=by
      have:j<N+1:=by rw[← hs];exact(zGE ho).1
      have:j≠N:=fun e=>hN (e ▸ hmem);omega
    have yN:(Region.ready md Ji Ja)[t % (Region.ready md Ji Ja).length]?=some j:=by rw[← hrr];exact hget
    rw[Qw (fuel:=fuel+1) (acc:=acc) hget,Qw (fuel:=fuel) (acc:=acc) yN,← hrr];refine ih _ (listed.setIfInBounds j true) (Ja.setIfInBounds j true) (j :: acc) (by simpa using h1) (by simpa using h2) (fun i hi=>?_) ?_ ?_ ⟨l.erase j,?_,fun i hi hb=>?_⟩
    . by_cases e:j=i
      . subst e;rw[Array.getElem?_setIfInBounds_self_of_lt zOM,Array.getElem?_setIfInBounds_self_of_lt zOM]
      . rw[Array.getElem?_setIfInBounds_ne e,Array.getElem?_setIfInBounds_ne e];exact h3 i hi
    . rw[Array.getElem?_setIfInBounds_ne zOM];exact h4
    . intro i o' ho' hb e he hbi;have up:listed[e.on]?=some true->(listed.setIfInBounds j true)[e.on]?=some true:=fun h=>by
        by_cases ee:j=e.on
        . rw[← ee,Array.getElem?_setIfInBounds_self_of_lt zOM]
        . rw[Array.getElem?_setIfInBounds_ne ee];exact h
      by_cases ee:j=i
      . subst ee;rw[ho]at ho';cases ho'
        exact up (JM.1 (hod e he hbi))
      . rw[Array.getElem?_setIfInBounds_ne ee]at hb;exact up (h5 i o' ho' hb e he hbi)
    . have hjl:=hu j hjN (Hf.1 hju);rw[List.length_erase_of_mem hjl];have:=List.length_pos_of_mem hjl;omega
    . by_cases ee:j=i
      . subst ee;rw[Array.getElem?_setIfInBounds_self_of_lt zOM]at hb;cases hb
      . rw[Array.getElem?_setIfInBounds_ne ee]at hb;exact(List.mem_erase_of_ne (fun z=>ee z.symm)).2 (hu i hi hb)
theorem R6{P:Program}(hm:P.follows .mixedOrders=true)(hs:ops.size=N+1)(hs0:Ji.size=N)(hop:∀i,i<N->Ji[i]?=ops[i]?)(Kt:∀(i:Nat) (o:Oper),ops[i]?=some o->∀e∈o.after,e.on<i)(hcl:∀listed:Array Bool,listed.size=N+1->Down .any ops listed->N∈Region.ready .any ops listed->∀i,i<N->listed[i]?=some true)(t:Nat) :
   Region.schedule (P.follows .mixedOrders) ops t=Region.linearise .any Ji t++[N]:=by
 simp only[Region.schedule,hm,Bool.true_or,if_true];unfold Region.linearise;rw[hs,hs0];refine lU hs hs0 hop Kt hcl N t _ _ [] (by simp) (by simp) (fun i hi=>?_) ?_ ?_ ⟨List.range N,by simp,fun i hi _=>List.mem_range.2 hi⟩
 . rw[Array.getElem?_replicate,Array.getElem?_replicate,if_pos hi,if_pos zOM]
 . rw[Array.getElem?_replicate,if_pos zOM]
 . intro i o _ hb;rw[Array.getElem?_replicate]at hb;split at hb<;>cases hb
end
end
section
section
variable {F:Fence}{n:Nat}{P:Program}{md:Region.Mode}{ops:Array Oper}{Q:Exit->Act->World->Prop}
theorem iD{listed:Array Bool}{j:Nat}{o:Oper}(h5:Down md ops listed)(hlt:j<listed.size)(ho:ops[j]?=some o)(hod:∀e∈o.after,Region.binds md e=true->listed[e.on]?=some true):Down md ops (listed.setIfInBounds j true):=by
 intro i o' ho' hb e he hbi;have up:listed[e.on]?=some true->(listed.setIfInBounds j true)[e.on]?=some true:=fun h=>by
   by_cases ee:j=e.on
   . rw[← ee,Array.getElem?_setIfInBounds_self_of_lt hlt]
   . rw[Array.getElem?_setIfInBounds_ne ee];exact h
 by_cases ee:j=i
 . subst ee;rw[ho]at ho';cases ho'
   exact up (hod e he hbi)
 . rw[Array.getElem?_setIfInBounds_ne ee]at hb;exact up (h5 i o' ho' hb e he hbi)
theorem TI{I:Array Bool->Act->World->Prop}(Kt:∀(i:Nat) (o:Oper),ops[i]?=some o->∀e∈o.after,e.on<i)(hstep:∀(l:Array Bool) (a:Act) (w:World) (i:Nat) (o:Oper),I l a w->l.size=ops.size->Down md ops l->l[i]?=some false->ops[i]?=some o->(∀e∈o.after,Region.binds md e=true->l[e.on]?=some true)->wpOpIn F n P ops Q i (fun a' w'=>I (l.setIfInBounds i true) a' w') a w)(hend:∀(l:Array Bool) (a:Act) (w:World),I l a w->l.size=ops.size->(∀i,i<ops.size->l[i]?=some true)->Q .normal a w) :
  ∀(fuel:Nat) (l:Array Bool) (a:Act) (w:World),(∃u:List Nat,u.length<=fuel/\∀i,i<ops.size->l[i]?=some false->i∈u)->l.size=ops.size->Down md ops l->I l a w->wpAnyIn F n P md ops Q fuel l a w:=by
 have done:∀l:Array Bool,l.size=ops.size->Region.ready md ops l=[]->∀i,i<ops.size->l[i]?=some true:=by
  intro l hl hr i;induction i using Nat.strongRecOn with
  | _ i ih=>
    intro hi;rcases Qr (show i<l.size by omega)with hb|hb
    . exact hb
    . have:i∈Region.ready md ops l:=mem_ready.2 ⟨Hf.2 hb,_,Array.getElem?_eq_getElem hi,fun e he _=>JM.2 (ih e.on (Kt i _ (Array.getElem?_eq_getElem hi) e he) (by have:=Kt i _ (Array.getElem?_eq_getElem hi) e he;omega))⟩
      rw[hr]at this;cases this
 intro fuel;induction fuel with
 | zero=>
  intro l a w ⟨u,hu,hm⟩ hl hd hI;have hr:Region.ready md ops l=[]:=List.eq_nil_iff_forall_not_mem.2 fun i hi=>by obtain⟨h,o,ho,_⟩:=mem_ready.1 hi;have:=hm i (zGE ho).1 (Hf.1 h);rw[List.length_eq_zero_iff.1 (Nat.le_zero.1 hu)]at this;cases this
  exact⟨hr,hend l a w hI hl (done l hl hr)⟩
 | succ fuel ih=>
  intro l a w ⟨u,hu,hm⟩ hl hd hI;refine⟨fun hr=>hend l a w hI hl (done l hl hr),fun i hi=>?_⟩;obtain⟨h,o,ho,hod⟩:=mem_ready.1 hi;have hlt:i<ops.size:=(zGE ho).1;have yG:∀e∈o.after,Region.binds md e=true->l[e.on]?=some true:=fun e he hb=>JM.1 (hod e he hb);refine wpOpIn_mono (fun a' w' hI'=>ih _ a' w' ⟨u.erase i,?_,fun j hj hb=>?_⟩ (by simpa using hl) (iD hd zOM ho yG) hI') (hstep l a w i o hI hl hd (Hf.1 h) ho yG)
  . have:=hm i hlt (Hf.1 h);rw[List.length_erase_of_mem this];have:=List.length_pos_of_mem this;omega
  . by_cases ee:i=j
    . subst ee;rw[Array.getElem?_setIfInBounds_self_of_lt zOM]at hb;cases hb
    . rw[Array.getElem?_setIfInBounds_ne ee]at hb;exact(List.mem_erase_of_ne (fun z=>ee z.symm)).2 (hm j hj hb)
theorem Wo{I:Array Bool->Act->World->Prop}{id:Nat}{a:Act}{w:World}(hm:P.follows .mixedOrders=true)(Kt:∀(i:Nat) (o:Oper),ops[i]?=some o->∀e∈o.after,e.on<i)(h0:I (Array.replicate ops.size false) a w.drew)(hstep:∀(l:Array Bool) (a:Act) (w:World) (i:Nat) (o:Oper),I l a w->l.size=ops.size->Down .any ops l->l[i]?=some false->ops[i]?=some o->(∀e∈o.after,Region.binds .any e=true->l[e.on]?=some true)->wpOpIn F n P ops Q i (fun a' w'=>I (l.setIfInBounds i true) a' w') a w)(hend:∀(l:Array Bool) (a:Act) (w:World),I l a w->l.size=ops.size->(∀i,i<ops.size->l[i]?=some true)->Q .normal a w):(Code.region id ops true).wpIn F n P Q a w:=by
 refine wpIn_region_any hm (TI Kt hstep hend ops.size _ a _ ⟨List.range ops.size,by simp,fun i hi _=>List.mem_range.2 hi⟩ (by simp) (fun i o ho hb=>?_) h0);have hlt:i<ops.size:=(zGE ho).1;rw[Array.getElem?_replicate,if_pos hlt]at hb;cases hb
theorem Gv{i:Nat}{o:Oper}{K:Act->World->Prop}{a:Act}{w w':World}{v:Value}(hF:F.round=none)(ho:ops[i]?=some o)(hg:o.guard=none)(hab:o.about P w a.eval=none)(hr:(execOp a.eval o).run P w=.ok (.value v) w')(hk:K (a.put o.dst v) w'):wpOpIn F n P ops Q i K a w:=by refine wpOpIn_step ho fun K' hK=>?_;rw[if_pos (by unfold Region.wanted;rw[hg])];refine⟨fun f hf=>(by rw[hab]at hf;cases hf),?_⟩;rw[hF,Oper.semAt_none,hr];exact hK _ _ hk
theorem TH{i:Nat}{o:Oper}{K:Act->World->Prop}{a:Act}{w w':World}(hF:F.round=none)(ho:ops[i]?=some o)(hg:o.guard=none)(hab:o.about P w a.eval=none)(hr:(execOp a.eval o).run P w=.ok .skip w')(hk:K (a.put o.dst undef) w'):wpOpIn F n P ops Q i K a w:=by refine wpOpIn_step ho fun K' hK=>?_;rw[if_pos (by unfold Region.wanted;rw[hg])];refine⟨fun f hf=>(by rw[hab]at hf;cases hf),?_⟩;rw[hF,Oper.semAt_none,hr];exact hK _ _ hk
end
end
end Go.LT
namespace Go.Proofs.Ytdkfdedgfilhbaa
open Go Go.RowKit
open BA
theorem J7{P:Program}(w:World)(base:Nat)(t ty e:TypeId)(i:TypeInfo)(z:Value)(size bytes:Nat)(ht:P.underlying t=some (.slice e))(hi:P.info? e=some i)(hz:i.zero=some z)(hsize:i.size=size)(hby:i.bytes=bytes)(hzs:z.cells.size=size)(hsz:0<size)(v:Value)(n:Nat)(xs:List Value)(hown:FY w base size v n xs)(a:Addr)(m c:Nat)(news:List Value)(hl:news.length=m*size)(hnews:∀j u,news[j]?=some u->w.cell? (a.add j)=some u)(h1:∀u∈news,u.oneCell'=true)(h63:n+m<=maxLen)(hbytes:(n+m)*bytes<=140737488355328)(hbase:base<=w.heap.size) :
   ∃v' w',(Builtin.append_ #[t,t] ty #[v,.slice (some a) m c]).run P w=.ok v' w'/\FY w' base size v' (n+m) (xs++news)/\w.grownBy w' v.ownBlock/\
     (v'.ownBlock=v.ownBlock\/((∀k,v'.ownBlock=some k->w.heap.size<=k)/\w.grownBy w' none)):=by
 obtain⟨te,hown⟩:=hown;rcases hown.2 with⟨rfl,rfl⟩|⟨g,cap,cur,rfl,hbg,hg,hnc,hcm,hcs,htake⟩
 . have hx:xs=[]:=List.eq_nil_of_length_eq_zero (by simpa using hown.1);subst hx;obtain⟨v',w',r1,r2,r3,r4⟩:=run_append_own (P:=P) w w.heap.size t ty e i z size bytes ht hi hz hsize hby hzs hsz (.slice none 0 0) 0 [] (World.ownsRow_nil w _ e size) a m c news hl hnews h1 h63 hbytes (Nat.le_refl _);refine⟨v',w',r1,⟨e,r2.1,?_⟩,r3,.inr ⟨fun k hk=>?_,r3⟩⟩
   . rcases r2.2 with hh | ⟨g,cap,cur,q1,q2,q3⟩
     . exact .inl hh
     . exact .inr ⟨g,cap,cur,q1,Nat.le_trans hbase q2,q3⟩
   . rcases r2.2 with⟨hh,_⟩ | ⟨g,cap,cur,q1,q2,q3⟩
     . rw[hh]at hk;cases hk
     . rw[q1]at hk;cases hk;exact q2
 . by_cases hroom:n+m<=cap
   . subst hsize;have hfit:n*i.size+news.length<=cur.size:=by rw[hl,hcs,← Nat.add_mul];exact Nat.mul_le_mul_right _ hroom
     have hlen:(xs++news).length=(n+m)*i.size:=by rw[List.length_append,hown.1,hl,Nat.add_mul]
     have hr:=PW (P:=P) w t ty e te i ht hi g n cap cur hg a m c news hl hnews h1 hroom hfit;refine⟨_,_,hr,⟨te,hlen,.inr ⟨g,cap,_,rfl,hbg,setRow_heap w g cur _ te _ hg,hroom,hcm,?_,?_⟩⟩,⟨rfl,rfl,rfl,by simp,fun k _ hk=>setRow_other w g k _ (fun e=>hk (by simp[Value.ownBlock,e]))⟩,.inl rfl⟩
     . simp only[List.size_toArray,List.length_append,List.length_take,List.length_drop,Array.length_toList];omega
     . rw[htake,← hlen];exact List.take_left
   . have holds:∀j u,xs[j]?=some u->w.cell? ((⟨g,0,none⟩:Addr).add j)=some u:=hown.cells (g:=g) rfl;obtain⟨v',w',r1,r2,r3⟩:=run_append_arg_grows (P:=P) w t ty e i z size bytes ht hi hz hsize hby hzs hsz ⟨g,0,none⟩ n cap xs hown.1 holds a m c news hl hnews zOM h63 hbytes;refine⟨v',w',r1,⟨e,r2.1,?_⟩,⟨r3.os,r3.tape,r3.output,r3.size,fun k hk _=>r3.block k hk (by simp)⟩,.inr ⟨fun k hk=>?_,⟨r3.os,r3.tape,r3.output,r3.size,fun k hk _=>r3.block k hk (by simp)⟩⟩⟩
     . rcases r2.2 with hh | ⟨g,cap,cur,q1,q2,q3⟩
       . exact .inl hh
       . exact .inr ⟨g,cap,cur,q1,Nat.le_trans hbase q2,q3⟩
     . rcases r2.2 with⟨hh,_⟩ | ⟨g,cap,cur,q1,q2,q3⟩
       . rw[hh]at hk;cases hk
       . rw[q1]at hk;cases hk;exact q2
theorem G8{F:Fence}{n:Nat}{P:Program}(w:World){ops:Array Oper}{rest:List Oper}{o:Oper}{a:Act}{Q:Exit->Act->World->Prop}(hg:o.guard=none)(s x:Operand)(t:TypeId)(hop:o.op=Op.call { callee:=Callee.builtin Builtin.append,args:=#[s,x],argTypes:=#[t,t] })(base:Nat)(e:TypeId)(i:TypeInfo)(z:Value)(size bytes:Nat)(h1:P.underlying t=some (.slice e))(h2:P.info? e=some i)(h3:i.zero=some z)(h4:i.size=size)(h5:i.bytes=bytes)(h6:z.cells.size=size)(h7:0<size)(v:Value)(k:Nat)(xs:List Value)(hs:a.eval s=v)(hown:FY w base size v k xs)(ad:Addr)(m c:Nat)(news:List Value)(hx:a.eval x=.slice (some ad) m c)(hn:news.length=m*size)(hc:∀j u,news[j]?=some u->w.cell? (ad.add j)=some u)(h1c:∀u∈news,u.oneCell'=true)(b1:k+m<=maxLen)(b2:(k+m)*bytes<=140737488355328)(b3:base<=w.heap.size)(hK:∀v' w',FY w' base size v' (k+m) (xs++news)->w.grownBy w' v.ownBlock->(v'.ownBlock=v.ownBlock\/((∀g,v'.ownBlock=some g->w.heap.size<=g)/\w.grownBy w' none))->wpListIn F n P ops Q rest (a.put o.dst v') w') :
   wpListIn F n P ops Q (o :: rest) a w:=by
 refine wpListIn_plain hg fun K hK'=>?_;obtain⟨v',w',hrun,r1,r2,r3⟩:=J7 (P:=P) w base t o.type e i z size bytes h1 h2 h3 h4 h5 h6 h7 v k xs hown ad m c news hn hc h1c b1 b2 b3;unfold Oper.wpIn;refine⟨?_,?_⟩
 . simp[Oper.about,hop,resolve,Target.leads,Sem.run_pure]
 . rw[Oper.semAt_plain F _ _ (by rw[hop];intro c hc';cases hc')]
   simp[execOp,hop,resolve,invoke,builtin,hs,hx,hrun,Result.andThen];exact hK' _ _ (hK v' w' r1 r2 r3)
end Go.Proofs.Ytdkfdedgfilhbaa
end
