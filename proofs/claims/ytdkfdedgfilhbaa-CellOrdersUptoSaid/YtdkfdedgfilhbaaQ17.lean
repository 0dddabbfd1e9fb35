/-
  Part 17 of the proof that CellOrders is true of every input of bulk at most 1048576.
-/
import Derived.Test.YtdkfdedgfilhbaaQ16
import Derived.Handy
set_option linter.unusedVariables false
set_option linter.unusedSectionVars false
set_option linter.unusedSimpArgs false
set_option maxHeartbeats 4000000
set_option maxRecDepth 100000
noncomputable section
namespace Go.Proofs.Ytdkfdedgfilhbaa
open Go Go.Conc Go.LT Go.LC Go.LK Go.RowKit
section
def on0:Code:=match Try.f11.body with | some (.seq c _)=>c | _=>.skip
def on1:Code:=match Try.f11.body with | some (.seq _ (.seq c _))=>c | _=>.skip
def on2:Code:=match Try.f11.body with | some (.seq _ (.seq _ (.seq (.seq c _) _)))=>c | _=>.skip
def YU:Code:=match Try.f11.body with | some (.seq _ (.seq _ (.seq (.seq _ c) _)))=>c | _=>.skip
def on4:Code:=match Try.f11.body with | some (.seq _ (.seq _ (.seq _ c)))=>c | _=>.skip
theorem dZ:Try.f11.body=some (.seq on0 (.seq on1 (.seq (.seq on2 YU) on4))):=rfl
section
variable {main:Bool}{Γ:Type}{S:Fp Try.prog main Γ}{m:Mem (List Int)}{cb ct n:Nat}{cf:Frame}{fs:List Frame}{W:World}{σ:List Int}
def WG(ct N:Nat)(cv:Value)(k:Int):Array Value:=#[.pointer (some ⟨ct,0,none⟩),cv,undef,.pointer (some ⟨N,0,none⟩),.pointer (some ⟨N+1,0,none⟩),.pointer (some ⟨N+2,0,none⟩),.agg #[.int .i64 0,.int .i64 0,.int .i64 0,.bool false,.int .i64 0,.int .i64 0,.int .i64 0,.slice none 0 0,.slice none 0 0],.pointer (some ⟨N,0,none⟩),.int .i64 k,undef,undef,undef,undef,undef,undef,undef,undef,undef,undef,undef,undef,undef,undef,undef,undef,undef,undef,undef,undef,undef,undef,undef,undef,undef,undef,undef,undef,undef,undef,undef,undef,undef,undef,undef,undef,undef,undef,undef,undef,undef,undef,undef,undef,undef,undef,undef,undef,undef,undef,undef,undef,undef,undef,undef,undef,undef,undef,undef,undef,undef,undef,undef,undef,undef,undef,undef,undef,undef,undef,undef,undef,undef,undef,undef,undef,undef,undef,undef,undef,undef,undef,undef,undef,undef,undef,undef,undef,undef]
theorem OT (I:GJ S EK m 33){s:I.St}{c:EP}{pv:Value}(hA:I.At s σ W)(hS:I.Pf s σ c)(hJ:∀ s' W' N,I.At s' σ W'->I.On s W s' W'->I.Pf s' σ c->I.kept s' (N+1)->(I.own s' (N+1)/\¬ I.core s' (N+1)/\¬ I.kept s (N+1))->I.kept s' (N+2)->(I.own s' (N+2)/\¬ I.core s' (N+2)/\¬ I.kept s (N+2))->W'.heap[N]?=some (.cells #[.int .i64 c.kind,.int .i64 c.a,.int .i64 c.b,.int .i64 c.c,pv] 44 (0,0))->
      W'.heap[N+1]?=some (.cells #[.int .i64 0,.int .i64 0,.int .i64 0,.bool false,.int .i64 0,.int .i64 0,.int .i64 0,.slice none 0 0,.slice none 0 0] 42 (0,0))->W'.heap[N+2]?=some (.cells #[.int .i64 0,.int .i64 0,.int .i64 0,.bool false,.int .i64 0,.int .i64 0,.int .i64 0,.slice none 0 0,.slice none 0 0] 42 (0,0))->
      JL S.L (I.γ s') (G ((base 11).at ⟨WG ct N (Gf c pv) c.kind,[]⟩ [.code YU,.code on4]) (cf :: fs)) W') :
    JW S.base (I.γ s) (G (Frame.enter Try.prog 11 #[.pointer (some ⟨ct,0,none⟩),Gf c pv] .normal) (cf :: fs)) W:=by
  rw[enter_at _ Try.func11 dZ,show Try.f11.ntmps=98 from by kernel_rfl];walk_nrm;show JL S.L (I.γ s) _ W;refine EO ?_;refine Fp.Fz (S:=S) (b:=base 11) [] (by simp) zKR nE zKR fun EG ha=>?_;obtain⟨hA1,HY⟩:=I.alike hA ha;have HH:=Lib.hid (zAI @hJ (zAI hS (zAI hA1 HY)));clear hJ hS hA hA1 HY ha;simp only[on0,Try.f11,Gf];gi_wp2;obtain⟨hJ,hS,hA1,HY⟩:=HH.out;clear HH;generalize ho1:Obj.cells #[Value.int IntKind.i64 c.kind,Value.int IntKind.i64 c.a,Value.int IntKind.i64 c.b,Value.int IntKind.i64 c.c,pv] 44=o1;generalize ho2:Obj.cells #[Value.int IntKind.i64 0,Value.int IntKind.i64 0,Value.int IntKind.i64 0,Value.bool false,Value.int IntKind.i64 0,Value.int IntKind.i64 0,Value.int IntKind.i64 0,Value.slice none 0 0,Value.slice none 0 0] 42=o2
  obtain⟨s1,hA2,hO2,e1,o1',k1,b1,_⟩:=I.lay (W':=EG.alloc o1) (N:=EG.heap.size) hA1 rfl ⟨_,_,_,by rw[heap_alloc_new];exact congrArg some ho1.symm⟩ (fun b hb=>Below.heap_alloc _ _ _ hb) (by simp);obtain⟨s2,hA3,hO3,e2,o8,k2,b2,_⟩:=I.lay (W':=(EG.alloc o1).alloc o2) (N:=(EG.alloc o1).heap.size) hA2 rfl ⟨_,_,_,by rw[heap_alloc_new];exact congrArg some ho2.symm⟩ (fun b hb=>Below.heap_alloc _ _ _ hb) (by simp);have hsz:(EG.alloc o1).heap.size=EG.heap.size+1:=by simp
  have hsz2:((EG.alloc o1).alloc o2).heap.size=EG.heap.size+2:=by simp
  have q1:((EG.alloc o1).alloc o2).heap[EG.heap.size]?=some o1:=by rw[Below.heap_alloc _ _ _ (by simp)];exact heap_alloc_new _ _
  have q2:((EG.alloc o1).alloc o2).heap[EG.heap.size+1]?=some o2:=by rw[← hsz];exact heap_alloc_new _ _
  have hown:∀b,I.own s b->b<EG.heap.size:=fun b hb=>by obtain⟨_,c,e,f,h⟩:=I.row hA1 hb;exact(zGE h).1
  have q3:I.kept s2 (EG.heap.size+1):=(k2 _).2 (.inr hsz.symm);have q6:I.own s2 (EG.heap.size+1)/\¬ I.core s2 (EG.heap.size+1)/\¬ I.kept s (EG.heap.size+1):=⟨(o8 _).2 (.inr hsz.symm),fun h=>(by have:=hown _ (I.Ld hA1 ((hO2.core _).1 ((hO3.core _).1 h)));omega),fun h=>(by have:=hown _ (I.Gm hA1 h);omega)⟩
  have q4:=HY.trans (hO2.trans hO3);have q5:=b2 _ (b1 _ hS);have hn:¬ I.core s2 (EG.heap.size+2)/\¬ I.kept s (EG.heap.size+2):=⟨fun h=>(by have:=hown _ (I.Ld hA1 ((hO2.core _).1 ((hO3.core _).1 h)));omega),fun h=>(by have:=hown _ (I.Gm hA1 h);omega)⟩
  have e3:I.γ s=I.γ s2:=(e2.trans e1).symm;show JL S.L (I.γ s) (G ((base 11).at ⟨_,[]⟩ _) (cf :: fs)) _;rw[e3];clear hA1 hA2 HY hO2 hO3 hsz k1 k2 o1' o8 b1 b2 e1 e2 e3 hown;generalize(EG.alloc o1).alloc o2=W3 at *;generalize EG.heap.size=N at *;refine EO ?_;have HH:=Lib.hid (zAI @hJ (zAI hA3 (zAI q1 (zAI q2 (zAI q3 (zAI q6 (zAI q4 (zAI q5 (zAI hn (zAI hsz2 (zAI ho1 ho2)))))))))));clear hJ hS q1 q2 q3 q6 q4 q5 hn hsz2 ho1 ho2;refine Fp.Fz (S:=S) (b:=base 11) [] (by simp) zKR nE zKR fun K3 aW=>?_;obtain⟨QL,hO4⟩:=I.alike hA3 aW;have H4:=Lib.hid (zAI QL (zAI hO4 (show K3.heap=W3.heap by obtain⟨τ,d,rfl⟩:=aW;rfl)));clear hA3 QL hO4 aW;simp only[on1,Try.f11];gi_wp2;obtain⟨hJ,hA3,q1,q2,q3,q6,q4,q5,hn,hsz2,ho1,ho2⟩:=HH.out;obtain⟨QL,hO4,h4⟩:=H4.out;clear HH H4
  generalize ho3:Obj.cells #[Value.int IntKind.i64 0,Value.int IntKind.i64 0,Value.int IntKind.i64 0,Value.bool false,Value.int IntKind.i64 0,Value.int IntKind.i64 0,Value.int IntKind.i64 0,Value.slice none 0 0,Value.slice none 0 0] 42=o3;obtain⟨s3,X7,UW,e5,o5',k5,b5,_⟩:=I.lay (W':=K3.alloc o3) (N:=K3.heap.size) QL rfl ⟨_,_,_,by rw[heap_alloc_new];exact congrArg some ho3.symm⟩ (fun b hb=>Below.heap_alloc _ _ _ hb) (by simp);have hz4:K3.heap.size=N+2:=by rw[h4];exact hsz2
  rw[hz4]at o5' k5;have r1:(K3.alloc o3).heap[N]?=some o1:=by rw[Below.heap_alloc _ _ _ zOM,h4];exact q1
  have r2:(K3.alloc o3).heap[N+1]?=some o2:=by rw[Below.heap_alloc _ _ _ zOM,h4];exact q2
  have r3:(K3.alloc o3).heap[N+2]?=some o3:=by rw[← hz4];exact heap_alloc_new _ _
  have t1:I.kept s3 (N+1):=(k5 _).2 (.inl q3);have t2:I.own s3 (N+1)/\¬ I.core s3 (N+1)/\¬ I.kept s (N+1):=⟨(o5' _).2 (.inl q6.1),fun h=>q6.2.1 ((UW.core _).1 h),q6.2.2⟩
  have t3:I.kept s3 (N+2):=(k5 _).2 (.inr rfl);have t4:I.own s3 (N+2)/\¬ I.core s3 (N+2)/\¬ I.kept s (N+2):=⟨(o5' _).2 (.inr rfl),fun h=>hn.1 ((UW.core _).1 h),hn.2⟩
  have t5:=q4.trans (hO4.trans UW);have t6:=b5 _ q5;have e6:I.γ s2=I.γ s3:=e5.symm;rw[hz4,e6];clear hA3 QL hO4 UW q1 q2 q3 q6 q4 q5 hn o5' k5 b5;generalize K3.alloc o3=W5 at *;have hc:W5.cell? ⟨N,0,none⟩=some (.int .i64 c.kind):=by rw[← ho1]at r1;simp[World.cell?,r1]
  show JL S.L (I.γ s3) _ W5;refine EO ?_;refine EO ?_;simp only[on2,Try.f11];refine E9 fun _ hkk=>?_
  (refine ET ?_;walk_nrm)
  refine Fp.read (S:=S) (.int .i64 c.kind) rfl rfl nE hc (fun w h=>by go_simp) (fun w h e he=>by simp[go_sem,h]at he;exact he) ?_;walk_nrm;refine E5 ?_;cases hkk;subst ho1 ho2 ho3;exact hJ s3 W5 N X7 t5 t6 t1 t2 t3 t4 r1 r2 r3
theorem Qn(I:GJ S EK m 33){s s2:I.St}{σ2:List Int}{W2 W3:World}{N:Nat}{O6:Bool}{en Im:Int}{v0 v1 v2 v3 v6 v7 v8 v9 Aa Ab Ac Ae Af Ah Ai Aj Ak Al Am Ao Ap Ar Au Av Aw Ay Az AA AB AJ AL AO AP AQ AU AV AX AY AZ A8 A9 Ba Bb Bc Bf Bh Bj Bl Bp Bq Br Bu Bv Bw Bz BD BF BG BH BI BJ BK BL BM BN BO BP BQ BR BS BU BX BZ Ca Cb Cc Ce Cg Ci Cj Ck Cm Co Cq Cr Ct Cu Cw Cx Cy Cz CB CF CG CJ CK:Value}(hA2:I.At s2 σ2 W2)(hO3:I.On s W s2 W2)(hE:I.End s2 σ2 ((⟨O6,en,0,Im,[]⟩:An),false))(hown:I.own s2 (N+2))(hcore:¬ I.core s2 (N+2))(JI:¬ I.kept s (N+2))(hown1:I.own s2 (N+1))(GI:¬ I.core s2 (N+1))(Ku:¬ I.kept s (N+1))(hJ:∀s' σ' W' e,I.At s' σ' W'->I.On s W s' W'->I.End s' σ' (e,false)->e.ints=[]->JW S.base (I.γ s') (G (cf.finish (MN e (.slice none 0 0))) fs) W')(hrow3:W3.heap[N+2]?=some (.cells #[.int .i64 0,.int .i64 0,.int .i64 0,.bool O6,.int .i64 en,.int .i64 0,.int .i64 Im,.slice none 0 0,.slice none 0 0] 42 (0,0)))(hres:W3.heap[N+1]?=some (.cells #[.int .i64 0,.int .i64 0,.int .i64 0,.bool false,.int .i64 0,.int .i64 0,.int .i64 0,.slice none 0 0,.slice none 0 0] 42 (0,0)))(Gp:∀b,b≠N+2->W3.heap[b]?=W2.heap[b]?)(Jd:W3.heap.size=W2.heap.size) :
  JL S.L (I.γ s2) (G ((base 11).at ⟨#[v0,v1,v2,v3,.pointer (some ⟨N+1,0,none⟩),.pointer (some ⟨N+2,0,none⟩),v6,v7,v8,v9,Aa,Ab,Ac,Ae,Af,Ah,Ai,Aj,Ak,Al,Am,Ao,Ap,Ar,Au,Av,Aw,Ay,Az,AA,AB,AJ,AL,AO,AP,AQ,AU,AV,AX,AY,AZ,A8,A9,Ba,Bb,Bc,Bf,Bh,Bj,Bl,Bp,Bq,Br,Bu,Bv,Bw,Bz,BD,BF,BG,BH,BI,BJ,BK,BL,BM,BN,BO,BP,BQ,BR,BS,BU,BX,BZ,Ca,Cb,Cc,Ce,Cg,Ci,Cj,Ck,Cm,Co,Cq,Cr,Ct,Cu,Cw,Cx,Cy,Cz,CB,CF,CG,CJ,CK],[]⟩ [.code on4]) (cf :: fs)) W3:=by
 have HH:=Lib.hid (zAI hJ (zAI hA2 (zAI hO3 (zAI hE (zAI hown (zAI hcore (zAI JI (zAI hown1 (zAI GI Ku)))))))));clear hJ hA2 hO3 hE hown hcore JI hown1 GI Ku;refine Fp.Fz (S:=S) (b:=base 11) [] (by simp) zKR nE zKR fun W4 aW=>?_;have UY:W4.heap=W3.heap:=by obtain⟨τ,d,rfl⟩:=aW;rfl
 rw[← UY]at hrow3 hres;simp only[← UY]at Gp Jd;have c0:W4.cell? ⟨N+2,0,none⟩=some (.int .i64 0):=by simp[World.cell?,hrow3]
 have c1:W4.cell? ⟨N+2,1,none⟩=some (.int .i64 0):=by simp[World.cell?,hrow3]
 have c2:W4.cell? ⟨N+2,2,none⟩=some (.int .i64 0):=by simp[World.cell?,hrow3]
 have c3:W4.cell? ⟨N+2,3,none⟩=some (.bool O6):=by simp[World.cell?,hrow3]
 have c4:W4.cell? ⟨N+2,4,none⟩=some (.int .i64 en):=by simp[World.cell?,hrow3]
 have c5:W4.cell? ⟨N+2,5,none⟩=some (.int .i64 0):=by simp[World.cell?,hrow3]
 have c6:W4.cell? ⟨N+2,6,none⟩=some (.int .i64 Im):=by simp[World.cell?,hrow3]
 have c7:W4.cell? ⟨N+2,7,none⟩=some (.slice none 0 0):=by simp[World.cell?,hrow3]
 have c8:W4.cell? ⟨N+2,8,none⟩=some (.slice none 0 0):=by simp[World.cell?,hrow3]
 have zz:∀o,W4.frozen? ⟨N+1,o,none⟩=false:=fun o=>by simp[World.frozen?,hres]
 have z0:=zz 0;have y0:W4.cell? ⟨N+1,0,none⟩=some (.int .i64 0):=by simp[World.cell?,hres]
 have z1:=zz 1;have y1:W4.cell? ⟨N+1,1,none⟩=some (.int .i64 0):=by simp[World.cell?,hres]
 have z2:=zz 2;have y2:W4.cell? ⟨N+1,2,none⟩=some (.int .i64 0):=by simp[World.cell?,hres]
 have z3:=zz 3;have y3:W4.cell? ⟨N+1,3,none⟩=some (.bool false):=by simp[World.cell?,hres]
 have z4:=zz 4;have y4:W4.cell? ⟨N+1,4,none⟩=some (.int .i64 0):=by simp[World.cell?,hres]
 have z5:=zz 5;have y5:W4.cell? ⟨N+1,5,none⟩=some (.int .i64 0):=by simp[World.cell?,hres]
 have z6:=zz 6;have y6:W4.cell? ⟨N+1,6,none⟩=some (.int .i64 0):=by simp[World.cell?,hres]
 have z7:=zz 7;have y7:W4.cell? ⟨N+1,7,none⟩=some (.slice none 0 0):=by simp[World.cell?,hres]
 have z8:=zz 8;have y8:W4.cell? ⟨N+1,8,none⟩=some (.slice none 0 0):=by simp[World.cell?,hres]
 clear zz;have HR:=Lib.hid (zAI hrow3 (zAI hres (zAI Gp Jd)));clear hrow3 hres Gp Jd UY;have hfin:RowKit.Hid (∀W5 tm,W5.heap[N+1]?=some (.cells #[.int .i64 0,.int .i64 0,.int .i64 0,.bool O6,.int .i64 en,.int .i64 0,.int .i64 Im,.slice none 0 0,.slice none 0 0] 42 (0,0))->(∀b,b≠N+1->W5.heap[b]?=W4.heap[b]?)->W5.heap.size=W4.heap.size->tm.getD 4 undef=.pointer (some ⟨N+1,0,none⟩)->
   aC S (I.γ s2) (base 11) [] [] (cf :: fs) .ret ⟨tm,[]⟩ W5):=Lib.hid fun W5 tm h1 h2 h3 h4 Y=>by
  obtain⟨hJ,hA2,hO3,hE,hown,hcore,JI,hown1,GI,Ku⟩:=HH.out;obtain⟨hrow3,hres,Gp,Jd⟩:=HR.out;obtain⟨QL,hO4⟩:=I.write hA2 hO3 hown hcore JI ⟨_,_,_,hrow3⟩ Gp Jd;obtain⟨X7,UW⟩:=I.write QL hO4 hown1 GI Ku ⟨_,_,_,h1⟩ h2 h3;exact Yz Try.func11 (Kw Try.results11 h4 h1 Try.underlying42 rfl zKR) (hJ s2 σ2 W5 _ X7 UW hE rfl)
 clear HH;have hne:¬ (N+1=N+2):=by omega
 have hne':¬ (N+2=N+1):=by omega
 simp only[on4,Try.f11];gi_wp2;obtain⟨hrow3,hres,_,_⟩:=HR.out;clear HR;exact hfin.out _ _ (by simp[World.setCell,Array.getElem?_modify,hres]) (fun b hb=>by simp[World.setCell,Array.getElem?_modify,hb.symm]) (by simp[World.setCell]) rfl
theorem VH(I:GJ S EK m 33)(hm:FI m ct cb n)(hnil:I.wv=.pointer none){s:I.St}{c:EP}{pv:Value}(hk:c.kind=1\/c.kind=3\/c.kind=4\/c.kind=6\/c.kind=7)(hA:I.At s σ W)(hS:I.Pf s σ c)(hL:I.Leaves cf fs)(hJ:∀s' σ' W' e,I.At s' σ' W'->I.On s W s' W'->I.End s' σ' (e,false)->e.ints=[]->JW S.base (I.γ s') (G (cf.finish (MN e (.slice none 0 0))) fs) W') :
  JW S.base (I.γ s) (G (Frame.enter Try.prog 11 #[.pointer (some ⟨ct,0,none⟩),Gf c pv] .normal) (cf :: fs)) W:=by
 rcases hk with hk|hk|hk|hk|hk;all_goals
  refine OT I hA hS fun s1 W1 N hA1 HY hS1 hN1 NY hN NU q1 qq q2=>?_;generalize Gf c pv=cv;rw[hk];unfold WG;dsimp only;have hbl:∃c0,YU=.block 0 c0/\c0=(match YU with | .block _ c=>c | _=>.skip):=⟨_,rfl,rfl⟩
  obtain⟨c0,hc0,hc1⟩:=hbl;rw[hc0];refine EU stepG_block ?_;rw[hc1];simp only[YU,Try.f11];refine EO ?_;refine E9 fun _ hkk=>?_;iterate 2(refine ET ?_;walk_nrm)
  refine E5 ?_;cases hkk;repeat
   refine JL.EX rfl ?_;refine EO ?_;refine E9 fun _ hkk=>?_;iterate 2(refine ET ?_;walk_nrm)
   refine E5 ?_;cases hkk
  refine JL.F3 rfl ?_;refine E9 fun _ hkk=>?_;iterate 2(refine ET ?_;walk_nrm)
  refine Fp.read (S:=S) (ad:=⟨N,1,none⟩) (.int .i64 c.a) rfl rfl nE (by simp[World.cell?,q1]) (fun w h=>by go_simp) (fun w h e he=>by simp[go_sem,h]at he;exact he) ?_;walk_nrm;try
   (refine ET ?_;walk_nrm)
   refine Fp.read (S:=S) (ad:=⟨N,2,none⟩) (.int .i64 c.b) rfl rfl nE (by simp[World.cell?,q1]) (fun w h=>by go_simp) (fun w h e he=>by simp[go_sem,h]at he;exact he) ?_;walk_nrm
  first | refine JL.enter rfl rfl nE rfl Try.func15 zKR zKR ?_ | refine JL.enter rfl rfl nE rfl Try.func19 zKR zKR ?_ | refine JL.enter rfl rfl nE rfl Try.func20 zKR zKR ?_ | refine JL.enter rfl rfl nE rfl Try.func22 zKR zKR ?_ | refine JL.enter rfl rfl nE rfl Try.func23 zKR zKR ?_
  walk_nrm;rw[← hnil];first | refine UQ I hm hk hA1 (I.NI hS1 (by simp[EK,hk])) (I.pop Try.func11 hL) fun s2 σ2 W2 e hA2 hO2 hE he=>?_ | refine Y5 I hm hk hA1 (I.NI hS1 (by simp[EK,hk])) (I.pop Try.func11 hL) fun s2 σ2 W2 e hA2 hO2 hE he=>?_ | refine YM I hm hk hA1 (I.NI hS1 (by simp[EK,hk])) (I.pop Try.func11 hL) fun s2 σ2 W2 e hA2 hO2 hE he=>?_ | refine YO I hm hA1 (I.NI hS1 (by simp[EK,hk])) (I.pop Try.func11 hL) fun s2 σ2 W2 e hA2 hO2 hE he=>?_ | refine Yt I hm hA1 (I.NI hS1 (by simp[EK,hk])) (I.pop Try.func11 hL) fun s2 σ2 W2 e hA2 hO2 hE he=>?_
  rw[Frame.finish_at];obtain⟨O6,en,em,Im,MH⟩:=e;simp only at he ⊢;have hrow:W2.heap[N+2]?=_:=((hO2.kept _ hN).2).trans q2;have hres:W2.heap[N+1]?=_:=((hO2.kept _ hN1).2).trans qq;have hO3:=HY.trans hO2;have hown:I.own s2 (N+2):=I.Gm hA2 (hO2.kept _ hN).1;have hcore:¬ I.core s2 (N+2):=fun h=>NU.2.1 ((hO2.core _).1 h);have JI:=NU.2.2;have hown1:I.own s2 (N+1):=I.Gm hA2 (hO2.kept _ hN1).1;have GI:¬ I.core s2 (N+1):=fun h=>NY.2.1 ((hO2.core _).1 h);have Ku:=NY.2.2;show JL S.L (I.γ s2) _ W2;walk_nrm;iterate 3(refine ET ?_;walk_nrm)
  obtain⟨rfl,rfl,rfl⟩:=he;have HH:=Lib.hid (zAI hJ (zAI hA2 (zAI hO3 (zAI hE (zAI hown (zAI hcore (zAI JI (zAI hres (zAI hown1 (zAI GI Ku))))))))));clear hJ hA2 hO3 hE hown hcore JI hres hown1 GI Ku NY hN1 qq NU hN hA1 HY hS1 hA hS hO2 q1 q2;first | refine Fp.Gs (S:=S) (b:=base 11) 7 [] (by simp) zKR nE rfl zKR fun EG ha=>?_ | refine Fp.Gs (S:=S) (b:=base 11) 9 [] (by simp) zKR nE rfl zKR fun EG ha=>?_
  have hW:EG.heap=W2.heap:=by obtain⟨τ,d,rfl⟩:=ha;rfl
  rw[← hW]at hrow;dsimp only[List.drop];have g3:EG.cell? ⟨N+2,3,none⟩=some (.bool false):=by simp[World.cell?,hrow]
  have g4:EG.cell? ⟨N+2,4,none⟩=some (.int .i64 0):=by simp[World.cell?,hrow]
  have g6:EG.cell? ⟨N+2,6,none⟩=some (.int .i64 0):=by simp[World.cell?,hrow]
  have z3:EG.frozen? ⟨N+2,3,none⟩=false:=by simp[World.frozen?,hrow]
  have z4:EG.frozen? ⟨N+2,4,none⟩=false:=by simp[World.frozen?,hrow]
  have z6:EG.frozen? ⟨N+2,6,none⟩=false:=by simp[World.frozen?,hrow]
  have HR:=Lib.hid (zAI hrow hW);clear hrow hW;gi_wp2;refine⟨rfl,?_⟩;obtain⟨hrow,hW⟩:=HR.out;clear HR;have hf:∃W3:World,W3=((EG.setCell ⟨N+2,4,none⟩ (.int .i64 en)).setCell ⟨N+2,6,none⟩ (.int .i64 Im)):=⟨_,rfl⟩
  obtain⟨W3,hW3⟩:=hf;rw[← hW3];have hrow3:W3.heap[N+2]?=some (.cells #[.int .i64 0,.int .i64 0,.int .i64 0,.bool false,.int .i64 en,.int .i64 0,.int .i64 Im,.slice none 0 0,.slice none 0 0] 42 (0,0)):=by rw[hW3];simp[World.setCell,Array.getElem?_modify,hrow]
  have Gp:∀b,b≠N+2->W3.heap[b]?=W2.heap[b]?:=fun b hb=>by rw[hW3,← hW];simp[World.setCell,Array.getElem?_modify,hb.symm]
  have Jd:W3.heap.size=W2.heap.size:=by rw[hW3,← hW];simp[World.setCell]
  clear hW3 hrow hW g3 g4 g6 z3 z4 z6;show JL S.L (I.γ s2) _ W3;refine E5 ?_;cases hkk;refine EU stepG_inBlock ?_;obtain⟨hJ,hA2,hO3,hE,hown,hcore,JI,hres,hown1,GI,Ku⟩:=HH.out;exact Qn I hA2 hO3 hE hown hcore JI hown1 GI Ku hJ hrow3 ((Gp _ zOM).trans hres) Gp Jd
theorem ze(I:GJ S EK m 33)(hm:FI m ct cb n)(hnil:I.wv=.pointer none){s:I.St}{c:EP}{pv:Value}(hk:c.kind=2)(hA:I.At s σ W)(hS:I.Pf s σ c)(hL:I.Leaves cf fs)(hJ:∀s' σ' W' e,I.At s' σ' W'->I.On s W s' W'->I.End s' σ' (e,false)->e.ints=[]->JW S.base (I.γ s') (G (cf.finish (MN e (.slice none 0 0))) fs) W') :
  JW S.base (I.γ s) (G (Frame.enter Try.prog 11 #[.pointer (some ⟨ct,0,none⟩),Gf c pv] .normal) (cf :: fs)) W:=by
 refine OT I hA hS fun s1 W1 N hA1 HY hS1 hN1 NY hN NU q1 qq q2=>?_;generalize Gf c pv=cv;rw[hk];unfold WG;dsimp only;have hbl:∃c0,YU=.block 0 c0/\c0=(match YU with | .block _ c=>c | _=>.skip):=⟨_,rfl,rfl⟩
 obtain⟨c0,hc0,hc1⟩:=hbl;rw[hc0];refine EU stepG_block ?_;rw[hc1];simp only[YU,Try.f11];refine EO ?_;refine E9 fun _ hkk=>?_;iterate 2(refine ET ?_;walk_nrm)
 refine E5 ?_;cases hkk;refine JL.EX rfl ?_;refine EO ?_;refine E9 fun _ hkk=>?_;iterate 2(refine ET ?_;walk_nrm)
 refine E5 ?_;cases hkk;refine JL.F3 rfl ?_;refine E9 fun _ hkk=>?_;iterate 2(refine ET ?_;walk_nrm)
 refine Fp.read (S:=S) (ad:=⟨N,1,none⟩) (.int .i64 c.a) rfl rfl nE (by simp[World.cell?,q1]) (fun w h=>by go_simp) (fun w h e he=>by simp[go_sem,h]at he;exact he) ?_;walk_nrm
 (refine ET ?_;walk_nrm)
 refine Fp.read (S:=S) (ad:=⟨N,2,none⟩) (.int .i64 c.b) rfl rfl nE (by simp[World.cell?,q1]) (fun w h=>by go_simp) (fun w h e he=>by simp[go_sem,h]at he;exact he) ?_;walk_nrm;refine JL.enter rfl rfl nE rfl Try.func9 zKR zKR ?_;walk_nrm;rw[← hnil];refine Qq I hm hk hA1 (I.NI hS1 (by simp[EK,hk])) (I.pop Try.func11 hL) fun s2 σ2 W2 e hA2 hO2 hE he=>?_;rw[Frame.finish_at];obtain⟨O6,en,em,Im,MH⟩:=e;simp only at he ⊢;have hrow:W2.heap[N+2]?=_:=((hO2.kept _ hN).2).trans q2;have hres:W2.heap[N+1]?=_:=((hO2.kept _ hN1).2).trans qq;have hO3:=HY.trans hO2;have hown:I.own s2 (N+2):=I.Gm hA2 (hO2.kept _ hN).1;have hcore:¬ I.core s2 (N+2):=fun h=>NU.2.1 ((hO2.core _).1 h);have JI:=NU.2.2;have hown1:I.own s2 (N+1):=I.Gm hA2 (hO2.kept _ hN1).1;have GI:¬ I.core s2 (N+1):=fun h=>NY.2.1 ((hO2.core _).1 h);have Ku:=NY.2.2
 show JL S.L (I.γ s2) _ W2;walk_nrm;obtain⟨rfl,rfl,rfl,rfl⟩:=he;have HH:=Lib.hid (zAI hJ (zAI hA2 (zAI hO3 (zAI hE (zAI hown (zAI hcore (zAI JI (zAI hres (zAI hown1 (zAI GI Ku))))))))));clear hJ hA2 hO3 hE hown hcore JI hres hown1 GI Ku NY hN1 qq NU hN hA1 HY hS1 hA hS hO2 q1 q2;refine Fp.Gs (S:=S) (b:=base 11) 6 [] (by simp) zKR nE rfl zKR fun EG ha=>?_;have hW:EG.heap=W2.heap:=by obtain⟨τ,d,rfl⟩:=ha;rfl
 rw[← hW]at hrow;dsimp only[List.drop];have g3:EG.cell? ⟨N+2,3,none⟩=some (.bool false):=by simp[World.cell?,hrow]
 have g4:EG.cell? ⟨N+2,4,none⟩=some (.int .i64 0):=by simp[World.cell?,hrow]
 have g6:EG.cell? ⟨N+2,6,none⟩=some (.int .i64 0):=by simp[World.cell?,hrow]
 have z3:EG.frozen? ⟨N+2,3,none⟩=false:=by simp[World.frozen?,hrow]
 have z4:EG.frozen? ⟨N+2,4,none⟩=false:=by simp[World.frozen?,hrow]
 have z6:EG.frozen? ⟨N+2,6,none⟩=false:=by simp[World.frozen?,hrow]
 have HR:=Lib.hid (zAI hrow hW);clear hrow hW;gi_wp2;refine⟨rfl,?_⟩;obtain⟨hrow,hW⟩:=HR.out;clear HR;have hf:∃W3:World,W3=(EG.setCell ⟨N+2,6,none⟩ (.int .i64 Im)):=⟨_,rfl⟩
 obtain⟨W3,hW3⟩:=hf;rw[← hW3];have hrow3:W3.heap[N+2]?=some (.cells #[.int .i64 0,.int .i64 0,.int .i64 0,.bool false,.int .i64 0,.int .i64 0,.int .i64 Im,.slice none 0 0,.slice none 0 0] 42 (0,0)):=by rw[hW3];simp[World.setCell,Array.getElem?_modify,hrow]
 have Gp:∀b,b≠N+2->W3.heap[b]?=W2.heap[b]?:=fun b hb=>by rw[hW3,← hW];simp[World.setCell,Array.getElem?_modify,hb.symm]
 have Jd:W3.heap.size=W2.heap.size:=by rw[hW3,← hW];simp[World.setCell]
 clear hW3 hrow hW g3 g4 g6 z3 z4 z6;show JL S.L (I.γ s2) _ W3;refine E5 ?_;cases hkk;refine EU stepG_inBlock ?_;obtain⟨hJ,hA2,hO3,hE,hown,hcore,JI,hres,hown1,GI,Ku⟩:=HH.out;exact Qn I hA2 hO3 hE hown hcore JI hown1 GI Ku hJ hrow3 ((Gp _ zOM).trans hres) Gp Jd
theorem zq(I:GJ S EK m 33)(hm:FI m ct cb n)(hnil:I.wv=.pointer none){s:I.St}{c:EP}{pv:Value}(hk:c.kind=5)(hA:I.At s σ W)(hS:I.Pf s σ c)(hL:I.Leaves cf fs)(hJ:∀s' σ' W' e,I.At s' σ' W'->I.On s W s' W'->I.End s' σ' (e,false)->e.ints=[]->JW S.base (I.γ s') (G (cf.finish (MN e (.slice none 0 0))) fs) W') :
  JW S.base (I.γ s) (G (Frame.enter Try.prog 11 #[.pointer (some ⟨ct,0,none⟩),Gf c pv] .normal) (cf :: fs)) W:=by
 refine OT I hA hS fun s1 W1 N hA1 HY hS1 hN1 NY hN NU q1 qq q2=>?_;generalize Gf c pv=cv;rw[hk];unfold WG;dsimp only;have hbl:∃c0,YU=.block 0 c0/\c0=(match YU with | .block _ c=>c | _=>.skip):=⟨_,rfl,rfl⟩
 obtain⟨c0,hc0,hc1⟩:=hbl;rw[hc0];refine EU stepG_block ?_;rw[hc1];simp only[YU,Try.f11];refine EO ?_;refine E9 fun _ hkk=>?_;iterate 2(refine ET ?_;walk_nrm)
 refine E5 ?_;cases hkk;refine JL.EX rfl ?_;refine EO ?_;refine E9 fun _ hkk=>?_;iterate 2(refine ET ?_;walk_nrm)
 refine E5 ?_;cases hkk;refine JL.EX rfl ?_;refine EO ?_;refine E9 fun _ hkk=>?_;iterate 2(refine ET ?_;walk_nrm)
 refine E5 ?_;cases hkk;refine JL.EX rfl ?_;refine EO ?_;refine E9 fun _ hkk=>?_;iterate 2(refine ET ?_;walk_nrm)
 refine E5 ?_;cases hkk;refine JL.EX rfl ?_;refine EO ?_;refine E9 fun _ hkk=>?_;iterate 2(refine ET ?_;walk_nrm)
 refine E5 ?_;cases hkk;refine JL.F3 rfl ?_;refine E9 fun _ hkk=>?_;iterate 2(refine ET ?_;walk_nrm)
 refine Fp.read (S:=S) (ad:=⟨N,1,none⟩) (.int .i64 c.a) rfl rfl nE (by simp[World.cell?,q1]) (fun w h=>by go_simp) (fun w h e he=>by simp[go_sem,h]at he;exact he) ?_;walk_nrm
 (refine ET ?_;walk_nrm)
 refine Fp.read (S:=S) (ad:=⟨N,2,none⟩) (.int .i64 c.b) rfl rfl nE (by simp[World.cell?,q1]) (fun w h=>by go_simp) (fun w h e he=>by simp[go_sem,h]at he;exact he) ?_;walk_nrm
 (refine ET ?_;walk_nrm)
 refine Fp.read (S:=S) (ad:=⟨N,3,none⟩) (.int .i64 c.c) rfl rfl nE (by simp[World.cell?,q1]) (fun w h=>by go_simp) (fun w h e he=>by simp[go_sem,h]at he;exact he) ?_;walk_nrm;refine JL.enter rfl rfl nE rfl Try.func21 zKR zKR ?_;walk_nrm;rw[← hnil];refine YE I hm hk hA1 (I.NI hS1 (by simp[EK,hk])) (I.pop Try.func11 hL) fun s2 σ2 W2 e hA2 hO2 hE he=>?_;rw[Frame.finish_at];obtain⟨O6,en,em,Im,MH⟩:=e;simp only at he ⊢;have hrow:W2.heap[N+2]?=_:=((hO2.kept _ hN).2).trans q2;have hres:W2.heap[N+1]?=_:=((hO2.kept _ hN1).2).trans qq;have hO3:=HY.trans hO2;have hown:I.own s2 (N+2):=I.Gm hA2 (hO2.kept _ hN).1;have hcore:¬ I.core s2 (N+2):=fun h=>NU.2.1 ((hO2.core _).1 h);have JI:=NU.2.2;have hown1:I.own s2 (N+1):=I.Gm hA2 (hO2.kept _ hN1).1;have GI:¬ I.core s2 (N+1):=fun h=>NY.2.1 ((hO2.core _).1 h);have Ku:=NY.2.2
 show JL S.L (I.γ s2) _ W2;walk_nrm;iterate 3(refine ET ?_;walk_nrm)
 obtain⟨rfl,rfl,rfl⟩:=he;have HH:=Lib.hid (zAI hJ (zAI hA2 (zAI hO3 (zAI hE (zAI hown (zAI hcore (zAI JI (zAI hres (zAI hown1 (zAI GI Ku))))))))));clear hJ hA2 hO3 hE hown hcore JI hres hown1 GI Ku NY hN1 qq NU hN hA1 HY hS1 hA hS hO2 q1 q2;refine Fp.Gs (S:=S) (b:=base 11) 11 [] (by simp) zKR nE rfl zKR fun EG ha=>?_;have hW:EG.heap=W2.heap:=by obtain⟨τ,d,rfl⟩:=ha;rfl
 rw[← hW]at hrow;dsimp only[List.drop];have g3:EG.cell? ⟨N+2,3,none⟩=some (.bool false):=by simp[World.cell?,hrow]
 have g4:EG.cell? ⟨N+2,4,none⟩=some (.int .i64 0):=by simp[World.cell?,hrow]
 have g6:EG.cell? ⟨N+2,6,none⟩=some (.int .i64 0):=by simp[World.cell?,hrow]
 have z3:EG.frozen? ⟨N+2,3,none⟩=false:=by simp[World.frozen?,hrow]
 have z4:EG.frozen? ⟨N+2,4,none⟩=false:=by simp[World.frozen?,hrow]
 have z6:EG.frozen? ⟨N+2,6,none⟩=false:=by simp[World.frozen?,hrow]
 have HR:=Lib.hid (zAI hrow hW);clear hrow hW;gi_wp2;refine⟨rfl,?_⟩;obtain⟨hrow,hW⟩:=HR.out;clear HR;have hf:∃W3:World,W3=((EG.setCell ⟨N+2,3,none⟩ (.bool O6)).setCell ⟨N+2,6,none⟩ (.int .i64 Im)):=⟨_,rfl⟩
 obtain⟨W3,hW3⟩:=hf;rw[← hW3];have hrow3:W3.heap[N+2]?=some (.cells #[.int .i64 0,.int .i64 0,.int .i64 0,.bool O6,.int .i64 0,.int .i64 0,.int .i64 Im,.slice none 0 0,.slice none 0 0] 42 (0,0)):=by rw[hW3];simp[World.setCell,Array.getElem?_modify,hrow]
 have Gp:∀b,b≠N+2->W3.heap[b]?=W2.heap[b]?:=fun b hb=>by rw[hW3,← hW];simp[World.setCell,Array.getElem?_modify,hb.symm]
 have Jd:W3.heap.size=W2.heap.size:=by rw[hW3,← hW];simp[World.setCell]
 clear hW3 hrow hW g3 g4 g6 z3 z4 z6;show JL S.L (I.γ s2) _ W3;refine E5 ?_;cases hkk;refine EU stepG_inBlock ?_;obtain⟨hJ,hA2,hO3,hE,hown,hcore,JI,hres,hown1,GI,Ku⟩:=HH.out;exact Qn I hA2 hO3 hE hown hcore JI hown1 GI Ku hJ hrow3 ((Gp _ zOM).trans hres) Gp Jd
theorem Abp(I:GJ S EK m 33)(hm:FI m ct cb n)(hnil:I.wv=.pointer none){s:I.St}{c:EP}{pv:Value}(hk:¬ (1<=c.kind/\c.kind<=7))(hA:I.At s σ W)(hS:I.Pf s σ c)(hL:I.Leaves cf fs)(hJ:∀s' σ' W' e,I.At s' σ' W'->I.On s W s' W'->I.End s' σ' (e,false)->e.ints=[]->JW S.base (I.γ s') (G (cf.finish (MN e (.slice none 0 0))) fs) W') :
  JW S.base (I.γ s) (G (Frame.enter Try.prog 11 #[.pointer (some ⟨ct,0,none⟩),Gf c pv] .normal) (cf :: fs)) W:=by
 refine OT I hA hS fun s1 W1 N hA1 HY hS1 hN1 NY hN NU q1 qq q2=>?_;generalize Gf c pv=cv;obtain⟨k,XF⟩:∃k,k=c.kind:=⟨_,rfl⟩
 rw[← XF];rw[← XF]at hk;unfold WG;dsimp only;have hbl:∃c0,YU=.block 0 c0/\c0=(match YU with | .block _ c=>c | _=>.skip):=⟨_,rfl,rfl⟩
 obtain⟨c0,hc0,hc1⟩:=hbl;rw[hc0];refine EU stepG_block ?_;rw[hc1];simp only[YU,Try.f11];refine EO ?_;refine E9 fun _ hkk=>?_;iterate 2(refine ET ?_;walk_nrm)
 refine E5 ?_;cases hkk;refine JL.EX (by simp[Act.eval];omega) ?_;refine EO ?_;refine E9 fun _ hkk=>?_;iterate 2(refine ET ?_;walk_nrm)
 refine E5 ?_;cases hkk;refine JL.EX (by simp[Act.eval];omega) ?_;refine EO ?_;refine E9 fun _ hkk=>?_;iterate 2(refine ET ?_;walk_nrm)
 refine E5 ?_;cases hkk;refine JL.EX (by simp[Act.eval];omega) ?_;refine EO ?_;refine E9 fun _ hkk=>?_;iterate 2(refine ET ?_;walk_nrm)
 refine E5 ?_;cases hkk;refine JL.EX (by simp[Act.eval];omega) ?_;refine EO ?_;refine E9 fun _ hkk=>?_;iterate 2(refine ET ?_;walk_nrm)
 refine E5 ?_;cases hkk;refine JL.EX (by simp[Act.eval];omega) ?_;refine EO ?_;refine E9 fun _ hkk=>?_;iterate 2(refine ET ?_;walk_nrm)
 refine E5 ?_;cases hkk;refine JL.EX (by simp[Act.eval];omega) ?_;refine EO ?_;refine E9 fun _ hkk=>?_;iterate 2(refine ET ?_;walk_nrm)
 refine E5 ?_;cases hkk;refine JL.EX (by simp[Act.eval];omega) ?_;refine E9 fun _ hkk=>?_;have hE:=I.ends hS1 (e:=({ err:=40 },false)) (by simp only[EK];rw[if_neg zOM,if_neg zOM,if_neg zOM]);have hA2:=hA1;have hO2:=GJ.On.refl I s1 W1;have hrow:W1.heap[N+2]?=_:=((hO2.kept _ hN).2).trans q2;have hres:W1.heap[N+1]?=_:=((hO2.kept _ hN1).2).trans qq;have hO3:=HY.trans hO2;have hown:I.own s1 (N+2):=I.Gm hA2 (hO2.kept _ hN).1;have hcore:¬ I.core s1 (N+2):=fun h=>NU.2.1 ((hO2.core _).1 h);have JI:=NU.2.2;have hown1:I.own s1 (N+1):=I.Gm hA2 (hO2.kept _ hN1).1;have GI:¬ I.core s1 (N+1):=fun h=>NY.2.1 ((hO2.core _).1 h);have Ku:=NY.2.2;show JL S.L (I.γ s1) _ W1
 have HH:=Lib.hid (zAI hJ (zAI hA2 (zAI hO3 (zAI hE (zAI hown (zAI hcore (zAI JI (zAI hres (zAI hown1 (zAI GI Ku))))))))));clear hJ hA2 hO3 hE hown hcore JI hres hown1 GI Ku NY hN1 qq NU hN hA1 HY hS1 hA hS hO2 q1 q2 XF;refine Fp.Gs (S:=S) (b:=base 11) 0 [] (by simp) zKR nE rfl zKR fun EG ha=>?_;have hW:EG.heap=W1.heap:=by obtain⟨τ,d,rfl⟩:=ha;rfl
 rw[← hW]at hrow;dsimp only[List.drop];have g3:EG.cell? ⟨N+2,3,none⟩=some (.bool false):=by simp[World.cell?,hrow]
 have g4:EG.cell? ⟨N+2,4,none⟩=some (.int .i64 0):=by simp[World.cell?,hrow]
 have g6:EG.cell? ⟨N+2,6,none⟩=some (.int .i64 0):=by simp[World.cell?,hrow]
 have z3:EG.frozen? ⟨N+2,3,none⟩=false:=by simp[World.frozen?,hrow]
 have z4:EG.frozen? ⟨N+2,4,none⟩=false:=by simp[World.frozen?,hrow]
 have z6:EG.frozen? ⟨N+2,6,none⟩=false:=by simp[World.frozen?,hrow]
 have HR:=Lib.hid (zAI hrow hW);clear hrow hW;gi_wp2;refine⟨rfl,?_⟩;obtain⟨hrow,hW⟩:=HR.out;clear HR;have hf:∃W3:World,W3=(EG.setCell ⟨N+2,6,none⟩ (.int .i64 40)):=⟨_,rfl⟩
 obtain⟨W3,hW3⟩:=hf;rw[← hW3];have hrow3:W3.heap[N+2]?=some (.cells #[.int .i64 0,.int .i64 0,.int .i64 0,.bool false,.int .i64 0,.int .i64 0,.int .i64 40,.slice none 0 0,.slice none 0 0] 42 (0,0)):=by rw[hW3];simp[World.setCell,Array.getElem?_modify,hrow]
 have Gp:∀b,b≠N+2->W3.heap[b]?=W1.heap[b]?:=fun b hb=>by rw[hW3,← hW];simp[World.setCell,Array.getElem?_modify,hb.symm]
 have Jd:W3.heap.size=W1.heap.size:=by rw[hW3,← hW];simp[World.setCell]
 clear hW3 hrow hW g3 g4 g6 z3 z4 z6;show JL S.L (I.γ s1) _ W3;refine E5 ?_;cases hkk;refine EU stepG_inBlock ?_;obtain⟨hJ,hA2,hO3,hE,hown,hcore,JI,hres,hown1,GI,Ku⟩:=HH.out;exact Qn I hA2 hO3 hE hown hcore JI hown1 GI Ku hJ hrow3 ((Gp _ zOM).trans hres) Gp Jd
theorem gU(I:GJ S EK m 33)(hm:FI m ct cb n)(hnil:I.wv=.pointer none){s:I.St}{c:EP}{pv:Value}(hA:I.At s σ W)(hS:I.Pf s σ c)(hL:I.Leaves cf fs)(hJ:∀s' σ' W' e,I.At s' σ' W'->I.On s W s' W'->I.End s' σ' (e,false)->e.ints=[]->JW S.base (I.γ s') (G (cf.finish (MN e (.slice none 0 0))) fs) W') :
   JW S.base (I.γ s) (G (Frame.enter Try.prog 11 #[.pointer (some ⟨ct,0,none⟩),Gf c pv] .normal) (cf :: fs)) W:=by
 by_cases h:1<=c.kind/\c.kind<=7
 . obtain h | h | h | h | h | h | h:c.kind=1\/c.kind=2\/c.kind=3\/c.kind=4\/c.kind=5\/c.kind=6\/c.kind=7:=by omega
   . exact VH I hm hnil (.inl h) hA hS hL hJ
   . exact ze I hm hnil h hA hS hL hJ
   . exact VH I hm hnil (.inr (.inl h)) hA hS hL hJ
   . exact VH I hm hnil (.inr (.inr (.inl h))) hA hS hL hJ
   . exact zq I hm hnil h hA hS hL hJ
   . exact VH I hm hnil (.inr (.inr (.inr (.inl h)))) hA hS hL hJ
   . exact VH I hm hnil (.inr (.inr (.inr (.inr h)))) hA hS hL hJ
 . exact Abp I hm hnil h hA hS hL hJ
end
end
end Go.Proofs.Ytdkfdedgfilhbaa
namespace Go.Proofs.Ytdkfdedgfilhbaa
open Go.LK
def JF(c:EP)(σ:List Int):List Int × An:=
 if 1<=c.kind/\c.kind<=7 then
  if inn σ.length c.a=false then(σ,{ err:=41 })
  else if c.kind<=5 then FW c σ
  else if MF (decide (c.kind=6)) (σ.getD c.a.toNat 0) c.b then(σ,{ n:=σ.getD c.a.toNat 0 })else(σ.set c.a.toNat c.b,{ n:=c.b })
 else(σ,{ err:=40 })
abbrev ZC:=Rs EP Fw (List Int)
def Hz(z:ZC)(k i:Nat):Option Gg:=(z.xs[k]?).bind fun x=>x.out[i]?
def TP(plans:List (List EP))(k i:Nat):Option EP:=(plans[k]?).bind fun pl=>pl[i]?
def tK(σ:List Int)(c:EP):Fw->Prop
 | .one _=>False
 | .look most i v=>c.kind=(if most then 6 else 7)/\c.a=i/\c.b=v/\inn σ.length i=true
 | .cas most i v y=>c.kind=(if most then 6 else 7)/\c.a=i/\c.b=v/\inn σ.length i=true/\MF most y v=false
structure WO(pl:List EP)(σ:List Int)(x:Wk EP Fw):Prop where
 rest:x.cur=none->∃dn,dn.length=x.out.length/\pl=dn++x.todo
 cur:∀cs,x.cur=some cs->∃dn c,dn.length=x.out.length/\pl=dn++c :: x.todo/\tK σ c cs
inductive TO(pl:List EP)(s:Nat)(x x':Wk EP Fw)(σ σ':List Int):Prop
 | no (ho:x'.out=x.out) (hs:σ'=σ) (hw:WO pl σ' x')
 | ends (c:EP) (a:Gg) (hc:pl[x.out.length]?=some c) (ho:x'.out=x.out++[a]) (hst:a.st=s) (h1:JF c σ=(σ',a.a)) (hw:WO pl σ' x')
theorem dh(c:EP)(σ:List Int):(JF c σ).1.length=σ.length:=by
 unfold JF FW;dsimp only;repeat' split
 all_goals simp
theorem mg{pl:List EP}{σ:List Int}{s:Nat}{x:Wk EP Fw}(hw:WO pl σ x):TO pl s x (EK.hold x s σ).1 σ (EK.hold x s σ).2.1:=by
 cases hc:x.cur with
 | none=>
  obtain⟨dn,h1,h2⟩:=hw.rest hc;cases ht:x.todo with
  | nil=>
   have e:EK.hold x s σ=(x,σ,true):=by simp only[Dr.hold,hc,ht]
   rw[e];exact .no rfl rfl hw
  | cons c l=>
   rw[ht]at h2;have hget:pl[x.out.length]?=some c:=by rw[h2,← h1];simp
   have Vw:∀{e:An} {σ':List Int},JF c σ=(σ',e)->TO pl s x (({ x with todo:=l,st:=s,bg:=s,ow:=1 }:Wk EP Fw).land (σ',.inr (e,false))).1 σ (({ x with todo:=l,st:=s,bg:=s,ow:=1 }:Wk EP Fw).land (σ',.inr (e,false))).2.1:=fun{e σ'} h=>by rw[Wk.KU];exact .ends c _ hget rfl rfl h ⟨fun _=>⟨dn++[c],by show(dn++[c]).length=(x.out++[_]).length;simp[h1],by rw[h2];show _=_++l;simp⟩,fun cs hcs=>by cases hcs⟩
   unfold Dr.hold;simp only[hc,ht];by_cases hk:1<=c.kind/\c.kind<=5
   . have jW:1<=c.kind/\c.kind<=7:=⟨hk.1,by omega⟩
     have hi:EK.init x.k c σ=.inl (.one c):=by simp only[EK];rw[if_pos hk]
     rw[hi];dsimp only;by_cases hin:inn σ.length c.a=false
     . have hn:EK.next x.k (.one c) σ=(σ,.inr ({ err:=41 },false)):=by simp only[EK];rw[if_pos hin]
       rw[hn];exact Vw (by unfold JF;rw[if_pos jW,if_pos hin])
     . have hn:EK.next x.k (.one c) σ=((FW c σ).1,.inr ((FW c σ).2,false)):=by simp only[EK];rw[if_neg hin]
       rw[hn];exact Vw (by unfold JF;rw[if_pos jW,if_neg hin,if_pos hk.2])
   . have goes:∀most:Bool,c.kind=(if most then 6 else 7)->TO pl s x (({ x with todo:=l,st:=s,bg:=s,ow:=1 }:Wk EP Fw).land (EK.next x.k (.look most c.a c.b) σ)).1 σ (({ x with todo:=l,st:=s,bg:=s,ow:=1 }:Wk EP Fw).land (EK.next x.k (.look most c.a c.b) σ)).2.1:=fun most hm=>by
       have jW:1<=c.kind/\c.kind<=7:=by cases most<;>simp at hm<;>omega
       have hk5:¬ c.kind<=5:=by cases most<;>simp at hm<;>omega
       have hmd:decide (c.kind=6)=most:=by cases most<;>simp at hm<;>simp[hm]
       by_cases hin:inn σ.length c.a=false
       . have hn:EK.next x.k (.look most c.a c.b) σ=(σ,.inr ({ err:=41 },false)):=by simp only[EK];rw[if_pos hin]
         rw[hn];exact Vw (by unfold JF;rw[if_pos jW,if_pos hin])
       . by_cases hb:MF most (σ.getD c.a.toNat 0) c.b=true
         . have hn:EK.next x.k (.look most c.a c.b) σ=(σ,.inr ({ n:=σ.getD c.a.toNat 0 },false)):=by simp only[EK];rw[if_neg hin,if_pos hb]
           rw[hn];exact Vw (by unfold JF;rw[if_pos jW,if_neg hin,if_neg hk5,hmd,if_pos hb])
         . have hn:EK.next x.k (.look most c.a c.b) σ=(σ,.inl (.cas most c.a c.b (σ.getD c.a.toNat 0))):=by simp only[EK];rw[if_neg hin,if_neg hb]
           rw[hn,Wk.J8];exact .no rfl rfl ⟨fun h=>(by cases h),fun cs hcs=>(by cases hcs;exact⟨dn,c,h1,h2,hm,rfl,rfl,by simpa using hin,by simpa using hb⟩)⟩
     by_cases h6:c.kind=6
     . have hi:EK.init x.k c σ=.inl (.look true c.a c.b):=by simp only[EK];rw[if_neg hk,if_pos h6]
       rw[hi];exact goes true (by simpa using h6)
     . by_cases h7:c.kind=7
       . have hi:EK.init x.k c σ=.inl (.look false c.a c.b):=by simp only[EK];rw[if_neg hk,if_neg h6,if_pos h7]
         rw[hi];exact goes false (by simpa using h7)
       . have hi:EK.init x.k c σ=.inr ({ err:=40 },false):=by simp only[EK];rw[if_neg hk,if_neg h6,if_neg h7]
         rw[hi];exact Vw (by unfold JF;rw[if_neg zOM])
 | some cs=>
  obtain⟨dn,c,h1,h2,h4⟩:=hw.cur cs hc;have hget:pl[x.out.length]?=some c:=by rw[h2,← h1];simp
  have eq:EK.hold x s σ=({ x with st:=s,ow:=x.ow+1 }:Wk EP Fw).land (EK.next x.k cs σ):=by simp only[Dr.hold,hc]
  rw[eq];have Vw:∀{e:An} {σ':List Int},JF c σ=(σ',e)->TO pl s x (({ x with st:=s,ow:=x.ow+1 }:Wk EP Fw).land (σ',.inr (e,false))).1 σ (({ x with st:=s,ow:=x.ow+1 }:Wk EP Fw).land (σ',.inr (e,false))).2.1:=fun{e σ'} h=>by rw[Wk.KU];exact .ends c _ hget rfl rfl h ⟨fun _=>⟨dn++[c],by show(dn++[c]).length=(x.out++[_]).length;simp[h1],by rw[h2];show _=_++x.todo;simp⟩,fun cs hcs=>by cases hcs⟩
  cases cs with
  | one _=>exact h4.elim
  | look most i v=>
   obtain⟨hm,rfl,rfl,h7⟩:=h4;have hin:¬ inn σ.length c.a=false:=by simp[h7]
   have jW:1<=c.kind/\c.kind<=7:=by cases most<;>simp at hm<;>omega
   have hk5:¬ c.kind<=5:=by cases most<;>simp at hm<;>omega
   have hmd:decide (c.kind=6)=most:=by cases most<;>simp at hm<;>simp[hm]
   by_cases hb:MF most (σ.getD c.a.toNat 0) c.b=true
   . have hn:EK.next x.k (.look most c.a c.b) σ=(σ,.inr ({ n:=σ.getD c.a.toNat 0 },false)):=by simp only[EK];rw[if_neg hin,if_pos hb]
     rw[hn];exact Vw (by unfold JF;rw[if_pos jW,if_neg hin,if_neg hk5,hmd,if_pos hb])
   . have hn:EK.next x.k (.look most c.a c.b) σ=(σ,.inl (.cas most c.a c.b (σ.getD c.a.toNat 0))):=by simp only[EK];rw[if_neg hin,if_neg hb]
     rw[hn,Wk.J8];exact .no rfl rfl ⟨fun h=>(by cases h),fun cs hcs=>(by cases hcs;exact⟨dn,c,h1,h2,hm,rfl,rfl,h7,by simpa using hb⟩)⟩
  | cas most i v y=>
   obtain⟨hm,rfl,rfl,h7,hny⟩:=h4;have hin:¬ inn σ.length c.a=false:=by simp[h7]
   have jW:1<=c.kind/\c.kind<=7:=by cases most<;>simp at hm<;>omega
   have hk5:¬ c.kind<=5:=by cases most<;>simp at hm<;>omega
   have hmd:decide (c.kind=6)=most:=by cases most<;>simp at hm<;>simp[hm]
   by_cases hy:σ.getD c.a.toNat 0=y
   . have hn:EK.next x.k (.cas most c.a c.b y) σ=(σ.set c.a.toNat c.b,.inr ({ n:=c.b },false)):=by simp only[EK];rw[if_pos hy]
     rw[hn];exact Vw (by unfold JF;rw[if_pos jW,if_neg hin,if_neg hk5,hmd,if_neg (by rw[hy,hny];decide)])
   . have hn:EK.next x.k (.cas most c.a c.b y) σ=(σ,.inl (.look most c.a c.b)):=by simp only[EK];rw[if_neg hy]
     rw[hn,Wk.J8];exact .no rfl rfl ⟨fun h=>(by cases h),fun cs hcs=>(by cases hcs;exact⟨dn,c,h1,h2,hm,rfl,rfl,h7⟩)⟩
theorem WO.len{pl:List EP}{σ σ':List Int}{x:Wk EP Fw}(h:WO pl σ x)(hl:σ'.length=σ.length):WO pl σ' x:=by
 refine⟨h.rest,fun cs hc=>?_⟩;obtain⟨dn,c,h1,h2,h3⟩:=h.cur cs hc;refine⟨dn,c,h1,h2,?_⟩;cases cs with
 | one _=>exact h3
 | look=>unfold tK at h3 ⊢;rw[hl];exact h3
 | cas=>unfold tK at h3 ⊢;rw[hl];exact h3
structure OI(plans:List (List EP))(Qo:List Int)(S:Nat->List Int)(z:ZC):Prop where
 len:z.xs.length=plans.length
 each:∀(k:Nat) x pl,z.xs[k]?=some x->plans[k]?=some pl->WO pl z.σ x
 first:S 0=Qo
 last:S z.s=z.σ
 st:∀k i a,Hz z k i=some a->1<=a.st/\a.st<=z.s
 uniq:∀k i a k' i' a',Hz z k i=some a->Hz z k' i'=some a'->a.st=a'.st->k=k'/\i=i'
 ends:∀k i a,Hz z k i=some a->∃c,TP plans k i=some c/\JF c (S (a.st-1))=(S a.st,a.a)
 still:∀t,t<z.s->(∀k i a,Hz z k i=some a->a.st≠t+1)->S (t+1)=S t
theorem OI.new(plans:List (List EP))(σ:List Int)(turns hl:List Int):OI plans σ (fun _=>σ) (Rs.new plans σ turns hl):=by
 have hx:∀(k:Nat) x,(Rs.new (Cs:=Fw) plans σ turns hl).xs[k]?=some x->∃pl,plans[k]?=some pl/\x=Wk.new k pl:=fun k x hx=>by
  simp only[Rs.new,List.getElem?_map,List.getElem?_zipIdx,Option.map_map]at hx;cases hp:plans[k]? with
  | none=>rw[hp]at hx;cases hx
  | some pl=>
   rw[hp]at hx;obtain rfl:=Option.some.inj hx;exact⟨pl,rfl,by simp⟩
 have ha:∀k i a,Hz (Rs.new plans σ turns hl) k i=some a->False:=fun k i a h=>by
  unfold Hz at h;cases hk:(Rs.new (Cs:=Fw) plans σ turns hl).xs[k]? with
  | none=>rw[hk]at h;cases h
  | some x=>
   obtain⟨pl,_,rfl⟩:=hx k x hk;rw[hk]at h;cases h
 refine⟨by simp[Rs.new],fun k x pl h1 h2=>?_,rfl,rfl,fun k i a h=>(ha k i a h).elim,fun k i a _ _ _ h=>(ha k i a h).elim,fun k i a h=>(ha k i a h).elim,fun t ht=>absurd ht (Nat.not_lt_zero t)⟩;obtain⟨pl',h3,rfl⟩:=hx k x h1;rw[h2]at h3;obtain rfl:=Option.some.inj h3;exact⟨fun _=>⟨[],rfl,rfl⟩,fun cs hc=>by cases hc⟩
theorem OI.turn{plans:List (List EP)}{Qo:List Int}{S:Nat->List Int}{z:ZC}(h:OI plans Qo S z){k:Nat}{x:Wk EP Fw}(hx:z.xs[k]?=some x):∃S',OI plans Qo S' (z.turn EK k x):=by
 have hk:k<z.xs.length:=(List.getElem?_eq_some_iff.1 hx).1;have hkp:k<plans.length:=by rw[← h.len];exact hk
 have hpl:=List.getElem?_eq_getElem hkp;have ht:=mg (s:=z.s+1) (h.each k x _ hx hpl);generalize hx':(EK.hold x (z.s+1) z.σ).1=x' at ht;generalize hs':(EK.hold x (z.s+1) z.σ).2.1=σ' at ht;have z1:(z.turn EK k x).xs=z.xs.set k x':=by rw[← hx'];rfl
 have z2:(z.turn EK k x).σ=σ':=by rw[← hs'];rfl
 have z3:(z.turn EK k x).s=z.s+1:=rfl;generalize z.turn EK k x=z' at z1 z2 z3;have aj:∀j i,j≠k->Hz z' j i=Hz z j i:=fun j i hj=>by unfold Hz;rw[z1,List.getElem?_set_ne (Ne.symm hj)]
 have ak:∀i,Hz z' k i=x'.out[i]?:=fun i=>by unfold Hz;rw[z1,List.getElem?_set_self hk];rfl
 have akz:∀i,Hz z k i=x.out[i]?:=fun i=>by unfold Hz;rw[hx];rfl
 have hlen:σ'.length=z.σ.length:=by
  cases ht with
  | no _ h2=>rw[h2]
  | ends c a _ _ _ h5=>have:=dh c z.σ;rw[h5]at this;exact this
 have oZ:∀(j:Nat) y pl,z'.xs[j]?=some y->plans[j]?=some pl->WO pl σ' y:=fun j y pl hy hp=>by
  rw[z1]at hy;by_cases e:k=j
  . subst e;rw[List.getElem?_set_self hk]at hy;obtain rfl:=Option.some.inj hy;rw[hpl]at hp;obtain rfl:=Option.some.inj hp;cases ht with
    | no _ _ h3=>exact h3
    | ends _ _ _ _ _ _ h7=>exact h7
  . rw[List.getElem?_set_ne e]at hy;exact(h.each j y pl hy hp).len hlen
 refine⟨fun t=>if t<=z.s then S t else σ',?_⟩;have s1:∀t,t<=z.s->(if t<=z.s then S t else σ')=S t:=fun t ht=>if_pos ht;have s2:(if z.s+1<=z.s then S (z.s+1)else σ')=σ':=if_neg zOM;cases ht with
 | no ho hs hw=>
  have same:∀j i,Hz z' j i=Hz z j i:=fun j i=>by
    by_cases e:j=k
    . subst e;rw[ak,akz,ho]
    . exact aj j i e
  refine⟨by rw[z1,List.length_set];exact h.len,by rw[z2];exact oZ,?_,?_,fun j i a ha=>?_,fun j i a j' i' a' ha ha'=>?_,fun j i a ha=>?_,fun t ht hno=>?_⟩
  . show(if 0<=z.s then _ else _)=_;rw[s1 0 (Nat.zero_le _)];exact h.first
  . rw[z3,z2];exact s2
  . rw[same]at ha;have:=h.st j i a ha;omega
  . rw[same]at ha ha';exact h.uniq j i a j' i' a' ha ha'
  . rw[same]at ha;have hb:=h.st j i a ha;obtain⟨c,h1,h2⟩:=h.ends j i a ha;exact⟨c,h1,by rw[s1 _ zOM,s1 _ hb.2];exact h2⟩
  . by_cases e:t=z.s
    . subst e;show(if z.s+1<=z.s then _ else _)=(if z.s<=z.s then _ else _)
      rw[s2,s1 _ (Nat.le_refl _),h.last,hs]
    . show(if t+1<=z.s then _ else _)=(if t<=z.s then _ else _)
      rw[s1 _ zOM,s1 _ zOM];exact h.still t zOM fun j i a ha=>hno j i a (by rw[same];exact ha)
 | ends c a hc ho hst h1 hw=>
  have new:∀i b,Hz z' k i=some b->(i<x.out.length/\Hz z k i=some b)\/i=x.out.length/\b=a:=fun i b hb=>by
    rw[ak,ho]at hb;by_cases hi:i<x.out.length
    . rw[List.getElem?_append_left hi]at hb;exact .inl ⟨hi,by rw[akz];exact hb⟩
    . rw[List.getElem?_append_right zOM]at hb;cases hd:i-x.out.length with
      | zero=>rw[hd]at hb;exact .inr ⟨by omega,(Option.some.inj hb).symm⟩
      | succ q=>rw[hd]at hb;cases hb
  have back:∀j i b,Hz z' j i=some b->Hz z j i=some b\/j=k/\i=x.out.length/\b=a:=fun j i b hb=>by
    by_cases e:j=k
    . subst e;rcases new i b hb with h|h
      . exact .inl h.2
      . exact .inr ⟨rfl,h⟩
    . rw[aj j i e]at hb;exact .inl hb
  have fwd:∀j i b,Hz z j i=some b->Hz z' j i=some b:=fun j i b hb=>by
    by_cases e:j=k
    . subst e;rw[akz]at hb;rw[ak,ho,List.getElem?_append_left (List.getElem?_eq_some_iff.1 hb).1];exact hb
    . rw[aj j i e];exact hb
  refine⟨by rw[z1,List.length_set];exact h.len,by rw[z2];exact oZ,?_,?_,fun j i b hb=>?_,fun j i b j' i' b' hb hb' hst'=>?_,fun j i b hb=>?_,fun t ht hno=>?_⟩
  . show(if 0<=z.s then _ else _)=_;rw[s1 0 (Nat.zero_le _)];exact h.first
  . rw[z3,z2];exact s2
  . rcases back j i b hb with hb | ⟨_,_,rfl⟩
    . have:=h.st j i b hb;omega
    . omega
  . rcases back j i b hb with hb | ⟨rfl,rfl,rfl⟩
    . rcases back j' i' b' hb' with hb' | ⟨rfl,rfl,rfl⟩
      . exact h.uniq j i b j' i' b' hb hb' hst'
      . have:=h.st j i b hb;omega
    . rcases back j' i' b' hb' with hb' | ⟨rfl,rfl,rfl⟩
      . have:=h.st j' i' b' hb';omega
      . exact⟨rfl,rfl⟩
  . rcases back j i b hb with hb | ⟨rfl,rfl,rfl⟩
    . have hl:=h.st j i b hb;obtain⟨c',e1,e2⟩:=h.ends j i b hb;exact⟨c',e1,by rw[s1 _ zOM,s1 _ hl.2];exact e2⟩
    . refine⟨c,?_,?_⟩
      . unfold TP;rw[hpl];exact hc
      . rw[hst,Nat.add_sub_cancel,s1 _ (Nat.le_refl _),s2,h.last];exact h1
  . by_cases e:t=z.s
    . subst e;exact absurd hst (hno k x.out.length a (by rw[ak,ho];simp))
    . show(if t+1<=z.s then _ else _)=(if t<=z.s then _ else _)
      rw[s1 _ zOM,s1 _ zOM];exact h.still t zOM fun j i b hb=>hno j i b (fwd j i b hb)
theorem OI.go{plans:List (List EP)}{Qo:List Int}(most:Nat):∀(f:Nat) {z:ZC},(∃S,OI plans Qo S z)->∃S,OI plans Qo S (Rs.go EK most f z)
 | 0,z,h=>h
 | f+1,z,h=>by
  unfold Rs.go;split
  . refine OI.go most f ?_;obtain⟨S,h⟩:=h;unfold Rs.next;cases hx:z.xs[z.pick]? with
    | none=>exact⟨S,h⟩
    | some x=>exact h.turn hx
  . exact h
end Go.Proofs.Ytdkfdedgfilhbaa
namespace Go.Proofs.Ytdkfdedgfilhbaa
open Go Go.Conc Go.LT Go.LC Go.LK Go.RowKit
section
theorem ZK(c:EP)(σ:List Int):PX EK 3 c σ=some ((JF c σ).1,((JF c σ).2,false)):=by
 unfold JF;by_cases h5:1<=c.kind/\c.kind<=5
 . have hi0:EK.init 0 c σ=.inl (.one c):=by simp[EK,h5]
   unfold PX;rw[hi0,if_pos ⟨h5.1,by omega⟩];by_cases hi:inn σ.length c.a=false
   . simp[Jl,hi,EK]
   . simp[Jl,hi,EK,h5.2]
 . by_cases h6:c.kind=6
   . have hi0:EK.init 0 c σ=.inl (.look true c.a c.b):=by simp[EK,h6]
     unfold PX;rw[hi0,if_pos zOM];by_cases hi:inn σ.length c.a=false
     . simp[Jl,hi,EK]
     . by_cases hb:MF true (σ.getD c.a.toNat 0) c.b
       . simp only[Bool.not_eq_false]at hi;simp[Jl,hi,EK,h6];simp only[List.getD_eq_getElem?_getD]at hb;simp[hb]
       . simp only[Bool.not_eq_false]at hi;simp[Jl,hi,EK,h6];simp only[List.getD_eq_getElem?_getD]at hb;simp[hb]
   . by_cases h7:c.kind=7
     . have hi0:EK.init 0 c σ=.inl (.look false c.a c.b):=by simp[EK,h7]
       unfold PX;rw[hi0,if_pos zOM];by_cases hi:inn σ.length c.a=false
       . simp[Jl,hi,EK]
       . by_cases hb:MF false (σ.getD c.a.toNat 0) c.b
         . simp only[Bool.not_eq_false]at hi;simp[Jl,hi,EK,h7];simp only[List.getD_eq_getElem?_getD]at hb;simp[hb]
         . simp only[Bool.not_eq_false]at hi;simp[Jl,hi,EK,h7];simp only[List.getD_eq_getElem?_getD]at hb;simp[hb]
     . have hi0:EK.init 0 c σ=.inr ({ err:=40 },false):=by simp only[EK];rw[if_neg h5,if_neg h6,if_neg h7]
       unfold PX;rw[hi0,if_neg zOM]
variable {X XZ:Type}{m:Mem (List Int)}{cb ct n:Nat}{cf:Frame}{fs:List Frame}{W:World}{σ:List Int}
theorem iU(S:Fp Try.prog true (G0 X XZ)){γ:G0 X XZ}(hm:FI m ct cb n){c:EP}{pv:Value}(hI:m.Inv σ W){own:Nat->Prop}(hown:∀b,own b->¬ m.Sh b/\∃c e f,W.heap[b]?=some (.cells c e f))(hJ:∀W',m.Inv (JF c σ).1 W'->(∀b,own b->W'.heap[b]?=W.heap[b]?)->W.heap.size<=W'.heap.size->JW S.base γ (G (cf.finish (MN (JF c σ).2 (.slice none 0 0))) fs) W') :
  JW S.base γ (G (Frame.enter Try.prog 11 #[.pointer (some ⟨ct,0,none⟩),Gf c pv] .normal) (cf :: fs)) W:=by
 refine gU (YA EK m γ S) hm rfl (s:=(⟨own,3,((JF c σ).1,((JF c σ).2,false))⟩:Lst (List Int))) (σ:=σ) ⟨hI,hown⟩ (ZK c σ) trivial fun s' σ' W' e hA hO hE he=>?_;have hres:s'.res=((JF c σ).1,((JF c σ).2,false)):=hO.le;have hE':(σ',(e,false))=s'.res:=hE;rw[hres]at hE';obtain⟨h1,h2⟩:=Prod.mk.inj hE';obtain⟨h3,_⟩:=Prod.mk.inj h2;subst h1 h3;exact hJ W' hA.inv (fun b hb=>(hO.kept b hb).2) hO.size
theorem Vf{i:Nat}(v:Int)(hi:i<σ.length):Jl EK 3 (.one ({ kind:=2,a:=i,b:=v,c:=0 }:EP)) σ=some (σ.set i v,(({}:An),false)):=by
 have hin:inn σ.length (i:Int)=true:=by simp[inn];omega
 simp[Jl,EK,hin,FW]
theorem XE(S:Fp Try.prog true (G0 X XZ)){γ:G0 X XZ}(hm:FI m ct cb n){i:Nat}{v:Int}(hi:i<n)(hI:m.Inv σ W){own:Nat->Prop}(hown:∀b,own b->¬ m.Sh b/\∃c e f,W.heap[b]?=some (.cells c e f))(hJ:∀W',m.Inv (σ.set i v) W'->(∀b,own b->W'.heap[b]?=W.heap[b]?)->W.heap.size<=W'.heap.size->JW S.base γ (G (cf.finish (.int .i64 0)) fs) W') :
  JW S.base γ (G (Frame.enter Try.prog 9 #[.pointer (some ⟨ct,0,none⟩),.pointer none,.int .i64 i,.int .i64 v] .normal) (cf :: fs)) W:=by
 have hl:i<σ.length:=by rw[(hm.get σ W hI).1];exact hi
 refine Qq (YA EK m γ S) hm (s:=(⟨own,3,(σ.set i v,(({}:An),false))⟩:Lst (List Int))) (σ:=σ) (c:=({ kind:=2,a:=i,b:=v,c:=0 }:EP)) rfl ⟨hI,hown⟩ (Vf v hl) trivial fun s' σ' W' e hA hO hE he=>?_;have hres:s'.res=(σ.set i v,(({}:An),false)):=hO.le;have hE':(σ',(e,false))=s'.res:=hE;rw[hres]at hE';obtain⟨h1,h2⟩:=Prod.mk.inj hE';obtain⟨h3,_⟩:=Prod.mk.inj h2;subst h1 h3;exact hJ W' hA.inv (fun b hb=>(hO.kept b hb).2) hO.size
end
end Go.Proofs.Ytdkfdedgfilhbaa
namespace Go.Proofs.Ytdkfdedgfilhbaa
open Go Go.Conc Go.LT Go.LC Go.LK Go.RowKit
open BA
theorem flat_get(n:Nat):∀(l:List (List Value)),(∀x∈l,x.length=n)->∀(i:Nat) (x:List Value),l[i]?=some x->∀j,j<n->l.flatten[i*n+j]?=x[j]?
 | [],_,i,x,hx,j,hj=>by simp at hx
 | y :: t,h,0,x,hx,j,hj=>by
  obtain rfl:=Option.some.inj hx;have hy:=h y List.mem_cons_self;rw[List.flatten_cons,List.getElem?_append_left zOM]
  simp
 | y :: t,h,i+1,x,hx,j,hj=>by have hy:=h y List.mem_cons_self;have e:(i+1)*n=i*n+n:=Nat.succ_mul i n;rw[List.flatten_cons,List.getElem?_append_right zOM,show(i+1)*n+j-y.length=i*n+j from by omega];exact flat_get n t (fun z hz=>h z (List.mem_cons_of_mem _ hz)) i x hx j hj
theorem PG{w:World}{base size n:Nat}{v:Value}{xs:List Value}(h:FY w base size v n xs):∃p c,v=.slice p n c:=by
 obtain⟨te,_,h⟩:=h;rcases h with⟨rfl,rfl⟩|⟨g,cap,cur,rfl,_⟩
 . exact⟨_,_,rfl⟩
 . exact⟨_,_,rfl⟩
def yP(W:World)(g o:Nat)(a:Gg):Prop:=
 W.cell? ⟨g,o,none⟩=some (.int .i64 a.bg)/\W.cell? ⟨g,o+1,none⟩=some (.int .i64 a.st)/\W.cell? ⟨g,o+2,none⟩=some (.int .i64 a.ow)/\W.cell? ⟨g,o+3,none⟩=some (.bool a.a.ok)/\W.cell? ⟨g,o+4,none⟩=some (.int .i64 a.a.n)/\W.cell? ⟨g,o+5,none⟩=some (.int .i64 a.a.m)/\W.cell? ⟨g,o+6,none⟩=some (.int .i64 a.a.err)/\W.cell? ⟨g,o+7,none⟩=some (.slice none 0 0)/\W.cell? ⟨g,o+8,none⟩=some (.slice none 0 0)
def Pm(aa:Option Addr)(outs:List (List Gg))(W:World):Prop:=
 ∀(k:Nat) out,outs[k]?=some out->∃b o sa sc,aa=some ⟨b,o,none⟩/\W.cell? ⟨b,o+k,none⟩=some (.slice sa out.length sc)/\∀(i:Nat) a,out[i]?=some a->∃g o',sa=some ⟨g,o',none⟩/\yP W g (o'+i*9) a
theorem Pm.old{aa:Option Addr}{outs:List (List Gg)}{W W':World}(h:Pm aa outs W)(hg:∀g,g<W.heap.size->W'.heap[g]?=W.heap[g]?):Pm aa outs W':=fun k out hk=>by
 have e:∀{g o v},W.cell? ⟨g,o,none⟩=some v->W'.cell? ⟨g,o,none⟩=some v:=fun{g o v} hx=>by rw[← hx];simp only[World.cell?,hg g (Ip hx)]
 obtain⟨b,o,sa,sc,a1,a2,a3⟩:=h k out hk;refine⟨b,o,sa,sc,a1,e a2,fun i a ha=>?_⟩;obtain⟨g,o',b1,c0,c1,c2,c3,c4,c5,c6,c7,c8⟩:=a3 i a ha;exact⟨g,o',b1,e c0,e c1,e c2,e c3,e c4,e c5,e c6,e c7,e c8⟩
def fq(a:Gg):Value:=.agg #[.int .i64 a.bg,.int .i64 a.st,.int .i64 a.ow,.bool a.a.ok,.int .i64 a.a.n,.int .i64 a.a.m,.int .i64 a.a.err,.slice none 0 0,.slice none 0 0]
def Yr(c:EP)(pa:Option Addr)(pn pc:Nat):Value:=.agg #[.int .i64 c.kind,.int .i64 c.a,.int .i64 c.b,.int .i64 c.c,.slice pa pn pc]
def rT(plans:List (List EP))(outs:List (List Gg))(step:Nat)(w:World)(e:Ending)(w':World):Prop:=Below w.heap.size w w'/\
 ((∃(k i:Nat) (out:List Gg) (pl:List EP) (a:Gg) (c:EP) (pa:Option Addr) (pn pc:Nat),outs[k]?=some out/\out[i]?=some a/\plans[k]?=some pl/\pl[i]?=some c/\a.st=step/\e=.returned (.tuple #[fq a,Yr c pa pn pc,.bool true]))\/
 ((∀(k i:Nat) (out:List Gg) (a:Gg),outs[k]?=some out->out[i]?=some a->a.st≠step)/\e=.returned (.tuple #[.agg #[.int .i64 0,.int .i64 0,.int .i64 0,.bool false,.int .i64 0,.int .i64 0,.int .i64 0,.slice none 0 0,.slice none 0 0],.agg #[.int .i64 0,.int .i64 0,.int .i64 0,.int .i64 0,.slice none 0 0],.bool false])))
theorem Zl(w:World)(a:Obj)(c:Array Value)(e:TypeId)(f:Nat × Nat)(j:Nat):((w.alloc a).alloc (.cells c e f)).cell? ⟨w.heap.size+1,j,none⟩=c[j]?:=by
 have:=Ua (w.alloc a) c e f j
 simpa using this
theorem EW{W:World}{g:Nat}{cs:Array Value}{t:TypeId}{f:Nat × Nat}(h:W.heap[g]?=some (.cells cs t f))(j:Nat){v:Value}(hv:cs[j]?=some v):W.cell? ⟨g,j,none⟩=some v:=by simp[World.cell?,h,hv]
theorem FD{W:World}{g:Nat}{cs:Array Value}{t:TypeId}(h:W.heap[g]?=some (.cells cs t (0,0)))(j:Nat):W.frozen? ⟨g,j,none⟩=false:=by simp[World.frozen?,h]
theorem zV(h:FuncId)(L:List FuncId){Fx:Nat->Prop}{wa ta ya aa:Option Addr}{plans:List (List EP)}{turns hl:List Int}{outs:List (List Gg)}{w:World}(hC:GL Fx wa ta ya plans turns hl w)(hA:Pm aa outs w)(J5 tn tc yn yc ac:Nat)(u:Int)(oa:Option Addr)(on oc:Nat)(st:Int)(cut:Bool)(hlen:outs.length=plans.length)(hpl:plans.length<=16)(hfit:∀k,(outs.getD k []).length<=(plans.getD k []).length)(h64:∀j,(plans.getD j []).length<=64)(step:Nat)(hstep:step<=1000000) :
    CallsIn (Fence.list (h :: 10 :: L) none) 0 Try.prog 10 #[.agg #[.slice wa plans.length J5,.slice ta tn tc,.slice ya yn yc,.int .i64 u],.agg #[.slice aa outs.length ac,.slice oa on oc,.int .i64 st,.bool cut],.int .i64 step] w (rT plans outs step w):=by
  have HC:=Lib.hid (zAI hC (zAI hA (zAI hfit (zAI h64 hlen))));have hout:outs.length<=16:=by omega
  clear hC hA hfit h64 hlen;gi_enter Try.func10,Try.ntmps10
  gi_wp2;generalize hW:World.alloc (World.alloc (World.alloc (World.alloc w _) _) _) _=W1;have c0:W1.cell? ⟨w.heap.size,0,none⟩=some (.slice wa plans.length J5):=by rw[← hW];exact Lib.cell?_alloc_some _ (Lib.cell?_alloc_some _ (Lib.cell?_alloc_some _ (Ua _ _ _ _ 0)))
  have c1:W1.cell? ⟨w.heap.size+1,0,none⟩=some (.slice aa outs.length ac):=by rw[← hW];exact Lib.cell?_alloc_some _ (Lib.cell?_alloc_some _ (Zl _ _ _ _ _ 0))
  have c2:W1.heap[w.heap.size+1+1]?=some (.cells #[.int .i64 0,.int .i64 0,.int .i64 0,.bool false,.int .i64 0,.int .i64 0,.int .i64 0,.slice none 0 0,.slice none 0 0] 42 (0,0)):=by
    rw[← hW,heap_alloc_old _ _ (by simp)];have:=heap_alloc_new ((w.alloc (.cells #[.slice wa plans.length J5,.slice ta tn tc,.slice ya yn yc,.int .i64 u] 25)).alloc (.cells #[.slice aa outs.length ac,.slice oa on oc,.int .i64 st,.bool cut] 31)) (.cells #[.int .i64 0,.int .i64 0,.int .i64 0,.bool false,.int .i64 0,.int .i64 0,.int .i64 0,.slice none 0 0,.slice none 0 0] 42 (0,0))
    simpa using this
  have c3:W1.heap[w.heap.size+1+1+1]?=some (.cells #[.int .i64 0,.int .i64 0,.int .i64 0,.int .i64 0,.slice none 0 0] 44 (0,0)):=by
    rw[← hW];have:=heap_alloc_new (((w.alloc (.cells #[.slice wa plans.length J5,.slice ta tn tc,.slice ya yn yc,.int .i64 u] 25)).alloc (.cells #[.slice aa outs.length ac,.slice oa on oc,.int .i64 st,.bool cut] 31)).alloc (.cells #[.int .i64 0,.int .i64 0,.int .i64 0,.bool false,.int .i64 0,.int .i64 0,.int .i64 0,.slice none 0 0,.slice none 0 0] 42 (0,0))) (.cells #[.int .i64 0,.int .i64 0,.int .i64 0,.int .i64 0,.slice none 0 0] 44 (0,0))
    simpa using this
  have HD:RowKit.Hid (GL Fx wa ta ya plans turns hl W1/\Pm aa outs W1/\Below w.heap.size w W1):=Lib.hid (by
    obtain⟨hC,hA,_⟩:=HC.out;have hB:Below w.heap.size w W1:=by rw[← hW];exact((((Below.refl _ w).alloc (Nat.le_refl _) _).alloc (by simp) _).alloc (by simp;omega) _).alloc (by simp;omega) _
    exact⟨hC.old hB.block,hA.old hB.block,hB⟩)
  have Acu:w.heap.size+1+1<W1.heap.size:=(zGE c2).1;have HE:=Lib.hid (zAI c2 (zAI c3 hW));clear hW c2 c3;gi_loopw [9] (fun kv wr=>∃k:Nat,k<=outs.length/\kv=.int .i64 k/\wr=W1/\RowKit.Hid (∀(k':Nat),k'<k->∀(i:Nat) (out:List Gg) (a:Gg),outs[k']?=some out->out[i]?=some a->a.st≠step)) (fun kv _=>outs.length-(intOf kv).toNat)
  case atStart=>exact⟨0,Nat.zero_le _,rfl,rfl,Lib.hid fun k' h=>absurd h (Nat.not_lt_zero _)⟩
  case round=>
    obtain⟨k,hk,rfl,rfl,hno⟩:=hrel;by_cases hlt:k<outs.length
    . have hki:(k:Int)<(outs.length:Int):=by omega
      have hkp:k<plans.length:=by have:=HC.out.2.2.2.2;omega
      have Anh:(k:Int)<(plans.length:Int):=by omega
      have hf:=HC.out.2.2.1 k;have h6:=HC.out.2.2.2.1 k;obtain⟨hC,hA,-⟩:=HD.out;obtain⟨pl,hpk⟩:∃pl,plans[k]?=some pl:=⟨_,List.getElem?_eq_getElem hkp⟩
      obtain⟨out,hok⟩:∃out,outs[k]?=some out:=⟨_,List.getElem?_eq_getElem hlt⟩
      have e64:plans.getD k []=pl:=by rw[List.getD_eq_getElem?_getD,hpk];rfl
      have Acp:outs.getD k []=out:=by rw[List.getD_eq_getElem?_getD,hok];rfl
      rw[e64,Acp]at hf;rw[e64]at h6;obtain⟨b,o,ca,cc,rfl,-,-,p1,p2⟩:=hC.work k pl hpk;obtain⟨b2,o2,sa,sc,rfl,q1,q2⟩:=hA k out hok;have HR:=Lib.hid (zAI hf (zAI p2 (zAI q2 (zAI hpk hok))));clear hC hA hpk hok p2 q2 e64 Acp hf;gi_wp2;gi_loopw [10] (fun iv wq=>∃i:Nat,i<=out.length/\iv=.int .i64 i/\wq=wr/\RowKit.Hid (∀(i':Nat),i'<i->∀(a:Gg),out[i']?=some a->a.st≠step)) (fun iv _=>out.length-(intOf iv).toNat)
      case atStart=>exact⟨0,Nat.zero_le _,rfl,rfl,Lib.hid fun i' h=>absurd h (Nat.not_lt_zero _)⟩
      case round=>
        obtain⟨i,hi',rfl,rfl,hni⟩:=hrel;by_cases hl0:i<out.length
        . have hl0':(i:Int)<(out.length:Int):=by omega
          have Agn:i<pl.length:=by have:=HR.out.1;omega
          have Al1:i<64:=by omega
          have hip:(i:Int)<(pl.length:Int):=by omega
          obtain⟨-,p2,q2,hpk,hok⟩:=HR.out;obtain⟨c,hcc⟩:∃c,pl[i]?=some c:=⟨_,List.getElem?_eq_getElem Agn⟩
          obtain⟨a,haa⟩:∃a,out[i]?=some a:=⟨_,List.getElem?_eq_getElem hl0⟩
          obtain⟨g,o',pa,pn,pc,rfl,-,x0,x1,x2,x3,x4⟩:=p2 i c hcc;obtain⟨g2,o8,rfl,y0,y1,y2,y3,y4,y5,y6,y7,y8⟩:=q2 i a haa;have HL:RowKit.Hid (b<w.heap.size/\b2<w.heap.size/\g<w.heap.size/\g2<w.heap.size):=Lib.hid (by
            obtain⟨hC,hA,-⟩:=HC.out;obtain⟨b',o',ca',cc',e1,-,-,e2,e3⟩:=hC.work k pl hpk;cases e1
            obtain⟨b3,o3,sa3,sc3,e4,e5,e6⟩:=hA k out hok;cases e4
            have f1:=(HD.out.2.2.cell (p:=⟨b,_,none⟩) (Ip e2)).trans e2;rw[p1]at f1;cases f1
            have f2:=(HD.out.2.2.cell (p:=⟨b2,_,none⟩) (Ip e5)).trans e5;rw[q1]at f2;cases f2
            obtain⟨g',o'',pa',pn',pc',e7,-,e8⟩:=e3 i c hcc;cases e7
            obtain⟨g4,o4,e9,e10⟩:=e6 i a haa;cases e9
            exact⟨Ip e2,Ip e5,e8.lt,Ip e10.1⟩)
          have HS:=Lib.hid (zAI hpk (zAI hok (zAI hcc haa)));clear hpk hok hcc haa p2 q2;by_cases hst:a.st=step
          . have hst':((a.st:Int)==(step:Int))=true:=by simp[hst]
            have HT:=Lib.hid hst;clear hst;have lw:∀{g o v},w.cell? ⟨g,o,none⟩=some v->g<w.heap.size:=fun h=>Ip h;obtain⟨c2,c3,-⟩:=HE.out;have ka0:wr.cell? ⟨w.heap.size+1+1,0,none⟩=some (.int .i64 0):=EW c2 0 rfl;have fa0:=FD c2 0;have ka1:wr.cell? ⟨w.heap.size+1+1,1,none⟩=some (.int .i64 0):=EW c2 1 rfl;have fa1:=FD c2 1;have ka2:wr.cell? ⟨w.heap.size+1+1,2,none⟩=some (.int .i64 0):=EW c2 2 rfl;have fa2:=FD c2 2;have ka3:wr.cell? ⟨w.heap.size+1+1,3,none⟩=some (.bool false):=EW c2 3 rfl;have fa3:=FD c2 3;have ka4:wr.cell? ⟨w.heap.size+1+1,4,none⟩=some (.int .i64 0):=EW c2 4 rfl;have fa4:=FD c2 4;have ka5:wr.cell? ⟨w.heap.size+1+1,5,none⟩=some (.int .i64 0):=EW c2 5 rfl;have fa5:=FD c2 5;have ka6:wr.cell? ⟨w.heap.size+1+1,6,none⟩=some (.int .i64 0):=EW c2 6 rfl;have fa6:=FD c2 6
            have ka7:wr.cell? ⟨w.heap.size+1+1,7,none⟩=some (.slice none 0 0):=EW c2 7 rfl;have fa7:=FD c2 7;have ka8:wr.cell? ⟨w.heap.size+1+1,8,none⟩=some (.slice none 0 0):=EW c2 8 rfl;have fa8:=FD c2 8;have kc0:wr.cell? ⟨w.heap.size+1+1+1,0,none⟩=some (.int .i64 0):=EW c3 0 rfl;have fc0:=FD c3 0;have kc1:wr.cell? ⟨w.heap.size+1+1+1,1,none⟩=some (.int .i64 0):=EW c3 1 rfl;have fc1:=FD c3 1;have kc2:wr.cell? ⟨w.heap.size+1+1+1,2,none⟩=some (.int .i64 0):=EW c3 2 rfl;have fc2:=FD c3 2;have kc3:wr.cell? ⟨w.heap.size+1+1+1,3,none⟩=some (.int .i64 0):=EW c3 3 rfl;have fc3:=FD c3 3;have kc4:wr.cell? ⟨w.heap.size+1+1+1,4,none⟩=some (.slice none 0 0):=EW c3 4 rfl;have fc4:=FD c3 4;clear c2 c3 lw;have Kl:=HL.out;have n0:¬ w.heap.size+1+1=w.heap.size:=by omega
            have n1:¬ w.heap.size+1+1=w.heap.size+1:=by omega
            have n2:¬ w.heap.size+1+1=b:=by omega
            have n3:¬ w.heap.size+1+1=b2:=by omega
            have n4:¬ w.heap.size+1+1=g:=by omega
            have n5:¬ w.heap.size+1+1=g2:=by omega
            have n6:¬ w.heap.size+1+1=w.heap.size+1+1+1:=by omega
            clear Kl;gi_wp2;gi_region
            gi_wp2;obtain⟨c2,c3,-⟩:=HE.out;generalize lK:World.setCell _ _ _=Wz;have q2:Wz.heap[w.heap.size+1+1]?=some (.cells #[.int .i64 a.bg,.int .i64 a.st,.int .i64 a.ow,.bool a.a.ok,.int .i64 a.a.n,.int .i64 a.a.m,.int .i64 a.a.err,.slice none 0 0,.slice none 0 0] 42 (0,0)):=by rw[← lK];simp[World.setCell,Array.getElem?_modify,c2]
            have q3:Wz.heap[w.heap.size+1+1+1]?=some (.cells #[.int .i64 c.kind,.int .i64 c.a,.int .i64 c.b,.int .i64 c.c,.slice pa pn pc] 44 (0,0)):=by rw[← lK];simp[World.setCell,Array.getElem?_modify,c3]
            have qB:Below w.heap.size wr Wz:=by
                rw[← lK];iterate 14(refine Below.setCell ?_ (by dsimp only;omega) _)
                first | exact Below.refl _ _ | exact(Below.refl _ _).drew
            clear lK c2 c3;have g0:Wz.cell? ⟨w.heap.size+1+1,0,none⟩=some (.int .i64 a.bg):=EW q2 0 rfl;have g1:Wz.cell? ⟨w.heap.size+1+1,1,none⟩=some (.int .i64 a.st):=EW q2 1 rfl;have g2:Wz.cell? ⟨w.heap.size+1+1,2,none⟩=some (.int .i64 a.ow):=EW q2 2 rfl;have g3:Wz.cell? ⟨w.heap.size+1+1,3,none⟩=some (.bool a.a.ok):=EW q2 3 rfl;have g4:Wz.cell? ⟨w.heap.size+1+1,4,none⟩=some (.int .i64 a.a.n):=EW q2 4 rfl;have g5:Wz.cell? ⟨w.heap.size+1+1,5,none⟩=some (.int .i64 a.a.m):=EW q2 5 rfl;have g6:Wz.cell? ⟨w.heap.size+1+1,6,none⟩=some (.int .i64 a.a.err):=EW q2 6 rfl;have g7:Wz.cell? ⟨w.heap.size+1+1,7,none⟩=some (.slice none 0 0):=EW q2 7 rfl;have g8:Wz.cell? ⟨w.heap.size+1+1,8,none⟩=some (.slice none 0 0):=EW q2 8 rfl;have h0:Wz.cell? ⟨w.heap.size+1+1+1,0,none⟩=some (.int .i64 c.kind):=EW q3 0 rfl
            have h1:Wz.cell? ⟨w.heap.size+1+1+1,1,none⟩=some (.int .i64 c.a):=EW q3 1 rfl;have h2:Wz.cell? ⟨w.heap.size+1+1+1,2,none⟩=some (.int .i64 c.b):=EW q3 2 rfl;have h3:Wz.cell? ⟨w.heap.size+1+1+1,3,none⟩=some (.int .i64 c.c):=EW q3 3 rfl;have h4:Wz.cell? ⟨w.heap.size+1+1+1,4,none⟩=some (.slice pa pn pc):=EW q3 4 rfl;refine bodyPost_ret (by simp[results,Try.results10,go_sem,g0,g1,g2,g3,g4,g5,g6,g7,g8,h0,h1,h2,h3,h4];try rfl) rfl ?_;exact⟨HD.out.2.2.trans qB.drew,.inl ⟨k,i,out,pl,a,c,pa,pn,pc,HS.out.2.1,HS.out.2.2.2,HS.out.1,HS.out.2.2.1,HT.out,rfl⟩⟩
          . have hst':((a.st:Int)==(step:Int))=false:=by simp;omega
            have HT:=Lib.hid hst;clear hst;gi_wp2;go_roundw
            case rel=>
              refine⟨i+1,by omega,by go_num,trivial,Lib.hid fun i' hi2 a' ha'=>?_⟩;by_cases e:i'=i
              . subst e;rw[HS.out.2.2.2]at ha';obtain rfl:=Option.some.inj ha';exact HT.out
              . exact hni.out i' zOM a' ha'
            case measure=>simp[intOf];omega
        . obtain rfl:i=out.length:=by omega
          have hl0':¬ (out.length:Int)<(out.length:Int):=by omega
          gi_wp2;go_roundw
          case rel=>
            refine⟨k+1,by omega,by go_num,trivial,Lib.hid fun k' hk2 i' out' a' ho' ha'=>?_⟩;by_cases e:k'=k
            . subst e;rw[HR.out.2.2.2.2]at ho';obtain rfl:=Option.some.inj ho';exact hni.out i' (List.getElem?_eq_some_iff.1 ha').1 a' ha'
            . exact hno.out k' zOM i' out' a' ho' ha'
          case measure=>simp[intOf];omega
    . obtain rfl:k=outs.length:=by omega
      obtain⟨c2,c3,-⟩:=HE.out;have ka0:wr.cell? ⟨w.heap.size+1+1,0,none⟩=some (.int .i64 0):=EW c2 0 rfl;have fa0:=FD c2 0;have ka1:wr.cell? ⟨w.heap.size+1+1,1,none⟩=some (.int .i64 0):=EW c2 1 rfl;have fa1:=FD c2 1;have ka2:wr.cell? ⟨w.heap.size+1+1,2,none⟩=some (.int .i64 0):=EW c2 2 rfl;have fa2:=FD c2 2;have ka3:wr.cell? ⟨w.heap.size+1+1,3,none⟩=some (.bool false):=EW c2 3 rfl;have fa3:=FD c2 3;have ka4:wr.cell? ⟨w.heap.size+1+1,4,none⟩=some (.int .i64 0):=EW c2 4 rfl;have fa4:=FD c2 4;have ka5:wr.cell? ⟨w.heap.size+1+1,5,none⟩=some (.int .i64 0):=EW c2 5 rfl;have fa5:=FD c2 5;have ka6:wr.cell? ⟨w.heap.size+1+1,6,none⟩=some (.int .i64 0):=EW c2 6 rfl;have fa6:=FD c2 6;have ka7:wr.cell? ⟨w.heap.size+1+1,7,none⟩=some (.slice none 0 0):=EW c2 7 rfl;have fa7:=FD c2 7
      have ka8:wr.cell? ⟨w.heap.size+1+1,8,none⟩=some (.slice none 0 0):=EW c2 8 rfl;have fa8:=FD c2 8;have kc0:wr.cell? ⟨w.heap.size+1+1+1,0,none⟩=some (.int .i64 0):=EW c3 0 rfl;have fc0:=FD c3 0;have kc1:wr.cell? ⟨w.heap.size+1+1+1,1,none⟩=some (.int .i64 0):=EW c3 1 rfl;have fc1:=FD c3 1;have kc2:wr.cell? ⟨w.heap.size+1+1+1,2,none⟩=some (.int .i64 0):=EW c3 2 rfl;have fc2:=FD c3 2;have kc3:wr.cell? ⟨w.heap.size+1+1+1,3,none⟩=some (.int .i64 0):=EW c3 3 rfl;have fc3:=FD c3 3;have kc4:wr.cell? ⟨w.heap.size+1+1+1,4,none⟩=some (.slice none 0 0):=EW c3 4 rfl;have fc4:=FD c3 4;clear c2 c3;gi_wp2;obtain⟨c2,c3,-⟩:=HE.out;generalize lK:World.setCell _ _ _=Wz
      have q2:Wz.heap[w.heap.size+1+1]?=some (.cells #[.int .i64 0,.int .i64 0,.int .i64 0,.bool false,.int .i64 0,.int .i64 0,.int .i64 0,.slice none 0 0,.slice none 0 0] 42 (0,0)):=by rw[← lK];simp[World.setCell,Array.getElem?_modify,c2]
      have q3:Wz.heap[w.heap.size+1+1+1]?=some (.cells #[.int .i64 0,.int .i64 0,.int .i64 0,.int .i64 0,.slice none 0 0] 44 (0,0)):=by rw[← lK];simp[World.setCell,Array.getElem?_modify,c3]
      have qB:Below w.heap.size wr Wz:=by
                rw[← lK];iterate 14(refine Below.setCell ?_ (by dsimp only;omega) _)
                first | exact Below.refl _ _ | exact(Below.refl _ _).drew
      clear lK c2 c3;have g0:Wz.cell? ⟨w.heap.size+1+1,0,none⟩=some (.int .i64 0):=EW q2 0 rfl;have g1:Wz.cell? ⟨w.heap.size+1+1,1,none⟩=some (.int .i64 0):=EW q2 1 rfl;have g2:Wz.cell? ⟨w.heap.size+1+1,2,none⟩=some (.int .i64 0):=EW q2 2 rfl;have g3:Wz.cell? ⟨w.heap.size+1+1,3,none⟩=some (.bool false):=EW q2 3 rfl;have g4:Wz.cell? ⟨w.heap.size+1+1,4,none⟩=some (.int .i64 0):=EW q2 4 rfl;have g5:Wz.cell? ⟨w.heap.size+1+1,5,none⟩=some (.int .i64 0):=EW q2 5 rfl;have g6:Wz.cell? ⟨w.heap.size+1+1,6,none⟩=some (.int .i64 0):=EW q2 6 rfl;have g7:Wz.cell? ⟨w.heap.size+1+1,7,none⟩=some (.slice none 0 0):=EW q2 7 rfl;have g8:Wz.cell? ⟨w.heap.size+1+1,8,none⟩=some (.slice none 0 0):=EW q2 8 rfl;have h0:Wz.cell? ⟨w.heap.size+1+1+1,0,none⟩=some (.int .i64 0):=EW q3 0 rfl
      have h1:Wz.cell? ⟨w.heap.size+1+1+1,1,none⟩=some (.int .i64 0):=EW q3 1 rfl;have h2:Wz.cell? ⟨w.heap.size+1+1+1,2,none⟩=some (.int .i64 0):=EW q3 2 rfl;have h3:Wz.cell? ⟨w.heap.size+1+1+1,3,none⟩=some (.int .i64 0):=EW q3 3 rfl;have h4:Wz.cell? ⟨w.heap.size+1+1+1,4,none⟩=some (.slice none 0 0):=EW q3 4 rfl;refine bodyPost_ret (by simp[results,Try.results10,go_sem,g0,g1,g2,g3,g4,g5,g6,g7,g8,h0,h1,h2,h3,h4];try rfl) rfl ?_;exact⟨HD.out.2.2.trans qB,.inr ⟨fun k i out a h1 h2=>hno.out k (List.getElem?_eq_some_iff.1 h1).1 i out a h1 h2,rfl⟩⟩
end Go.Proofs.Ytdkfdedgfilhbaa
namespace Go.Proofs.Ytdkfdedgfilhbaa
open Go Go.Conc Go.LT Go.LC Go.LK Go.RowKit
open BA TU
theorem lT{N1:Nat}{z:Rs EP Fw (List Int)}{a1:Option Addr}{a2 a3:Nat}{ov:Value}{W:World}(h:Ran N1 z (.slice a1 a2 a3) ov W)(hi:∀(k:Nat) x,z.xs[k]?=some x->∀(i:Nat) a,x.out[i]?=some a->a.a.ints=[]):a2=(Gq z).length/\Pm a1 (Gq z) W:=by
 obtain⟨vs,ho,hv⟩:=h.ex;have hl:(Gq z).length=z.xs.length:=by simp[Gq]
 obtain⟨p,c,e⟩:=PG ho;obtain⟨rfl,rfl,rfl⟩:=Value.slice.inj e;refine⟨hl.symm,fun k out hk=>?_⟩;obtain⟨x,hx,rfl⟩:∃x,z.xs[k]?=some x/\out=x.out:=by
  unfold Gq at hk;rw[List.getElem?_map]at hk;cases hx:z.xs[k]? with
  | none=>rw[hx]at hk;cases hk
  | some x=>rw[hx]at hk;exact⟨x,rfl,(Option.some.inj hk).symm⟩
 have hkl:k<z.xs.length:=(List.getElem?_eq_some_iff.1 hx).1;have hvl:=ho.len;obtain⟨v,hvk⟩:∃v,vs[k]?=some v:=⟨_,List.getElem?_eq_getElem zOM⟩
 obtain⟨g,cap,e,hc⟩:=Nu ho zOM (by decide);obtain⟨rfl,_,rfl⟩:=Value.slice.inj e;obtain⟨⟨JH,h1,h2,h3⟩,h4,_⟩:=hv k v x hvk hx;obtain⟨sa,sc,rfl⟩:=PG h2;have hck:=hc k _ hvk;refine⟨g,0,sa,sc,rfl,by simpa using hck,fun i a ha=>?_⟩;have hil:i<x.out.length:=(List.getElem?_eq_some_iff.1 ha).1;obtain⟨g2,cap2,e2,hc2⟩:=Nu h2 zOM (by decide);obtain⟨rfl,_,rfl⟩:=Value.slice.inj e2;obtain⟨iv,hiv⟩:∃iv,JH[i]?=some iv:=⟨_,List.getElem?_eq_getElem zOM⟩
 have hz0:iv=.slice none 0 0:=by
  rcases h3 i a iv ha hiv with⟨_,h⟩|⟨h,_⟩
  . exact h
  . exact absurd (hi k x hx i a ha) h
 subst hz0;have hz:(List.zipWith FZ x.out JH)[i]?=some (FZ a (.slice none 0 0)):=by rw[List.getElem?_zipWith,ha,hiv]
 have hf:=flat_get 9 (List.zipWith FZ x.out JH) (fun y hy=>by obtain⟨j,hj,rfl⟩:=List.getElem_of_mem hy;rw[List.getElem_zipWith];rfl) i _ hz
 have key:∀j u,j<9->(FZ a (.slice none 0 0))[j]?=some u->W.cell? ⟨g2,i*9+j,none⟩=some u:=fun j u hj hu=>by have:=hc2 _ _ ((hf j hj).trans hu);rwa [Nat.zero_add]at this
 refine⟨g2,0,rfl,?_⟩;unfold yP;rw[Nat.zero_add];exact⟨key 0 _ (by decide) rfl,key 1 _ (by decide) rfl,key 2 _ (by decide) rfl,key 3 _ (by decide) rfl,key 4 _ (by decide) rfl,key 5 _ (by decide) rfl,key 6 _ (by decide) rfl,key 7 _ (by decide) rfl,key 8 _ (by decide) rfl⟩
theorem aB(c:EP)(σ:List Int):(JF c σ).2.ints=[]:=by
 unfold JF FW;dsimp only;repeat' split
 all_goals rfl
theorem OI.ints{plans:List (List EP)}{Qo:List Int}{S:Nat->List Int}{z:ZC}(h:OI plans Qo S z):∀(k:Nat) x,z.xs[k]?=some x->∀(i:Nat) a,x.out[i]?=some a->a.a.ints=[]:=fun k x hx i a ha=>by obtain⟨c,_,h2⟩:=h.ends k i a (by simp[Hz,hx,ha]);have h3:=aB c (S (a.st-1));rw[h2]at h3;exact h3
end Go.Proofs.Ytdkfdedgfilhbaa
namespace Go.Proofs.Ytdkfdedgfilhbaa
open Go Go.Conc Go.LT Go.LC Go.LK Go.RowKit
section
def qD:Code:=match Try.f3.body with
 | some (.seq _ (.seq _ (.seq _ (.seq _ (.seq _ (.seq _ (.seq _ (.seq (.seq _ (.block _ (.loop c))) _))))))))=>c | _=>.skip
section
variable {X XZ:Type}{m:Mem (List Int)}{cb ct n:Nat}{cs:List Frame}{W:World}{σ:List Int}
theorem dU(S:Fp Try.prog true (G0 X XZ)){γ:G0 X XZ}{fb fo fl fc k:Nat}(hk:k<fl)(hkn:k<n)(hm:FI m ct cb n)(hI:m.Inv σ W){own:Nat->Prop}(hown:∀b,own b->¬ m.Sh b/\∃c e f,W.heap[b]?=some (.cells c e f)){y:Int}(hc:W.cell? ⟨fb,fo+k,none⟩=some (.int .i64 y)){K:List Item}{v0 v2 v3 v4 v5 v6 v7 v8 v9 Ab Ae Af Ah Ai Aj Ak Al Am Ao Ap Ar Au Av Aw Ay Az AA AB AJ AL AO AP AQ AU AV AX AY AZ A8 A9 Ba Bb Bc Bf Bh Bj Bl Bp Bq Br Bu Bv Bw Bz BD BF BG BH BI BJ BK BL BM BN BO BP BQ BR BS BU BX BZ Ca Cb Cc Ce Cg Ci Cj Ck Cm Co Cq Cr Ct Cu Cw Cx Cy Cz CB CF CG CJ CK CO CQ CS:Value}(hJ:∀W' (oK ql u63 u64 oQ u66 IE u68 u69 u70 pq u72 u73:Value),m.Inv (σ.set k y) W'->(∀b,own b->W'.heap[b]?=W.heap[b]?)->W.heap.size<=W'.heap.size->JL S.L γ (G ((base 3).at ⟨#[v0,.slice (some ⟨fb,fo,none⟩) fl fc,v2,v3,v4,v5,v6,v7,v8,v9,.pointer (some ⟨ct,0,none⟩),Ab,.int .i64 ((k+1:Nat):Int),Ae,Af,Ah,Ai,Aj,Ak,Al,Am,Ao,Ap,Ar,Au,Av,Aw,Ay,Az,AA,AB,AJ,AL,AO,AP,AQ,AU,AV,AX,AY,AZ,A8,A9,Ba,Bb,Bc,Bf,Bh,Bj,Bl,Bp,Bq,Br,Bu,Bv,Bw,Bz,BD,BF,BG,BH,oK,ql,u63,u64,oQ,u66,IE,u68,u69,u70,pq,u72,u73,BZ,Ca,Cb,Cc,Ce,Cg,Ci,Cj,Ck,Cm,Co,Cq,Cr,Ct,Cu,Cw,Cx,Cy,Cz,CB,CF,CG,CJ,CK,CO,CQ,CS],[]⟩ K) cs) W') :
  JL S.L γ (G ((base 3).at ⟨#[v0,.slice (some ⟨fb,fo,none⟩) fl fc,v2,v3,v4,v5,v6,v7,v8,v9,.pointer (some ⟨ct,0,none⟩),Ab,.int .i64 k,Ae,Af,Ah,Ai,Aj,Ak,Al,Am,Ao,Ap,Ar,Au,Av,Aw,Ay,Az,AA,AB,AJ,AL,AO,AP,AQ,AU,AV,AX,AY,AZ,A8,A9,Ba,Bb,Bc,Bf,Bh,Bj,Bl,Bp,Bq,Br,Bu,Bv,Bw,Bz,BD,BF,BG,BH,BI,BJ,BK,BL,BM,BN,BO,BP,BQ,BR,BS,BU,BX,BZ,Ca,Cb,Cc,Ce,Cg,Ci,Cj,Ck,Cm,Co,Cq,Cr,Ct,Cu,Cw,Cx,Cy,Cz,CB,CF,CG,CJ,CK,CO,CQ,CS],[]⟩ (.code qD :: K)) cs) W:=by
 simp only[qD,Try.f3];refine EO ?_;refine EO ?_;refine E9 fun _ hkk=>?_;iterate 4(refine ET ?_;walk_nrm)
 refine E5 ?_;cases hkk;refine JL.F3 (by simp[Act.eval,hk]) ?_;refine EU stepG_skip ?_;refine EO ?_;refine EU stepG_block ?_;refine E9 fun _ hkk=>?_;iterate 4(refine ET ?_;walk_nrm)
 refine JL.value (.pointer (some ⟨fb,fo+k,none⟩)) rfl rfl nE (fun w _=>by go_simp) (fun _ _ e he=>by simp[go_sem,hk]at he) ?_;walk_nrm;refine Fp.read (S:=S) (ad:=⟨fb,fo+k,none⟩) (.int .i64 y) rfl rfl nE hc (fun w h=>by go_simp) (fun w h e he=>by simp[go_sem,h]at he;exact he) ?_;walk_nrm;refine JL.enter rfl rfl nE rfl Try.func9 zKR zKR ?_;walk_nrm;refine XE S hm hkn hI hown fun W' hI' hk' hs'=>?_;rw[Frame.finish_at];show JL S.L γ _ W';walk_nrm;refine E5 ?_;cases hkk;refine EU stepG_inBlock ?_;refine E9 fun _ hkk=>?_;iterate 3(refine ET ?_;walk_nrm)
 refine E5 ?_;cases hkk;have hw:IntKind.i64.wrap ((k:Int)+1)=((k+1:Nat):Int):=by have:=hm.len;rw[IntKind.wrap_i64];omega
 rw[hw];exact hJ W' _ _ _ _ _ _ _ _ _ _ _ _ _ hI' hk' hs'
end
end
end Go.Proofs.Ytdkfdedgfilhbaa
namespace Go.Proofs.Ytdkfdedgfilhbaa
open Go Go.Conc Go.LT Go.LC Go.LK Go.RowKit
open BA TU
section
def Ab6:Code:=match or7 with | .seq c _=>c | _=>.skip
theorem wB:or7=.seq Ab6 (.block 0 (.loop qD)):=rfl
section
variable {X XZ:Type}{m:Mem (List Int)}{cb ct n:Nat}{cs:List Frame}{K:List Item}
variable {v0 v1 v2 v3 v4 v5 v6 v7 v8 v9 Aa Ab Ac Ae Af Ah Ai Aj Ak Al Am Ao Ap Ar Au Av Aw Ay Az AA AB AJ AL AO AP AQ AU AV AX AY AZ A8 A9 Ba Bb Bc Bf Bh Bj Bl Bp Bq Br Bu Bv Bw Bz BD BF BG BH BI BJ BK BL BM BN BO BP BQ BR BS BU BX BZ Ca Cb Cc Ce Cg Ci Cj Ck Cm Co Cq Cr Ct Cu Cw Cx Cy Cz CB CF CG CJ CK CO CQ CS:Value}
variable {fa:Option Addr}{fb fo fl fc:Nat}{xs Qo:List Int}
theorem mU(S:Fp Try.prog true (G0 X XZ)){γ:G0 X XZ}(hm:FI m ct cb n)(hfn:fl<=n)(hl:xs.length=fl)(hσ:Qo.length=n)(hfs:∀(i:Nat) x,xs[i]?=some x->fa=some ⟨fb,fo,none⟩/\∀σ W,m.Inv σ W->W.cell? ⟨fb,fo+i,none⟩=some (.int .i64 x))(N0:Nat)(hJ:∀W' (oK ql u63 u64 oQ u66 IE u68 u69 u70 pq u72 u73:Value),m.Inv (xs++Qo.drop fl) W'->N0<=W'.heap.size->JL S.L γ (G ((base 3).at ⟨#[v0,.slice fa fl fc,v2,v3,v4,v5,v6,v7,v8,v9,.pointer (some ⟨ct,0,none⟩),Ab,.int .i64 fl,Ae,Af,Ah,Ai,Aj,Ak,Al,Am,Ao,Ap,Ar,Au,Av,Aw,Ay,Az,AA,AB,AJ,AL,AO,AP,AQ,AU,AV,AX,AY,AZ,A8,A9,Ba,Bb,Bc,Bf,Bh,Bj,Bl,Bp,Bq,Br,Bu,Bv,Bw,Bz,BD,BF,BG,BH,oK,ql,u63,u64,oQ,u66,IE,u68,u69,u70,pq,u72,u73,BZ,Ca,Cb,Cc,Ce,Cg,Ci,Cj,Ck,Cm,Co,Cq,Cr,Ct,Cu,Cw,Cx,Cy,Cz,CB,CF,CG,CJ,CK,CO,CQ,CS],[]⟩ (K)) cs) W') :
  ∀(d k:Nat) (W:World) (oK ql u63 u64 oQ u66 IE u68 u69 u70 pq u72 u73:Value),fl-k=d->k<=fl->N0<=W.heap.size->m.Inv (xs.take k++Qo.drop k) W->JL S.L γ (G ((base 3).at ⟨#[v0,.slice fa fl fc,v2,v3,v4,v5,v6,v7,v8,v9,.pointer (some ⟨ct,0,none⟩),Ab,.int .i64 k,Ae,Af,Ah,Ai,Aj,Ak,Al,Am,Ao,Ap,Ar,Au,Av,Aw,Ay,Az,AA,AB,AJ,AL,AO,AP,AQ,AU,AV,AX,AY,AZ,A8,A9,Ba,Bb,Bc,Bf,Bh,Bj,Bl,Bp,Bq,Br,Bu,Bv,Bw,Bz,BD,BF,BG,BH,oK,ql,u63,u64,oQ,u66,IE,u68,u69,u70,pq,u72,u73,BZ,Ca,Cb,Cc,Ce,Cg,Ci,Cj,Ck,Cm,Co,Cq,Cr,Ct,Cu,Cw,Cx,Cy,Cz,CB,CF,CG,CJ,CK,CO,CQ,CS],[]⟩ (.code qD :: .inLoop qD :: .inBlock 0 :: K)) cs) W:=by
 intro d;induction d with
 | zero=>
  intro k W oK ql u63 u64 oQ u66 IE u68 u69 u70 pq u72 u73 hd hk hN hI;obtain rfl:k=fl:=by omega
  rw[List.take_of_length_le zOM]at hI;generalize hK2:(Item.inLoop qD :: Item.inBlock 0 :: K:List Item)=K2;simp only[qD,Try.f3];refine EO ?_;refine EO ?_;refine E9 fun _ hkk=>?_;iterate 4(refine ET ?_;walk_nrm)
  refine E5 ?_;cases hkk;refine JL.EX (by simp[Act.eval]) ?_;refine JL.exit (k':=K) (by rw[← hK2];rfl) ?_;exact hJ W _ _ _ _ _ _ _ _ _ _ _ _ _ hI hN
 | succ d ih=>
  intro k W oK ql u63 u64 oQ u66 IE u68 u69 u70 pq u72 u73 hd hk hN hI;have hlt:k<fl:=by omega
  obtain⟨x,hx⟩:∃x,xs[k]?=some x:=⟨_,List.getElem?_eq_getElem zOM⟩
  obtain⟨rfl,hfc⟩:=hfs k x hx;refine dU S hlt zOM hm hI (own:=fun _=>False) (fun b hb=>hb.elim) (hfc _ W hI) fun W' y61 y62 y63 y64 y65 y66 y67 y68 y69 y70 y71 y72 y73 h1 _ h3=>?_;refine EU stepG_inLoop ?_;rw[NP hx zOM]at h1;exact ih (k+1) W' _ _ _ _ _ _ _ _ _ _ _ _ _ zOM zOM zOM h1
end
end
end Go.Proofs.Ytdkfdedgfilhbaa
namespace Go.Proofs.Ytdkfdedgfilhbaa
open Go Go.Conc Go.LT Go.LC Go.LK Go.RowKit
open BA
section
theorem gB(h:FuncId)(w:World):CallsIn (Fence.list [h,13] none) 0 Try.prog 13 #[.slice none 0 0,.slice none 0 0] w (fun e w'=>e=.returned (.bool true)/\w=w'):=by
 gi_enter Try.func13,Try.ntmps13
 gi_wp2;gi_loopw [5] (fun iv wr=>iv=.int .i64 0/\wr=w) (fun _ _=>0)
 case atStart=>exact⟨rfl,rfl⟩
 case round=>
  obtain⟨rfl,rfl⟩:=hrel;gi_wp2;go_ret
  exact⟨rfl,rfl⟩
theorem Xm:∀g∈[13],@Lets (Host.only 12) Try.prog g:=fun g hg=>by simp only[List.mem_cons,List.not_mem_nil,or_false]at hg;obtain rfl:=hg;exact⟨by kernel_rfl,.inl ⟨_,_,Try.func13,by kernel_rfl,rfl,by kernel_rfl⟩⟩
def Abr:Code:=match Try.f12.body with | some (.seq c _)=>c | _=>.skip
def Abl:Code:=match Try.f12.body with | some (.seq _ (.seq c _))=>c | _=>.skip
theorem j6:Try.f12.body=some (.seq Abr (.seq Abl .ret)):=rfl
theorem Ic{W:World}{g:Nat}{cs:Array Value}{t:TypeId}{f:Nat × Nat}(h:W.heap[g]?=some (.cells cs t f))(j:Nat):W.cell? ⟨g,j,none⟩=cs[j]?:=by simp[World.cell?,h]
section
variable {main:Bool}{Γ:Type}{S:Fp Try.prog main Γ}{γ:Γ}{W:World}{cf:Frame}{fs:List Frame}
theorem eU(hJ:JW S.base γ (G (cf.finish (.bool true)) fs) W):JW S.base γ (G (Frame.enter Try.prog 24 #[.slice none 0 0,.slice none 0 0] .normal) (cf :: fs)) W:=by
 have ht:#[.slice none 0 0,.slice none 0 0]++Array.replicate (Try.f24.ntmps-(#[.slice none 0 0,.slice none 0 0]:Array Value).size) undef=#[.slice none 0 0,.slice none 0 0,undef,undef,undef,undef,undef,undef,undef,undef,undef,undef,undef,undef,undef,undef,undef,undef,undef,undef,undef,undef,undef,undef,undef,undef]:=by
  have:Try.f24.ntmps=26:=by kernel_rfl
  rw[this];walk_nrm
 rw[enter_at (c:=(Try.f24.body).get rfl) _ Try.func24 rfl,ht];clear ht;show JL S.L γ _ W;simp only[Try.f24,Option.get_some];refine EO ?_;refine E9 fun _ hkk=>?_
 (refine ET ?_;walk_nrm)
 refine E5 ?_;cases hkk;refine EO ?_;refine EO ?_;refine E9 fun _ hkk=>?_;iterate 5(refine ET ?_;walk_nrm)
 refine E5 ?_;cases hkk;refine JL.EX rfl ?_;refine EU stepG_skip ?_;refine EO ?_;refine EO ?_;refine E9 fun _ hkk=>?_
 (refine ET ?_;walk_nrm)
 refine E5 ?_;cases hkk;refine EU stepG_block ?_;refine EU stepG_loop ?_;refine EO ?_;refine EO ?_;refine E9 fun _ hkk=>?_;iterate 4(refine ET ?_;walk_nrm)
 refine E5 ?_;cases hkk;refine JL.EX rfl ?_;refine JL.exit rfl ?_;refine EO ?_;refine E9 fun _ hkk=>?_
 (refine ET ?_;walk_nrm)
 refine E5 ?_;cases hkk;refine EU stepG_ret' ?_;exact JL.back rfl Try.func24 (v:=.bool true) (fun w=>by kernel_rfl) hJ
theorem om{b1 b2 b3 c1 c2 c3 n m err:Int}{ok:Bool}(hJ:∀W',(∀g,g<W.heap.size->W'.heap[g]?=W.heap[g]?)->W.heap.size<=W'.heap.size->JW S.base γ (G (cf.finish (.bool true)) fs) W') :
  JW S.base γ (G (Frame.enter Try.prog 12 #[.agg #[.int .i64 b1,.int .i64 b2,.int .i64 b3,.bool ok,.int .i64 n,.int .i64 m,.int .i64 err,.slice none 0 0,.slice none 0 0],.agg #[.int .i64 c1,.int .i64 c2,.int .i64 c3,.bool ok,.int .i64 n,.int .i64 m,.int .i64 err,.slice none 0 0,.slice none 0 0]] .normal) (cf :: fs)) W:=by
 rw[enter_at _ Try.func12 j6];have hn:Try.f12.ntmps=45:=by kernel_rfl
 rw[hn];walk_nrm;show JL S.L γ _ W;refine EO ?_;refine Fp.Fz (S:=S) (b:=base 12) [] (by simp) zKR nE zKR fun EG ha=>?_;have hh:EG.heap=W.heap:=by obtain⟨τ,d,rfl⟩:=ha;rfl
 have HH:=Lib.hid (zAI @hJ hh);clear ha hJ hh;simp only[Abr,Try.f12];gi_wp2;generalize hW2:World.alloc (World.alloc EG _) _=W2;obtain⟨hJ,hh⟩:=HH.out;clear HH;have hs:EG.heap.size=W.heap.size:=by rw[hh]
 have q2:W2.heap=(W.heap.push (.cells #[.int .i64 b1,.int .i64 b2,.int .i64 b3,.bool ok,.int .i64 n,.int .i64 m,.int .i64 err,.slice none 0 0,.slice none 0 0] 42 (0,0))).push (.cells #[.int .i64 c1,.int .i64 c2,.int .i64 c3,.bool ok,.int .i64 n,.int .i64 m,.int .i64 err,.slice none 0 0,.slice none 0 0] 42 (0,0)):=by rw[← hW2,← hh];rfl
 clear hW2;have h0:W2.heap[EG.heap.size]?=some (.cells #[.int .i64 b1,.int .i64 b2,.int .i64 b3,.bool ok,.int .i64 n,.int .i64 m,.int .i64 err,.slice none 0 0,.slice none 0 0] 42 (0,0)):=by rw[q2,hs,Array.getElem?_push,if_neg (by simp),Array.getElem?_push,if_pos rfl]
 have h1:W2.heap[EG.heap.size+1]?=some (.cells #[.int .i64 c1,.int .i64 c2,.int .i64 c3,.bool ok,.int .i64 n,.int .i64 m,.int .i64 err,.slice none 0 0,.slice none 0 0] 42 (0,0)):=by rw[q2,hs,Array.getElem?_push,if_pos (by simp)]
 have k1:∀g,g<W.heap.size->W2.heap[g]?=W.heap[g]?:=fun g hg=>by rw[q2,Array.getElem?_push,if_neg (by simp;omega),Array.getElem?_push,if_neg zOM]
 have k2:W.heap.size<=W2.heap.size:=by rw[q2];simp;omega
 clear q2 hs hh;show JL S.L γ _ W2;try dsimp only
 refine EO ?_;simp only[Abl,Try.f12];refine E9 fun _ hkk=>?_;refine Fp.Kk (S:=S) (b:=base 12) 0 38 [13] Xm zKR nE (rest:=[38,39,40]) rfl zKR fun Fh Lm=>?_;have hh3:Fh.heap=W2.heap:=by obtain⟨τ,d,rfl⟩:=Lm;rfl
 rw[← hh3]at h0 h1;have r3:=Ic h0 3;have s3:=Ic h1 3;have r4:=Ic h0 4;have s4:=Ic h1 4;have r5:=Ic h0 5;have s5:=Ic h1 5;have r6:=Ic h0 6;have s6:=Ic h1 6;have r7:=Ic h0 7;have s7:=Ic h1 7;have r8:=Ic h0 8;have s8:=Ic h1 8;simp only[List.getElem?_toArray,List.getElem?_cons_zero,List.getElem?_cons_succ]at r3 s3 r4 s4 r5 s5 r6 s6 r7 s7 r8 s8;have HH:=Lib.hid (zAI @hJ (zAI hh3 (zAI @k1 k2)));clear Lm hJ hh3 k1 k2 h0 h1;dsimp only[List.drop,List.take];gi_wp2_with (gi_at_call 13;refine(gB _ _).mono ?_;rintro e w1 ⟨rfl,rfl⟩)
 try refine⟨rfl,?_⟩
 obtain⟨hJ,hh3,k1,k2⟩:=HH.out;clear HH r3 s3 r4 s4 r5 s5 r6 s6 r7 s7 r8 s8;show JL S.L γ _ Fh;try dsimp only
 refine JL.enter rfl rfl nE rfl Try.func24 zKR zKR ?_;walk_nrm;refine eU ?_;rw[Frame.finish_at];show JL S.L γ _ Fh;walk_nrm;iterate 2(refine ET ?_;walk_nrm)
 refine E5 ?_;cases hkk;refine EU stepG_ret' ?_;exact JL.back rfl Try.func12 (v:=.bool true) (fun w=>by kernel_rfl) (hJ Fh (fun g hg=>by rw[hh3];exact k1 g hg) (by rw[hh3];exact k2))
end
end
end Go.Proofs.Ytdkfdedgfilhbaa
end
