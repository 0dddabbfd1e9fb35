/-
  Part 16 of the proof that CellMeets returns true, and leaves its arguments as they were, for every input whose reading is of bulk at most 1048576. No further condition.
-/
import Derived.Test.YticecinjcajmcaaR00
import Derived.Test.YticecinjcajmcaaR14
import Derived.Test.YticecinjcajmcaaR15
set_option linter.unusedVariables false
set_option linter.unusedSectionVars false
set_option linter.unusedSimpArgs false
set_option maxHeartbeats 4000000
noncomputable section
namespace Go.LK
open Go Go.Conc Go.LT Go.LC
section
variable {P:Program}{main:Bool}{Γ:Type}{S:EL P main Γ}{Cl Cs Sg:Type}{D:Dr Cl Cs Sg}{m:Mem Sg}{TQ:FuncId}
theorem Gn.write (I:Gn S D m TQ){s₀ s:I.St}{σ:Sg}{W₀ W W':World}{N:Nat}(hA:I.At s σ W)(hO:I.On s₀ W₀ s W)(ho:I.own s N)(hc:¬ I.core s N)(hk:¬ I.kept s₀ N)(hr:∃ c e f,W'.heap[N]?=some (Obj.cells c e f))(hb:∀ b,b≠N->W'.heap[b]?=W.heap[b]?)(hs:W'.heap.size=W.heap.size):I.At s σ W'/\I.On s₀ W₀ s W':=by
  have hsh:=(I.row hA ho).1;refine ⟨I.put hA (m.eq σ W W' (fun b h=>.of (hb b fun e=>hsh (e ▸ h))) (I.inv hA)) (fun b h=>hb b fun e=>hc (e ▸ h)) (fun b h=>?_) (Nat.le_of_eq hs.symm),hO.le,hO.core,fun b h=>⟨(hO.kept b h).1,(hb b fun e=>hk (e ▸ h)).trans (hO.kept b h).2⟩,by rw [hs];exact hO.size,hO.fuel⟩;by_cases e:b=N
  . rw [e];exact hr
  . rw [hb b e];exact (I.row hA h).2
end
end Go.LK
namespace Go.LT
open Go Go.Conc
theorem bB {P:Program}{main:Bool}{Γ:Type}{S:EL P main Γ}{γ:Γ}{W:World}{f:FuncId}{tm:Array Value}{Y:List Item}{c:Frame}{cs:List Frame}{fn:Func}{v:Value}(hf:P.funcs[f]?=some fn)(hr:Reads P fn tm W v)(h:JL S.L γ (G (c.finish v) cs) W):JL S.L γ (G { (base f).at ⟨tm,[]⟩ Y with mode:=.returning } (c :: cs)) W:=JW.returns (S:=S) hf hr h
theorem KM {P:Program}{fn:Func}{p:Tmp}{ty:TypeId}(h:fn.results=#[.cell p ty]){tm:Array Value}{W:World}{g:Nat}{t:TypeId}{cs:Array Value}{fr:Nat × Nat}{d:TypeDesc}(hp:tm.getD p undef=.pointer (some ⟨g,0,none⟩))(hg:W.heap[g]?=some (.cells cs t fr))(hu:P.underlying ty=some d)(hd:(match d with | .struct _ | .array _ _=>true | _=>false)=true)(hi:(P.info? ty).map (·.size)=some cs.size):Reads P fn tm W (.agg cs):=fun W₁ ha=>by
  obtain ⟨τ,d',rfl⟩:=ha;exact results_cell_row h tm _ g t cs fr d hp hg hu hd hi
end Go.LT
namespace Go.Proofs.Yticecinjcajmcaa
open Go Go.Conc Go.LT Go.LC Go.LK Go.RowKit
def do0:Code:=match Try.f98.body with | some (.seq c _)=>c | _=>.skip
def do1:Code:=match Try.f98.body with | some (.seq _ (.seq (.seq c _) _))=>c | _=>.skip
def Xy:Code:=match Try.f98.body with | some (.seq _ (.seq (.seq _ c) _))=>c | _=>.skip
def xk:Code:=match Try.f98.body with | some (.seq _ (.seq _ c))=>c | _=>.skip
theorem fU:Try.f98.body=some (.seq do0 (.seq (.seq do1 Xy) xk)):=rfl
def GI (c:Ef)(pv:Value):Value:=.agg #[.int .i64 c.kind,.int .i64 c.a,.int .i64 c.b,.int .i64 c.c,pv]
def QT (e:An)(iv:Value):Value:=.agg #[.int .i64 0,.int .i64 0,.int .i64 0,.bool e.ok,.int .i64 e.n,.int .i64 e.m,.int .i64 e.err,iv,.slice none 0 0]
section
variable {main:Bool}{Γ:Type}{S:EL Try.prog main Γ}{m:Mem (List Int)}{cb ct n:Nat}{cf:Frame}{fs:List Frame}{W:World}{σ:List Int}
def dG (ct N:Nat)(wv cv:Value)(k:Int):Array Value:=#[.pointer (some ⟨ct,0,none⟩),wv,cv,undef,undef,.pointer (some ⟨N,0,none⟩),.pointer (some ⟨N+1,0,none⟩),.pointer (some ⟨N,0,none⟩),.int .i64 k,undef,undef,undef,undef,undef,undef,undef,undef,undef,undef,undef,undef,undef,undef,undef,undef,undef,undef,undef,undef,undef,undef,undef,undef,undef,undef,undef,undef,undef,undef,undef,undef,undef,undef,undef,undef,undef,undef,undef,undef,undef,undef,undef,undef,undef,undef,undef,undef,undef,undef,undef,undef,undef,undef,undef,undef,undef,undef,undef,undef,undef,undef,undef,undef,undef,undef,undef,undef,undef,undef,undef,undef,undef,undef,undef,undef,undef,undef,undef,undef,undef,undef,undef,undef,undef,undef,undef,undef,undef,undef,undef,undef,undef,undef,undef,undef]
theorem Pk (I:Gn S Em m 36){s:I.St}{c:Ef}{pv:Value}(hA:I.At s σ W)(hS:I.Rw s σ c)(hJ:∀ s' W' N,I.At s' σ W'->I.On s W s' W'->I.Rw s' σ c->I.kept s' (N+1)->(I.own s' (N+1)/\¬ I.core s' (N+1)/\¬ I.kept s (N+1))->W'.heap[N]?=some (.cells #[.int .i64 c.kind,.int .i64 c.a,.int .i64 c.b,.int .i64 c.c,pv] 44 (0,0))->
      W'.heap[N+1]?=some (.cells #[.int .i64 0,.int .i64 0,.int .i64 0,.bool false,.int .i64 0,.int .i64 0,.int .i64 0,.slice none 0 0,.slice none 0 0] 42 (0,0))->
      JL S.L (I.γ s') (G ((base 98).at ⟨dG ct N I.wv (GI c pv) c.kind,[]⟩ [.code Xy,.code xk]) (cf :: fs)) W') :
    JW S.base (I.γ s) (G (Frame.enter Try.prog 98 #[.pointer (some ⟨ct,0,none⟩),I.wv,GI c pv] .normal) (cf :: fs)) W:=by
  have ht:#[.pointer (some ⟨ct,0,none⟩),I.wv,GI c pv] ++ Array.replicate (Try.f98.ntmps - (#[.pointer (some ⟨ct,0,none⟩),I.wv,GI c pv]:Array Value).size) undef=#[.pointer (some ⟨ct,0,none⟩),I.wv,GI c pv,undef,undef,undef,undef,undef,undef,undef,undef,undef,undef,undef,undef,undef,undef,undef,undef,undef,undef,undef,undef,undef,undef,undef,undef,undef,undef,undef,undef,undef,undef,undef,undef,undef,undef,undef,undef,undef,undef,undef,undef,undef,undef,undef,undef,undef,undef,undef,undef,undef,undef,undef,undef,undef,undef,undef,undef,undef,undef,undef,undef,undef,undef,undef,undef,undef,undef,undef,undef,undef,undef,undef,undef,undef,undef,undef,undef,undef,undef,undef,undef,undef,undef,undef,undef,undef,undef,undef,undef,undef,undef,undef,undef,undef,undef,undef,undef,undef,undef,undef,undef,undef,undef]:=by
    have:Try.f98.ntmps=105:=by kernel_rfl
    rw [this];walk_nrm
  rw [enter_at _ Try.func98 fU,ht];generalize hw:I.wv=wv;show JL S.L (I.γ s) _ W;dsimp only;refine Ei ?_;refine EL.EJ (S:=S) (b:=base 98) [] (by simp) zKR nE zKR fun W₁ ha=>?_;obtain ⟨hA1,Ig⟩:=I.alike hA ha;have HH:=Lib.hid (zAI hJ (zAI hS (zAI hA1 Ig)));clear hJ hS hA hA1 Ig;simp only [do0,Try.f98,GI];gi_wp2;obtain ⟨hJ,hS,hA1,Ig⟩:=HH.out;clear HH;generalize ho1:Obj.cells #[Value.int IntKind.i64 c.kind,Value.int IntKind.i64 c.a,Value.int IntKind.i64 c.b,Value.int IntKind.i64 c.c,pv] 44=o1;generalize ho2:Obj.cells #[Value.int IntKind.i64 0,Value.int IntKind.i64 0,Value.int IntKind.i64 0,Value.bool false,Value.int IntKind.i64 0,Value.int IntKind.i64 0,Value.int IntKind.i64 0,Value.slice none 0 0,Value.slice none 0 0] 42=o2
  obtain ⟨s1,hA2,hO2,e1,o1',k1,b1,_⟩:=I.lay (W':=W₁.alloc o1) (N:=W₁.heap.size) hA1 rfl ⟨_,_,_,by rw [heap_alloc_new];exact congrArg some ho1.symm⟩ (fun b hb=>Below.heap_alloc _ _ _ hb) (by simp);obtain ⟨s2,hA3,hO3,e2,r9,k2,b2,_⟩:=I.lay (W':=(W₁.alloc o1).alloc o2) (N:=(W₁.alloc o1).heap.size) hA2 rfl ⟨_,_,_,by rw [heap_alloc_new];exact congrArg some ho2.symm⟩ (fun b hb=>Below.heap_alloc _ _ _ hb) (by simp);have hsz:(W₁.alloc o1).heap.size=W₁.heap.size+1:=by simp
  have q1:((W₁.alloc o1).alloc o2).heap[W₁.heap.size]?=some o1:=by rw [Below.heap_alloc _ _ _ (by simp)];exact heap_alloc_new _ _
  have q2:((W₁.alloc o1).alloc o2).heap[W₁.heap.size+1]?=some o2:=by rw [← hsz];exact heap_alloc_new _ _
  have q3:I.kept s2 (W₁.heap.size+1):=(k2 _).2 (.inr hsz.symm);have q6:I.own s2 (W₁.heap.size+1)/\¬ I.core s2 (W₁.heap.size+1)/\¬ I.kept s (W₁.heap.size+1):=by
    have hown:∀ b,I.own s b->b < W₁.heap.size:=fun b hb=>by obtain ⟨_,c,e,f,h⟩:=I.row hA1 hb;exact (zGE h).1
    refine ⟨(r9 _).2 (.inr hsz.symm),fun h=>?_,fun h=>?_⟩
    . have:=hown _ (I.MG hA1 ((hO2.core _).1 ((hO3.core _).1 h)));omega
    . have:=hown _ (I.IV hA1 h);omega
  have q4:=Ig.trans (hO2.trans hO3);have q5:=b2 _ (b1 _ hS);have e3:I.γ s=I.γ s2:=(e2.trans e1).symm;rw [e3];generalize (W₁.alloc o1).alloc o2=W3 at *;generalize W₁.heap.size=N at *;have hc:W3.cell? ⟨N,0,none⟩=some (.int .i64 c.kind):=by rw [← ho1] at q1;simp [World.cell?,q1]
  show JL S.L (I.γ s2) _ W3;refine Ei ?_;refine Ei ?_;simp only [do1,Try.f98];refine EH fun _ hkk=>?_
  (refine Eo ?_;walk_nrm)
  refine EL.read (S:=S) (.int .i64 c.kind) rfl rfl nE hc (fun w h=>by go_simp) (fun w h e he=>by simp [go_sem,h] at he;exact he) ?_;walk_nrm;refine EB ?_;cases hkk;subst ho1 ho2;have:=hJ s2 W3 N hA3 q4 q5 q3 q6 q1 q2;rw [hw] at this;exact this
theorem WK (I:Gn S Em m 36){s s2:I.St}{σ2:List Int}{W2 W3:World}{N:Nat}{TR:Bool}{en J4:Int}{v0 v1 v2 v3 v4 v5 v7 v8 v9 Aa Ab Ac Ae Af Ah Ai Aj Ak Al Am Ao Ap Ar Au Av Aw Ay Az AA AB AJ AL AO AP AQ AU AV AX AY AZ A8 A9 Ba Bb Bc Bf Bh Bj Bl Bp Bq Br Bu Bv Bw Bz BD BF BG BH BI BJ BK BL BM BN BO BP BQ BR BS BU BX BZ Ca Cb Cc Ce Cg Ci Cj Ck Cm Co Cq Cr Ct Cu Cw Cx Cy Cz CB CF CG CJ CK CO CQ CS CU CV CW CX:Value}(hA2:I.At s2 σ2 W2)(hO3:I.On s W s2 W2)(hE:I.End s2 σ2 ((⟨TR,en,0,J4,[]⟩:An),false))(hown:I.own s2 (N+1))(hcore:¬ I.core s2 (N+1))(Nj:¬ I.kept s (N+1))(hJ:∀ s' σ' W' e,I.At s' σ' W'->I.On s W s' W'->I.End s' σ' (e,false)->e.ints=[]->JW S.base (I.γ s') (G (cf.finish (QT e (.slice none 0 0))) fs) W')(hrow3:W3.heap[N+1]?=some (.cells #[.int .i64 0,.int .i64 0,.int .i64 0,.bool TR,.int .i64 en,.int .i64 0,.int .i64 J4,.slice none 0 0,.slice none 0 0] 42 (0,0)))(Jl:∀ b,b≠N+1->W3.heap[b]?=W2.heap[b]?)(Mh:W3.heap.size=W2.heap.size) :
    JL S.L (I.γ s2) (G ((base 98).at ⟨#[v0,v1,v2,v3,v4,v5,.pointer (some ⟨N+1,0,none⟩),v7,v8,v9,Aa,Ab,Ac,Ae,Af,Ah,Ai,Aj,Ak,Al,Am,Ao,Ap,Ar,Au,Av,Aw,Ay,Az,AA,AB,AJ,AL,AO,AP,AQ,AU,AV,AX,AY,AZ,A8,A9,Ba,Bb,Bc,Bf,Bh,Bj,Bl,Bp,Bq,Br,Bu,Bv,Bw,Bz,BD,BF,BG,BH,BI,BJ,BK,BL,BM,BN,BO,BP,BQ,BR,BS,BU,BX,BZ,Ca,Cb,Cc,Ce,Cg,Ci,Cj,Ck,Cm,Co,Cq,Cr,Ct,Cu,Cw,Cx,Cy,Cz,CB,CF,CG,CJ,CK,CO,CQ,CS,CU,CV,CW,CX],[]⟩ [.code xk]) (cf :: fs)) W3:=by
  have HH:=Lib.hid (zAI hJ (zAI hA2 (zAI hO3 (zAI hE (zAI hown (zAI hcore Nj))))));clear hJ hA2 hO3 hE hown hcore Nj;refine EL.EJ (S:=S) (b:=base 98) [] (by simp) zKR nE zKR fun W4 sG=>?_;have XT:W4.heap=W3.heap:=by obtain ⟨τ,d,rfl⟩:=sG;rfl
  rw [← XT] at hrow3;simp only [← XT] at Jl Mh;have c0:W4.cell? ⟨N+1,0,none⟩=some (.int .i64 0):=by simp [World.cell?,hrow3]
  have c1:W4.cell? ⟨N+1,1,none⟩=some (.int .i64 0):=by simp [World.cell?,hrow3]
  have c2:W4.cell? ⟨N+1,2,none⟩=some (.int .i64 0):=by simp [World.cell?,hrow3]
  have c3:W4.cell? ⟨N+1,3,none⟩=some (.bool TR):=by simp [World.cell?,hrow3]
  have c4:W4.cell? ⟨N+1,4,none⟩=some (.int .i64 en):=by simp [World.cell?,hrow3]
  have c5:W4.cell? ⟨N+1,5,none⟩=some (.int .i64 0):=by simp [World.cell?,hrow3]
  have c6:W4.cell? ⟨N+1,6,none⟩=some (.int .i64 J4):=by simp [World.cell?,hrow3]
  have c7:W4.cell? ⟨N+1,7,none⟩=some (.slice none 0 0):=by simp [World.cell?,hrow3]
  have c8:W4.cell? ⟨N+1,8,none⟩=some (.slice none 0 0):=by simp [World.cell?,hrow3]
  have zz:∀ o,W4.frozen? ⟨N+1,o,none⟩=false:=fun o=>by simp [World.frozen?,hrow3]
  have z0:=zz 0;have z1:=zz 1;have z2:=zz 2;have z3:=zz 3;have z4:=zz 4;have z5:=zz 5;have z6:=zz 6;have z7:=zz 7;have z8:=zz 8;clear zz;have HR:=Lib.hid (zAI hrow3 (zAI Jl Mh));clear hrow3 Jl Mh XT;have hfin:RowKit.Hid (∀ W5 tm,W5.heap[N+1]?=some (.cells #[.int .i64 0,.int .i64 0,.int .i64 0,.bool TR,.int .i64 en,.int .i64 0,.int .i64 J4,.slice none 0 0,.slice none 0 0] 42 (0,0))->(∀ b,b≠N+1->W5.heap[b]?=W4.heap[b]?)->W5.heap.size=W4.heap.size->tm.getD 6 undef=.pointer (some ⟨N+1,0,none⟩)->
      aR S (I.γ s2) (base 98) [] [] (cf :: fs) .ret ⟨tm,[]⟩ W5):=Lib.hid fun W5 tm h1 h2 h3 h4 Y=>by
    obtain ⟨hJ,hA2,hO3,hE,hown,hcore,Nj⟩:=HH.out;obtain ⟨_,Jl,Mh⟩:=HR.out;obtain ⟨aB,dI⟩:=I.write hA2 hO3 hown hcore Nj ⟨_,_,_,h1⟩ (fun b hb=>(h2 b hb).trans (Jl b hb)) (h3.trans Mh);exact bB Try.func98 (KM Try.results98 h4 h1 Try.underlying42 rfl zKR) (hJ s2 σ2 W5 _ aB dI hE rfl)
  clear HH;simp only [xk,Try.f98];gi_wp2;obtain ⟨hrow3,_,_⟩:=HR.out;clear HR;exact hfin.out _ _ (by simp [World.setCell,Array.getElem?_modify,hrow3]) (fun b hb=>by simp [World.setCell,Array.getElem?_modify,hb.symm]) (by simp [World.setCell]) rfl
theorem cZ (I:Gn S Em m 36)(hm:Fg m ct cb n){s:I.St}{c:Ef}{pv:Value}(hk:c.kind=1\/c.kind=3\/c.kind=4\/c.kind=6\/c.kind=7)(hA:I.At s σ W)(hS:I.Rw s σ c)(hL:I.Leaves cf fs)(hJ:∀ s' σ' W' e,I.At s' σ' W'->I.On s W s' W'->I.End s' σ' (e,false)->e.ints=[]->JW S.base (I.γ s') (G (cf.finish (QT e (.slice none 0 0))) fs) W') :
    JW S.base (I.γ s) (G (Frame.enter Try.prog 98 #[.pointer (some ⟨ct,0,none⟩),I.wv,GI c pv] .normal) (cf :: fs)) W:=by
  rcases hk with hk|hk|hk|hk|hk;all_goals
    refine Pk I hA hS fun s1 W1 N hA1 Ig hS1 hN VG q1 q2=>?_;generalize hw:I.wv=wv;generalize GI c pv=cv;rw [hk];unfold dG;dsimp only;have hbl:∃ c0,Xy=.block 0 c0/\c0=(match Xy with | .block _ c=>c | _=>.skip):=⟨_,rfl,rfl⟩
    obtain ⟨c0,hc0,hc1⟩:=hbl;rw [hc0];refine Er stepG_block ?_;rw [hc1];simp only [Xy,Try.f98];refine Ei ?_;refine EH fun _ hkk=>?_;iterate 2 (refine Eo ?_;walk_nrm)
    refine EB ?_;cases hkk;repeat
      refine JL.Ey rfl ?_;refine Ei ?_;refine EH fun _ hkk=>?_;iterate 2 (refine Eo ?_;walk_nrm)
      refine EB ?_;cases hkk
    refine JL.Fz rfl ?_;refine EH fun _ hkk=>?_;iterate 3 (refine Eo ?_;walk_nrm)
    refine EL.read (S:=S) (ad:=⟨N,1,none⟩) (.int .i64 c.a) rfl rfl nE (by simp [World.cell?,q1]) (fun w h=>by go_simp) (fun w h e he=>by simp [go_sem,h] at he;exact he) ?_;walk_nrm;try
      (refine Eo ?_;walk_nrm)
      refine EL.read (S:=S) (ad:=⟨N,2,none⟩) (.int .i64 c.b) rfl rfl nE (by simp [World.cell?,q1]) (fun w h=>by go_simp) (fun w h e he=>by simp [go_sem,h] at he;exact he) ?_;walk_nrm
    first | refine JL.enter rfl rfl nE rfl Try.func18 zKR zKR ?_ | refine JL.enter rfl rfl nE rfl Try.func22 zKR zKR ?_ | refine JL.enter rfl rfl nE rfl Try.func23 zKR zKR ?_ | refine JL.enter rfl rfl nE rfl Try.func25 zKR zKR ?_ | refine JL.enter rfl rfl nE rfl Try.func26 zKR zKR ?_
    walk_nrm;rw [← hw];first | refine Xo I hm hk hA1 (I.Sz hS1 (by simp [Em,hk])) (I.pop Try.func98 hL) fun s2 σ2 W2 e hA2 hO2 hE he=>?_ | refine jR I hm hk hA1 (I.Sz hS1 (by simp [Em,hk])) (I.pop Try.func98 hL) fun s2 σ2 W2 e hA2 hO2 hE he=>?_ | refine jN I hm hk hA1 (I.Sz hS1 (by simp [Em,hk])) (I.pop Try.func98 hL) fun s2 σ2 W2 e hA2 hO2 hE he=>?_ | refine fZ I hm hA1 (I.Sz hS1 (by simp [Em,hk])) (I.pop Try.func98 hL) fun s2 σ2 W2 e hA2 hO2 hE he=>?_ | refine fE I hm hA1 (I.Sz hS1 (by simp [Em,hk])) (I.pop Try.func98 hL) fun s2 σ2 W2 e hA2 hO2 hE he=>?_
    rw [Frame.finish_at];rw [hw];obtain ⟨TR,en,em,J4,Ny⟩:=e;simp only at he ⊢;have hrow:W2.heap[N+1]?=_:=((hO2.kept _ hN).2).trans q2;have hO3:=Ig.trans hO2;have hown:I.own s2 (N+1):=I.IV hA2 (hO2.kept _ hN).1;have hcore:¬ I.core s2 (N+1):=fun h=>VG.2.1 ((hO2.core _).1 h);have Nj:=VG.2.2;show JL S.L (I.γ s2) _ W2;walk_nrm;iterate 3 (refine Eo ?_;walk_nrm)
    obtain ⟨rfl,rfl,rfl⟩:=he;have HH:=Lib.hid (zAI hJ (zAI hA2 (zAI hO3 (zAI hE (zAI hown (zAI hcore Nj))))));clear hJ hA2 hO3 hE hown hcore Nj VG hN hA1 Ig hS1 hA hS hO2 q1 q2;first | refine EL.GU (S:=S) (b:=base 98) 8 [] (by simp) zKR nE rfl zKR fun W₁ ha=>?_ | refine EL.GU (S:=S) (b:=base 98) 10 [] (by simp) zKR nE rfl zKR fun W₁ ha=>?_
    have hW:W₁.heap=W2.heap:=by obtain ⟨τ,d,rfl⟩:=ha;rfl
    rw [← hW] at hrow;dsimp only [List.drop];have g3:W₁.cell? ⟨N+1,3,none⟩=some (.bool false):=by simp [World.cell?,hrow]
    have g4:W₁.cell? ⟨N+1,4,none⟩=some (.int .i64 0):=by simp [World.cell?,hrow]
    have g6:W₁.cell? ⟨N+1,6,none⟩=some (.int .i64 0):=by simp [World.cell?,hrow]
    have z3:W₁.frozen? ⟨N+1,3,none⟩=false:=by simp [World.frozen?,hrow]
    have z4:W₁.frozen? ⟨N+1,4,none⟩=false:=by simp [World.frozen?,hrow]
    have z6:W₁.frozen? ⟨N+1,6,none⟩=false:=by simp [World.frozen?,hrow]
    have HR:=Lib.hid (zAI hrow hW);clear hrow hW;gi_wp2;refine ⟨rfl,?_⟩;obtain ⟨hrow,hW⟩:=HR.out;clear HR;have hf:∃ W3:World,W3=((W₁.setCell ⟨N+1,4,none⟩ (.int .i64 en)).setCell ⟨N+1,6,none⟩ (.int .i64 J4)):=⟨_,rfl⟩
    obtain ⟨W3,hW3⟩:=hf;rw [← hW3];have hrow3:W3.heap[N+1]?=some (.cells #[.int .i64 0,.int .i64 0,.int .i64 0,.bool false,.int .i64 en,.int .i64 0,.int .i64 J4,.slice none 0 0,.slice none 0 0] 42 (0,0)):=by rw [hW3];simp [World.setCell,Array.getElem?_modify,hrow]
    have Jl:∀ b,b≠N+1->W3.heap[b]?=W2.heap[b]?:=fun b hb=>by rw [hW3,← hW];simp [World.setCell,Array.getElem?_modify,hb.symm]
    have Mh:W3.heap.size=W2.heap.size:=by rw [hW3,← hW];simp [World.setCell]
    clear hW3 hrow hW g3 g4 g6 z3 z4 z6;show JL S.L (I.γ s2) _ W3;refine EB ?_;cases hkk;refine Er stepG_inBlock ?_;obtain ⟨hJ,hA2,hO3,hE,hown,hcore,Nj⟩:=HH.out;exact WK I hA2 hO3 hE hown hcore Nj hJ hrow3 Jl Mh
theorem Adc (I:Gn S Em m 36)(hm:Fg m ct cb n){s:I.St}{c:Ef}{pv:Value}(hk:c.kind=2)(hA:I.At s σ W)(hS:I.Rw s σ c)(hL:I.Leaves cf fs)(hJ:∀ s' σ' W' e,I.At s' σ' W'->I.On s W s' W'->I.End s' σ' (e,false)->e.ints=[]->JW S.base (I.γ s') (G (cf.finish (QT e (.slice none 0 0))) fs) W') :
    JW S.base (I.γ s) (G (Frame.enter Try.prog 98 #[.pointer (some ⟨ct,0,none⟩),I.wv,GI c pv] .normal) (cf :: fs)) W:=by
  refine Pk I hA hS fun s1 W1 N hA1 Ig hS1 hN VG q1 q2=>?_;generalize hw:I.wv=wv;generalize GI c pv=cv;rw [hk];unfold dG;dsimp only;have hbl:∃ c0,Xy=.block 0 c0/\c0=(match Xy with | .block _ c=>c | _=>.skip):=⟨_,rfl,rfl⟩
  obtain ⟨c0,hc0,hc1⟩:=hbl;rw [hc0];refine Er stepG_block ?_;rw [hc1];simp only [Xy,Try.f98];refine Ei ?_;refine EH fun _ hkk=>?_;iterate 2 (refine Eo ?_;walk_nrm)
  refine EB ?_;cases hkk;refine JL.Ey rfl ?_;refine Ei ?_;refine EH fun _ hkk=>?_;iterate 2 (refine Eo ?_;walk_nrm)
  refine EB ?_;cases hkk;refine JL.Fz rfl ?_;refine EH fun _ hkk=>?_;iterate 3 (refine Eo ?_;walk_nrm)
  refine EL.read (S:=S) (ad:=⟨N,1,none⟩) (.int .i64 c.a) rfl rfl nE (by simp [World.cell?,q1]) (fun w h=>by go_simp) (fun w h e he=>by simp [go_sem,h] at he;exact he) ?_;walk_nrm
  (refine Eo ?_;walk_nrm)
  refine EL.read (S:=S) (ad:=⟨N,2,none⟩) (.int .i64 c.b) rfl rfl nE (by simp [World.cell?,q1]) (fun w h=>by go_simp) (fun w h e he=>by simp [go_sem,h] at he;exact he) ?_;walk_nrm;refine JL.enter rfl rfl nE rfl Try.func10 zKR zKR ?_;walk_nrm;rw [← hw];refine XD I hm hk hA1 (I.Sz hS1 (by simp [Em,hk])) (I.pop Try.func98 hL) fun s2 σ2 W2 e hA2 hO2 hE he=>?_;rw [Frame.finish_at];rw [hw];obtain ⟨TR,en,em,J4,Ny⟩:=e;simp only at he ⊢;have hrow:W2.heap[N+1]?=_:=((hO2.kept _ hN).2).trans q2;have hO3:=Ig.trans hO2;have hown:I.own s2 (N+1):=I.IV hA2 (hO2.kept _ hN).1;have hcore:¬ I.core s2 (N+1):=fun h=>VG.2.1 ((hO2.core _).1 h);have Nj:=VG.2.2;show JL S.L (I.γ s2) _ W2;walk_nrm;obtain ⟨rfl,rfl,rfl,rfl⟩:=he;have HH:=Lib.hid (zAI hJ (zAI hA2 (zAI hO3 (zAI hE (zAI hown (zAI hcore Nj))))))
  clear hJ hA2 hO3 hE hown hcore Nj VG hN hA1 Ig hS1 hA hS hO2 q1 q2;refine EL.GU (S:=S) (b:=base 98) 7 [] (by simp) zKR nE rfl zKR fun W₁ ha=>?_;have hW:W₁.heap=W2.heap:=by obtain ⟨τ,d,rfl⟩:=ha;rfl
  rw [← hW] at hrow;dsimp only [List.drop];have g3:W₁.cell? ⟨N+1,3,none⟩=some (.bool false):=by simp [World.cell?,hrow]
  have g4:W₁.cell? ⟨N+1,4,none⟩=some (.int .i64 0):=by simp [World.cell?,hrow]
  have g6:W₁.cell? ⟨N+1,6,none⟩=some (.int .i64 0):=by simp [World.cell?,hrow]
  have z3:W₁.frozen? ⟨N+1,3,none⟩=false:=by simp [World.frozen?,hrow]
  have z4:W₁.frozen? ⟨N+1,4,none⟩=false:=by simp [World.frozen?,hrow]
  have z6:W₁.frozen? ⟨N+1,6,none⟩=false:=by simp [World.frozen?,hrow]
  have HR:=Lib.hid (zAI hrow hW);clear hrow hW;gi_wp2;refine ⟨rfl,?_⟩;obtain ⟨hrow,hW⟩:=HR.out;clear HR;have hf:∃ W3:World,W3=(W₁.setCell ⟨N+1,6,none⟩ (.int .i64 J4)):=⟨_,rfl⟩
  obtain ⟨W3,hW3⟩:=hf;rw [← hW3];have hrow3:W3.heap[N+1]?=some (.cells #[.int .i64 0,.int .i64 0,.int .i64 0,.bool false,.int .i64 0,.int .i64 0,.int .i64 J4,.slice none 0 0,.slice none 0 0] 42 (0,0)):=by rw [hW3];simp [World.setCell,Array.getElem?_modify,hrow]
  have Jl:∀ b,b≠N+1->W3.heap[b]?=W2.heap[b]?:=fun b hb=>by rw [hW3,← hW];simp [World.setCell,Array.getElem?_modify,hb.symm]
  have Mh:W3.heap.size=W2.heap.size:=by rw [hW3,← hW];simp [World.setCell]
  clear hW3 hrow hW g3 g4 g6 z3 z4 z6;show JL S.L (I.γ s2) _ W3;refine EB ?_;cases hkk;refine Er stepG_inBlock ?_;obtain ⟨hJ,hA2,hO3,hE,hown,hcore,Nj⟩:=HH.out;exact WK I hA2 hO3 hE hown hcore Nj hJ hrow3 Jl Mh
theorem Abg (I:Gn S Em m 36)(hm:Fg m ct cb n){s:I.St}{c:Ef}{pv:Value}(hk:c.kind=5)(hA:I.At s σ W)(hS:I.Rw s σ c)(hL:I.Leaves cf fs)(hJ:∀ s' σ' W' e,I.At s' σ' W'->I.On s W s' W'->I.End s' σ' (e,false)->e.ints=[]->JW S.base (I.γ s') (G (cf.finish (QT e (.slice none 0 0))) fs) W') :
    JW S.base (I.γ s) (G (Frame.enter Try.prog 98 #[.pointer (some ⟨ct,0,none⟩),I.wv,GI c pv] .normal) (cf :: fs)) W:=by
  refine Pk I hA hS fun s1 W1 N hA1 Ig hS1 hN VG q1 q2=>?_;generalize hw:I.wv=wv;generalize GI c pv=cv;rw [hk];unfold dG;dsimp only;have hbl:∃ c0,Xy=.block 0 c0/\c0=(match Xy with | .block _ c=>c | _=>.skip):=⟨_,rfl,rfl⟩
  obtain ⟨c0,hc0,hc1⟩:=hbl;rw [hc0];refine Er stepG_block ?_;rw [hc1];simp only [Xy,Try.f98];refine Ei ?_;refine EH fun _ hkk=>?_;iterate 2 (refine Eo ?_;walk_nrm)
  refine EB ?_;cases hkk;refine JL.Ey rfl ?_;refine Ei ?_;refine EH fun _ hkk=>?_;iterate 2 (refine Eo ?_;walk_nrm)
  refine EB ?_;cases hkk;refine JL.Ey rfl ?_;refine Ei ?_;refine EH fun _ hkk=>?_;iterate 2 (refine Eo ?_;walk_nrm)
  refine EB ?_;cases hkk;refine JL.Ey rfl ?_;refine Ei ?_;refine EH fun _ hkk=>?_;iterate 2 (refine Eo ?_;walk_nrm)
  refine EB ?_;cases hkk;refine JL.Ey rfl ?_;refine Ei ?_;refine EH fun _ hkk=>?_;iterate 2 (refine Eo ?_;walk_nrm)
  refine EB ?_;cases hkk;refine JL.Fz rfl ?_;refine EH fun _ hkk=>?_;iterate 3 (refine Eo ?_;walk_nrm)
  refine EL.read (S:=S) (ad:=⟨N,1,none⟩) (.int .i64 c.a) rfl rfl nE (by simp [World.cell?,q1]) (fun w h=>by go_simp) (fun w h e he=>by simp [go_sem,h] at he;exact he) ?_;walk_nrm
  (refine Eo ?_;walk_nrm)
  refine EL.read (S:=S) (ad:=⟨N,2,none⟩) (.int .i64 c.b) rfl rfl nE (by simp [World.cell?,q1]) (fun w h=>by go_simp) (fun w h e he=>by simp [go_sem,h] at he;exact he) ?_;walk_nrm
  (refine Eo ?_;walk_nrm)
  refine EL.read (S:=S) (ad:=⟨N,3,none⟩) (.int .i64 c.c) rfl rfl nE (by simp [World.cell?,q1]) (fun w h=>by go_simp) (fun w h e he=>by simp [go_sem,h] at he;exact he) ?_;walk_nrm;refine JL.enter rfl rfl nE rfl Try.func24 zKR zKR ?_;walk_nrm;rw [← hw];refine jJ I hm hk hA1 (I.Sz hS1 (by simp [Em,hk])) (I.pop Try.func98 hL) fun s2 σ2 W2 e hA2 hO2 hE he=>?_;rw [Frame.finish_at];rw [hw];obtain ⟨TR,en,em,J4,Ny⟩:=e;simp only at he ⊢;have hrow:W2.heap[N+1]?=_:=((hO2.kept _ hN).2).trans q2;have hO3:=Ig.trans hO2;have hown:I.own s2 (N+1):=I.IV hA2 (hO2.kept _ hN).1;have hcore:¬ I.core s2 (N+1):=fun h=>VG.2.1 ((hO2.core _).1 h);have Nj:=VG.2.2;show JL S.L (I.γ s2) _ W2;walk_nrm;iterate 3 (refine Eo ?_;walk_nrm)
  obtain ⟨rfl,rfl,rfl⟩:=he;have HH:=Lib.hid (zAI hJ (zAI hA2 (zAI hO3 (zAI hE (zAI hown (zAI hcore Nj))))));clear hJ hA2 hO3 hE hown hcore Nj VG hN hA1 Ig hS1 hA hS hO2 q1 q2;refine EL.GU (S:=S) (b:=base 98) 12 [] (by simp) zKR nE rfl zKR fun W₁ ha=>?_;have hW:W₁.heap=W2.heap:=by obtain ⟨τ,d,rfl⟩:=ha;rfl
  rw [← hW] at hrow;dsimp only [List.drop];have g3:W₁.cell? ⟨N+1,3,none⟩=some (.bool false):=by simp [World.cell?,hrow]
  have g4:W₁.cell? ⟨N+1,4,none⟩=some (.int .i64 0):=by simp [World.cell?,hrow]
  have g6:W₁.cell? ⟨N+1,6,none⟩=some (.int .i64 0):=by simp [World.cell?,hrow]
  have z3:W₁.frozen? ⟨N+1,3,none⟩=false:=by simp [World.frozen?,hrow]
  have z4:W₁.frozen? ⟨N+1,4,none⟩=false:=by simp [World.frozen?,hrow]
  have z6:W₁.frozen? ⟨N+1,6,none⟩=false:=by simp [World.frozen?,hrow]
  have HR:=Lib.hid (zAI hrow hW);clear hrow hW;gi_wp2;refine ⟨rfl,?_⟩;obtain ⟨hrow,hW⟩:=HR.out;clear HR;have hf:∃ W3:World,W3=((W₁.setCell ⟨N+1,3,none⟩ (.bool TR)).setCell ⟨N+1,6,none⟩ (.int .i64 J4)):=⟨_,rfl⟩
  obtain ⟨W3,hW3⟩:=hf;rw [← hW3];have hrow3:W3.heap[N+1]?=some (.cells #[.int .i64 0,.int .i64 0,.int .i64 0,.bool TR,.int .i64 0,.int .i64 0,.int .i64 J4,.slice none 0 0,.slice none 0 0] 42 (0,0)):=by rw [hW3];simp [World.setCell,Array.getElem?_modify,hrow]
  have Jl:∀ b,b≠N+1->W3.heap[b]?=W2.heap[b]?:=fun b hb=>by rw [hW3,← hW];simp [World.setCell,Array.getElem?_modify,hb.symm]
  have Mh:W3.heap.size=W2.heap.size:=by rw [hW3,← hW];simp [World.setCell]
  clear hW3 hrow hW g3 g4 g6 z3 z4 z6;show JL S.L (I.γ s2) _ W3;refine EB ?_;cases hkk;refine Er stepG_inBlock ?_;obtain ⟨hJ,hA2,hO3,hE,hown,hcore,Nj⟩:=HH.out;exact WK I hA2 hO3 hE hown hcore Nj hJ hrow3 Jl Mh
theorem Aan (I:Gn S Em m 36)(hm:Fg m ct cb n){s:I.St}{c:Ef}{pv:Value}(hk:¬ (1<=c.kind/\c.kind<=7))(hA:I.At s σ W)(hS:I.Rw s σ c)(hL:I.Leaves cf fs)(hJ:∀ s' σ' W' e,I.At s' σ' W'->I.On s W s' W'->I.End s' σ' (e,false)->e.ints=[]->JW S.base (I.γ s') (G (cf.finish (QT e (.slice none 0 0))) fs) W') :
    JW S.base (I.γ s) (G (Frame.enter Try.prog 98 #[.pointer (some ⟨ct,0,none⟩),I.wv,GI c pv] .normal) (cf :: fs)) W:=by
  refine Pk I hA hS fun s1 W1 N hA1 Ig hS1 hN VG q1 q2=>?_;generalize hw:I.wv=wv;generalize GI c pv=cv;obtain ⟨k,mU⟩:∃ k,k=c.kind:=⟨_,rfl⟩
  rw [← mU];rw [← mU] at hk;unfold dG;dsimp only;have hbl:∃ c0,Xy=.block 0 c0/\c0=(match Xy with | .block _ c=>c | _=>.skip):=⟨_,rfl,rfl⟩
  obtain ⟨c0,hc0,hc1⟩:=hbl;rw [hc0];refine Er stepG_block ?_;rw [hc1];simp only [Xy,Try.f98];refine Ei ?_;refine EH fun _ hkk=>?_;iterate 2 (refine Eo ?_;walk_nrm)
  refine EB ?_;cases hkk;refine JL.Ey (by simp [Act.eval];omega) ?_;refine Ei ?_;refine EH fun _ hkk=>?_;iterate 2 (refine Eo ?_;walk_nrm)
  refine EB ?_;cases hkk;refine JL.Ey (by simp [Act.eval];omega) ?_;refine Ei ?_;refine EH fun _ hkk=>?_;iterate 2 (refine Eo ?_;walk_nrm)
  refine EB ?_;cases hkk;refine JL.Ey (by simp [Act.eval];omega) ?_;refine Ei ?_;refine EH fun _ hkk=>?_;iterate 2 (refine Eo ?_;walk_nrm)
  refine EB ?_;cases hkk;refine JL.Ey (by simp [Act.eval];omega) ?_;refine Ei ?_;refine EH fun _ hkk=>?_;iterate 2 (refine Eo ?_;walk_nrm)
  refine EB ?_;cases hkk;refine JL.Ey (by simp [Act.eval];omega) ?_;refine Ei ?_;refine EH fun _ hkk=>?_;iterate 2 (refine Eo ?_;walk_nrm)
  refine EB ?_;cases hkk;refine JL.Ey (by simp [Act.eval];omega) ?_;refine Ei ?_;refine EH fun _ hkk=>?_;iterate 2 (refine Eo ?_;walk_nrm)
  refine EB ?_;cases hkk;refine JL.Ey (by simp [Act.eval];omega) ?_;refine EH fun _ hkk=>?_;have hE:=I.ends hS1 (e:=({ err:=40 },false)) (by simp only [Em];rw [if_neg zOM,if_neg zOM,if_neg zOM]);have hA2:=hA1;have hO2:=Gn.On.refl I s1 W1;have hrow:W1.heap[N+1]?=_:=((hO2.kept _ hN).2).trans q2;have hO3:=Ig.trans hO2;have hown:I.own s1 (N+1):=I.IV hA2 (hO2.kept _ hN).1;have hcore:¬ I.core s1 (N+1):=fun h=>VG.2.1 ((hO2.core _).1 h);have Nj:=VG.2.2;show JL S.L (I.γ s1) _ W1;have HH:=Lib.hid (zAI hJ (zAI hA2 (zAI hO3 (zAI hE (zAI hown (zAI hcore Nj))))));clear hJ hA2 hO3 hE hown hcore Nj VG hN hA1 Ig hS1 hA hS hO2 q1 q2 mU;refine EL.GU (S:=S) (b:=base 98) 0 [] (by simp) zKR nE rfl zKR fun W₁ ha=>?_;have hW:W₁.heap=W1.heap:=by obtain ⟨τ,d,rfl⟩:=ha;rfl
  rw [← hW] at hrow;dsimp only [List.drop];have g3:W₁.cell? ⟨N+1,3,none⟩=some (.bool false):=by simp [World.cell?,hrow]
  have g4:W₁.cell? ⟨N+1,4,none⟩=some (.int .i64 0):=by simp [World.cell?,hrow]
  have g6:W₁.cell? ⟨N+1,6,none⟩=some (.int .i64 0):=by simp [World.cell?,hrow]
  have z3:W₁.frozen? ⟨N+1,3,none⟩=false:=by simp [World.frozen?,hrow]
  have z4:W₁.frozen? ⟨N+1,4,none⟩=false:=by simp [World.frozen?,hrow]
  have z6:W₁.frozen? ⟨N+1,6,none⟩=false:=by simp [World.frozen?,hrow]
  have HR:=Lib.hid (zAI hrow hW);clear hrow hW;gi_wp2;refine ⟨rfl,?_⟩;obtain ⟨hrow,hW⟩:=HR.out;clear HR;have hf:∃ W3:World,W3=(W₁.setCell ⟨N+1,6,none⟩ (.int .i64 40)):=⟨_,rfl⟩
  obtain ⟨W3,hW3⟩:=hf;rw [← hW3];have hrow3:W3.heap[N+1]?=some (.cells #[.int .i64 0,.int .i64 0,.int .i64 0,.bool false,.int .i64 0,.int .i64 0,.int .i64 40,.slice none 0 0,.slice none 0 0] 42 (0,0)):=by rw [hW3];simp [World.setCell,Array.getElem?_modify,hrow]
  have Jl:∀ b,b≠N+1->W3.heap[b]?=W1.heap[b]?:=fun b hb=>by rw [hW3,← hW];simp [World.setCell,Array.getElem?_modify,hb.symm]
  have Mh:W3.heap.size=W1.heap.size:=by rw [hW3,← hW];simp [World.setCell]
  clear hW3 hrow hW g3 g4 g6 z3 z4 z6;show JL S.L (I.γ s1) _ W3;refine EB ?_;cases hkk;refine Er stepG_inBlock ?_;refine EL.EJ (S:=S) (b:=base 98) [] (by simp) zKR nE zKR fun W4 sG=>?_;have XT:W4.heap=W3.heap:=by obtain ⟨τ,d,rfl⟩:=sG;rfl
  rw [← XT] at hrow3;simp only [← XT] at Jl Mh;have c0:W4.cell? ⟨N+1,0,none⟩=some (.int .i64 0):=by simp [World.cell?,hrow3]
  have c1:W4.cell? ⟨N+1,1,none⟩=some (.int .i64 0):=by simp [World.cell?,hrow3]
  have c2:W4.cell? ⟨N+1,2,none⟩=some (.int .i64 0):=by simp [World.cell?,hrow3]
  have c3:W4.cell? ⟨N+1,3,none⟩=some (.bool false):=by simp [World.cell?,hrow3]
  have c4:W4.cell? ⟨N+1,4,none⟩=some (.int .i64 0):=by simp [World.cell?,hrow3]
  have c5:W4.cell? ⟨N+1,5,none⟩=some (.int .i64 0):=by simp [World.cell?,hrow3]
  have c6:W4.cell? ⟨N+1,6,none⟩=some (.int .i64 40):=by simp [World.cell?,hrow3]
  have c7:W4.cell? ⟨N+1,7,none⟩=some (.slice none 0 0):=by simp [World.cell?,hrow3]
  have c8:W4.cell? ⟨N+1,8,none⟩=some (.slice none 0 0):=by simp [World.cell?,hrow3]
  have zz:∀ o,W4.frozen? ⟨N+1,o,none⟩=false:=fun o=>by simp [World.frozen?,hrow3]
  have z0:=zz 0;have z1:=zz 1;have z2:=zz 2;have z3:=zz 3;have z4:=zz 4;have z5:=zz 5;have z6:=zz 6;have z7:=zz 7;have z8:=zz 8;clear zz;have HR:=Lib.hid (zAI hrow3 (zAI Jl Mh));clear hrow3 Jl Mh XT;have hfin:RowKit.Hid (∀ W5 tm,W5.heap[N+1]?=some (.cells #[.int .i64 0,.int .i64 0,.int .i64 0,.bool false,.int .i64 0,.int .i64 0,.int .i64 40,.slice none 0 0,.slice none 0 0] 42 (0,0))->(∀ b,b≠N+1->W5.heap[b]?=W4.heap[b]?)->W5.heap.size=W4.heap.size->tm.getD 6 undef=.pointer (some ⟨N+1,0,none⟩)->
      aR S (I.γ s1) (base 98) [] [] (cf :: fs) .ret ⟨tm,[]⟩ W5):=Lib.hid fun W5 tm h1 h2 h3 h4 Y=>by
    obtain ⟨hJ,hA2,hO3,hE,hown,hcore,Nj⟩:=HH.out;obtain ⟨_,Jl,Mh⟩:=HR.out;obtain ⟨aB,dI⟩:=I.write hA2 hO3 hown hcore Nj ⟨_,_,_,h1⟩ (fun b hb=>(h2 b hb).trans (Jl b hb)) (h3.trans Mh);exact bB Try.func98 (KM Try.results98 h4 h1 Try.underlying42 rfl zKR) (hJ s1 σ W5 _ aB dI hE rfl)
  clear HH;simp only [xk,Try.f98];gi_wp2;obtain ⟨hrow3,_,_⟩:=HR.out;clear HR;exact hfin.out _ _ (by simp [World.setCell,Array.getElem?_modify,hrow3]) (fun b hb=>by simp [World.setCell,Array.getElem?_modify,hb.symm]) (by simp [World.setCell]) rfl
theorem iG (I:Gn S Em m 36)(hm:Fg m ct cb n){s:I.St}{c:Ef}{pv:Value}(hA:I.At s σ W)(hS:I.Rw s σ c)(hL:I.Leaves cf fs)(hJ:∀ s' σ' W' e,I.At s' σ' W'->I.On s W s' W'->I.End s' σ' (e,false)->e.ints=[]->JW S.base (I.γ s') (G (cf.finish (QT e (.slice none 0 0))) fs) W') :
    JW S.base (I.γ s) (G (Frame.enter Try.prog 98 #[.pointer (some ⟨ct,0,none⟩),I.wv,GI c pv] .normal) (cf :: fs)) W:=by
  by_cases h:1<=c.kind/\c.kind<=7
  . obtain h | h | h | h | h | h | h:c.kind=1\/c.kind=2\/c.kind=3\/c.kind=4\/c.kind=5\/c.kind=6\/c.kind=7:=by omega
    . exact cZ I hm (.inl h) hA hS hL hJ
    . exact Adc I hm h hA hS hL hJ
    . exact cZ I hm (.inr (.inl h)) hA hS hL hJ
    . exact cZ I hm (.inr (.inr (.inl h))) hA hS hL hJ
    . exact Abg I hm h hA hS hL hJ
    . exact cZ I hm (.inr (.inr (.inr (.inl h)))) hA hS hL hJ
    . exact cZ I hm (.inr (.inr (.inr (.inr h)))) hA hS hL hJ
  . exact Aan I hm h hA hS hL hJ
end
end Go.Proofs.Yticecinjcajmcaa
namespace Go.LT
open Go Go.Conc
section
variable {P:Program}{main:Bool}{Γ:Type}{S:Ou P main Γ}{γ:Γ}{W:World}{b:Frame}{a:Act}{k:List Item}{c:Frame}{cs:List Frame}
theorem JL.mE {ops:Array Oper}{i:Nat}{rest:List Nat}{o:Oper}{f:FuncId}{x:Operand}{name:String}{args:Array Operand}{ats:Array TypeId}{args':Array Value}(ho:ops[i]?=some o)(hw:Region.wanted o (yielded ops a.tmps)=true)(hk:b.kind≠.early)(hop:o.op=.call { callee:=.invoke x name,args,argTypes:=ats })(hr:∀ w es,(callMethod (a.eval x) name (args.map a.eval)).runT P w es=(.ok (.enter f args') w,es))(h:JL S γ (G (Frame.enter P f args' .normal) (b.at a (.inRegion ops (i :: rest) :: k) :: cs)) W) :
    JL S γ (G (b.at a (.inRegion ops (i :: rest) :: k)) cs) W:=by
  have he:∀ w,(execOp a.eval o).runT P w #[]=(.ok (.enter f args') w,#[]):=fun w=>by
    unfold execOp;simp only [hop];show (invoke (.fn (.method name) #[]) (#[a.eval x] ++ args.map a.eval)).runT P w #[]=_;unfold invoke;have h0:(#[a.eval x] ++ args.map a.eval)[0]?=some (a.eval x):=by rw [Array.getElem?_append_left (by simp)];rfl
    have h1:(#[a.eval x] ++ args.map a.eval).extract 1 (#[a.eval x] ++ args.map a.eval).size=args.map a.eval:=by
      apply Array.ext'
      simp
      rw [List.take_of_length_le (by simp)]
    simp only [h0,h1];exact hr w #[]
  refine .ctl rfl (fun w=>?_) h;rw [stepG_enter (w':=w) ho hw hk (by rw [← Sem.runT_fst (es:=#[]),he])];have:listed P b.fn a o w=#[]:=by unfold listed;show seen P b.fn ((execOp a.eval o).runT P w #[]).2=#[];rw [he];exact seen_none P _
  rw [this]
theorem JL.Uw {ops:Array Oper}{i:Nat}{rest:List Nat}{o:Oper}{ats:Array TypeId}(ho:ops[i]?=some o)(hw:Region.wanted o (yielded ops a.tmps)=true)(hk:b.kind=.deferred)(hop:o.op=.call { callee:=.builtin .recover,args:=#[],argTypes:=ats })(hc:c.mode=.returning)(h:JL S γ (G (b.at (a.put o.dst .nilIface) (.inRegion ops rest :: k)) (c :: cs)) W):JL S γ (G (b.at a (.inRegion ops (i :: rest) :: k)) (c :: cs)) W:=by
  refine .ctl rfl (fun w=>?_) h;rw [stepG_oper ho hw];have hr:(execOp a.eval o).runT P w #[]=(.ok .recover w,#[]):=by unfold execOp;simp only [hop];rfl
  have hfin:(b.at a (.inRegion ops (i :: rest) :: k)).finish .nilIface=b.at (a.put o.dst .nilIface) (.inRegion ops rest :: k):=by rw [Frame.finish_at,ho];rfl
  rw [← hfin];have hm:tryRecover (b.at a (.inRegion ops (i :: rest) :: k)) (c :: cs)=none:=by unfold tryRecover;simp [Frame.at,hk,hc]
  have hse:seen P b.fn #[]=#[]:=seen_none P _;have hk':((CallKind.deferred == CallKind.early):Bool)=false:=rfl;simp only [Frame.at,hk] at hm hse;simp [stepG.apply,hr,G,Frame.at,hk,GStep.after,hm,hse,-Sem.runT_eq]
theorem JL.V7 {ops:Array Oper}{i:Nat}{rest:List Nat}{o:Oper}{f:FuncId}{x:Operand}{args:Array Operand}{ats:Array TypeId}{caps:Array Value}(ho:ops[i]?=some o)(hw:Region.wanted o (yielded ops a.tmps)=true)(hk:b.kind≠.early)(hop:o.op=.defer { callee:=.value x,args,argTypes:=ats })(hx:a.eval x=.func (.func f) #[] caps)(h:JL S γ (G (b.at (Act.put ⟨a.tmps,{ target:=.fn (.func f) caps,args:=args.map a.eval } :: a.defers⟩ o.dst undef) (.inRegion ops rest :: k)) cs) W):JL S γ (G (b.at a (.inRegion ops (i :: rest) :: k)) cs) W:=by
  refine .ctl rfl (fun w=>?_) h;have hr:(execOp a.eval o).run P w=.ok (.defer { target:=.fn (.func f) caps,args:=args.map a.eval }) w:=by unfold execOp;simp [hop,resolve,Deferred.ofValue,hx]
  have he:(execOp a.eval o).events P w #[]=#[]:=by unfold execOp;simp [hop,resolve,Deferred.ofValue,hx]
  have hfin:(b.at ⟨a.tmps,{ target:=.fn (.func f) caps,args:=args.map a.eval } :: a.defers⟩ (.inRegion ops (i :: rest) :: k)).finish undef=b.at (Act.put ⟨a.tmps,{ target:=.fn (.func f) caps,args:=args.map a.eval } :: a.defers⟩ o.dst undef) (.inRegion ops rest :: k):=by rw [Frame.finish_at,ho];rfl
  have hk':(b.kind == CallKind.early)=false:=by simpa using hk
  rw [stepG_oper ho hw,← hfin];have hse:=seen_none P b.fn;simp [stepG.apply,hr,he,G,Frame.at,hk',GStep.after,hse]
end
end Go.LT
namespace Go.LT
open Go Go.Conc
section
variable {P:Program}{main:Bool}{Γ:Type}{S:EL P main Γ}{γ:Γ}{W:World}
theorem EL.KU {b:Frame}{k:List Item}{cs:List Frame}{ds:List Deferred}{tm:Array Value}{ops:Array Oper}(j n:Nat)(L:List FuncId)(hL:∀ g∈L,@Lets (Host.only b.fn) P g)(hi:P.inits.idxOf? b.fn=none)(hκ:b.kind≠.early){is rest:List Nat}(his:is=List.range' j ((ops.toList.drop j).take n).length ++ rest)(hok:((ops.toList.drop j).take n).all (@J5 (Host.only b.fn) P)=true)(h:∀ W₁,Alike W W₁->wpListIn (Fence.list (b.fn :: L) none) 0 P ops (Behind S γ fun tm=>G (b.at ⟨tm,ds⟩ (.inRegion ops rest :: k)) cs) ((ops.toList.drop j).take n) ⟨tm,[]⟩ W₁):JL S.L γ (G (b.at ⟨tm,ds⟩ (.inRegion ops is :: k)) cs) W:=
  EL.xq j ((ops.toList.drop j).take n) L hL hi hκ his (fun i o ho=>by
    rw [List.getElem?_take] at ho;split at ho
    . rw [List.getElem?_drop] at ho;rw [← Array.getElem?_toList];exact ho
    . cases ho) hok h
end
end Go.LT
namespace Go.Proofs.Yticecinjcajmcaa
open Go Go.Conc Go.LT Go.LC Go.LK Go.RowKit
section
variable {main:Bool}{Γ:Type}{S:EL Try.prog main Γ}{Cs Sg:Type}{D:Dr Ef Cs Sg}{m:Mem Sg}
structure OV (I:Gn S D m 36)(dv:Value)(OY:FuncId)(recv:Value):Prop where
  yD : ∀ wv cv w es, (callMethod dv "Do" #[wv, cv]).runT Try.prog w es = (.ok (.enter OY #[recv, wv, cv]) w, es)
  doj:∀ {s:I.St} {σ:Sg} {W:World} {c:Ef} {cf:Frame} {fs:List Frame} {pv:Value},I.At s σ W->I.Rw s σ c->I.Leaves cf fs->
    (∀ s' σ' W' e iv,I.At s' σ' W'->I.On s W s' W'->I.End s' σ' (e,false)->FR W' (fun g=>I.kept s' g/\¬ I.kept s g) iv e.ints->JW S.base (I.γ s') (G (cf.finish (QT e iv)) fs) W')->
    JW S.base (I.γ s) (G (Frame.enter Try.prog OY #[recv,I.wv,GI c pv] .normal) (cf :: fs)) W
variable {cf:Frame}{fs:List Frame}{W:World}{σ:Sg}
def ds0:Code:=match Try.f61.body with | some (.seq c _)=>c | _=>.skip
def ds1:Code:=match Try.f61.body with | some (.seq _ (.seq c _))=>c | _=>.skip
def zS:Code:=match Try.f61.body with | some (.seq _ (.seq _ c))=>c | _=>.skip
theorem iQ:Try.f61.body=some (.seq ds0 (.seq ds1 zS)):=rfl
def dd0:Code:=match Try.f77.body with | some (.seq c _)=>c | _=>.skip
def dd1:Code:=match Try.f77.body with | some (.seq _ c)=>c | _=>.skip
theorem SF:Try.f77.body=some (.seq dd0 dd1):=rfl
theorem Nq {w:World}{own:Nat->Prop}{iv:Value}{l:List Int}(h:FR w own iv l):∃ ao n c,iv=.slice ao n c:=by
  rcases h with ⟨_,rfl⟩|⟨_,g,c,rfl,_⟩
  . exact ⟨_,_,_,rfl⟩
  . exact ⟨_,_,_,rfl⟩
def O6 (N:Nat):Deferred:={ target:=.fn (.func 77) #[.pointer (some ⟨N+2,0,none⟩),.pointer (some ⟨N,0,none⟩)],args:=#[] }
theorem X9 (I:Gn S D m 36){s:I.St}{c:Ef}{pv dv:Value}(hA:I.At s σ W)(hS:I.Rw s σ c)(hJ:∀ s' W' N,I.At s' σ W'->I.On s W s' W'->I.Rw s' σ c->I.kept s' (N+2)/\I.kept s' N/\¬ I.core s' (N+2)/\¬ I.kept s (N+2)->W'.heap[N]?=some (.cells #[I.wv] 65 (0,0))->W'.heap[N+1]?=some (.cells #[.int .i64 c.kind,.int .i64 c.a,.int .i64 c.b,.int .i64 c.c,pv] 44 (0,0))->
      W'.heap[N+2]?=some (.cells #[.int .i64 0,.int .i64 0,.int .i64 0,.bool false,.int .i64 0,.int .i64 0,.int .i64 0,.slice none 0 0,.slice none 0 0] 42 (0,0))->
      JL S.L (I.γ s') (G ((base 61).at ⟨#[I.wv,dv,GI c pv,.pointer (some ⟨N,0,none⟩),undef,.pointer (some ⟨N+1,0,none⟩),.pointer (some ⟨N+2,0,none⟩),undef,undef,undef,undef,undef],[]⟩ [.code (.seq ds1 zS)]) (cf :: fs)) W')(hwv:∃ a,I.wv=.pointer a)(hpv:∃ a n c,pv=.slice a n c) :
    JW S.base (I.γ s) (G (Frame.enter Try.prog 61 #[I.wv,dv,GI c pv] .normal) (cf :: fs)) W:=by
  have ht:#[I.wv,dv,GI c pv] ++ Array.replicate (Try.f61.ntmps - (#[I.wv,dv,GI c pv]:Array Value).size) undef=#[I.wv,dv,GI c pv,undef,undef,undef,undef,undef,undef,undef,undef,undef]:=by
    have:Try.f61.ntmps=12:=by kernel_rfl
    rw [this];walk_nrm
  rw [enter_at _ Try.func61 iQ,ht];obtain ⟨wa,hw⟩:=hwv;obtain ⟨pa,pn,pc,rfl⟩:=hpv;simp only [hw] at hJ ⊢;show JL S.L (I.γ s) _ W;refine Ei ?_;refine EL.EJ (S:=S) (b:=base 61) [] (by simp) zKR nE zKR fun W₁ ha=>?_;obtain ⟨hA1,Ig⟩:=I.alike hA ha;have HH:=Lib.hid (zAI hJ (zAI hS (zAI hA1 Ig)));clear hJ hS hA hA1 Ig;simp only [ds0,Try.f61,GI];gi_wp2;obtain ⟨hJ,hS,hA1,Ig⟩:=HH.out;clear HH;generalize ho1:Obj.cells #[Value.pointer wa] 65=o1;generalize ho2:Obj.cells #[Value.int IntKind.i64 c.kind,Value.int IntKind.i64 c.a,Value.int IntKind.i64 c.b,Value.int IntKind.i64 c.c,Value.slice pa pn pc] 44=o2;generalize ho3:Obj.cells #[Value.int IntKind.i64 0,Value.int IntKind.i64 0,Value.int IntKind.i64 0,Value.bool false,Value.int IntKind.i64 0,Value.int IntKind.i64 0,Value.int IntKind.i64 0,Value.slice none 0 0,Value.slice none 0 0] 42=o3
  obtain ⟨s1,hA2,hO2,e1,f1,k1,b1,_⟩:=I.lay (W':=W₁.alloc o1) (N:=W₁.heap.size) hA1 rfl ⟨_,_,_,by rw [heap_alloc_new];exact congrArg some ho1.symm⟩ (fun b hb=>Below.heap_alloc _ _ _ hb) (by simp);obtain ⟨s2,hA3,hO3,e2,f2,k2,b2,_⟩:=I.lay (W':=(W₁.alloc o1).alloc o2) (N:=(W₁.alloc o1).heap.size) hA2 rfl ⟨_,_,_,by rw [heap_alloc_new];exact congrArg some ho2.symm⟩ (fun b hb=>Below.heap_alloc _ _ _ hb) (by simp);obtain ⟨s3,VT,hO4,e3,f3,k3,b3,_⟩:=I.lay (W':=((W₁.alloc o1).alloc o2).alloc o3) (N:=((W₁.alloc o1).alloc o2).heap.size) hA3 rfl ⟨_,_,_,by rw [heap_alloc_new];exact congrArg some ho3.symm⟩ (fun b hb=>Below.heap_alloc _ _ _ hb) (by simp);have hsz:(W₁.alloc o1).heap.size=W₁.heap.size+1:=by simp
  have hsz2:((W₁.alloc o1).alloc o2).heap.size=W₁.heap.size+2:=by simp
  have q1:(((W₁.alloc o1).alloc o2).alloc o3).heap[W₁.heap.size]?=some o1:=by rw [Below.heap_alloc _ _ _ (by simp;omega),Below.heap_alloc _ _ _ (by simp)];exact heap_alloc_new _ _
  have q2:(((W₁.alloc o1).alloc o2).alloc o3).heap[W₁.heap.size+1]?=some o2:=by rw [Below.heap_alloc _ _ _ (by simp),← hsz];exact heap_alloc_new _ _
  have q3:(((W₁.alloc o1).alloc o2).alloc o3).heap[W₁.heap.size+2]?=some o3:=by rw [← hsz2];exact heap_alloc_new _ _
  have q6:I.kept s3 (W₁.heap.size+2)/\I.kept s3 W₁.heap.size/\¬ I.core s3 (W₁.heap.size+2)/\¬ I.kept s (W₁.heap.size+2):=by
    have hown:∀ b,I.own s b->b < W₁.heap.size:=fun b hb=>by obtain ⟨_,c,e,f,h⟩:=I.row hA1 hb;exact (zGE h).1
    refine ⟨(k3 _).2 (.inr hsz2.symm),(k3 _).2 (.inl ((k2 _).2 (.inl ((k1 _).2 (.inr rfl))))),fun h=>?_,fun h=>?_⟩
    . have:=hown _ (I.MG hA1 ((hO2.core _).1 ((hO3.core _).1 ((hO4.core _).1 h))));omega
    . have:=hown _ (I.IV hA1 h);omega
  have q4:=Ig.trans (hO2.trans (hO3.trans hO4));have q5:=b3 _ (b2 _ (b1 _ hS));have e4:I.γ s=I.γ s3:=(e3.trans (e2.trans e1)).symm;rw [e4];generalize ((W₁.alloc o1).alloc o2).alloc o3=W3 at *;generalize W₁.heap.size=N at *;subst ho1 ho2 ho3;exact hJ s3 W3 N VT q4 q5 q6 q1 q2 q3
theorem Yi (I:Gn S D m 36){dv recv:Value}{OY:FuncId}(hD:OV I dv OY recv){s:I.St}{c:Ef}{pv:Value}(hA:I.At s σ W)(hS:I.Rw s σ c)(hwv:∃ a,I.wv=.pointer a)(hpv:∃ a n c,pv=.slice a n c)(hdv:∃ t v,dv=.iface t v)(hLd:∀ tm k N,I.Leaves ((base 61).at ⟨tm,[O6 N]⟩ k) (cf :: fs))(hJ:∀ s' σ' W' e iv,I.At s' σ' W'->I.On s W s' W'->I.End s' σ' (e,false)->FR W' (fun g=>I.kept s' g/\¬ I.kept s g) iv e.ints->JW S.base (I.γ s') (G (cf.finish (QT e iv)) fs) W') :
    JW S.base (I.γ s) (G (Frame.enter Try.prog 61 #[I.wv,dv,GI c pv] .normal) (cf :: fs)) W:=by
  refine X9 I hA hS (fun s1 W1 N hA1 Ig hS1 hN q1 q2 q3=>?_) hwv hpv;obtain ⟨wa,hw⟩:=hwv;obtain ⟨pa,pn,pc,rfl⟩:=hpv;obtain ⟨dt,dw,rfl⟩:=hdv;refine Ei ?_;simp only [ds1,Try.f61];refine EH fun _ hkk=>?_;refine JL.Ii (.func (.func 77) #[] #[.pointer (some ⟨N+2,0,none⟩),.pointer (some ⟨N,0,none⟩)]) rfl rfl nE (fun _=>by kernel_rfl) ?_;walk_nrm;refine JL.V7 rfl rfl nE rfl rfl ?_;walk_nrm;refine EB ?_;cases hkk;simp only [zS,Try.f61];refine Ei ?_;refine EH fun _ hkk=>?_
  (refine Eo ?_;walk_nrm)
  rw [hw] at q1;refine EL.read (S:=S) (ad:=⟨N,0,none⟩) (.pointer wa) rfl rfl nE (by simp [World.cell?,q1]) (fun w h=>by go_simp) (fun w h e he=>by simp [go_sem,h] at he;exact he) ?_;walk_nrm;refine EL.KU (S:=S) (b:=base 61) 2 1 [] (by simp) zKR nE (rest:=[3,4]) rfl zKR fun W₁ ha=>?_;obtain ⟨hA2,hO2⟩:=I.alike hA1 ha;have hW:W₁.heap=W1.heap:=by obtain ⟨τ,d,rfl⟩:=ha;rfl
  rw [← hW] at q1 q2 q3;have hO3:=Ig.trans hO2;have hN2:I.kept s1 (N+2):=hN.1;have HH:=Lib.hid (zAI hJ (zAI hS1 (zAI hA2 (zAI hO3 (zAI hN q3)))));clear hJ hA2 hO3 Ig hO2 hA1 hS1 hA hS q3 hW hN hN2;dsimp only [List.drop,List.take];have c0:W₁.cell? ⟨N+1,0,none⟩=some (.int .i64 c.kind):=by simp [World.cell?,q2]
  have c1:W₁.cell? ⟨N+1,1,none⟩=some (.int .i64 c.a):=by simp [World.cell?,q2]
  have c2:W₁.cell? ⟨N+1,2,none⟩=some (.int .i64 c.b):=by simp [World.cell?,q2]
  have c3:W₁.cell? ⟨N+1,3,none⟩=some (.int .i64 c.c):=by simp [World.cell?,q2]
  have c4:W₁.cell? ⟨N+1,4,none⟩=some (.slice pa pn pc):=by simp [World.cell?,q2]
  clear q1 q2;gi_wp2;refine ⟨rfl,?_⟩;obtain ⟨hJ,hS1,hA2,hO3,hN,q3⟩:=HH.out;clear HH c0 c1 c2 c3 c4;show JL S.L (I.γ s1) _ W₁;dsimp only;have hme:=hD.yD (.pointer wa) (GI c (.slice pa pn pc));refine JL.mE (f:=OY) (args':=#[recv,.pointer wa,GI c (.slice pa pn pc)]) rfl rfl nE rfl (fun w es=>?_) ?_
  . rw [List.map_toArray];simp only [List.map_cons,List.map_nil,Act.eval,Array.getD_eq_getD_getElem?,List.getElem?_toArray,List.getElem?_cons_succ,List.getElem?_cons_zero,Option.getD_some];exact hme w es
  clear hme;rw [← hw];refine hD.doj hA2 hS1 (by rw [hw];exact hLd _ _ N) fun s2 σ2 W2 e iv VT hO4 hE hiv=>?_;rw [Frame.finish_at];rw [hw];have hrow:W2.heap[N+2]?=_:=((hO4.kept _ hN.1).2).trans q3;have dI:=hO3.trans hO4;have hown:I.own s2 (N+2):=I.IV VT (hO4.kept _ hN.1).1;have hcore:¬ I.core s2 (N+2):=fun h=>hN.2.2.1 ((hO4.core _).1 h);have Nj:=hN.2.2.2;show JL S.L (I.γ s2) _ W2;walk_nrm;obtain ⟨TR,en,em,J4,Ny⟩:=e;unfold QT;obtain ⟨io,il,ic,rfl⟩:=Nq hiv;refine EL.GU (S:=S) (b:=base 61) 4 [] (by simp) zKR nE rfl zKR fun W3 LA=>?_;have hW3:W3.heap=W2.heap:=by obtain ⟨τ,d,rfl⟩:=LA;rfl
  rw [← hW3] at hrow;have zz:∀ o,W3.frozen? ⟨N+2,o,none⟩=false:=fun o=>by simp [World.frozen?,hrow]
  have c0:W3.cell? ⟨N+2,0,none⟩=some (.int .i64 0):=by simp [World.cell?,hrow]
  have c1:W3.cell? ⟨N+2,1,none⟩=some (.int .i64 0):=by simp [World.cell?,hrow]
  have c2:W3.cell? ⟨N+2,2,none⟩=some (.int .i64 0):=by simp [World.cell?,hrow]
  have c3:W3.cell? ⟨N+2,3,none⟩=some (.bool false):=by simp [World.cell?,hrow]
  have c4:W3.cell? ⟨N+2,4,none⟩=some (.int .i64 0):=by simp [World.cell?,hrow]
  have c5:W3.cell? ⟨N+2,5,none⟩=some (.int .i64 0):=by simp [World.cell?,hrow]
  have c6:W3.cell? ⟨N+2,6,none⟩=some (.int .i64 0):=by simp [World.cell?,hrow]
  have c7:W3.cell? ⟨N+2,7,none⟩=some (.slice none 0 0):=by simp [World.cell?,hrow]
  have c8:W3.cell? ⟨N+2,8,none⟩=some (.slice none 0 0):=by simp [World.cell?,hrow]
  have z0:=zz 0;have z1:=zz 1;have z2:=zz 2;have z3:=zz 3;have z4:=zz 4;have z5:=zz 5;have z6:=zz 6;have z7:=zz 7;have z8:=zz 8;clear zz;have HH:=Lib.hid (zAI hJ (zAI VT (zAI dI (zAI hE (zAI hown (zAI hcore (zAI Nj (zAI hiv (zAI hrow (zAI hW3 (zAI hN hO3)))))))))));clear hJ VT dI hE hown hcore Nj hiv hrow hW3 hN hO4 hA2 hO3 hS1 q3;dsimp only [List.drop];gi_wp2;refine ⟨rfl,?_⟩;obtain ⟨hJ,VT,dI,hE,hown,hcore,Nj,hiv,hrow,hW3,hN,hO3⟩:=HH.out;clear HH;generalize VW:World.setCell _ _ _=W5;have MR:W5.heap[N+2]?=some (.cells #[.int .i64 0,.int .i64 0,.int .i64 0,.bool TR,.int .i64 en,.int .i64 em,.int .i64 J4,.slice io il ic,.slice none 0 0] 42 (0,0)):=by rw [← VW];simp [World.setCell,Array.getElem?_modify,hrow]
  have Qb:∀ b,b≠N+2->W5.heap[b]?=W2.heap[b]?:=fun b hb=>by rw [← VW,← hW3];simp [World.setCell,Array.getElem?_modify,hb.symm]
  have hsz5:W5.heap.size=W2.heap.size:=by rw [← VW,← hW3];simp [World.setCell]
  clear VW hrow hW3 c0 c1 c2 c3 c4 c5 c6 c7 c8 z0 z1 z2 z3 z4 z5 z6 z7 z8;obtain ⟨aB,qx⟩:=I.write VT dI hown hcore Nj ⟨_,_,_,MR⟩ Qb hsz5;have jr:FR W5 (fun g=>I.kept s2 g/\¬ I.kept s g) (.slice io il ic) Ny:=(hiv.QD fun g hg=>.of (Qb g fun e=>hg.2 (e ▸ hN.1))).mono fun g hg=>⟨hg.1,fun h=>hg.2 (hO3.kept g h).1⟩
  show JL S.L (I.γ s2) _ W5;dsimp only;refine EB ?_;cases hkk;refine Er stepG_ret' ?_;refine JW.defers (S:=S.base) Try.func77 zKR rfl (by simp) ?_;rw [enter_atD _ Try.func77 SF];have ht:#[] ++ #[.pointer (some ⟨N+2,0,none⟩),.pointer (some ⟨N,0,none⟩)] ++ Array.replicate (Try.f77.ntmps - (#[] ++ #[.pointer (some ⟨N+2,0,none⟩),.pointer (some ⟨N,0,none⟩)]:Array Value).size) undef=#[.pointer (some ⟨N+2,0,none⟩),.pointer (some ⟨N,0,none⟩),undef,undef,undef,undef,undef,undef,undef,undef,undef,undef,undef,undef,undef,undef,undef,undef,undef]:=by
    have:Try.f77.ntmps=19:=by kernel_rfl
    rw [this];walk_nrm
  rw [ht];show JL S.L (I.γ s2) _ W5;generalize hcf:(FT _ _ _ _ _ _:Frame)=cd;have hcm:cd.mode=.returning:=by rw [← hcf]
  refine Ei ?_;simp only [dd0,Try.f77];refine EH fun _ hkk=>?_;refine JL.Uw rfl rfl rfl rfl hcm ?_;walk_nrm
  (refine Eo ?_;walk_nrm)
  refine EB ?_;cases hkk;simp only [dd1,Try.f77];refine Ei ?_;refine Ei ?_;refine EH fun _ hkk=>?_
  (refine Eo ?_;walk_nrm)
  refine JL.Ii (.tuple #[.agg #[],.bool false]) rfl rfl nE (fun _=>by kernel_rfl) ?_;walk_nrm
  (refine Eo ?_;walk_nrm)
  refine JL.Ii (.agg #[]) rfl rfl nE (fun _=>by kernel_rfl) ?_;walk_nrm;refine JL.Ii (.bool false) rfl rfl nE (fun _=>by kernel_rfl) ?_;walk_nrm;have HH:=Lib.hid (zAI hJ (zAI aB (zAI qx (zAI hE (zAI jr (zAI hcf MR))))));clear hJ aB qx hE jr MR VT dI hown hcore Nj hiv hN hO3 Qb hsz5;refine EL.GU (S:=S) (b:=baseD 77) 5 [] (by simp) zKR nE rfl zKR fun W6 wI=>?_;dsimp only [List.drop];gi_wp2;refine ⟨rfl,?_⟩;obtain ⟨hJ,aB,qx,hE,jr,hcf,MR⟩:=HH.out;clear HH;obtain ⟨zh,sK⟩:=I.alike aB wI;obtain ⟨s3,hA7,hO8,e1,_,_,_,_,_,b4⟩:=I.lay (W':=W6.alloc (.cells #[] 120)) (N:=W6.heap.size) zh rfl ⟨_,_,_,heap_alloc_new _ _⟩ (fun b hb=>Below.heap_alloc _ _ _ hb) (by simp);have hE7:=b4 _ hE;have hO9:=qx.trans (sK.trans hO8);have Ro:W6.heap=W5.heap:=by obtain ⟨τ,d,rfl⟩:=wI;rfl
  have hlt:N+2 < W6.heap.size:=by rw [Ro];exact (zGE MR).1
  have kD:=MR;rw [← Ro] at kD;have tN:=(Below.heap_alloc W6 (.cells #[] 120) _ hlt).trans kD;have Abn:FR (W6.alloc (.cells #[] 120)) (fun g=>I.kept s3 g/\¬ I.kept s g) (.slice io il ic) Ny:=(jr.QD fun g hg=>.of (((sK.trans hO8).kept g hg.1).2)).mono fun g hg=>⟨((sK.trans hO8).kept g hg.1).1,hg.2⟩
  rw [← e1];generalize W6.alloc (.cells #[] 120)=W7 at *;show JL S.L (I.γ s3) _ W7;dsimp only;refine EB ?_;cases hkk;refine Ei ?_;refine EH fun _ hkk=>?_
  (refine Eo ?_;walk_nrm)
  refine EB ?_;cases hkk;refine JL.Ey rfl ?_;refine Er stepG_skip ?_;refine Ei ?_;refine EH fun _ hkk=>?_
  (refine Eo ?_;walk_nrm)
  refine JL.Ii (.bool false) rfl rfl nE (fun _=>by kernel_rfl) ?_;walk_nrm;refine EB ?_;cases hkk;refine JL.Ey rfl ?_;refine Er stepG_skip ?_;refine Er stepG_end ?_;refine JL.leaveD rfl rfl Try.func77 rfl hcm ?_;rw [← hcf];exact bB Try.func61 (KM Try.results61 rfl tN Try.underlying42 rfl zKR) (hJ s3 σ2 W7 _ _ hA7 hO9 hE7 Abn)
end
end Go.Proofs.Yticecinjcajmcaa
end
