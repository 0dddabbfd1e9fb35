/-
  Part 8 of the proof that CellOrders is true of every input of bulk at most 1048576.
-/
import Derived.Test.YtdkfdedgfilhbaaQ07
set_option linter.unusedVariables false
set_option linter.unusedSectionVars false
set_option linter.unusedSimpArgs false
set_option maxHeartbeats 4000000
noncomputable section
namespace Go.Proofs.Ytdkfdedgfilhbaa
open Go Go.Conc Go.LT Go.LC Go.LK
section
theorem R9{P : Program}{f : FuncId}{fn : Func}(hf : P.funcs[f]? = some fn)(hname : (fn.name == "runtime.NumGoroutine") = false)(hb : fn.body.isNone = true)(hn : Extern.findNext fn = none)(k : IntKind)(he:Extern.find fn=some (Extern.Atomic.swapT (.int k))){a:Addr}{x y:Int}{w:World}(hc:w.cell? a=some (.int k x))(hz:w.frozen? a=false) :
  (callFunc f #[.pointer (some a),.int k y]).run P w=.ok (.value (.int k x)) (w.setCell a (.int k y)):=by
 rw[run_callFunc_extern hf hname hb hn he];change(Sem.run P (do
  let a' ← asAddr (.pointer (some a))
  let old ← Extern.Atomic.read (.int k) a'
  store a' (.int k y) .atomic
  pure old) w).andThen _=_
 simp[Extern.Atomic.read,asAddr,hc,hz,run_store P w a (.int k y) .atomic rfl,Result.andThen]
def at0:Code:=match Try.f17.body with | some (.seq c _)=>c | _=>.skip
def at1:Code:=match Try.f17.body with | some (.seq _ (.seq c _))=>c | _=>.skip
def at2:Code:=match Try.f17.body with | some (.seq _ (.seq _ c))=>c | _=>.skip
theorem nu:Try.f17.body=some (.seq at0 (.seq at1 at2)):=rfl
section
variable {main:Bool}{Γ:Type}{S:Fp Try.prog main Γ}{m:Mem (List Int)}{cb ct n:Nat}{cf:Frame}{fs:List Frame}{W:World}{σ:List Int}{cs:Fw}
theorem NC(I:GJ S EK m 33)(hm:FI m ct cb n){s:I.St}{i:Int}(hA:I.At s σ W)(hS:I.Step s σ cs)(hL:I.Leaves cf fs)(hJ:∀s' σ' W',I.At s' σ' W'->I.On s W s' W'->I.fuel s'<I.fuel s->I.bD s' (EK.next I.num cs σ')->JW S.base (I.γ s') (G (cf.finish (if inn n i then .tuple #[.pointer (some ⟨cb,i.toNat,none⟩),.int .i64 0]else .tuple #[.pointer none,.int .i64 41])) fs) W') :
   JW S.base (I.γ s) (G (Frame.enter Try.prog 17 #[.pointer (some ⟨ct,0,none⟩),I.wv,.int .i64 i] .normal) (cf :: fs)) W:=by
 have ht:#[.pointer (some ⟨ct,0,none⟩),I.wv,.int .i64 i]++Array.replicate (Try.f17.ntmps-#[.pointer (some ⟨ct,0,none⟩),I.wv,Value.int .i64 i].size) undef=#[.pointer (some ⟨ct,0,none⟩),I.wv,.int .i64 i,undef,undef,undef,undef,undef,undef,undef,undef,undef,undef,undef,undef,undef,undef,undef,undef,undef,undef,undef,undef,undef,undef,undef,undef]:=by
   have:Try.f17.ntmps=27:=by kernel_rfl
   rw[this];walk_nrm
 rw[enter_at _ Try.func17 nu,ht];generalize hw:I.wv=wv;show JL S.L (I.γ s) _ W;refine EO ?_;simp only[at0,Try.f17];refine E9 fun _ hkk=>?_;iterate 2(refine ET ?_;walk_nrm)
 refine E5 ?_;cases hkk;refine EO ?_;simp only[at1,Try.f17];refine E9 fun _ hkk=>?_
 (refine ET ?_;walk_nrm)
 refine JL.enter rfl rfl nE rfl Try.func33 zKR zKR ?_;walk_nrm;rw[← hw];refine I.line hA hS (I.pop Try.func17 hL) fun s' σ' W' hA' hO hf _ hT=>?_;rw[Frame.finish_at];rw[hw];show JL S.L (I.γ s') _ W';walk_nrm;refine E5 ?_;cases hkk;refine Fp.Fz (S:=S) (b:=base 17) [] (by simp) zKR nE zKR fun EG ha=>?_;have hI:=m.alike (I.inv hA') ha;obtain⟨_,hc,_⟩:=hm.get _ _ hI;have hn:=hm.len;simp only[at2,Try.f17];have hend:∀tm v,(∀w,(results Try.f17 tm).runT Try.prog w #[]=(.ok v w,#[]))->v=(if inn n i then .tuple #[.pointer (some ⟨cb,i.toNat,none⟩),.int .i64 0]else .tuple #[.pointer none,.int .i64 41])->
     aC S (I.γ s') (base 17) [] [] (cf :: fs) .ret ⟨tm,[]⟩ EG:=fun tm v hr hv Y=>by
   refine JL.back rfl Try.func17 hr ?_;rw[hv];exact JW.tape (hJ s' σ' W' hA' hO hf hT) ha
 clear hJ hT hA' hA hS hL;by_cases h0:i<0
 . gi_wp2;exact hend _ (.tuple #[.pointer none,.int .i64 41]) (fun w=>by kernel_rfl) (by rw[if_neg (by simp[inn];omega)])
 . by_cases h1:i<n
   . gi_wp2;exact hend _ (.tuple #[.pointer (some ⟨cb,i.toNat,none⟩),.int .i64 0]) (fun w=>by kernel_rfl) (by rw[if_pos (by simp[inn];omega)])
   . gi_wp2;exact hend _ (.tuple #[.pointer none,.int .i64 41]) (fun w=>by kernel_rfl) (by rw[if_neg (by simp[inn];omega)])
def ld0:Code:=match Try.f15.body with | some (.seq c _)=>c | _=>.skip
def ld1:Code:=match Try.f15.body with | some (.seq _ (.seq c _))=>c | _=>.skip
def ld2:Code:=match Try.f15.body with | some (.seq _ (.seq _ c))=>c | _=>.skip
theorem kY:Try.f15.body=some (.seq ld0 (.seq ld1 ld2)):=rfl
theorem Y0:∀g∈[25,41],@Lets (Host.only 15) Try.prog g:=fun g hg=>by
 simp only[List.mem_cons,List.not_mem_nil,or_false]at hg;rcases hg with rfl|rfl
 . exact⟨by kernel_rfl,.inl ⟨_,_,Try.func25,by kernel_rfl,rfl,by kernel_rfl⟩⟩
 . exact⟨by kernel_rfl,.inr (.inl (H7 Try.func41 zKR rfl zKR (e:=Extern.Atomic.loadT (.int .i64)) zKR (Ul fun _=>trivial)))⟩
theorem UQ(I:GJ S EK m 33)(hm:FI m ct cb n){s:I.St}{c:EP}(hk:c.kind=1)(hA:I.At s σ W)(hS:I.Step s σ (.one c))(hL:I.Leaves cf fs)(hJ:∀s' σ' W' e,I.At s' σ' W'->I.On s W s' W'->I.End s' σ' (e,false)->(e.ok=false/\e.m=0/\e.ints=[])->JW S.base (I.γ s') (G (cf.finish (.tuple #[.int .i64 e.n,.int .i64 e.err])) fs) W') :
  JW S.base (I.γ s) (G (Frame.enter Try.prog 15 #[.pointer (some ⟨ct,0,none⟩),I.wv,.int .i64 c.a] .normal) (cf :: fs)) W:=by
 have ht:#[.pointer (some ⟨ct,0,none⟩),I.wv,.int .i64 c.a]++Array.replicate (Try.f15.ntmps-(#[.pointer (some ⟨ct,0,none⟩),I.wv,.int .i64 c.a]:Array Value).size) undef=#[.pointer (some ⟨ct,0,none⟩),I.wv,.int .i64 c.a,undef,undef,undef,undef,undef,undef,undef,undef,undef,undef,undef,undef,undef,undef,undef,undef,undef,undef,undef]:=by
  have:Try.f15.ntmps=22:=by kernel_rfl
  rw[this];walk_nrm
 rw[enter_at _ Try.func15 kY,ht];generalize hw:I.wv=wv;show JL S.L (I.γ s) _ W;refine EO ?_;simp only[ld0,Try.f15];refine E9 fun _ hkk=>?_;iterate 2(refine ET ?_;walk_nrm)
 refine E5 ?_;cases hkk;refine EO ?_;simp only[ld1,Try.f15];refine E9 fun _ hkk=>?_;iterate 3(refine ET ?_;walk_nrm)
 refine JL.enter rfl rfl nE rfl Try.func17 zKR zKR ?_;walk_nrm;rw[← hw];refine NC I hm hA hS (I.pop Try.func15 hL) fun s' σ' W' hA' hO hf hT=>?_;rw[Frame.finish_at];rw[hw];show JL S.L (I.γ s') _ W';have hlen:=(hm.get _ _ (I.inv hA')).1;cases hi:inn n c.a with
 | false=>
  rw[if_neg (by simp)];walk_nrm;iterate 5(refine ET ?_;walk_nrm)
  refine E5 ?_;cases hkk;refine Fp.Fz (S:=S) (b:=base 15) [25,41] Y0 zKR nE zKR fun EG ha=>?_;simp only[ld2,Try.f15];obtain⟨hA1,HY⟩:=I.alike hA' ha;have hT':I.End s' σ' ({ err:=41 },false):=I.done (by have:=hT;simp only[EK]at this;rw[hlen,if_pos hi]at this;exact this);have hend:=hJ s' σ' EG _ hA1 (hO.trans HY) hT' ⟨rfl,rfl,rfl⟩;clear hT hT' hJ hA' hA hS hL;gi_wp2;intro Y;exact JL.back rfl Try.func15 (v:=.tuple #[.int .i64 0,.int .i64 41]) (fun w=>by kernel_rfl) hend
 | true=>
  rw[if_pos rfl];walk_nrm;iterate 5(refine ET ?_;walk_nrm)
  refine E5 ?_;cases hkk;refine Fp.Fz (S:=S) (b:=base 15) [25,41] Y0 zKR nE zKR fun EG ha=>?_;simp only[ld2,Try.f15];obtain⟨hA1,HY⟩:=I.alike hA' ha;have hO2:=hO.trans HY;have hi':c.a.toNat<n:=by simp[inn]at hi;omega
  have hc:=hm.cell (I.inv hA1) hi';have hz:=hm.frozen (I.inv hA1) c.a.toNat;rw[show EK.next I.num (.one c) σ'=((FW c σ').1,.inr ((FW c σ').2,false))by simp only[EK];rw[hlen,if_neg (by simp[hi])]]at hT;unfold FW at hT;simp only[hk]at hT;simp only[if_true]at hT;have hend:=hJ s' σ' EG _ hA1 hO2 (I.done hT) ⟨rfl,rfl,rfl⟩;clear hT hJ hA' hA hS hL hlen;generalize σ'.getD c.a.toNat 0=x at *;clear hA1 HY hO2 hi hO;generalize c.a.toNat=i at *;have hl:=run_call_load (P:=Try.prog) Try.func41 zKR zKR zKR .i64 zKR hc;gi_wp2;intro Y;exact JL.back rfl Try.func15 (v:=.tuple #[.int .i64 x,.int .i64 0]) (fun w=>by kernel_rfl) hend
def st0:Code:=match Try.f9.body with | some (.seq c _)=>c | _=>.skip
def st1:Code:=match Try.f9.body with | some (.seq _ (.seq c _))=>c | _=>.skip
def st2:Code:=match Try.f9.body with | some (.seq _ (.seq _ c))=>c | _=>.skip
theorem mH:Try.f9.body=some (.seq st0 (.seq st1 st2)):=rfl
theorem YX:∀g∈[18,34],@Lets (Host.only 9) Try.prog g:=fun g hg=>by
 simp only[List.mem_cons,List.not_mem_nil,or_false]at hg;rcases hg with rfl|rfl
 . exact⟨by kernel_rfl,.inl ⟨_,_,Try.func18,by kernel_rfl,rfl,by kernel_rfl⟩⟩
 . exact⟨by kernel_rfl,.inr (.inl (H7 Try.func34 zKR rfl zKR (e:=Extern.Atomic.storeT) zKR (bI fun _=>trivial)))⟩
theorem Qq(I:GJ S EK m 33)(hm:FI m ct cb n){s:I.St}{c:EP}(hk:c.kind=2)(hA:I.At s σ W)(hS:I.Step s σ (.one c))(hL:I.Leaves cf fs)(hJ:∀s' σ' W' e,I.At s' σ' W'->I.On s W s' W'->I.End s' σ' (e,false)->(e.ok=false/\e.n=0/\e.m=0/\e.ints=[])->JW S.base (I.γ s') (G (cf.finish (.int .i64 e.err)) fs) W') :
  JW S.base (I.γ s) (G (Frame.enter Try.prog 9 #[.pointer (some ⟨ct,0,none⟩),I.wv,.int .i64 c.a,.int .i64 c.b] .normal) (cf :: fs)) W:=by
 have ht:#[.pointer (some ⟨ct,0,none⟩),I.wv,.int .i64 c.a,.int .i64 c.b]++Array.replicate (Try.f9.ntmps-(#[.pointer (some ⟨ct,0,none⟩),I.wv,.int .i64 c.a,.int .i64 c.b]:Array Value).size) undef=#[.pointer (some ⟨ct,0,none⟩),I.wv,.int .i64 c.a,.int .i64 c.b,undef,undef,undef,undef,undef,undef,undef,undef,undef,undef,undef,undef,undef,undef,undef,undef,undef,undef,undef,undef]:=by
  have:Try.f9.ntmps=24:=by kernel_rfl
  rw[this];walk_nrm
 rw[enter_at _ Try.func9 mH,ht];generalize hw:I.wv=wv;show JL S.L (I.γ s) _ W;refine EO ?_;simp only[st0,Try.f9];refine E9 fun _ hkk=>?_
 (refine ET ?_;walk_nrm)
 refine E5 ?_;cases hkk;refine EO ?_;simp only[st1,Try.f9];refine E9 fun _ hkk=>?_;iterate 3(refine ET ?_;walk_nrm)
 refine JL.enter rfl rfl nE rfl Try.func17 zKR zKR ?_;walk_nrm;rw[← hw];refine NC I hm hA hS (I.pop Try.func9 hL) fun s' σ' W' hA' hO hf hT=>?_;rw[Frame.finish_at];rw[hw];show JL S.L (I.γ s') _ W';have hlen:=(hm.get _ _ (I.inv hA')).1;cases hi:inn n c.a with
 | false=>
  rw[if_neg (by simp)];walk_nrm;iterate 5(refine ET ?_;walk_nrm)
  refine E5 ?_;cases hkk;refine Fp.Fz (S:=S) (b:=base 9) [18,34] YX zKR nE zKR fun EG ha=>?_;simp only[st2,Try.f9];obtain⟨hA1,HY⟩:=I.alike hA' ha;have hT':I.End s' σ' ({ err:=41 },false):=I.done (by have:=hT;simp only[EK]at this;rw[hlen,if_pos hi]at this;exact this);have hend:=hJ s' σ' EG _ hA1 (hO.trans HY) hT' ⟨rfl,rfl,rfl,rfl⟩;clear hT hT' hJ hA' hA hS hL;gi_wp2;intro Y;exact JL.back rfl Try.func9 (v:=.int .i64 41) (fun w=>by kernel_rfl) hend
 | true=>
  rw[if_pos rfl];walk_nrm;iterate 5(refine ET ?_;walk_nrm)
  refine E5 ?_;cases hkk;refine Fp.Fz (S:=S) (b:=base 9) [18,34] YX zKR nE zKR fun EG ha=>?_;simp only[st2,Try.f9];obtain⟨hA1,HY⟩:=I.alike hA' ha;have hO2:=hO.trans HY;have hi':c.a.toNat<n:=by simp[inn]at hi;omega
  have hc:=hm.cell (I.inv hA1) hi';have hz:=hm.frozen (I.inv hA1) c.a.toNat;rw[show EK.next I.num (.one c) σ'=((FW c σ').1,.inr ((FW c σ').2,false))by simp only[EK];rw[hlen,if_neg (by simp[hi])]]at hT;unfold FW at hT;simp only[hk]at hT;simp(config:={ decide:=true }) only[if_true,if_false]at hT;obtain⟨hA2,hO3⟩:=I.turn hA1 (hm.set _ _ _ c.b (I.inv hA1) hi') (fun b hb=>by simp[World.setCell,Array.getElem?_modify];intro h;exact absurd (h ▸ hm.sh) hb) (by simp[World.setCell]);have hend:=hJ s' _ _ _ hA2 (hO2.trans hO3) (I.done hT) ⟨rfl,rfl,rfl,rfl⟩;clear hT hJ hA' hA hS hL hlen;clear hA2 hO3;generalize hy:c.b=y at *;generalize σ'.getD c.a.toNat 0=x at *;clear hA1 HY hO2 hi hO;generalize c.a.toNat=i at *;have hl:=run_call_store (P:=Try.prog) Try.func34 zKR zKR zKR zKR (k:=.i64) (y:=y) hc hz;gi_wp2;intro Y
  exact JL.back rfl Try.func9 (v:=.int .i64 0) (fun w=>by kernel_rfl) hend
def ad0:Code:=match Try.f19.body with | some (.seq c _)=>c | _=>.skip
def ad1:Code:=match Try.f19.body with | some (.seq _ (.seq c _))=>c | _=>.skip
def ad2:Code:=match Try.f19.body with | some (.seq _ (.seq _ c))=>c | _=>.skip
theorem nX:Try.f19.body=some (.seq ad0 (.seq ad1 ad2)):=rfl
theorem YK:∀g∈[35,67],@Lets (Host.only 19) Try.prog g:=fun g hg=>by
 simp only[List.mem_cons,List.not_mem_nil,or_false]at hg;rcases hg with rfl|rfl
 . exact⟨by kernel_rfl,.inl ⟨_,_,Try.func35,by kernel_rfl,rfl,by kernel_rfl⟩⟩
 . exact⟨by kernel_rfl,.inr (.inl (H7 Try.func67 zKR rfl zKR (e:=Extern.Atomic.update (Op.intArith .add) .i64 true) zKR (uQ fun _=>trivial)))⟩
theorem Y5(I:GJ S EK m 33)(hm:FI m ct cb n){s:I.St}{c:EP}(hk:c.kind=3)(hA:I.At s σ W)(hS:I.Step s σ (.one c))(hL:I.Leaves cf fs)(hJ:∀s' σ' W' e,I.At s' σ' W'->I.On s W s' W'->I.End s' σ' (e,false)->(e.ok=false/\e.m=0/\e.ints=[])->JW S.base (I.γ s') (G (cf.finish (.tuple #[.int .i64 e.n,.int .i64 e.err])) fs) W') :
  JW S.base (I.γ s) (G (Frame.enter Try.prog 19 #[.pointer (some ⟨ct,0,none⟩),I.wv,.int .i64 c.a,.int .i64 c.b] .normal) (cf :: fs)) W:=by
 have ht:#[.pointer (some ⟨ct,0,none⟩),I.wv,.int .i64 c.a,.int .i64 c.b]++Array.replicate (Try.f19.ntmps-(#[.pointer (some ⟨ct,0,none⟩),I.wv,.int .i64 c.a,.int .i64 c.b]:Array Value).size) undef=#[.pointer (some ⟨ct,0,none⟩),I.wv,.int .i64 c.a,.int .i64 c.b,undef,undef,undef,undef,undef,undef,undef,undef,undef,undef,undef,undef,undef,undef,undef,undef,undef,undef,undef,undef,undef]:=by
  have:Try.f19.ntmps=25:=by kernel_rfl
  rw[this];walk_nrm
 rw[enter_at _ Try.func19 nX,ht];generalize hw:I.wv=wv;show JL S.L (I.γ s) _ W;refine EO ?_;simp only[ad0,Try.f19];refine E9 fun _ hkk=>?_;iterate 2(refine ET ?_;walk_nrm)
 refine E5 ?_;cases hkk;refine EO ?_;simp only[ad1,Try.f19];refine E9 fun _ hkk=>?_;iterate 3(refine ET ?_;walk_nrm)
 refine JL.enter rfl rfl nE rfl Try.func17 zKR zKR ?_;walk_nrm;rw[← hw];refine NC I hm hA hS (I.pop Try.func19 hL) fun s' σ' W' hA' hO hf hT=>?_;rw[Frame.finish_at];rw[hw];show JL S.L (I.γ s') _ W';have hlen:=(hm.get _ _ (I.inv hA')).1;cases hi:inn n c.a with
 | false=>
  rw[if_neg (by simp)];walk_nrm;iterate 5(refine ET ?_;walk_nrm)
  refine E5 ?_;cases hkk;refine Fp.Fz (S:=S) (b:=base 19) [35,67] YK zKR nE zKR fun EG ha=>?_;simp only[ad2,Try.f19];obtain⟨hA1,HY⟩:=I.alike hA' ha;have hT':I.End s' σ' ({ err:=41 },false):=I.done (by have:=hT;simp only[EK]at this;rw[hlen,if_pos hi]at this;exact this);have hend:=hJ s' σ' EG _ hA1 (hO.trans HY) hT' ⟨rfl,rfl,rfl⟩;clear hT hT' hJ hA' hA hS hL;gi_wp2;intro Y;exact JL.back rfl Try.func19 (v:=.tuple #[.int .i64 0,.int .i64 41]) (fun w=>by kernel_rfl) hend
 | true=>
  rw[if_pos rfl];walk_nrm;iterate 5(refine ET ?_;walk_nrm)
  refine E5 ?_;cases hkk;refine Fp.Fz (S:=S) (b:=base 19) [35,67] YK zKR nE zKR fun EG ha=>?_;simp only[ad2,Try.f19];obtain⟨hA1,HY⟩:=I.alike hA' ha;have hO2:=hO.trans HY;have hi':c.a.toNat<n:=by simp[inn]at hi;omega
  have hc:=hm.cell (I.inv hA1) hi';have hz:=hm.frozen (I.inv hA1) c.a.toNat;rw[show EK.next I.num (.one c) σ'=((FW c σ').1,.inr ((FW c σ').2,false))by simp only[EK];rw[hlen,if_neg (by simp[hi])]]at hT;unfold FW at hT;simp only[hk]at hT;simp(config:={ decide:=true }) only[if_true,if_false]at hT;obtain⟨hA2,hO3⟩:=I.turn hA1 (hm.set _ _ _ (RowKit.wrap64 (σ'.getD c.a.toNat 0+c.b)) (I.inv hA1) hi') (fun b hb=>by simp[World.setCell,Array.getElem?_modify];intro h;exact absurd (h ▸ hm.sh) hb) (by simp[World.setCell]);have hend:=hJ s' _ _ _ hA2 (hO2.trans hO3) (I.done hT) ⟨rfl,rfl,rfl⟩;clear hT hJ hA' hA hS hL hlen;clear hA2 hO3;generalize hy:(RowKit.wrap64 (σ'.getD c.a.toNat 0+c.b))=y at *;generalize σ'.getD c.a.toNat 0=x at *;clear hA1 HY hO2 hi hO;generalize c.a.toNat=i at *
  have hl:=run_call_add (P:=Try.prog) Try.func67 zKR zKR zKR .i64 zKR (y:=c.b) hc hz (s:=y) (by go_simp;rw[IntKind.wrap_i64];unfold RowKit.wrap64 at hy;exact hy);gi_wp2;intro Y;exact JL.back rfl Try.func19 (v:=.tuple #[.int .i64 y,.int .i64 0]) (fun w=>by kernel_rfl) hend
def sw0:Code:=match Try.f20.body with | some (.seq c _)=>c | _=>.skip
def sw1:Code:=match Try.f20.body with | some (.seq _ (.seq c _))=>c | _=>.skip
def sw2:Code:=match Try.f20.body with | some (.seq _ (.seq _ c))=>c | _=>.skip
theorem nJ:Try.f20.body=some (.seq sw0 (.seq sw1 sw2)):=rfl
theorem Yh:∀g∈[36,68],@Lets (Host.only 20) Try.prog g:=fun g hg=>by
 simp only[List.mem_cons,List.not_mem_nil,or_false]at hg;rcases hg with rfl|rfl
 . exact⟨by kernel_rfl,.inl ⟨_,_,Try.func36,by kernel_rfl,rfl,by kernel_rfl⟩⟩
 . exact⟨by kernel_rfl,.inr (.inl (H7 Try.func68 zKR rfl zKR (e:=Extern.Atomic.swapT (.int .i64)) zKR (lF fun _=>trivial)))⟩
theorem YM(I:GJ S EK m 33)(hm:FI m ct cb n){s:I.St}{c:EP}(hk:c.kind=4)(hA:I.At s σ W)(hS:I.Step s σ (.one c))(hL:I.Leaves cf fs)(hJ:∀s' σ' W' e,I.At s' σ' W'->I.On s W s' W'->I.End s' σ' (e,false)->(e.ok=false/\e.m=0/\e.ints=[])->JW S.base (I.γ s') (G (cf.finish (.tuple #[.int .i64 e.n,.int .i64 e.err])) fs) W') :
  JW S.base (I.γ s) (G (Frame.enter Try.prog 20 #[.pointer (some ⟨ct,0,none⟩),I.wv,.int .i64 c.a,.int .i64 c.b] .normal) (cf :: fs)) W:=by
 have ht:#[.pointer (some ⟨ct,0,none⟩),I.wv,.int .i64 c.a,.int .i64 c.b]++Array.replicate (Try.f20.ntmps-(#[.pointer (some ⟨ct,0,none⟩),I.wv,.int .i64 c.a,.int .i64 c.b]:Array Value).size) undef=#[.pointer (some ⟨ct,0,none⟩),I.wv,.int .i64 c.a,.int .i64 c.b,undef,undef,undef,undef,undef,undef,undef,undef,undef,undef,undef,undef,undef,undef,undef,undef,undef,undef,undef,undef,undef]:=by
  have:Try.f20.ntmps=25:=by kernel_rfl
  rw[this];walk_nrm
 rw[enter_at _ Try.func20 nJ,ht];generalize hw:I.wv=wv;show JL S.L (I.γ s) _ W;refine EO ?_;simp only[sw0,Try.f20];refine E9 fun _ hkk=>?_;iterate 2(refine ET ?_;walk_nrm)
 refine E5 ?_;cases hkk;refine EO ?_;simp only[sw1,Try.f20];refine E9 fun _ hkk=>?_;iterate 3(refine ET ?_;walk_nrm)
 refine JL.enter rfl rfl nE rfl Try.func17 zKR zKR ?_;walk_nrm;rw[← hw];refine NC I hm hA hS (I.pop Try.func20 hL) fun s' σ' W' hA' hO hf hT=>?_;rw[Frame.finish_at];rw[hw];show JL S.L (I.γ s') _ W';have hlen:=(hm.get _ _ (I.inv hA')).1;cases hi:inn n c.a with
 | false=>
  rw[if_neg (by simp)];walk_nrm;iterate 5(refine ET ?_;walk_nrm)
  refine E5 ?_;cases hkk;refine Fp.Fz (S:=S) (b:=base 20) [36,68] Yh zKR nE zKR fun EG ha=>?_;simp only[sw2,Try.f20];obtain⟨hA1,HY⟩:=I.alike hA' ha;have hT':I.End s' σ' ({ err:=41 },false):=I.done (by have:=hT;simp only[EK]at this;rw[hlen,if_pos hi]at this;exact this);have hend:=hJ s' σ' EG _ hA1 (hO.trans HY) hT' ⟨rfl,rfl,rfl⟩;clear hT hT' hJ hA' hA hS hL;gi_wp2;intro Y;exact JL.back rfl Try.func20 (v:=.tuple #[.int .i64 0,.int .i64 41]) (fun w=>by kernel_rfl) hend
 | true=>
  rw[if_pos rfl];walk_nrm;iterate 5(refine ET ?_;walk_nrm)
  refine E5 ?_;cases hkk;refine Fp.Fz (S:=S) (b:=base 20) [36,68] Yh zKR nE zKR fun EG ha=>?_;simp only[sw2,Try.f20];obtain⟨hA1,HY⟩:=I.alike hA' ha;have hO2:=hO.trans HY;have hi':c.a.toNat<n:=by simp[inn]at hi;omega
  have hc:=hm.cell (I.inv hA1) hi';have hz:=hm.frozen (I.inv hA1) c.a.toNat;rw[show EK.next I.num (.one c) σ'=((FW c σ').1,.inr ((FW c σ').2,false))by simp only[EK];rw[hlen,if_neg (by simp[hi])]]at hT;unfold FW at hT;simp only[hk]at hT;simp(config:={ decide:=true }) only[if_true,if_false]at hT;obtain⟨hA2,hO3⟩:=I.turn hA1 (hm.set _ _ _ c.b (I.inv hA1) hi') (fun b hb=>by simp[World.setCell,Array.getElem?_modify];intro h;exact absurd (h ▸ hm.sh) hb) (by simp[World.setCell]);have hend:=hJ s' _ _ _ hA2 (hO2.trans hO3) (I.done hT) ⟨rfl,rfl,rfl⟩;clear hT hJ hA' hA hS hL hlen;clear hA2 hO3;generalize hy:c.b=y at *;generalize σ'.getD c.a.toNat 0=x at *;clear hA1 HY hO2 hi hO;generalize c.a.toNat=i at *;have hl:=R9 (P:=Try.prog) Try.func68 zKR zKR zKR .i64 zKR (y:=y) hc hz;gi_wp2;intro Y
  exact JL.back rfl Try.func20 (v:=.tuple #[.int .i64 x,.int .i64 0]) (fun w=>by kernel_rfl) hend
def cs0:Code:=match Try.f21.body with | some (.seq c _)=>c | _=>.skip
def cs1:Code:=match Try.f21.body with | some (.seq _ (.seq c _))=>c | _=>.skip
def cs2:Code:=match Try.f21.body with | some (.seq _ (.seq _ c))=>c | _=>.skip
theorem nL:Try.f21.body=some (.seq cs0 (.seq cs1 cs2)):=rfl
theorem YJ:∀g∈[37,69],@Lets (Host.only 21) Try.prog g:=fun g hg=>by
 simp only[List.mem_cons,List.not_mem_nil,or_false]at hg;rcases hg with rfl|rfl
 . exact⟨by kernel_rfl,.inl ⟨_,_,Try.func37,by kernel_rfl,rfl,by kernel_rfl⟩⟩
 . exact⟨by kernel_rfl,.inr (.inl (H7 Try.func69 zKR rfl zKR (e:=Extern.Atomic.casT (.int .i64)) zKR (eG fun _=>trivial)))⟩
theorem YE(I:GJ S EK m 33)(hm:FI m ct cb n){s:I.St}{c:EP}(hk:c.kind=5)(hA:I.At s σ W)(hS:I.Step s σ (.one c))(hL:I.Leaves cf fs)(hJ:∀s' σ' W' e,I.At s' σ' W'->I.On s W s' W'->I.End s' σ' (e,false)->(e.n=0/\e.m=0/\e.ints=[])->JW S.base (I.γ s') (G (cf.finish (.tuple #[.bool e.ok,.int .i64 e.err])) fs) W') :
  JW S.base (I.γ s) (G (Frame.enter Try.prog 21 #[.pointer (some ⟨ct,0,none⟩),I.wv,.int .i64 c.a,.int .i64 c.b,.int .i64 c.c] .normal) (cf :: fs)) W:=by
 have ht:#[.pointer (some ⟨ct,0,none⟩),I.wv,.int .i64 c.a,.int .i64 c.b,.int .i64 c.c]++Array.replicate (Try.f21.ntmps-(#[.pointer (some ⟨ct,0,none⟩),I.wv,.int .i64 c.a,.int .i64 c.b,.int .i64 c.c]:Array Value).size) undef=#[.pointer (some ⟨ct,0,none⟩),I.wv,.int .i64 c.a,.int .i64 c.b,.int .i64 c.c,undef,undef,undef,undef,undef,undef,undef,undef,undef,undef,undef,undef,undef,undef,undef,undef,undef,undef,undef,undef,undef,undef,undef]:=by
  have:Try.f21.ntmps=28:=by kernel_rfl
  rw[this];walk_nrm
 rw[enter_at _ Try.func21 nL,ht];generalize hw:I.wv=wv;show JL S.L (I.γ s) _ W;refine EO ?_;simp only[cs0,Try.f21];refine E9 fun _ hkk=>?_;iterate 2(refine ET ?_;walk_nrm)
 refine E5 ?_;cases hkk;refine EO ?_;simp only[cs1,Try.f21];refine E9 fun _ hkk=>?_;iterate 3(refine ET ?_;walk_nrm)
 refine JL.enter rfl rfl nE rfl Try.func17 zKR zKR ?_;walk_nrm;rw[← hw];refine NC I hm hA hS (I.pop Try.func21 hL) fun s' σ' W' hA' hO hf hT=>?_;rw[Frame.finish_at];rw[hw];show JL S.L (I.γ s') _ W';have hlen:=(hm.get _ _ (I.inv hA')).1;cases hi:inn n c.a with
 | false=>
  rw[if_neg (by simp)];walk_nrm;iterate 5(refine ET ?_;walk_nrm)
  refine E5 ?_;cases hkk;refine Fp.Fz (S:=S) (b:=base 21) [37,69] YJ zKR nE zKR fun EG ha=>?_;simp only[cs2,Try.f21];obtain⟨hA1,HY⟩:=I.alike hA' ha;have hT':I.End s' σ' ({ err:=41 },false):=I.done (by have:=hT;simp only[EK]at this;rw[hlen,if_pos hi]at this;exact this);have hend:=hJ s' σ' EG _ hA1 (hO.trans HY) hT' ⟨rfl,rfl,rfl⟩;clear hT hT' hJ hA' hA hS hL;gi_wp2;intro Y;exact JL.back rfl Try.func21 (v:=.tuple #[.bool false,.int .i64 41]) (fun w=>by kernel_rfl) hend
 | true=>
  rw[if_pos rfl];walk_nrm;iterate 5(refine ET ?_;walk_nrm)
  refine E5 ?_;cases hkk;refine Fp.Fz (S:=S) (b:=base 21) [37,69] YJ zKR nE zKR fun EG ha=>?_;simp only[cs2,Try.f21];obtain⟨hA1,HY⟩:=I.alike hA' ha;have hO2:=hO.trans HY;have hi':c.a.toNat<n:=by simp[inn]at hi;omega
  have hc:=hm.cell (I.inv hA1) hi';have hz:=hm.frozen (I.inv hA1) c.a.toNat;rw[show EK.next I.num (.one c) σ'=((FW c σ').1,.inr ((FW c σ').2,false))by simp only[EK];rw[hlen,if_neg (by simp[hi])]]at hT;unfold FW at hT;simp only[hk]at hT;simp(config:={ decide:=true }) only[if_false]at hT;by_cases hx:σ'.getD c.a.toNat 0=c.b
  . rw[if_pos hx]at hT;obtain⟨hA2,hO3⟩:=I.turn hA1 (hm.set _ _ _ c.c (I.inv hA1) hi') (fun b hb=>by simp[World.setCell,Array.getElem?_modify];intro h;exact absurd (h ▸ hm.sh) hb) (by simp[World.setCell]);have hend:=hJ s' _ _ _ hA2 (hO2.trans hO3) (I.done hT) ⟨rfl,rfl,rfl⟩;clear hT hJ hA' hA hS hL hlen hA2 hO3;rw[hx]at hc;clear hx hA1 HY hO2 hi hO;generalize c.a.toNat=i at *;generalize c.b=x at *;generalize c.c=y at *;have hl:=run_call_cas_hit (P:=Try.prog) Try.func69 zKR zKR zKR .i64 zKR (y:=y) hc hz;gi_wp2;intro Y;exact JL.back rfl Try.func21 (v:=.tuple #[.bool true,.int .i64 0]) (fun w=>by kernel_rfl) hend
  . rw[if_neg hx]at hT;have hend:=hJ s' _ _ _ hA1 hO2 (I.done hT) ⟨rfl,rfl,rfl⟩;clear hT hJ hA' hA hS hL hlen hA1 HY hO2 hi hO;generalize σ'.getD c.a.toNat 0=x at *;generalize c.a.toNat=i at *;generalize c.b=o at *;generalize c.c=y at *;have hl:=run_call_cas_miss (P:=Try.prog) Try.func69 zKR zKR zKR .i64 zKR (y:=y) hc hz hx;clear hx;gi_wp2;intro Y;exact JL.back rfl Try.func21 (v:=.tuple #[.bool false,.int .i64 0]) (fun w=>by kernel_rfl) hend
end
end
section
def tw0:Code:=match Try.f38.body with | some (.seq c _)=>c | _=>.skip
def rO:Code:=match Try.f38.body with | some (.seq _ (.block _ (.loop c)))=>c | _=>.skip
theorem ou:Try.f38.body=some (.seq tw0 (.block 0 (.loop rO))):=rfl
section
variable {main:Bool}{Γ:Type}{S:Fp Try.prog main Γ}{m:Mem (List Int)}{cb ct n:Nat}{cf:Frame}{fs:List Frame}{W:World}{σ:List Int}{cs:Fw}
theorem Zn{γ:Γ}{x v:Int}{N:Nat}(hc:W.cell? ⟨N,0,none⟩=some (.int .i64 v))(hJ:JL S.L γ (G (cf.finish (.bool (decide (v<=x)))) fs) W) :
  JL S.L γ (G (Frame.enter Try.prog 39 #[.int .i64 x,.pointer (some ⟨N,0,none⟩)] .normal) (cf :: fs)) W:=by
 have ht:#[.int .i64 x,.pointer (some ⟨N,0,none⟩)]++Array.replicate (Try.f39.ntmps-(#[.int .i64 x,.pointer (some ⟨N,0,none⟩)]:Array Value).size) undef=#[.int .i64 x,.pointer (some ⟨N,0,none⟩),undef,undef,undef,undef,undef]:=by
  have:Try.f39.ntmps=7:=by kernel_rfl
  rw[this];walk_nrm
 rw[enter_at (c:=(Try.f39.body).get rfl) _ Try.func39 rfl,ht];refine Fp.Fz (S:=S) (b:=base 39) [] (by simp) zKR nE zKR fun EG ha=>?_;have hc1:EG.cell? ⟨N,0,none⟩=some (.int .i64 v):=by obtain⟨τ,d,rfl⟩:=ha;exact hc
 have hend:=JW.tape (S:=S.base) hJ ha;clear hJ hc;simp only[Try.f39,Option.get_some];gi_wp2;intro Y;exact JL.back rfl Try.func39 (v:=.bool (decide (v<=x))) (fun w=>by kernel_rfl) hend
theorem X0{γ:Γ}{x v:Int}{N:Nat}(hc:W.cell? ⟨N,0,none⟩=some (.int .i64 v))(hJ:JL S.L γ (G (cf.finish (.bool (decide (x<=v)))) fs) W) :
  JL S.L γ (G (Frame.enter Try.prog 40 #[.int .i64 x,.pointer (some ⟨N,0,none⟩)] .normal) (cf :: fs)) W:=by
 have ht:#[.int .i64 x,.pointer (some ⟨N,0,none⟩)]++Array.replicate (Try.f40.ntmps-(#[.int .i64 x,.pointer (some ⟨N,0,none⟩)]:Array Value).size) undef=#[.int .i64 x,.pointer (some ⟨N,0,none⟩),undef,undef,undef,undef,undef]:=by
  have:Try.f40.ntmps=7:=by kernel_rfl
  rw[this];walk_nrm
 rw[enter_at (c:=(Try.f40.body).get rfl) _ Try.func40 rfl,ht];refine Fp.Fz (S:=S) (b:=base 40) [] (by simp) zKR nE zKR fun EG ha=>?_;have hc1:EG.cell? ⟨N,0,none⟩=some (.int .i64 v):=by obtain⟨τ,d,rfl⟩:=ha;exact hc
 have hend:=JW.tape (S:=S.base) hJ ha;clear hJ hc;simp only[Try.f40,Option.get_some];gi_wp2;intro Y;exact JL.back rfl Try.func40 (v:=.bool (decide (x<=v))) (fun w=>by kernel_rfl) hend
theorem jM:∀g∈[25,41],@Lets (Host.only 38) Try.prog g:=fun g hg=>by
 simp only[List.mem_cons,List.not_mem_nil,or_false]at hg;rcases hg with rfl|rfl
 . exact⟨by kernel_rfl,.inl ⟨_,_,Try.func25,by kernel_rfl,rfl,by kernel_rfl⟩⟩
 . exact⟨by kernel_rfl,.inr (.inl (H7 Try.func41 zKR rfl zKR (e:=Extern.Atomic.loadT (.int .i64)) zKR (Ul fun _=>trivial)))⟩
theorem nS:∀g∈[37,69],@Lets (Host.only 38) Try.prog g:=fun g hg=>by
 simp only[List.mem_cons,List.not_mem_nil,or_false]at hg;rcases hg with rfl|rfl
 . exact⟨by kernel_rfl,.inl ⟨_,_,Try.func37,by kernel_rfl,rfl,by kernel_rfl⟩⟩
 . exact⟨by kernel_rfl,.inr (.inl (H7 Try.func69 zKR rfl zKR (e:=Extern.Atomic.casT (.int .i64)) zKR (eG fun _=>trivial)))⟩
def Yj(S : Fp Try.prog main Γ)(most : Bool)(bf : FuncId)(v : Int)(N : Nat) : Prop := (∃fn, Try.prog.funcs[bf]? = some fn/\(fn.name == "runtime.NumGoroutine") = false/\fn.body.isNone = false) /\
 ∀(γ:Γ) (x:Int) (cf:Frame) (fs:List Frame) (W:World),W.cell? ⟨N,0,none⟩=some (.int .i64 v)->JL S.L γ (G (cf.finish (.bool (MF most x v))) fs) W->JL S.L γ (G (Frame.enter Try.prog bf #[.int .i64 x,.pointer (some ⟨N,0,none⟩)] .normal) (cf :: fs)) W
theorem iG(I:GJ S EK m 33)(hm:FI m ct cb n){most:Bool}{i v:Int}{bf:FuncId}{N:Nat}(hB:Yj S most bf v N){s₀:I.St}{aA:World}(hN:I.kept s₀ N)(hNv:aA.cell? ⟨N,0,none⟩=some (.int .i64 v))(hL:I.Leaves cf fs)(hJ:∀s' σ' W' e,I.At s' σ' W'->I.On s₀ aA s' W'->I.End s' σ' (e,false)->(e.ok=false/\e.m=0/\e.ints=[])->JW S.base (I.γ s') (G (cf.finish (.tuple #[.int .i64 e.n,.int .i64 e.err])) fs) W') :
  ∀(f:Nat) (s:I.St) (σ:List Int) (W:World),I.fuel s=f->I.At s σ W->I.On s₀ aA s W->I.Step s σ (.look most i v)->∀wv,I.wv=wv->∀Aa Ab Ac Ae Af Ah Ai Aj Ak Al Am Ao Ap Ar Au Av Aw Ay Az AA AB AJ AL AO AP AQ AU AV:Value,
    JL S.L (I.γ s) (G ((base 38).at ⟨#[.pointer (some ⟨ct,0,none⟩),wv,.int .i64 i,.int .i64 v,.func (.func bf) #[] #[.pointer (some ⟨N,0,none⟩)],undef,undef,undef,undef,undef,Aa,Ab,Ac,Ae,Af,Ah,Ai,Aj,Ak,Al,Am,Ao,Ap,Ar,Au,Av,Aw,Ay,Az,AA,AB,AJ,AL,AO,AP,AQ,AU,AV],[]⟩ [.code rO,.inLoop rO,.inBlock 0]) (cf :: fs)) W:=by
 intro f;induction f using Nat.strongRecOn with
 | _ f ih=>
 intro s σ W hfu hA hO hS wv hw Aa Ab Ac Ae Af Ah Ai Aj Ak Al Am Ao Ap Ar Au Av Aw Ay Az AA AB AJ AL AO AP AQ AU AV;have hbl:∃c,rO=.block 1 c/\c=(match rO with | .block _ c=>c | _=>.skip):=⟨_,rfl,rfl⟩
 obtain⟨c0,hc0,hc1⟩:=hbl;dsimp only;generalize hlp:[Item.inLoop rO,.inBlock 0]=lp;rw[hc0];refine EU stepG_block ?_;rw[hc1];simp only[rO,Try.f38];refine EO ?_;refine E9 fun _ hkk=>?_;iterate 3(refine ET ?_;walk_nrm)
 refine JL.enter rfl rfl nE rfl Try.func17 zKR zKR ?_;walk_nrm;rw[← hw];refine NC I hm hA hS (I.pop Try.func38 hL) fun s' σ' W' hA' hO' hf hT=>?_;rw[Frame.finish_at];rw[hw];show JL S.L (I.γ s') _ W';have hlen:=(hm.get _ _ (I.inv hA')).1;have hO0:=hO.trans hO';cases hi:inn n i with
 | false=>
  rw[if_neg (by simp)];walk_nrm;iterate 5(refine ET ?_;walk_nrm)
  refine E5 ?_;cases hkk;have hT':I.End s' σ' ({ err:=41 },false):=I.done (by have:=hT;simp only[EK]at this;rw[hlen,if_pos hi]at this;exact this);have hend:=hJ s' σ' W' _ hA' hO0 hT' ⟨rfl,rfl,rfl⟩;clear hT hT' hJ ih hS;refine EO ?_;refine EO ?_;refine E9 fun _ hkk=>?_;iterate 2(refine ET ?_;walk_nrm)
  refine E5 ?_;cases hkk;refine JL.F3 rfl ?_;refine EO ?_;refine E9 fun _ hkk=>?_;iterate 3(refine ET ?_;walk_nrm)
  refine E5 ?_;cases hkk;refine EU stepG_ret' ?_;exact JL.back rfl Try.func38 (v:=.tuple #[.int .i64 0,.int .i64 41]) (fun w=>by kernel_rfl) hend
 | true=>
  rw[if_pos rfl];walk_nrm;iterate 5(refine ET ?_;walk_nrm)
  refine E5 ?_;cases hkk;refine EO ?_;refine EO ?_;refine E9 fun _ hkk=>?_;iterate 2(refine ET ?_;walk_nrm)
  refine E5 ?_;cases hkk;refine JL.EX rfl ?_;refine EU stepG_skip ?_;refine EO ?_;have hi':i.toNat<n:=by simp[inn]at hi;omega
  refine Fp.Fz (S:=S) (b:=base 38) [25,41] jM zKR nE zKR fun EG ha=>?_;obtain⟨hA1,HY⟩:=I.alike hA' ha;have hO2:=hO0.trans HY;have hc:=hm.cell (I.inv hA1) hi';rw[show EK.next I.num (.look most i v) σ'=if MF most (σ'.getD i.toNat 0) v then(σ',.inr ({ n:=σ'.getD i.toNat 0 },false))else(σ',.inl (.cas most i v (σ'.getD i.toNat 0)))by simp only[EK];rw[hlen,if_neg (by simp[hi])]]at hT;generalize σ'.getD i.toNat 0=x at *;have hl:=run_call_load (P:=Try.prog) Try.func41 zKR zKR zKR .i64 zKR hc;have hk1:=hO2.kept N hN;have Agb:EG.cell? ⟨N,0,none⟩=some (.int .i64 v):=by rw[cell_of (a:=⟨N,0,none⟩) hk1.2];exact hNv
  have HH:=Lib.hid (zAI hJ (zAI ih (zAI hT hB)));clear hJ ih hS hT hB;gi_wp2;obtain⟨hJ,ih,hT,hB⟩:=HH.out;clear HH;show JL S.L (I.γ s') _ EG;refine EO ?_;refine EO ?_;refine E9 fun _ hkk=>?_;iterate 2(refine ET ?_;walk_nrm)
  obtain⟨⟨bfn,b1,b2,b3⟩,hB'⟩:=hB;refine JL.cu rfl rfl nE rfl rfl b1 b2 b3 ?_;walk_nrm;refine hB' _ _ _ _ _ Agb ?_;rw[Frame.finish_at];walk_nrm;refine E5 ?_;cases hkk;by_cases YZ:MF most x v=true
  . rw[if_pos YZ]at hT;refine JL.F3 (by simp[Act.eval,YZ]) ?_;have hend:=hJ s' σ' EG _ hA1 hO2 (I.done hT) ⟨rfl,rfl,rfl⟩;clear hT hJ ih;refine EO ?_;refine E9 fun _ hkk=>?_;iterate 3(refine ET ?_;walk_nrm)
    refine E5 ?_;cases hkk;refine EU stepG_ret' ?_;exact JL.back rfl Try.func38 (v:=.tuple #[.int .i64 x,.int .i64 0]) (fun w=>by kernel_rfl) hend
  . rw[if_neg YZ]at hT;refine JL.EX (by simp[Act.eval,YZ]) ?_;refine EU stepG_skip ?_;refine EO ?_;refine E9 fun _ hkk=>?_
    (refine ET ?_;walk_nrm)
    refine JL.enter rfl rfl nE rfl Try.func33 zKR zKR ?_;walk_nrm;rw[← hw];refine I.line hA1 (I.more hT) (I.pop Try.func38 hL) fun s'' RY W'' hA2 hO3 hf2 _ fT=>?_;rw[Frame.finish_at];rw[hw];show JL S.L (I.γ s'') _ W'';walk_nrm;refine E5 ?_;cases hkk;refine EO ?_;have hO4:=hO2.trans hO3;have Aap:=(hm.get _ _ (I.inv hA2)).1;rw[show EK.next I.num (.cas most i v x) RY=if RY.getD i.toNat 0=x then(RY.set i.toNat v,.inr ({ n:=v },false))else(RY,.inl (.look most i v))from rfl]at fT;refine Fp.Fz (S:=S) (b:=base 38) [37,69] nS zKR nE zKR fun Fh Lm=>?_;obtain⟨hA3,UW⟩:=I.alike hA2 Lm;have vE:=hO4.trans UW;have hc3:=hm.cell (I.inv hA3) hi';have hz3:=hm.frozen (I.inv hA3) i.toNat;by_cases hx:RY.getD i.toNat 0=x
    . rw[if_pos hx]at fT;rw[hx]at hc3;obtain⟨QL,xu⟩:=I.turn hA3 (hm.set _ _ _ v (I.inv hA3) hi') (fun b hb=>by simp[World.setCell,Array.getElem?_modify];intro h;exact absurd (h ▸ hm.sh) hb) (by simp[World.setCell]);have hend:=hJ s'' _ _ _ QL (vE.trans xu) (I.done fT) ⟨rfl,rfl,rfl⟩;have HH:=Lib.hid hend;clear hJ ih fT hT hend QL xu hB';have hl:=run_call_cas_hit (P:=Try.prog) Try.func69 zKR zKR zKR .i64 zKR (y:=v) hc3 hz3;gi_wp2;show JL S.L (I.γ s'') _ _;refine JL.F3 rfl ?_;refine EO ?_;refine E9 fun _ hkk=>?_;iterate 3(refine ET ?_;walk_nrm)
      refine E5 ?_;cases hkk;refine EU stepG_ret' ?_;exact JL.back rfl Try.func38 (v:=.tuple #[.int .i64 v,.int .i64 0]) (fun w=>by kernel_rfl) HH.out
    . rw[if_neg hx]at fT;have HH:=Lib.hid (zAI ih (zAI fT hx));have hl:=run_call_cas_miss (P:=Try.prog) Try.func69 zKR zKR zKR .i64 zKR (y:=v) hc3 hz3 hx;clear hJ ih fT hT hB' hx;gi_wp2;obtain⟨ih,fT,hx⟩:=HH.out;clear HH;show JL S.L (I.γ s'') _ _;refine JL.EX rfl ?_;refine EU stepG_skip ?_;refine EU stepG_inBlock ?_;rw[← hlp];refine EU stepG_inLoop ?_;exact ih (I.fuel s'') zOM s'' RY Fh rfl hA3 vE (I.more fT) wv hw _ _ _ _ _ _ _ _ _ _ _ _ _ _ _ _ _ _ _ _ _ _ _ _ _ _ _ _
end
end
end Go.Proofs.Ytdkfdedgfilhbaa
namespace Go.Proofs.Ytdkfdedgfilhbaa
open Go Go.Conc Go.LT Go.LC Go.LK Go.RowKit
section
section
variable {main:Bool}{Γ:Type}{S:Fp Try.prog main Γ}{m:Mem (List Int)}{cb ct n:Nat}{cf:Frame}{fs:List Frame}{W:World}{σ:List Int}
theorem PL(w:World)(v:Value)(t:TypeId):(w.alloc (.cells #[v] t)).cell? ⟨w.heap.size,0,none⟩=some v:=by unfold World.cell?;rw[show(w.alloc (.cells #[v] t)).heap[(⟨w.heap.size,0,none⟩:Addr).block]?=some (.cells #[v] t)from heap_alloc_new _ _];rfl
theorem XK{v:Int}{N:Nat}:Yj S true 39 v N:=⟨⟨_,Try.func39,by kernel_rfl,by kernel_rfl⟩,fun γ x cf fs W hc h=>Zn hc h⟩
theorem Vg{v:Int}{N:Nat}:Yj S false 40 v N:=⟨⟨_,Try.func40,by kernel_rfl,by kernel_rfl⟩,fun γ x cf fs W hc h=>X0 hc h⟩
theorem Vz(I:GJ S EK m 33)(hm:FI m ct cb n){most:Bool}{i v:Int}{bf:FuncId}{N:Nat}(hB:Yj S most bf v N){s:I.St}(hN:I.kept s N)(hNv:W.cell? ⟨N,0,none⟩=some (.int .i64 v))(hA:I.At s σ W)(hS:I.Step s σ (.look most i v))(hL:I.Leaves cf fs)(hJ:∀s' σ' W' e,I.At s' σ' W'->I.On s W s' W'->I.End s' σ' (e,false)->(e.ok=false/\e.m=0/\e.ints=[])->JW S.base (I.γ s') (G (cf.finish (.tuple #[.int .i64 e.n,.int .i64 e.err])) fs) W') :
  JW S.base (I.γ s) (G (Frame.enter Try.prog 38 #[.pointer (some ⟨ct,0,none⟩),I.wv,.int .i64 i,.int .i64 v,.func (.func bf) #[] #[.pointer (some ⟨N,0,none⟩)]] .normal) (cf :: fs)) W:=by
 have ht:#[.pointer (some ⟨ct,0,none⟩),I.wv,.int .i64 i,.int .i64 v,.func (.func bf) #[] #[.pointer (some ⟨N,0,none⟩)]]++Array.replicate (Try.f38.ntmps-(#[.pointer (some ⟨ct,0,none⟩),I.wv,.int .i64 i,.int .i64 v,.func (.func bf) #[] #[.pointer (some ⟨N,0,none⟩)]]:Array Value).size) undef=#[.pointer (some ⟨ct,0,none⟩),I.wv,.int .i64 i,.int .i64 v,.func (.func bf) #[] #[.pointer (some ⟨N,0,none⟩)],undef,undef,undef,undef,undef,undef,undef,undef,undef,undef,undef,undef,undef,undef,undef,undef,undef,undef,undef,undef,undef,undef,undef,undef,undef,undef,undef,undef,undef,undef,undef,undef,undef]:=by
  have:Try.f38.ntmps=38:=by kernel_rfl
  rw[this];walk_nrm
 rw[enter_at _ Try.func38 ou,ht];generalize hw:I.wv=wv;show JL S.L (I.γ s) _ W;dsimp only;refine EO ?_;simp only[tw0,Try.f38];refine E9 fun _ hkk=>?_;iterate 2(refine ET ?_;walk_nrm)
 refine E5 ?_;cases hkk;refine EU stepG_block ?_;refine EU stepG_loop ?_;exact iG I hm hB hN hNv hL hJ _ s σ W rfl hA (GJ.On.refl I s W) hS wv hw _ _ _ _ _ _ _ _ _ _ _ _ _ _ _ _ _ _ _ _ _ _ _ _ _ _ _ _
def mo0:Code:=match Try.f22.body with | some (.seq c _)=>c | _=>.skip
def mo1:Code:=match Try.f22.body with | some (.seq _ c)=>c | _=>.skip
theorem lQ:Try.f22.body=some (.seq mo0 mo1):=rfl
theorem YO(I:GJ S EK m 33)(hm:FI m ct cb n){s:I.St}{i v:Int}(hA:I.At s σ W)(hS:I.Step s σ (.look true i v))(hL:I.Leaves cf fs)(hJ:∀s' σ' W' e,I.At s' σ' W'->I.On s W s' W'->I.End s' σ' (e,false)->(e.ok=false/\e.m=0/\e.ints=[])->JW S.base (I.γ s') (G (cf.finish (.tuple #[.int .i64 e.n,.int .i64 e.err])) fs) W') :
  JW S.base (I.γ s) (G (Frame.enter Try.prog 22 #[.pointer (some ⟨ct,0,none⟩),I.wv,.int .i64 i,.int .i64 v] .normal) (cf :: fs)) W:=by
 have ht:#[.pointer (some ⟨ct,0,none⟩),I.wv,.int .i64 i,.int .i64 v]++Array.replicate (Try.f22.ntmps-(#[.pointer (some ⟨ct,0,none⟩),I.wv,.int .i64 i,.int .i64 v]:Array Value).size) undef=#[.pointer (some ⟨ct,0,none⟩),I.wv,.int .i64 i,.int .i64 v,undef,undef,undef,undef,undef,undef,undef,undef,undef,undef,undef,undef,undef,undef]:=by
  have:Try.f22.ntmps=18:=by kernel_rfl
  rw[this];walk_nrm
 rw[enter_at _ Try.func22 lQ,ht];generalize hw:I.wv=wv;show JL S.L (I.γ s) _ W;refine EO ?_;refine Fp.Fz (S:=S) (b:=base 22) [] (by simp) zKR nE zKR fun EG ha=>?_;obtain⟨hA1,HY⟩:=I.alike hA ha;have HH:=Lib.hid (zAI hJ (zAI hS (zAI hA1 HY)));clear hJ hS hA hA1 HY;simp only[mo0,Try.f22];gi_wp2;obtain⟨hJ,hS,hA1,HY⟩:=HH.out;clear HH;obtain⟨s',hA2,hO2,e1,e2,e3,_,e4,_⟩:=I.lay (W':=EG.alloc (.cells #[.int .i64 v] 3)) (N:=EG.heap.size) hA1 rfl ⟨_,_,_,heap_alloc_new _ _⟩ (fun b hb=>Below.heap_alloc _ _ _ hb) (by simp);have hS2:=e4 _ hS;have hO3:=HY.trans hO2;have hN:I.kept s' EG.heap.size:=(e3 _).2 (.inr rfl);have hc:(EG.alloc (.cells #[.int .i64 v] 3)).cell? ⟨EG.heap.size,0,none⟩=some (.int .i64 v):=PL _ _ _;rw[← e1];generalize EG.alloc (.cells #[.int .i64 v] 3)=W2 at *;generalize EG.heap.size=N at *
 show JL S.L (I.γ s') _ W2;simp only[mo1,Try.f22];refine EO ?_;refine E9 fun _ hkk=>?_;iterate 3(refine ET ?_;walk_nrm)
 refine Fp.read (S:=S) (.int .i64 v) rfl rfl nE hc (fun w h=>by go_simp) (fun w h e he=>by simp[go_sem,h]at he;exact he) ?_;walk_nrm;refine JL.Jc (.func (.func 39) #[] #[.pointer (some ⟨N,0,none⟩)]) rfl rfl nE (fun _=>by kernel_rfl) ?_;walk_nrm;refine JL.enter rfl rfl nE rfl Try.func38 zKR zKR ?_;walk_nrm;rw[← hw];refine Vz I hm XK hN hc hA2 hS2 (I.pop Try.func22 hL) fun s'' RY W'' e hA3 hO4 hE he=>?_;rw[Frame.finish_at];have hend:=hJ s'' RY W'' e hA3 (hO3.trans hO4) hE he;obtain⟨O6,en,em,Im,MH⟩:=e;simp only at hend;rw[hw];show JL S.L (I.γ s'') _ W'';walk_nrm;iterate 4(refine ET ?_;walk_nrm)
 refine E5 ?_;cases hkk;refine EU stepG_ret' ?_;exact JL.back rfl Try.func22 (v:=.tuple #[.int .i64 en,.int .i64 Im]) (fun w=>by kernel_rfl) hend
def le0:Code:=match Try.f23.body with | some (.seq c _)=>c | _=>.skip
def le1:Code:=match Try.f23.body with | some (.seq _ c)=>c | _=>.skip
theorem kC:Try.f23.body=some (.seq le0 le1):=rfl
theorem Yt(I:GJ S EK m 33)(hm:FI m ct cb n){s:I.St}{i v:Int}(hA:I.At s σ W)(hS:I.Step s σ (.look false i v))(hL:I.Leaves cf fs)(hJ:∀s' σ' W' e,I.At s' σ' W'->I.On s W s' W'->I.End s' σ' (e,false)->(e.ok=false/\e.m=0/\e.ints=[])->JW S.base (I.γ s') (G (cf.finish (.tuple #[.int .i64 e.n,.int .i64 e.err])) fs) W') :
  JW S.base (I.γ s) (G (Frame.enter Try.prog 23 #[.pointer (some ⟨ct,0,none⟩),I.wv,.int .i64 i,.int .i64 v] .normal) (cf :: fs)) W:=by
 have ht:#[.pointer (some ⟨ct,0,none⟩),I.wv,.int .i64 i,.int .i64 v]++Array.replicate (Try.f23.ntmps-(#[.pointer (some ⟨ct,0,none⟩),I.wv,.int .i64 i,.int .i64 v]:Array Value).size) undef=#[.pointer (some ⟨ct,0,none⟩),I.wv,.int .i64 i,.int .i64 v,undef,undef,undef,undef,undef,undef,undef,undef,undef,undef,undef,undef,undef,undef]:=by
  have:Try.f23.ntmps=18:=by kernel_rfl
  rw[this];walk_nrm
 rw[enter_at _ Try.func23 kC,ht];generalize hw:I.wv=wv;show JL S.L (I.γ s) _ W;refine EO ?_;refine Fp.Fz (S:=S) (b:=base 23) [] (by simp) zKR nE zKR fun EG ha=>?_;obtain⟨hA1,HY⟩:=I.alike hA ha;have HH:=Lib.hid (zAI hJ (zAI hS (zAI hA1 HY)));clear hJ hS hA hA1 HY;simp only[le0,Try.f23];gi_wp2;obtain⟨hJ,hS,hA1,HY⟩:=HH.out;clear HH;obtain⟨s',hA2,hO2,e1,e2,e3,_,e4,_⟩:=I.lay (W':=EG.alloc (.cells #[.int .i64 v] 3)) (N:=EG.heap.size) hA1 rfl ⟨_,_,_,heap_alloc_new _ _⟩ (fun b hb=>Below.heap_alloc _ _ _ hb) (by simp);have hS2:=e4 _ hS;have hO3:=HY.trans hO2;have hN:I.kept s' EG.heap.size:=(e3 _).2 (.inr rfl);have hc:(EG.alloc (.cells #[.int .i64 v] 3)).cell? ⟨EG.heap.size,0,none⟩=some (.int .i64 v):=PL _ _ _;rw[← e1];generalize EG.alloc (.cells #[.int .i64 v] 3)=W2 at *;generalize EG.heap.size=N at *
 show JL S.L (I.γ s') _ W2;simp only[le1,Try.f23];refine EO ?_;refine E9 fun _ hkk=>?_;iterate 3(refine ET ?_;walk_nrm)
 refine Fp.read (S:=S) (.int .i64 v) rfl rfl nE hc (fun w h=>by go_simp) (fun w h e he=>by simp[go_sem,h]at he;exact he) ?_;walk_nrm;refine JL.Jc (.func (.func 40) #[] #[.pointer (some ⟨N,0,none⟩)]) rfl rfl nE (fun _=>by kernel_rfl) ?_;walk_nrm;refine JL.enter rfl rfl nE rfl Try.func38 zKR zKR ?_;walk_nrm;rw[← hw];refine Vz I hm Vg hN hc hA2 hS2 (I.pop Try.func23 hL) fun s'' RY W'' e hA3 hO4 hE he=>?_;rw[Frame.finish_at];have hend:=hJ s'' RY W'' e hA3 (hO3.trans hO4) hE he;obtain⟨O6,en,em,Im,MH⟩:=e;simp only at hend;rw[hw];show JL S.L (I.γ s'') _ W'';walk_nrm;iterate 4(refine ET ?_;walk_nrm)
 refine E5 ?_;cases hkk;refine EU stepG_ret' ?_;exact JL.back rfl Try.func23 (v:=.tuple #[.int .i64 en,.int .i64 Im]) (fun w=>by kernel_rfl) hend
end
end
end Go.Proofs.Ytdkfdedgfilhbaa
namespace Go.Proofs.Ytdkfdedgfilhbaa
open Go Go.Conc Go.LT Go.LC Go.LK
section
theorem Lp{n:Nat}(h:n<2 ^ 62):RowKit.wrap64 ((n:Int)+1)=((n+1:Nat):Int):=by unfold RowKit.wrap64;omega
def FZ(a:Gg)(iv:Value):List Value:=[.int .i64 a.bg,.int .i64 a.st,.int .i64 a.ow,.bool a.a.ok,.int .i64 a.a.n,.int .i64 a.a.m,.int .i64 a.a.err,iv,.slice none 0 0]
def GQ(w:World)(own:Nat->Prop)(iv:Value)(l:List Int):Prop:=
 (l=[]/\iv=.slice none 0 0)\/(l≠[]/\∃g c,iv=.slice (some ⟨g,0,none⟩) l.length c/\own g/\l.length<=c/\c<=maxLen/\∀(i:Nat) (u:Int),l[i]?=some u->w.cell? ⟨g,i,none⟩=some (.int .i64 u))
structure Lh(w:World)(own:Nat->Prop)(ans:Value)(out:List Gg):Prop where
 ex:∃JH:List Value,JH.length=out.length/\BA.FY w 0 9 ans out.length (List.zipWith FZ out JH).flatten/\∀(i:Nat) (a:Gg) (iv:Value),out[i]?=some a->JH[i]?=some iv->GQ w (fun g=>own g/\ans.ownBlock≠some g) iv a.a.ints
 blk:∀g,ans.ownBlock=some g->own g
theorem Jp{w w':World}{base size n:Nat}{v:Value}{xs:List Value}(h:BA.FY w base size v n xs)(he:∀g,v.ownBlock=some g->L8 w w' g):BA.FY w' base size v n xs:=by
 obtain⟨te,h1,h2⟩:=h;refine⟨te,h1,?_⟩;rcases h2 with h2|⟨g,cap,cur,rfl,hb,hg,hr⟩
 . exact .inl h2
 . exact .inr ⟨g,cap,cur,rfl,hb,(he g rfl).cells hg,hr⟩
theorem fD{w w':World}{a:Addr}{v:Value}(h:w.cell? a=some v)(he:L8 w w' a.block):w'.cell? a=some v:=by
 cases ho:w.heap[a.block]? with
 | none=>simp[World.cell?,ho]at h
 | some o=>
  cases o with
  | cells c e f=>
   have:=he.cells ho;simp only[World.cell?,ho]at h;simp only[World.cell?,this];exact h
  | _=>simp[World.cell?,ho]at h
theorem GQ.RN{w w':World}{own:Nat->Prop}{iv:Value}{l:List Int}(h:GQ w own iv l)(he:∀g,own g->L8 w w' g):GQ w' own iv l:=by
 rcases h with h|⟨h0,g,c,h1,h2,h3,h4,h5⟩
 . exact .inl h
 . exact .inr ⟨h0,g,c,h1,h2,h3,h4,fun i u hu=>fD (h5 i u hu) (he g h2)⟩
theorem GQ.mono{w:World}{own own':Nat->Prop}{iv:Value}{l:List Int}(h:GQ w own iv l)(he:∀g,own g->own' g):GQ w own' iv l:=by
 rcases h with h|⟨h0,g,c,h1,h2,h3⟩
 . exact .inl h
 . exact .inr ⟨h0,g,c,h1,he g h2,h3⟩
theorem Lh.RN{w w':World}{own:Nat->Prop}{ans:Value}{out:List Gg}(h:Lh w own ans out)(he:∀g,own g->L8 w w' g):Lh w' own ans out:=by obtain⟨⟨JH,h1,h2,h3⟩,h4⟩:=h;exact⟨⟨JH,h1,Jp h2 fun g hg=>he g (h4 g hg),fun i a iv h5 h6=>(h3 i a iv h5 h6).RN fun g hg=>he g hg.1⟩,h4⟩
theorem Lh.mono{w:World}{own own':Nat->Prop}{ans:Value}{out:List Gg}(h:Lh w own ans out)(he:∀g,own g->own' g):Lh w own' ans out:=by obtain⟨⟨JH,h1,h2,h3⟩,h4⟩:=h;exact⟨⟨JH,h1,h2,fun i a iv h5 h6=>(h3 i a iv h5 h6).mono fun g hg=>⟨he g hg.1,hg.2⟩⟩,fun g hg=>he g (h4 g hg)⟩
section
variable {Cl Cs Sg:Type}
def qN(k:Nat)(x:Wk Cl Cs)(b:Nat)(own:Nat->Prop)(w:World):Prop:=
 x.k=k/\own b/\∃t co go gr ans,F9 w b k t co go gr x.st x.bg x.ow ans x.over x.fell/\Lh w (fun g=>own g/\g≠b) ans x.out
def Fe(D:Dr Cl Cs Sg)(m:Mem Sg):Md (Wk Cl Cs) Sg where
 hold:=D.hold
 Sh:=m.Sh
 Inv:=m.Inv
 Rec:=qN
 RH:=m.rows
 inv_eq:=m.eq
 rec_eq:=fun k x b o w w' he ⟨h1,h2,t,co,go,gr,ans,h3,h4⟩=>⟨h1,h2,t,co,go,gr,ans,(he b h2).cells h3,h4.RN fun g hg=>he g hg.1⟩
structure Gr(Cl Cs Sg:Type)(ρ:Rn) where
 x:Wx (Wk Cl Cs) Sg ρ
 own:Nat->Prop
 core:Nat->Prop
 pb:Nat
 z:Wk Cl Cs
 gr:Bool
 ans:Value
variable {ρ:Rn}(D:Dr Cl Cs Sg)(m:Mem Sg)(b k:Nat)
structure Ki(s:Gr Cl Cs Sg ρ)(σ:Sg)(W:World):Prop where
 zi:ρ.zi=.int .i64 0
 zg:ρ.zg=.agg #[]
 vb:s.x.1.1.v.b=b
 vk:s.x.1.1.v.k=k
 row:F9 W b k s.x.1.1.v.t ρ.come ρ.gone s.gr s.z.st s.z.bg s.z.ow s.ans false false
 zk:s.z.k=k
 zo:s.z.over=false
 zf:s.z.fell=false
 am:Lh W (fun g=>s.core g/\g≠b/\g≠s.pb) s.ans s.z.out
 inv:m.Inv σ W
 sh:∀b,m.Sh b->s.x.1.1.B b=false
 low:∀b,s.x.1.1.B b=true->b<s.x.1.1.n0
 size:s.x.1.1.n0<=W.heap.size
 Xu:∀b,s.x.1.1.v.own b->b<s.x.1.1.n0
 cb:s.core b
 Qp:s.core s.pb
 co:∀b,s.core b->s.own b
 o1:∀b,s.x.1.1.v.own b->s.own b
 o2:∀b,s.own b->s.x.1.1.v.own b\/s.x.1.1.n0<=b
 o3:∀b,s.own b->s.x.1.1.B b=false/\¬ m.Sh b/\∃c e f,W.heap[b]?=some (.cells c e f)
 Mc:s.x.1.1.v.own b
 UR:s.pb≠b
 pc:W.cell? ⟨s.pb,0,none⟩=some (.pointer (some ⟨b,0,none⟩))
 cap:s.z.ow+s.x.1.2+s.gr.toNat<2 ^ 62
structure PLe(s s':Gr Cl Cs Sg ρ):Prop where
 pb:s'.pb=s.pb
 ans:s'.ans=s.ans
 core:s'.core=s.core
 own:∀b,s.own b->s'.own b
 h:s'.x.1.1.v.h=s.x.1.1.v.h
 t:s'.x.1.1.v.t=s.x.1.1.v.t
 r:s'.x.1.2<=s.x.1.2
 zk:s'.z.k=s.z.k
 todo:s'.z.todo=s.z.todo
 bg:s'.z.bg=s.z.bg
 out:s'.z.out=s.z.out
def Gr.up(s:Gr Cl Cs Sg ρ):Wk Cl Cs:=if s.gr then{ s.z with ow:=s.z.ow+1 }else s.z
def Tf(s:Gr Cl Cs Sg ρ)(σ:Sg)(cs:Cs):Prop:=s.x.1.1.tgt=if s.gr then s.up.land (D.next k cs σ)else s.z.land (σ,.inl cs)
variable {D m b k}
theorem Ki.turn{x:Wx (Wk Cl Cs) Sg ρ}{own core:Nat->Prop}{pb:Nat}{z z':Wk Cl Cs}{gr gr':Bool}{ans:Value}{σ:Sg}{W W':World}(hA:Ki m b k ⟨x,own,core,pb,z,gr,ans⟩ σ W)(hr:F9 W' b k x.1.1.v.t ρ.come ρ.gone gr' z'.st z'.bg z'.ow ans false false)(ht:IU b W W')(h1:z'.k=z.k)(h2:z'.over=z.over)(h3:z'.fell=z.fell)(h4:z'.out=z.out)(h5:z'.ow+x.1.2+gr'.toNat<2 ^ 62):Ki m b k ⟨x,own,core,pb,z',gr',ans⟩ σ W':=by
 have hrow:∀g:Nat,(∃c e f,W.heap[g]?=some (Obj.cells c e f))->∃c e f,W'.heap[g]?=some (Obj.cells c e f):=fun g hg=>by
  by_cases e:g=b
  . rw[e];exact⟨_,_,_,hr⟩
  . rw[ht.other g e];exact hg
 exact{
      zi:=hA.zi,zg:=hA.zg,vb:=hA.vb,vk:=hA.vk,row:=hr,zk:=h1.trans hA.zk,zo:=h2.trans hA.zo,zf:=h3.trans hA.zf
      am:=by show Lh W' _ ans z'.out;rw[h4];exact hA.am.RN fun g hg=>.of (ht.other g hg.2.1)
      inv:=m.eq σ W W' (fun g hg=>.of (ht.other g fun e=>(hA.o3 b (hA.co b hA.cb)).2.1 (e ▸ hg))) hA.inv
      sh:=hA.sh,low:=hA.low,size:=Nat.le_trans hA.size (Nat.le_of_eq ht.size.symm),Xu:=hA.Xu,cb:=hA.cb,Qp:=hA.Qp,co:=hA.co,o1:=hA.o1,o2:=hA.o2
      o3:=fun g hg=>⟨(hA.o3 g hg).1,(hA.o3 g hg).2.1,hrow g (hA.o3 g hg).2.2⟩
      Mc:=hA.Mc,UR:=hA.UR,pc:=by rw[cell_of (ht.other pb hA.UR)];exact hA.pc
      cap:=h5 }
theorem Aaz {s:Gr Cl Cs Sg ρ}{σ:Sg}{W:World}{cs:Cs}{c:Frame}{fs:List Frame}(hA:Ki m b k s σ W)(hS:Tf D k s σ cs)(hL:ρ.shut->Wv ρ Try.prog 118 c fs)(hJ:∀ s' σ' W',Ki m b k s' σ' W'->PLe s s'->s'.own=s.own->(∀ g,s.own g/\g≠b->W'.heap[g]?=W.heap[g]?)->W.heap.size<=W'.heap.size->2 * s'.x.1.2+(if s'.gr then 1 else 0) < 2 * s.x.1.2+(if s.gr then 1 else 0)->(s'.gr=false/\s'.x.1.1.tgt=s'.z.land (D.next k cs σ'))->
      JW (SW (Fe D m) ρ Try.prog).base s'.x (G (c.finish (.tuple #[])) fs) W') :
    JW (SW (Fe D m) ρ Try.prog).base s.x (G (Frame.enter Try.prog 33 #[.pointer (some ⟨b,0,none⟩)] .normal) (c :: fs)) W:=by
  obtain⟨x,own,core,pb,z,gr,ans⟩:=s;have hcap:=hA.cap;have hr:=hA.row;have hbB:x.1.1.B b=false:=(hA.o3 b (hA.co b hA.cb)).1;simp only at hcap hr;cases gr with
  | true=>
    simp only[Tf,if_true,Gr.up]at hS;refine Zv hr hbB fun W' h1 h2=>?_;have e1:=Lp (n:=z.ow) zOM;rw[e1]at h1;refine hJ ⟨x,own,core,pb,{ z with ow:=z.ow+1 },false,ans⟩ σ W' ?_ ⟨rfl,rfl,rfl,fun _ h=>h,rfl,rfl,Nat.le_refl _,rfl,rfl,rfl,rfl⟩ rfl (fun g hg=>h2.other g hg.2) (Nat.le_of_eq h2.size.symm) (by simp) ⟨rfl,hS⟩;exact hA.turn h1 h2 rfl rfl rfl rfl (by simp at hcap ⊢;omega)
  | false=>
    simp only[Tf,Bool.false_eq_true,if_false,Wk.J8]at hS;obtain rfl:x.1.1.v.b=b:=hA.vb;obtain rfl:x.1.1.v.k=k:=hA.vk;have hrec:qN x.1.1.v.k ({ z with cur:=some cs }:Wk Cl Cs) x.1.1.v.b own W:=⟨hA.zk,hA.co _ hA.cb,_,_,_,_,_,by have e1:=hA.zo;have e2:=hA.zf;simp only at e1 e2;simp only[e1,e2];exact hr,hA.am.mono fun g hg=>⟨hA.co g hg.1,hg.2.1⟩⟩
    refine Zp (M:=Fe D m) (x:=x) (own:=own) (pb:=pb) hA.zi hA.zg hr (by rw[hS];exact hA.inv) hA.sh (by rw[hS];exact hrec) (hA.co _ hA.Qp) hA.o1 hA.o2 hA.o3 hA.Mc (by rw[hS]) hL hA.pc ?_;intro r' hx v' hs s σ' W' y e1 e2 e3 NJ hn0 hH hI W'' h6 h7;have e5:=Lp (n:=z.ow) zOM;rw[e5]at h6;rw[hS]at e2;have hso:v'.own=own:=hs.own;have hA':Ki m x.1.1.v.b x.1.1.v.k ⟨y,own,core,pb,{ z with st:=s,ow:=z.ow+1 },false,ans⟩ σ' W'':=by
      have hoth:∀ g,own g->g≠x.1.1.v.b->W''.heap[g]?=W.heap[g]?:=fun g hg hne=>(h7.other g hne).trans (hH.own g hg);exact {
              zi:=hA.zi,zg:=hA.zg,vb:=by show y.1.1.v.b=_;rw[e1,hs.b],vk:=by show y.1.1.v.k=_;rw[e1,hs.k]
              row:=by show F9 W'' _ _ y.1.1.v.t _ _ _ _ _ _ _ _ _;rw[e1,hs.t];exact h6
              zk:=hA.zk,zo:=hA.zo,zf:=hA.zf
              am:=hA.am.RN fun g hg=>.of (hoth g (hA.co g hg.1) hg.2.1)
              inv:=m.eq σ' W' W'' (fun g hg=>.of (h7.other g fun e=>(hA.o3 _ (hA.co _ hA.cb)).2.1 (e ▸ hg))) hI
              sh:=fun g hg=>NJ.sh g hg,low:=fun g hg=>NJ.low g hg
              size:=by show y.1.1.n0<=_;rw[hn0,h7.size];exact Nat.le_refl _
              Xu:=fun g hg=>by
                show g<y.1.1.n0;have hg':own g:=by rw[← hso,← e1];exact hg
                obtain⟨_,_,c,e,f,hc⟩:=hA.o3 g hg';have:=(zGE hc).1;have:=hH.size;rw[hn0];omega
              cb:=hA.cb,Qp:=hA.Qp,co:=hA.co
              o1:=fun g hg=>by rw[← hso,← e1];exact hg
              o2:=fun g hg=>.inl (by show y.1.1.v.own g;rw[e1,hso];exact hg)
              o3:=fun g hg=>⟨NJ.own g (by rw[hso];exact hg),(hA.o3 g hg).2.1,by
                by_cases e:g=x.1.1.v.b
                . rw[e];exact⟨_,_,_,h6⟩
                . rw[hoth g hg e];exact(hA.o3 g hg).2.2⟩
              Mc:=by show y.1.1.v.own _;rw[e1,hso];exact hA.co _ hA.cb
              UR:=hA.UR
              pc:=by rw[cell_of (hoth pb (hA.co _ hA.Qp) hA.UR)];exact hA.pc
              cap:=by simp at hcap ⊢;omega }
    refine hJ ⟨y,own,core,pb,{ z with st:=s,ow:=z.ow+1 },false,ans⟩ σ' W'' hA' ⟨rfl,rfl,rfl,fun _ h=>h,by show y.1.1.v.h=_;rw[e1,hs.h],by show y.1.1.v.t=_;rw[e1,hs.t],by show y.1.2<=x.1.2;omega,rfl,rfl,rfl,rfl⟩ rfl
      (fun g hg=>(h7.other g hg.2).trans (hH.own g hg.1)) (by rw[h7.size];exact hH.size) (by show 2*y.1.2+0<2*x.1.2+0;omega) ⟨rfl,?_⟩
    show y.1.1.tgt=_;rw[e2];show D.hold ({ z with cur:=some cs }:Wk Cl Cs) s σ'=_;rw[Dr.fO];have:=hA.zk;simp only at this;rw[this]
def KO(D:Dr Cl Cs Sg)(m:Mem Sg)(ρ:Rn)(b k:Nat):GJ (SW (Fe D m) ρ Try.prog) D m 33 where
 St:=Gr Cl Cs Sg ρ
 γ:=fun s=>s.x
 wv:=.pointer (some ⟨b,0,none⟩)
 num:=k
 At:=Ki m b k
 core:=fun s=>s.core
 own:=fun s=>s.own
 kept:=fun s g=>s.own g/\g≠b
 n0:=fun s=>s.x.1.1.n0
 fuel:=fun s=>2*s.x.1.2+(if s.gr then 1 else 0)
 Le:=PLe
 Pf:=fun s σ c=>s.gr=true/\s.x.1.1.tgt=match D.init k c σ with
  | .inl cs=>s.up.land (D.next k cs σ)
  | .inr e=>s.up.land (σ,.inr e)
 Step:=fun s σ cs=>Tf D k s σ cs
 bD:=fun s r=>s.gr=false/\s.x.1.1.tgt=s.z.land r
 End:=fun s σ e=>s.x.1.1.tgt=s.up.land (σ,.inr e)
 Leaves:=fun c fs=>ρ.shut->Wv ρ Try.prog 118 c fs
 add:=fun s N=>{ s with own:=fun g=>s.own g\/g=N }
 refl:=fun s=>⟨rfl,rfl,rfl,fun _ h=>h,rfl,rfl,Nat.le_refl _,rfl,rfl,rfl,rfl⟩
 trans:=fun s s' s'' h k=>⟨k.pb.trans h.pb,k.ans.trans h.ans,k.core.trans h.core,fun b hb=>k.own b (h.own b hb),k.h.trans h.h,k.t.trans h.t,Nat.le_trans k.r h.r,k.zk.trans h.zk,k.todo.trans h.todo,k.bg.trans h.bg,k.out.trans h.out⟩
 NI:=fun{s σ c cs} ⟨h1,h2⟩ hi=>by rw[hi]at h2;unfold Tf;rw[h1,if_pos rfl];exact h2
 ends:=fun{s σ c e} ⟨h1,h2⟩ hi=>by rw[hi]at h2;exact h2
 more:=fun{s σ cs} ⟨h1,h2⟩=>by unfold Tf;rw[h1];exact h2
 done:=fun{s σ e} ⟨h1,h2⟩=>by unfold Gr.up;rw[h1];exact h2
 inv:=fun h=>h.inv
 size:=fun h=>h.size
 row:=fun h hb=>(h.o3 _ hb).2
 Ld:=fun h hb=>h.co _ hb
 Gm:=fun h hb=>hb.1
 put:=fun{s σ W σ' W'} hA hI hc ho hs=>
  {
   zi:=hA.zi,zg:=hA.zg,vb:=hA.vb,vk:=hA.vk,row:=by have:=hA.row;unfold F9 at this ⊢;rw[hc b hA.cb];exact this
   zk:=hA.zk,zo:=hA.zo,zf:=hA.zf,am:=hA.am.RN fun g hg=>.of (hc g hg.1),inv:=hI,sh:=hA.sh,low:=hA.low,size:=Nat.le_trans hA.size hs,Xu:=hA.Xu
   cb:=hA.cb,Qp:=hA.Qp,co:=hA.co,o1:=hA.o1,o2:=hA.o2,o3:=fun g hg=>⟨(hA.o3 g hg).1,(hA.o3 g hg).2.1,ho g hg⟩,Mc:=hA.Mc,UR:=hA.UR
   pc:=by rw[cell_of (hc s.pb hA.Qp)];exact hA.pc,cap:=hA.cap }
 Yo:=fun{s σ W N} hA h1 h2 h3=>by
  have hNb:N≠b:=fun e=>by have:=hA.Xu b hA.Mc;have:s.x.1.1.n0<=N:=h1;omega
  refine⟨{
       zi:=hA.zi,zg:=hA.zg,vb:=hA.vb,vk:=hA.vk,row:=hA.row,zk:=hA.zk,zo:=hA.zo,zf:=hA.zf,am:=hA.am,inv:=hA.inv,sh:=hA.sh,low:=hA.low,size:=hA.size,Xu:=hA.Xu
       cb:=hA.cb,Qp:=hA.Qp,co:=fun g hg=>.inl (hA.co g hg),o1:=fun g hg=>.inl (hA.o1 g hg),o2:=fun g hg=>hg.elim (hA.o2 g) fun e=>.inr (e ▸ h1)
       o3:=fun g hg=>hg.elim (hA.o3 g) fun e=>⟨by
        cases hB:s.x.1.1.B g with
        | false=>rfl
        | true=>
         have:=hA.low g hB;have:s.x.1.1.n0<=N:=h1;omega,by rw[e];exact h2,by rw[e];exact h3⟩
       Mc:=hA.Mc,UR:=hA.UR,pc:=hA.pc,cap:=hA.cap },⟨rfl,rfl,rfl,fun _ h=>.inl h,rfl,rfl,Nat.le_refl _,rfl,rfl,rfl,rfl⟩,rfl,rfl,fun _=>.rfl,fun _=>.rfl,fun g=>⟨fun⟨h,hb⟩=>h.elim (fun h=>.inl ⟨h,hb⟩) .inr,fun h=>h.elim (fun h=>⟨.inl h.1,h.2⟩) fun e=>⟨.inr e,e ▸ hNb⟩⟩⟩
 Yf:=fun h=>h
 Uy:=fun h=>h
 XP:=fun h=>h
 XJ:=fun h=>h
 pop:=fun hf h hs=>Wv.pop hf (h hs)
 step:=fun{s σ W cs c fs} hA hS hL hJ=>Aaz hA hS hL fun s' σ' W' a1 a2 a3 a4 a5 a6 a7=>hJ s' σ' W' a1 a2 a2.core a3 (by funext g;rw[a3]) a4 a5 a6 a7
end
end
end Go.Proofs.Ytdkfdedgfilhbaa
namespace Go.LK
open Go Go.Conc Go.LT Go.LC
section
variable {P:Program}{main:Bool}{Γ:Type}{S:Fp P main Γ}{Cl Cs Sg:Type}{D:Dr Cl Cs Sg}{m:Mem Sg}{UU:FuncId}
theorem GJ.write(I:GJ S D m UU){s₀ s:I.St}{σ:Sg}{aA W W':World}{N:Nat}(hA:I.At s σ W)(hO:I.On s₀ aA s W)(ho:I.own s N)(hc:¬ I.core s N)(hk:¬ I.kept s₀ N)(hr:∃c e f,W'.heap[N]?=some (Obj.cells c e f))(hb:∀b,b≠N->W'.heap[b]?=W.heap[b]?)(hs:W'.heap.size=W.heap.size):I.At s σ W'/\I.On s₀ aA s W':=by
 have hsh:=(I.row hA ho).1;refine⟨I.put hA (m.eq σ W W' (fun b h=>.of (hb b fun e=>hsh (e ▸ h))) (I.inv hA)) (fun b h=>hb b fun e=>hc (e ▸ h)) (fun b h=>?_) (Nat.le_of_eq hs.symm),hO.le,hO.core,fun b h=>⟨(hO.kept b h).1,(hb b fun e=>hk (e ▸ h)).trans (hO.kept b h).2⟩,by rw[hs];exact hO.size,hO.fuel⟩;by_cases e:b=N
 . rw[e];exact hr
 . rw[hb b e];exact(I.row hA h).2
end
end Go.LK
namespace Go.LT
open Go Go.Conc
theorem Yz{P:Program}{main:Bool}{Γ:Type}{S:Fp P main Γ}{γ:Γ}{W:World}{f:FuncId}{tm:Array Value}{Y:List Item}{c:Frame}{cs:List Frame}{fn:Func}{v:Value}(hf:P.funcs[f]?=some fn)(hr:Reads P fn tm W v)(h:JL S.L γ (G (c.finish v) cs) W):JL S.L γ (G { (base f).at ⟨tm,[]⟩ Y with mode:=.returning } (c :: cs)) W:=JW.returns (S:=S) hf hr h
theorem Kw{P:Program}{fn:Func}{p:Tmp}{ty:TypeId}(h:fn.results=#[.cell p ty]){tm:Array Value}{W:World}{g:Nat}{t:TypeId}{cs:Array Value}{fr:Nat × Nat}{d:TypeDesc}(hp:tm.getD p undef=.pointer (some ⟨g,0,none⟩))(hg:W.heap[g]?=some (.cells cs t fr))(hu:P.underlying ty=some d)(hd:(match d with | .struct _ | .array _ _=>true | _=>false)=true)(hi:(P.info? ty).map (·.size)=some cs.size):Reads P fn tm W (.agg cs):=fun EG ha=>by
 obtain⟨τ,d',rfl⟩:=ha;exact results_cell_row h tm _ g t cs fr d hp hg hu hd hi
end Go.LT
namespace Go.Proofs.Ytdkfdedgfilhbaa
open Go Go.Conc Go.LT Go.LC Go.LK Go.RowKit
def do0:Code:=match Try.f95.body with | some (.seq c _)=>c | _=>.skip
def do1:Code:=match Try.f95.body with | some (.seq _ (.seq (.seq c _) _))=>c | _=>.skip
def Yl:Code:=match Try.f95.body with | some (.seq _ (.seq (.seq _ c) _))=>c | _=>.skip
def do3:Code:=match Try.f95.body with | some (.seq _ (.seq _ c))=>c | _=>.skip
theorem lN:Try.f95.body=some (.seq do0 (.seq (.seq do1 Yl) do3)):=rfl
def Gf(c:EP)(pv:Value):Value:=.agg #[.int .i64 c.kind,.int .i64 c.a,.int .i64 c.b,.int .i64 c.c,pv]
def MN(e:An)(iv:Value):Value:=.agg #[.int .i64 0,.int .i64 0,.int .i64 0,.bool e.ok,.int .i64 e.n,.int .i64 e.m,.int .i64 e.err,iv,.slice none 0 0]
section
variable {main:Bool}{Γ:Type}{S:Fp Try.prog main Γ}{m:Mem (List Int)}{cb ct n:Nat}{cf:Frame}{fs:List Frame}{W:World}{σ:List Int}
def dW(ct N:Nat)(wv cv:Value)(k:Int):Array Value:=#[.pointer (some ⟨ct,0,none⟩),wv,cv,undef,undef,.pointer (some ⟨N,0,none⟩),.pointer (some ⟨N+1,0,none⟩),.pointer (some ⟨N,0,none⟩),.int .i64 k,undef,undef,undef,undef,undef,undef,undef,undef,undef,undef,undef,undef,undef,undef,undef,undef,undef,undef,undef,undef,undef,undef,undef,undef,undef,undef,undef,undef,undef,undef,undef,undef,undef,undef,undef,undef,undef,undef,undef,undef,undef,undef,undef,undef,undef,undef,undef,undef,undef,undef,undef,undef,undef,undef,undef,undef,undef,undef,undef,undef,undef,undef,undef,undef,undef,undef,undef,undef,undef,undef,undef,undef,undef,undef,undef,undef,undef,undef,undef,undef,undef,undef,undef,undef,undef,undef,undef,undef,undef,undef,undef,undef,undef,undef,undef,undef]
theorem Qk (I:GJ S EK m 33){s:I.St}{c:EP}{pv:Value}(hA:I.At s σ W)(hS:I.Pf s σ c)(hJ:∀ s' W' N,I.At s' σ W'->I.On s W s' W'->I.Pf s' σ c->I.kept s' (N+1)->(I.own s' (N+1)/\¬ I.core s' (N+1)/\¬ I.kept s (N+1))->W'.heap[N]?=some (.cells #[.int .i64 c.kind,.int .i64 c.a,.int .i64 c.b,.int .i64 c.c,pv] 44 (0,0))->
      W'.heap[N+1]?=some (.cells #[.int .i64 0,.int .i64 0,.int .i64 0,.bool false,.int .i64 0,.int .i64 0,.int .i64 0,.slice none 0 0,.slice none 0 0] 42 (0,0))->
      JL S.L (I.γ s') (G ((base 95).at ⟨dW ct N I.wv (Gf c pv) c.kind,[]⟩ [.code Yl,.code do3]) (cf :: fs)) W') :
    JW S.base (I.γ s) (G (Frame.enter Try.prog 95 #[.pointer (some ⟨ct,0,none⟩),I.wv,Gf c pv] .normal) (cf :: fs)) W:=by
  have ht:#[.pointer (some ⟨ct,0,none⟩),I.wv,Gf c pv]++Array.replicate (Try.f95.ntmps-(#[.pointer (some ⟨ct,0,none⟩),I.wv,Gf c pv]:Array Value).size) undef=#[.pointer (some ⟨ct,0,none⟩),I.wv,Gf c pv,undef,undef,undef,undef,undef,undef,undef,undef,undef,undef,undef,undef,undef,undef,undef,undef,undef,undef,undef,undef,undef,undef,undef,undef,undef,undef,undef,undef,undef,undef,undef,undef,undef,undef,undef,undef,undef,undef,undef,undef,undef,undef,undef,undef,undef,undef,undef,undef,undef,undef,undef,undef,undef,undef,undef,undef,undef,undef,undef,undef,undef,undef,undef,undef,undef,undef,undef,undef,undef,undef,undef,undef,undef,undef,undef,undef,undef,undef,undef,undef,undef,undef,undef,undef,undef,undef,undef,undef,undef,undef,undef,undef,undef,undef,undef,undef,undef,undef,undef,undef,undef,undef]:=by
    have:Try.f95.ntmps=105:=by kernel_rfl
    rw[this];walk_nrm
  rw[enter_at _ Try.func95 lN,ht];generalize hw:I.wv=wv;show JL S.L (I.γ s) _ W;dsimp only;refine EO ?_;refine Fp.Fz (S:=S) (b:=base 95) [] (by simp) zKR nE zKR fun EG ha=>?_;obtain⟨hA1,HY⟩:=I.alike hA ha;have HH:=Lib.hid (zAI hJ (zAI hS (zAI hA1 HY)));clear hJ hS hA hA1 HY;simp only[do0,Try.f95,Gf];gi_wp2;obtain⟨hJ,hS,hA1,HY⟩:=HH.out;clear HH;generalize ho1:Obj.cells #[Value.int IntKind.i64 c.kind,Value.int IntKind.i64 c.a,Value.int IntKind.i64 c.b,Value.int IntKind.i64 c.c,pv] 44=o1;generalize ho2:Obj.cells #[Value.int IntKind.i64 0,Value.int IntKind.i64 0,Value.int IntKind.i64 0,Value.bool false,Value.int IntKind.i64 0,Value.int IntKind.i64 0,Value.int IntKind.i64 0,Value.slice none 0 0,Value.slice none 0 0] 42=o2
  obtain⟨s1,hA2,hO2,e1,o1',k1,b1,_⟩:=I.lay (W':=EG.alloc o1) (N:=EG.heap.size) hA1 rfl ⟨_,_,_,by rw[heap_alloc_new];exact congrArg some ho1.symm⟩ (fun b hb=>Below.heap_alloc _ _ _ hb) (by simp);obtain⟨s2,hA3,hO3,e2,o8,k2,b2,_⟩:=I.lay (W':=(EG.alloc o1).alloc o2) (N:=(EG.alloc o1).heap.size) hA2 rfl ⟨_,_,_,by rw[heap_alloc_new];exact congrArg some ho2.symm⟩ (fun b hb=>Below.heap_alloc _ _ _ hb) (by simp);have hsz:(EG.alloc o1).heap.size=EG.heap.size+1:=by simp
  have q1:((EG.alloc o1).alloc o2).heap[EG.heap.size]?=some o1:=by rw[Below.heap_alloc _ _ _ (by simp)];exact heap_alloc_new _ _
  have q2:((EG.alloc o1).alloc o2).heap[EG.heap.size+1]?=some o2:=by rw[← hsz];exact heap_alloc_new _ _
  have q3:I.kept s2 (EG.heap.size+1):=(k2 _).2 (.inr hsz.symm);have q6:I.own s2 (EG.heap.size+1)/\¬ I.core s2 (EG.heap.size+1)/\¬ I.kept s (EG.heap.size+1):=by
    have hown:∀b,I.own s b->b<EG.heap.size:=fun b hb=>by obtain⟨_,c,e,f,h⟩:=I.row hA1 hb;exact(zGE h).1
    refine⟨(o8 _).2 (.inr hsz.symm),fun h=>?_,fun h=>?_⟩
    . have:=hown _ (I.Ld hA1 ((hO2.core _).1 ((hO3.core _).1 h)));omega
    . have:=hown _ (I.Gm hA1 h);omega
  have q4:=HY.trans (hO2.trans hO3);have q5:=b2 _ (b1 _ hS);have e3:I.γ s=I.γ s2:=(e2.trans e1).symm;rw[e3];generalize(EG.alloc o1).alloc o2=W3 at *;generalize EG.heap.size=N at *;have hc:W3.cell? ⟨N,0,none⟩=some (.int .i64 c.kind):=by rw[← ho1]at q1;simp[World.cell?,q1]
  show JL S.L (I.γ s2) _ W3;refine EO ?_;refine EO ?_;simp only[do1,Try.f95];refine E9 fun _ hkk=>?_
  (refine ET ?_;walk_nrm)
  refine Fp.read (S:=S) (.int .i64 c.kind) rfl rfl nE hc (fun w h=>by go_simp) (fun w h e he=>by simp[go_sem,h]at he;exact he) ?_;walk_nrm;refine E5 ?_;cases hkk;subst ho1 ho2;have:=hJ s2 W3 N hA3 q4 q5 q3 q6 q1 q2;rw[hw]at this;exact this
theorem Xc(I:GJ S EK m 33){s s2:I.St}{σ2:List Int}{W2 W3:World}{N:Nat}{O6:Bool}{en Im:Int}{v0 v1 v2 v3 v4 v5 v7 v8 v9 Aa Ab Ac Ae Af Ah Ai Aj Ak Al Am Ao Ap Ar Au Av Aw Ay Az AA AB AJ AL AO AP AQ AU AV AX AY AZ A8 A9 Ba Bb Bc Bf Bh Bj Bl Bp Bq Br Bu Bv Bw Bz BD BF BG BH BI BJ BK BL BM BN BO BP BQ BR BS BU BX BZ Ca Cb Cc Ce Cg Ci Cj Ck Cm Co Cq Cr Ct Cu Cw Cx Cy Cz CB CF CG CJ CK CO CQ CS CU CV CW CX:Value}(hA2:I.At s2 σ2 W2)(hO3:I.On s W s2 W2)(hE:I.End s2 σ2 ((⟨O6,en,0,Im,[]⟩:An),false))(hown:I.own s2 (N+1))(hcore:¬ I.core s2 (N+1))(JI:¬ I.kept s (N+1))(hJ:∀s' σ' W' e,I.At s' σ' W'->I.On s W s' W'->I.End s' σ' (e,false)->e.ints=[]->JW S.base (I.γ s') (G (cf.finish (MN e (.slice none 0 0))) fs) W')(hrow3:W3.heap[N+1]?=some (.cells #[.int .i64 0,.int .i64 0,.int .i64 0,.bool O6,.int .i64 en,.int .i64 0,.int .i64 Im,.slice none 0 0,.slice none 0 0] 42 (0,0)))(Gp:∀b,b≠N+1->W3.heap[b]?=W2.heap[b]?)(Jd:W3.heap.size=W2.heap.size) :
  JL S.L (I.γ s2) (G ((base 95).at ⟨#[v0,v1,v2,v3,v4,v5,.pointer (some ⟨N+1,0,none⟩),v7,v8,v9,Aa,Ab,Ac,Ae,Af,Ah,Ai,Aj,Ak,Al,Am,Ao,Ap,Ar,Au,Av,Aw,Ay,Az,AA,AB,AJ,AL,AO,AP,AQ,AU,AV,AX,AY,AZ,A8,A9,Ba,Bb,Bc,Bf,Bh,Bj,Bl,Bp,Bq,Br,Bu,Bv,Bw,Bz,BD,BF,BG,BH,BI,BJ,BK,BL,BM,BN,BO,BP,BQ,BR,BS,BU,BX,BZ,Ca,Cb,Cc,Ce,Cg,Ci,Cj,Ck,Cm,Co,Cq,Cr,Ct,Cu,Cw,Cx,Cy,Cz,CB,CF,CG,CJ,CK,CO,CQ,CS,CU,CV,CW,CX],[]⟩ [.code do3]) (cf :: fs)) W3:=by
 have HH:=Lib.hid (zAI hJ (zAI hA2 (zAI hO3 (zAI hE (zAI hown (zAI hcore JI))))));clear hJ hA2 hO3 hE hown hcore JI;refine Fp.Fz (S:=S) (b:=base 95) [] (by simp) zKR nE zKR fun W4 aW=>?_;have UY:W4.heap=W3.heap:=by obtain⟨τ,d,rfl⟩:=aW;rfl
 rw[← UY]at hrow3;simp only[← UY]at Gp Jd;have c0:W4.cell? ⟨N+1,0,none⟩=some (.int .i64 0):=by simp[World.cell?,hrow3]
 have c1:W4.cell? ⟨N+1,1,none⟩=some (.int .i64 0):=by simp[World.cell?,hrow3]
 have c2:W4.cell? ⟨N+1,2,none⟩=some (.int .i64 0):=by simp[World.cell?,hrow3]
 have c3:W4.cell? ⟨N+1,3,none⟩=some (.bool O6):=by simp[World.cell?,hrow3]
 have c4:W4.cell? ⟨N+1,4,none⟩=some (.int .i64 en):=by simp[World.cell?,hrow3]
 have c5:W4.cell? ⟨N+1,5,none⟩=some (.int .i64 0):=by simp[World.cell?,hrow3]
 have c6:W4.cell? ⟨N+1,6,none⟩=some (.int .i64 Im):=by simp[World.cell?,hrow3]
 have c7:W4.cell? ⟨N+1,7,none⟩=some (.slice none 0 0):=by simp[World.cell?,hrow3]
 have c8:W4.cell? ⟨N+1,8,none⟩=some (.slice none 0 0):=by simp[World.cell?,hrow3]
 have zz:∀o,W4.frozen? ⟨N+1,o,none⟩=false:=fun o=>by simp[World.frozen?,hrow3]
 have z0:=zz 0;have z1:=zz 1;have z2:=zz 2;have z3:=zz 3;have z4:=zz 4;have z5:=zz 5;have z6:=zz 6;have z7:=zz 7;have z8:=zz 8;clear zz;have HR:=Lib.hid (zAI hrow3 (zAI Gp Jd));clear hrow3 Gp Jd UY;have hfin:RowKit.Hid (∀W5 tm,W5.heap[N+1]?=some (.cells #[.int .i64 0,.int .i64 0,.int .i64 0,.bool O6,.int .i64 en,.int .i64 0,.int .i64 Im,.slice none 0 0,.slice none 0 0] 42 (0,0))->(∀b,b≠N+1->W5.heap[b]?=W4.heap[b]?)->W5.heap.size=W4.heap.size->tm.getD 6 undef=.pointer (some ⟨N+1,0,none⟩)->
   aC S (I.γ s2) (base 95) [] [] (cf :: fs) .ret ⟨tm,[]⟩ W5):=Lib.hid fun W5 tm h1 h2 h3 h4 Y=>by
  obtain⟨hJ,hA2,hO3,hE,hown,hcore,JI⟩:=HH.out;obtain⟨_,Gp,Jd⟩:=HR.out;obtain⟨X7,UW⟩:=I.write hA2 hO3 hown hcore JI ⟨_,_,_,h1⟩ (fun b hb=>(h2 b hb).trans (Gp b hb)) (h3.trans Jd);exact Yz Try.func95 (Kw Try.results95 h4 h1 Try.underlying42 rfl zKR) (hJ s2 σ2 W5 _ X7 UW hE rfl)
 clear HH;simp only[do3,Try.f95];gi_wp2;obtain⟨hrow3,_,_⟩:=HR.out;clear HR;exact hfin.out _ _ (by simp[World.setCell,Array.getElem?_modify,hrow3]) (fun b hb=>by simp[World.setCell,Array.getElem?_modify,hb.symm]) (by simp[World.setCell]) rfl
theorem bG(I:GJ S EK m 33)(hm:FI m ct cb n){s:I.St}{c:EP}{pv:Value}(hk:c.kind=1\/c.kind=3\/c.kind=4\/c.kind=6\/c.kind=7)(hA:I.At s σ W)(hS:I.Pf s σ c)(hL:I.Leaves cf fs)(hJ:∀s' σ' W' e,I.At s' σ' W'->I.On s W s' W'->I.End s' σ' (e,false)->e.ints=[]->JW S.base (I.γ s') (G (cf.finish (MN e (.slice none 0 0))) fs) W') :
  JW S.base (I.γ s) (G (Frame.enter Try.prog 95 #[.pointer (some ⟨ct,0,none⟩),I.wv,Gf c pv] .normal) (cf :: fs)) W:=by
 rcases hk with hk|hk|hk|hk|hk;all_goals
  refine Qk I hA hS fun s1 W1 N hA1 HY hS1 hN NU q1 q2=>?_;generalize hw:I.wv=wv;generalize Gf c pv=cv;rw[hk];unfold dW;dsimp only;have hbl:∃c0,Yl=.block 0 c0/\c0=(match Yl with | .block _ c=>c | _=>.skip):=⟨_,rfl,rfl⟩
  obtain⟨c0,hc0,hc1⟩:=hbl;rw[hc0];refine EU stepG_block ?_;rw[hc1];simp only[Yl,Try.f95];refine EO ?_;refine E9 fun _ hkk=>?_;iterate 2(refine ET ?_;walk_nrm)
  refine E5 ?_;cases hkk;repeat
   refine JL.EX rfl ?_;refine EO ?_;refine E9 fun _ hkk=>?_;iterate 2(refine ET ?_;walk_nrm)
   refine E5 ?_;cases hkk
  refine JL.F3 rfl ?_;refine E9 fun _ hkk=>?_;iterate 3(refine ET ?_;walk_nrm)
  refine Fp.read (S:=S) (ad:=⟨N,1,none⟩) (.int .i64 c.a) rfl rfl nE (by simp[World.cell?,q1]) (fun w h=>by go_simp) (fun w h e he=>by simp[go_sem,h]at he;exact he) ?_;walk_nrm;try
   (refine ET ?_;walk_nrm)
   refine Fp.read (S:=S) (ad:=⟨N,2,none⟩) (.int .i64 c.b) rfl rfl nE (by simp[World.cell?,q1]) (fun w h=>by go_simp) (fun w h e he=>by simp[go_sem,h]at he;exact he) ?_;walk_nrm
  first | refine JL.enter rfl rfl nE rfl Try.func15 zKR zKR ?_ | refine JL.enter rfl rfl nE rfl Try.func19 zKR zKR ?_ | refine JL.enter rfl rfl nE rfl Try.func20 zKR zKR ?_ | refine JL.enter rfl rfl nE rfl Try.func22 zKR zKR ?_ | refine JL.enter rfl rfl nE rfl Try.func23 zKR zKR ?_
  walk_nrm;rw[← hw];first | refine UQ I hm hk hA1 (I.NI hS1 (by simp[EK,hk])) (I.pop Try.func95 hL) fun s2 σ2 W2 e hA2 hO2 hE he=>?_ | refine Y5 I hm hk hA1 (I.NI hS1 (by simp[EK,hk])) (I.pop Try.func95 hL) fun s2 σ2 W2 e hA2 hO2 hE he=>?_ | refine YM I hm hk hA1 (I.NI hS1 (by simp[EK,hk])) (I.pop Try.func95 hL) fun s2 σ2 W2 e hA2 hO2 hE he=>?_ | refine YO I hm hA1 (I.NI hS1 (by simp[EK,hk])) (I.pop Try.func95 hL) fun s2 σ2 W2 e hA2 hO2 hE he=>?_ | refine Yt I hm hA1 (I.NI hS1 (by simp[EK,hk])) (I.pop Try.func95 hL) fun s2 σ2 W2 e hA2 hO2 hE he=>?_
  rw[Frame.finish_at];rw[hw];obtain⟨O6,en,em,Im,MH⟩:=e;simp only at he ⊢;have hrow:W2.heap[N+1]?=_:=((hO2.kept _ hN).2).trans q2;have hO3:=HY.trans hO2;have hown:I.own s2 (N+1):=I.Gm hA2 (hO2.kept _ hN).1;have hcore:¬ I.core s2 (N+1):=fun h=>NU.2.1 ((hO2.core _).1 h);have JI:=NU.2.2;show JL S.L (I.γ s2) _ W2;walk_nrm;iterate 3(refine ET ?_;walk_nrm)
  obtain⟨rfl,rfl,rfl⟩:=he;have HH:=Lib.hid (zAI hJ (zAI hA2 (zAI hO3 (zAI hE (zAI hown (zAI hcore JI))))));clear hJ hA2 hO3 hE hown hcore JI NU hN hA1 HY hS1 hA hS hO2 q1 q2;first | refine Fp.Gs (S:=S) (b:=base 95) 8 [] (by simp) zKR nE rfl zKR fun EG ha=>?_ | refine Fp.Gs (S:=S) (b:=base 95) 10 [] (by simp) zKR nE rfl zKR fun EG ha=>?_
  have hW:EG.heap=W2.heap:=by obtain⟨τ,d,rfl⟩:=ha;rfl
  rw[← hW]at hrow;dsimp only[List.drop];have g3:EG.cell? ⟨N+1,3,none⟩=some (.bool false):=by simp[World.cell?,hrow]
  have g4:EG.cell? ⟨N+1,4,none⟩=some (.int .i64 0):=by simp[World.cell?,hrow]
  have g6:EG.cell? ⟨N+1,6,none⟩=some (.int .i64 0):=by simp[World.cell?,hrow]
  have z3:EG.frozen? ⟨N+1,3,none⟩=false:=by simp[World.frozen?,hrow]
  have z4:EG.frozen? ⟨N+1,4,none⟩=false:=by simp[World.frozen?,hrow]
  have z6:EG.frozen? ⟨N+1,6,none⟩=false:=by simp[World.frozen?,hrow]
  have HR:=Lib.hid (zAI hrow hW);clear hrow hW;gi_wp2;refine⟨rfl,?_⟩;obtain⟨hrow,hW⟩:=HR.out;clear HR;have hf:∃W3:World,W3=((EG.setCell ⟨N+1,4,none⟩ (.int .i64 en)).setCell ⟨N+1,6,none⟩ (.int .i64 Im)):=⟨_,rfl⟩
  obtain⟨W3,hW3⟩:=hf;rw[← hW3];have hrow3:W3.heap[N+1]?=some (.cells #[.int .i64 0,.int .i64 0,.int .i64 0,.bool false,.int .i64 en,.int .i64 0,.int .i64 Im,.slice none 0 0,.slice none 0 0] 42 (0,0)):=by rw[hW3];simp[World.setCell,Array.getElem?_modify,hrow]
  have Gp:∀b,b≠N+1->W3.heap[b]?=W2.heap[b]?:=fun b hb=>by rw[hW3,← hW];simp[World.setCell,Array.getElem?_modify,hb.symm]
  have Jd:W3.heap.size=W2.heap.size:=by rw[hW3,← hW];simp[World.setCell]
  clear hW3 hrow hW g3 g4 g6 z3 z4 z6;show JL S.L (I.γ s2) _ W3;refine E5 ?_;cases hkk;refine EU stepG_inBlock ?_;obtain⟨hJ,hA2,hO3,hE,hown,hcore,JI⟩:=HH.out;exact Xc I hA2 hO3 hE hown hcore JI hJ hrow3 Gp Jd
theorem Afe(I:GJ S EK m 33)(hm:FI m ct cb n){s:I.St}{c:EP}{pv:Value}(hk:c.kind=2)(hA:I.At s σ W)(hS:I.Pf s σ c)(hL:I.Leaves cf fs)(hJ:∀s' σ' W' e,I.At s' σ' W'->I.On s W s' W'->I.End s' σ' (e,false)->e.ints=[]->JW S.base (I.γ s') (G (cf.finish (MN e (.slice none 0 0))) fs) W') :
  JW S.base (I.γ s) (G (Frame.enter Try.prog 95 #[.pointer (some ⟨ct,0,none⟩),I.wv,Gf c pv] .normal) (cf :: fs)) W:=by
 refine Qk I hA hS fun s1 W1 N hA1 HY hS1 hN NU q1 q2=>?_;generalize hw:I.wv=wv;generalize Gf c pv=cv;rw[hk];unfold dW;dsimp only;have hbl:∃c0,Yl=.block 0 c0/\c0=(match Yl with | .block _ c=>c | _=>.skip):=⟨_,rfl,rfl⟩
 obtain⟨c0,hc0,hc1⟩:=hbl;rw[hc0];refine EU stepG_block ?_;rw[hc1];simp only[Yl,Try.f95];refine EO ?_;refine E9 fun _ hkk=>?_;iterate 2(refine ET ?_;walk_nrm)
 refine E5 ?_;cases hkk;refine JL.EX rfl ?_;refine EO ?_;refine E9 fun _ hkk=>?_;iterate 2(refine ET ?_;walk_nrm)
 refine E5 ?_;cases hkk;refine JL.F3 rfl ?_;refine E9 fun _ hkk=>?_;iterate 3(refine ET ?_;walk_nrm)
 refine Fp.read (S:=S) (ad:=⟨N,1,none⟩) (.int .i64 c.a) rfl rfl nE (by simp[World.cell?,q1]) (fun w h=>by go_simp) (fun w h e he=>by simp[go_sem,h]at he;exact he) ?_;walk_nrm
 (refine ET ?_;walk_nrm)
 refine Fp.read (S:=S) (ad:=⟨N,2,none⟩) (.int .i64 c.b) rfl rfl nE (by simp[World.cell?,q1]) (fun w h=>by go_simp) (fun w h e he=>by simp[go_sem,h]at he;exact he) ?_;walk_nrm;refine JL.enter rfl rfl nE rfl Try.func9 zKR zKR ?_;walk_nrm;rw[← hw];refine Qq I hm hk hA1 (I.NI hS1 (by simp[EK,hk])) (I.pop Try.func95 hL) fun s2 σ2 W2 e hA2 hO2 hE he=>?_;rw[Frame.finish_at];rw[hw];obtain⟨O6,en,em,Im,MH⟩:=e;simp only at he ⊢;have hrow:W2.heap[N+1]?=_:=((hO2.kept _ hN).2).trans q2;have hO3:=HY.trans hO2;have hown:I.own s2 (N+1):=I.Gm hA2 (hO2.kept _ hN).1;have hcore:¬ I.core s2 (N+1):=fun h=>NU.2.1 ((hO2.core _).1 h);have JI:=NU.2.2;show JL S.L (I.γ s2) _ W2;walk_nrm;obtain⟨rfl,rfl,rfl,rfl⟩:=he;have HH:=Lib.hid (zAI hJ (zAI hA2 (zAI hO3 (zAI hE (zAI hown (zAI hcore JI))))))
 clear hJ hA2 hO3 hE hown hcore JI NU hN hA1 HY hS1 hA hS hO2 q1 q2;refine Fp.Gs (S:=S) (b:=base 95) 7 [] (by simp) zKR nE rfl zKR fun EG ha=>?_;have hW:EG.heap=W2.heap:=by obtain⟨τ,d,rfl⟩:=ha;rfl
 rw[← hW]at hrow;dsimp only[List.drop];have g3:EG.cell? ⟨N+1,3,none⟩=some (.bool false):=by simp[World.cell?,hrow]
 have g4:EG.cell? ⟨N+1,4,none⟩=some (.int .i64 0):=by simp[World.cell?,hrow]
 have g6:EG.cell? ⟨N+1,6,none⟩=some (.int .i64 0):=by simp[World.cell?,hrow]
 have z3:EG.frozen? ⟨N+1,3,none⟩=false:=by simp[World.frozen?,hrow]
 have z4:EG.frozen? ⟨N+1,4,none⟩=false:=by simp[World.frozen?,hrow]
 have z6:EG.frozen? ⟨N+1,6,none⟩=false:=by simp[World.frozen?,hrow]
 have HR:=Lib.hid (zAI hrow hW);clear hrow hW;gi_wp2;refine⟨rfl,?_⟩;obtain⟨hrow,hW⟩:=HR.out;clear HR;have hf:∃W3:World,W3=(EG.setCell ⟨N+1,6,none⟩ (.int .i64 Im)):=⟨_,rfl⟩
 obtain⟨W3,hW3⟩:=hf;rw[← hW3];have hrow3:W3.heap[N+1]?=some (.cells #[.int .i64 0,.int .i64 0,.int .i64 0,.bool false,.int .i64 0,.int .i64 0,.int .i64 Im,.slice none 0 0,.slice none 0 0] 42 (0,0)):=by rw[hW3];simp[World.setCell,Array.getElem?_modify,hrow]
 have Gp:∀b,b≠N+1->W3.heap[b]?=W2.heap[b]?:=fun b hb=>by rw[hW3,← hW];simp[World.setCell,Array.getElem?_modify,hb.symm]
 have Jd:W3.heap.size=W2.heap.size:=by rw[hW3,← hW];simp[World.setCell]
 clear hW3 hrow hW g3 g4 g6 z3 z4 z6;show JL S.L (I.γ s2) _ W3;refine E5 ?_;cases hkk;refine EU stepG_inBlock ?_;obtain⟨hJ,hA2,hO3,hE,hown,hcore,JI⟩:=HH.out;exact Xc I hA2 hO3 hE hown hcore JI hJ hrow3 Gp Jd
theorem Agg(I:GJ S EK m 33)(hm:FI m ct cb n){s:I.St}{c:EP}{pv:Value}(hk:c.kind=5)(hA:I.At s σ W)(hS:I.Pf s σ c)(hL:I.Leaves cf fs)(hJ:∀s' σ' W' e,I.At s' σ' W'->I.On s W s' W'->I.End s' σ' (e,false)->e.ints=[]->JW S.base (I.γ s') (G (cf.finish (MN e (.slice none 0 0))) fs) W') :
  JW S.base (I.γ s) (G (Frame.enter Try.prog 95 #[.pointer (some ⟨ct,0,none⟩),I.wv,Gf c pv] .normal) (cf :: fs)) W:=by
 refine Qk I hA hS fun s1 W1 N hA1 HY hS1 hN NU q1 q2=>?_;generalize hw:I.wv=wv;generalize Gf c pv=cv;rw[hk];unfold dW;dsimp only;have hbl:∃c0,Yl=.block 0 c0/\c0=(match Yl with | .block _ c=>c | _=>.skip):=⟨_,rfl,rfl⟩
 obtain⟨c0,hc0,hc1⟩:=hbl;rw[hc0];refine EU stepG_block ?_;rw[hc1];simp only[Yl,Try.f95];refine EO ?_;refine E9 fun _ hkk=>?_;iterate 2(refine ET ?_;walk_nrm)
 refine E5 ?_;cases hkk;refine JL.EX rfl ?_;refine EO ?_;refine E9 fun _ hkk=>?_;iterate 2(refine ET ?_;walk_nrm)
 refine E5 ?_;cases hkk;refine JL.EX rfl ?_;refine EO ?_;refine E9 fun _ hkk=>?_;iterate 2(refine ET ?_;walk_nrm)
 refine E5 ?_;cases hkk;refine JL.EX rfl ?_;refine EO ?_;refine E9 fun _ hkk=>?_;iterate 2(refine ET ?_;walk_nrm)
 refine E5 ?_;cases hkk;refine JL.EX rfl ?_;refine EO ?_;refine E9 fun _ hkk=>?_;iterate 2(refine ET ?_;walk_nrm)
 refine E5 ?_;cases hkk;refine JL.F3 rfl ?_;refine E9 fun _ hkk=>?_;iterate 3(refine ET ?_;walk_nrm)
 refine Fp.read (S:=S) (ad:=⟨N,1,none⟩) (.int .i64 c.a) rfl rfl nE (by simp[World.cell?,q1]) (fun w h=>by go_simp) (fun w h e he=>by simp[go_sem,h]at he;exact he) ?_;walk_nrm
 (refine ET ?_;walk_nrm)
 refine Fp.read (S:=S) (ad:=⟨N,2,none⟩) (.int .i64 c.b) rfl rfl nE (by simp[World.cell?,q1]) (fun w h=>by go_simp) (fun w h e he=>by simp[go_sem,h]at he;exact he) ?_;walk_nrm
 (refine ET ?_;walk_nrm)
 refine Fp.read (S:=S) (ad:=⟨N,3,none⟩) (.int .i64 c.c) rfl rfl nE (by simp[World.cell?,q1]) (fun w h=>by go_simp) (fun w h e he=>by simp[go_sem,h]at he;exact he) ?_;walk_nrm;refine JL.enter rfl rfl nE rfl Try.func21 zKR zKR ?_;walk_nrm;rw[← hw];refine YE I hm hk hA1 (I.NI hS1 (by simp[EK,hk])) (I.pop Try.func95 hL) fun s2 σ2 W2 e hA2 hO2 hE he=>?_;rw[Frame.finish_at];rw[hw];obtain⟨O6,en,em,Im,MH⟩:=e;simp only at he ⊢;have hrow:W2.heap[N+1]?=_:=((hO2.kept _ hN).2).trans q2;have hO3:=HY.trans hO2;have hown:I.own s2 (N+1):=I.Gm hA2 (hO2.kept _ hN).1;have hcore:¬ I.core s2 (N+1):=fun h=>NU.2.1 ((hO2.core _).1 h);have JI:=NU.2.2;show JL S.L (I.γ s2) _ W2;walk_nrm;iterate 3(refine ET ?_;walk_nrm)
 obtain⟨rfl,rfl,rfl⟩:=he;have HH:=Lib.hid (zAI hJ (zAI hA2 (zAI hO3 (zAI hE (zAI hown (zAI hcore JI))))));clear hJ hA2 hO3 hE hown hcore JI NU hN hA1 HY hS1 hA hS hO2 q1 q2;refine Fp.Gs (S:=S) (b:=base 95) 12 [] (by simp) zKR nE rfl zKR fun EG ha=>?_;have hW:EG.heap=W2.heap:=by obtain⟨τ,d,rfl⟩:=ha;rfl
 rw[← hW]at hrow;dsimp only[List.drop];have g3:EG.cell? ⟨N+1,3,none⟩=some (.bool false):=by simp[World.cell?,hrow]
 have g4:EG.cell? ⟨N+1,4,none⟩=some (.int .i64 0):=by simp[World.cell?,hrow]
 have g6:EG.cell? ⟨N+1,6,none⟩=some (.int .i64 0):=by simp[World.cell?,hrow]
 have z3:EG.frozen? ⟨N+1,3,none⟩=false:=by simp[World.frozen?,hrow]
 have z4:EG.frozen? ⟨N+1,4,none⟩=false:=by simp[World.frozen?,hrow]
 have z6:EG.frozen? ⟨N+1,6,none⟩=false:=by simp[World.frozen?,hrow]
 have HR:=Lib.hid (zAI hrow hW);clear hrow hW;gi_wp2;refine⟨rfl,?_⟩;obtain⟨hrow,hW⟩:=HR.out;clear HR;have hf:∃W3:World,W3=((EG.setCell ⟨N+1,3,none⟩ (.bool O6)).setCell ⟨N+1,6,none⟩ (.int .i64 Im)):=⟨_,rfl⟩
 obtain⟨W3,hW3⟩:=hf;rw[← hW3];have hrow3:W3.heap[N+1]?=some (.cells #[.int .i64 0,.int .i64 0,.int .i64 0,.bool O6,.int .i64 0,.int .i64 0,.int .i64 Im,.slice none 0 0,.slice none 0 0] 42 (0,0)):=by rw[hW3];simp[World.setCell,Array.getElem?_modify,hrow]
 have Gp:∀b,b≠N+1->W3.heap[b]?=W2.heap[b]?:=fun b hb=>by rw[hW3,← hW];simp[World.setCell,Array.getElem?_modify,hb.symm]
 have Jd:W3.heap.size=W2.heap.size:=by rw[hW3,← hW];simp[World.setCell]
 clear hW3 hrow hW g3 g4 g6 z3 z4 z6;show JL S.L (I.γ s2) _ W3;refine E5 ?_;cases hkk;refine EU stepG_inBlock ?_;obtain⟨hJ,hA2,hO3,hE,hown,hcore,JI⟩:=HH.out;exact Xc I hA2 hO3 hE hown hcore JI hJ hrow3 Gp Jd
theorem Aes(I:GJ S EK m 33)(hm:FI m ct cb n){s:I.St}{c:EP}{pv:Value}(hk:¬ (1<=c.kind/\c.kind<=7))(hA:I.At s σ W)(hS:I.Pf s σ c)(hL:I.Leaves cf fs)(hJ:∀s' σ' W' e,I.At s' σ' W'->I.On s W s' W'->I.End s' σ' (e,false)->e.ints=[]->JW S.base (I.γ s') (G (cf.finish (MN e (.slice none 0 0))) fs) W') :
  JW S.base (I.γ s) (G (Frame.enter Try.prog 95 #[.pointer (some ⟨ct,0,none⟩),I.wv,Gf c pv] .normal) (cf :: fs)) W:=by
 refine Qk I hA hS fun s1 W1 N hA1 HY hS1 hN NU q1 q2=>?_;generalize hw:I.wv=wv;generalize Gf c pv=cv;obtain⟨k,XF⟩:∃k,k=c.kind:=⟨_,rfl⟩
 rw[← XF];rw[← XF]at hk;unfold dW;dsimp only;have hbl:∃c0,Yl=.block 0 c0/\c0=(match Yl with | .block _ c=>c | _=>.skip):=⟨_,rfl,rfl⟩
 obtain⟨c0,hc0,hc1⟩:=hbl;rw[hc0];refine EU stepG_block ?_;rw[hc1];simp only[Yl,Try.f95];refine EO ?_;refine E9 fun _ hkk=>?_;iterate 2(refine ET ?_;walk_nrm)
 refine E5 ?_;cases hkk;refine JL.EX (by simp[Act.eval];omega) ?_;refine EO ?_;refine E9 fun _ hkk=>?_;iterate 2(refine ET ?_;walk_nrm)
 refine E5 ?_;cases hkk;refine JL.EX (by simp[Act.eval];omega) ?_;refine EO ?_;refine E9 fun _ hkk=>?_;iterate 2(refine ET ?_;walk_nrm)
 refine E5 ?_;cases hkk;refine JL.EX (by simp[Act.eval];omega) ?_;refine EO ?_;refine E9 fun _ hkk=>?_;iterate 2(refine ET ?_;walk_nrm)
 refine E5 ?_;cases hkk;refine JL.EX (by simp[Act.eval];omega) ?_;refine EO ?_;refine E9 fun _ hkk=>?_;iterate 2(refine ET ?_;walk_nrm)
 refine E5 ?_;cases hkk;refine JL.EX (by simp[Act.eval];omega) ?_;refine EO ?_;refine E9 fun _ hkk=>?_;iterate 2(refine ET ?_;walk_nrm)
 refine E5 ?_;cases hkk;refine JL.EX (by simp[Act.eval];omega) ?_;refine EO ?_;refine E9 fun _ hkk=>?_;iterate 2(refine ET ?_;walk_nrm)
 refine E5 ?_;cases hkk;refine JL.EX (by simp[Act.eval];omega) ?_;refine E9 fun _ hkk=>?_;have hE:=I.ends hS1 (e:=({ err:=40 },false)) (by simp only[EK];rw[if_neg zOM,if_neg zOM,if_neg zOM]);have hA2:=hA1;have hO2:=GJ.On.refl I s1 W1;have hrow:W1.heap[N+1]?=_:=((hO2.kept _ hN).2).trans q2;have hO3:=HY.trans hO2;have hown:I.own s1 (N+1):=I.Gm hA2 (hO2.kept _ hN).1;have hcore:¬ I.core s1 (N+1):=fun h=>NU.2.1 ((hO2.core _).1 h);have JI:=NU.2.2;show JL S.L (I.γ s1) _ W1;have HH:=Lib.hid (zAI hJ (zAI hA2 (zAI hO3 (zAI hE (zAI hown (zAI hcore JI))))));clear hJ hA2 hO3 hE hown hcore JI NU hN hA1 HY hS1 hA hS hO2 q1 q2 XF;refine Fp.Gs (S:=S) (b:=base 95) 0 [] (by simp) zKR nE rfl zKR fun EG ha=>?_;have hW:EG.heap=W1.heap:=by obtain⟨τ,d,rfl⟩:=ha;rfl
 rw[← hW]at hrow;dsimp only[List.drop];have g3:EG.cell? ⟨N+1,3,none⟩=some (.bool false):=by simp[World.cell?,hrow]
 have g4:EG.cell? ⟨N+1,4,none⟩=some (.int .i64 0):=by simp[World.cell?,hrow]
 have g6:EG.cell? ⟨N+1,6,none⟩=some (.int .i64 0):=by simp[World.cell?,hrow]
 have z3:EG.frozen? ⟨N+1,3,none⟩=false:=by simp[World.frozen?,hrow]
 have z4:EG.frozen? ⟨N+1,4,none⟩=false:=by simp[World.frozen?,hrow]
 have z6:EG.frozen? ⟨N+1,6,none⟩=false:=by simp[World.frozen?,hrow]
 have HR:=Lib.hid (zAI hrow hW);clear hrow hW;gi_wp2;refine⟨rfl,?_⟩;obtain⟨hrow,hW⟩:=HR.out;clear HR;have hf:∃W3:World,W3=(EG.setCell ⟨N+1,6,none⟩ (.int .i64 40)):=⟨_,rfl⟩
 obtain⟨W3,hW3⟩:=hf;rw[← hW3];have hrow3:W3.heap[N+1]?=some (.cells #[.int .i64 0,.int .i64 0,.int .i64 0,.bool false,.int .i64 0,.int .i64 0,.int .i64 40,.slice none 0 0,.slice none 0 0] 42 (0,0)):=by rw[hW3];simp[World.setCell,Array.getElem?_modify,hrow]
 have Gp:∀b,b≠N+1->W3.heap[b]?=W1.heap[b]?:=fun b hb=>by rw[hW3,← hW];simp[World.setCell,Array.getElem?_modify,hb.symm]
 have Jd:W3.heap.size=W1.heap.size:=by rw[hW3,← hW];simp[World.setCell]
 clear hW3 hrow hW g3 g4 g6 z3 z4 z6;show JL S.L (I.γ s1) _ W3;refine E5 ?_;cases hkk;refine EU stepG_inBlock ?_;refine Fp.Fz (S:=S) (b:=base 95) [] (by simp) zKR nE zKR fun W4 aW=>?_;have UY:W4.heap=W3.heap:=by obtain⟨τ,d,rfl⟩:=aW;rfl
 rw[← UY]at hrow3;simp only[← UY]at Gp Jd;have c0:W4.cell? ⟨N+1,0,none⟩=some (.int .i64 0):=by simp[World.cell?,hrow3]
 have c1:W4.cell? ⟨N+1,1,none⟩=some (.int .i64 0):=by simp[World.cell?,hrow3]
 have c2:W4.cell? ⟨N+1,2,none⟩=some (.int .i64 0):=by simp[World.cell?,hrow3]
 have c3:W4.cell? ⟨N+1,3,none⟩=some (.bool false):=by simp[World.cell?,hrow3]
 have c4:W4.cell? ⟨N+1,4,none⟩=some (.int .i64 0):=by simp[World.cell?,hrow3]
 have c5:W4.cell? ⟨N+1,5,none⟩=some (.int .i64 0):=by simp[World.cell?,hrow3]
 have c6:W4.cell? ⟨N+1,6,none⟩=some (.int .i64 40):=by simp[World.cell?,hrow3]
 have c7:W4.cell? ⟨N+1,7,none⟩=some (.slice none 0 0):=by simp[World.cell?,hrow3]
 have c8:W4.cell? ⟨N+1,8,none⟩=some (.slice none 0 0):=by simp[World.cell?,hrow3]
 have zz:∀o,W4.frozen? ⟨N+1,o,none⟩=false:=fun o=>by simp[World.frozen?,hrow3]
 have z0:=zz 0;have z1:=zz 1;have z2:=zz 2;have z3:=zz 3;have z4:=zz 4;have z5:=zz 5;have z6:=zz 6;have z7:=zz 7;have z8:=zz 8;clear zz;have HR:=Lib.hid (zAI hrow3 (zAI Gp Jd));clear hrow3 Gp Jd UY;have hfin:RowKit.Hid (∀W5 tm,W5.heap[N+1]?=some (.cells #[.int .i64 0,.int .i64 0,.int .i64 0,.bool false,.int .i64 0,.int .i64 0,.int .i64 40,.slice none 0 0,.slice none 0 0] 42 (0,0))->(∀b,b≠N+1->W5.heap[b]?=W4.heap[b]?)->W5.heap.size=W4.heap.size->tm.getD 6 undef=.pointer (some ⟨N+1,0,none⟩)->
   aC S (I.γ s1) (base 95) [] [] (cf :: fs) .ret ⟨tm,[]⟩ W5):=Lib.hid fun W5 tm h1 h2 h3 h4 Y=>by
  obtain⟨hJ,hA2,hO3,hE,hown,hcore,JI⟩:=HH.out;obtain⟨_,Gp,Jd⟩:=HR.out;obtain⟨X7,UW⟩:=I.write hA2 hO3 hown hcore JI ⟨_,_,_,h1⟩ (fun b hb=>(h2 b hb).trans (Gp b hb)) (h3.trans Jd);exact Yz Try.func95 (Kw Try.results95 h4 h1 Try.underlying42 rfl zKR) (hJ s1 σ W5 _ X7 UW hE rfl)
 clear HH;simp only[do3,Try.f95];gi_wp2;obtain⟨hrow3,_,_⟩:=HR.out;clear HR;exact hfin.out _ _ (by simp[World.setCell,Array.getElem?_modify,hrow3]) (fun b hb=>by simp[World.setCell,Array.getElem?_modify,hb.symm]) (by simp[World.setCell]) rfl
theorem kr(I:GJ S EK m 33)(hm:FI m ct cb n){s:I.St}{c:EP}{pv:Value}(hA:I.At s σ W)(hS:I.Pf s σ c)(hL:I.Leaves cf fs)(hJ:∀s' σ' W' e,I.At s' σ' W'->I.On s W s' W'->I.End s' σ' (e,false)->e.ints=[]->JW S.base (I.γ s') (G (cf.finish (MN e (.slice none 0 0))) fs) W') :
   JW S.base (I.γ s) (G (Frame.enter Try.prog 95 #[.pointer (some ⟨ct,0,none⟩),I.wv,Gf c pv] .normal) (cf :: fs)) W:=by
 by_cases h:1<=c.kind/\c.kind<=7
 . obtain h | h | h | h | h | h | h:c.kind=1\/c.kind=2\/c.kind=3\/c.kind=4\/c.kind=5\/c.kind=6\/c.kind=7:=by omega
   . exact bG I hm (.inl h) hA hS hL hJ
   . exact Afe I hm h hA hS hL hJ
   . exact bG I hm (.inr (.inl h)) hA hS hL hJ
   . exact bG I hm (.inr (.inr (.inl h))) hA hS hL hJ
   . exact Agg I hm h hA hS hL hJ
   . exact bG I hm (.inr (.inr (.inr (.inl h)))) hA hS hL hJ
   . exact bG I hm (.inr (.inr (.inr (.inr h)))) hA hS hL hJ
 . exact Aes I hm h hA hS hL hJ
end
end Go.Proofs.Ytdkfdedgfilhbaa
end
