/-
  Part 23 of the proof that CellMeets returns true, and leaves its arguments as they were, for every input whose reading is of bulk at most 1048576. No further condition.
-/
import Derived.Test.YticecinjcajmcaaR00
import Derived.Test.YticecinjcajmcaaR16
import Derived.Test.YticecinjcajmcaaR18
import Derived.Test.YticecinjcajmcaaR20
import Derived.Test.YticecinjcajmcaaR22
import Derived.Conc.WgGenN3
import Derived.Test.YticecinjcajmcaaProg
import Derived.Conc.WgLib
import Derived.BigRegionIn
import Derived.Conc.SmallLaws
set_option linter.unusedVariables false
set_option linter.unusedSectionVars false
set_option linter.unusedSimpArgs false
set_option maxHeartbeats 8000000
set_option maxRecDepth 100000
noncomputable section
namespace Go.LK
open Go Go.Conc Go.LT Go.LC Go.Conc.Lib Go.ConcR.Gen Go.RowKit
open Go.ConcN (WgLive sumTo upd sumTo_upd upd_ne upd_same)
open Go.ConcR (KK wgBlock WgAt stA smA rd wr mk)
section
section
variable {P:Program}{L:WgLink}{Γ:Type}{S:Ou P true Γ}{γ:Γ}{Gd:World->Prop}
variable {ρ:Rn}{W:World}{n:Nat}{b₀:Frame}{a₀:Act}{ops₀:Array Oper}{i₀:Nat}{rest₀:List Nat}{k₀:List Item}{cs:List Frame}
theorem yP {Γ:Type}{γ:Γ}{S:Ou P true Γ}{b:Frame}{a:Act}{it:Item}{k:List Item}(h:∀ k',XM k k'->JL S γ (G (b.at a (it :: k')) cs) W):JL S γ (G (b.at a (it :: k)) cs) W:=h k .mk
theorem waitLoop (H:WgLib P L)(hT:∀ W',Gd W'->JL S γ (G (b₀.at (a₀.put ((ops₀[i₀]?).bind (·.dst)) (.tuple #[])) (.inRegion ops₀ rest₀ :: k₀)) cs) W') :
    ∀ v,∀ T:Array Value,T.size=84->T[0]?=some (.pointer (some ⟨ρ.Wg,0,none⟩))->JL (Qi P ρ.ty ρ.Wg n (Qd S γ Gd)) (.loop v) (G ((base L.wait).at ⟨T,[]⟩ [.code (L7 L),.inLoop (L7 L),.inBlock 0]) (b₀.at a₀ (.inRegion ops₀ (i₀ :: rest₀) :: k₀) :: cs)) W:=by
  intro v;induction v using Nat.strongRecOn with
  | _ v ih=>
  intro T hT84 t0
  lib_facts
  obtain ⟨v0,v1,v2,v3,v4,v5,v6,v7,v8,v9,Aa,Ab,Ac,Ae,Af,Ah,Ai,Aj,Ak,Al,Am,Ao,Ap,Ar,Au,Av,Aw,Ay,Az,AA,AB,AJ,AL,AO,AP,AQ,AU,AV,AX,AY,AZ,A8,A9,Ba,Bb,Bc,Bf,Bh,Bj,Bl,Bp,Bq,Br,Bu,Bv,Bw,Bz,BD,BF,BG,BH,BI,BJ,BK,BL,BM,BN,BO,BP,BQ,BR,BS,BU,BX,BZ,Ca,Cb,Cc,Ce,Cg,Ci,Cj,Ck,Cm,rfl⟩:=array84 T hT84;simp only [List.getElem?_toArray,List.getElem?_cons_zero,Option.some.injEq] at t0;subst t0;clear hT84;refine yP fun K hK=>?_;simp only [L7,body_wait,waitFn,Option.getD_some];refine Er stepG_block ?_;refine Ei ?_;refine EH fun _ hkk=>?_;iterate 3 (refine Eo ?_;walk_nrm)
  refine JL.call rfl rfl (by first|exact Zh|exact bJ|decide|assumption) rfl H.f_uLoad (nm_uLoad L) rfl ?_;walk_nrm;simp only [uLoadFn];walk_nrm;refine Ei ?_;refine EH fun _ hkk=>?_
  (refine Eo ?_;walk_nrm)
  refine EB ?_;cases hkk;refine Ei ?_;refine EH fun _ hkk=>?_;iterate 3 (refine Eo ?_;walk_nrm)
  apply JT.load rfl
  . intro w v' hv' hw;exact stepG_load_atomic (v:=(v':Int) * KK) rfl rfl (by k_ne) rfl H.f_loadU64 (x_loadU64_n L) (x_loadU64_b L) (x_loadU64_x L) .u64 (x_loadU64_f L) rfl (show w.cell? (stA ρ.Wg)=_ from hw.cellSt)
  ·
    have z:((0:Nat):Int) * KK=0:=by simp
    simp only [z];walk_nrm
    (refine Eo ?_;walk_nrm)
    refine EB ?_;cases hkk;refine Er stepG_ret' ?_;refine JL.leave1 rfl rfl H.f_uLoad rfl ?_;walk_nrm
    (refine Eo ?_;walk_nrm)
    refine EB ?_;cases hkk;refine Ei ?_;refine EH fun _ hkk=>?_;iterate 4 (refine Eo ?_;walk_nrm)
    refine EB ?_;cases hkk;refine Ei ?_;refine EH fun _ hkk=>?_;iterate 4 (refine Eo ?_;walk_nrm)
    refine EB ?_;cases hkk;refine Ei ?_;refine Ei ?_;refine EH fun _ hkk=>?_;iterate 2 (refine Eo ?_;walk_nrm)
    refine EB ?_;cases hkk;refine JL.Fz rfl ?_;refine Ei ?_;refine JL.Fz rfl ?_;refine Ei ?_;refine EH fun _ hkk=>?_;refine JT.en rfl (fun w=>stepG_mark0 .enable (by simp) rfl rfl (by k_ne) rfl H.f_enable (x_enable_n L) (x_enable_b L) (x_enable_x L) (x_enable_f L)) ?_;walk_nrm;refine EB ?_;cases hkk;refine EH fun _ hkk=>?_
    (refine Eo ?_;walk_nrm)
    refine JL.value (.pointer (some ⟨ρ.Wg,0,none⟩)) rfl rfl (by k_ne) (fun w hl=>by
      have hcv:=run_convert_to_unsafe (P:=P) H.underlying_tWgP H.underlying_tUP H.room_tWg (ConcN.Gen.WgLive.cell0 (show WgLive ρ.ty ρ.Wg w from hl)).choose_spec;go_simp) (fun w hl e he=>by
      have hce:=fun es=>events_convert_to_unsafe (P:=P) H.underlying_tWgP H.underlying_tUP H.room_tWg (ConcN.Gen.WgLive.cell0 (show WgLive ρ.ty ρ.Wg w from hl)).choose_spec es;simp [go_sem,hce] at he) ?_
    walk_nrm;refine JT.heard rfl (fun w _=>stepG_markAt .acquire (by simp) rfl rfl (by k_ne) rfl H.f_acquire (x_acquire_n L) (x_acquire_b L) (x_acquire_x L) (x_acquire_f L) (by simp [Act.eval])) fun W' hW'=>?_;walk_nrm;refine EB ?_;cases hkk;refine Ei ?_;refine Ei ?_;refine EH fun _ hkk=>?_;iterate 8 (refine Eo ?_;walk_nrm)
    refine Er (stepG_unwanted rfl rfl) ?_;walk_nrm;refine Er (stepG_unwanted rfl rfl) ?_;walk_nrm
    (refine Eo ?_;walk_nrm)
    refine EB ?_;cases hkk;refine JL.Ey rfl ?_;refine Er stepG_skip ?_;refine Er stepG_ret' ?_;refine JL.leave0 rfl rfl H.f_wait rfl ?_;exact hT W' hW'
  . intro v' hle hne hv';obtain ⟨S,hS⟩:∃ S:Int,(v':Int) * KK=S:=⟨_,rfl⟩
    have a1:S / 4294967296=(v':Int):=by rw [← hS];simp only [KK];omega
    have b1:bits .and .u64 S 2147483648=0:=by rw [← hS];have:=ConcN.st_flag v' 0 zOM zOM;simpa [KK] using this
    have b2:bits .and .u64 S 2147483647=0:=by rw [← hS];have:=ConcN.st_waiters v' 0 zOM zOM;simpa [KK] using this
    have c1:IntKind.i32.wrap (v':Int)=(v':Int):=by rw [IntKind.wrap_i32];omega
    have w1:IntKind.u64.wrap (S+1)=S+1:=by rw [IntKind.wrap_u64,← hS];simp only [KK];omega
    have q3:decide ((v':Int) < 0)=false:=decide_eq_false zOM;have q4:decide (0 < (v':Int))=true:=decide_eq_true zOM;have q5:((v':Int) == 0)=false:=by simp;omega
    have q6:decide ((v':Int)=0)=false:=decide_eq_false zOM;simp only [hS];walk_nrm
    (refine Eo ?_;walk_nrm)
    refine EB ?_;cases hkk;refine Er stepG_ret' ?_;refine JL.leave1 rfl rfl H.f_uLoad rfl ?_;walk_nrm
    (refine Eo ?_;walk_nrm)
    refine EB ?_;cases hkk;refine Ei ?_;refine EH fun _ hkk=>?_;iterate 4 (refine Eo ?_;walk_nrm)
    refine EB ?_;cases hkk;refine Ei ?_;refine EH fun _ hkk=>?_;iterate 4 (refine Eo ?_;walk_nrm)
    refine EB ?_;cases hkk;refine Ei ?_;refine Ei ?_;refine EH fun _ hkk=>?_;iterate 2 (refine Eo ?_;walk_nrm)
    refine EB ?_;cases hkk;refine JL.Ey rfl ?_;refine Er stepG_skip ?_;refine Ei ?_;refine EH fun _ hkk=>?_;iterate 6 (refine Eo ?_;walk_nrm)
    refine JL.call rfl rfl (by first|exact Zh|exact bJ|decide|assumption) rfl H.f_uCas (nm_uCas L) rfl ?_;walk_nrm;simp only [uCasFn];walk_nrm;refine Ei ?_;refine EH fun _ hkk=>?_
    (refine Eo ?_;walk_nrm)
    refine EB ?_;cases hkk;refine Ei ?_;refine EH fun _ hkk=>?_;iterate 5 (refine Eo ?_;walk_nrm)
    apply JT.cas rfl hne
    . intro w hw;rw [hS] at hw ⊢;exact (stepG_cas_hit (v:=S) (n:=S+1) rfl rfl (by k_ne) rfl H.f_casU64 (x_casU64_n L) (x_casU64_b L) (x_casU64_x L) .u64 (x_casU64_f L) rfl rfl rfl (show w.cell? (stA ρ.Wg)=_ from hw.cellSt) (hw.thaw 0)).trans (by rfl)
    . intro w v'' hlt hw;exact stepG_cas_miss (v:=(v'':Int) * KK) (old:=S) (n:=S+1) rfl rfl (by k_ne) rfl H.f_casU64 (x_casU64_n L) (x_casU64_b L) (x_casU64_x L) .u64 (x_casU64_f L) rfl rfl rfl (show w.cell? (stA ρ.Wg)=_ from hw.cellSt) (hw.thaw 0) (by rw [← hS];simp only [KK];omega)
    . walk_nrm
      (refine Eo ?_;walk_nrm)
      refine EB ?_;cases hkk;refine Er stepG_ret' ?_;refine JL.leave1 rfl rfl H.f_uCas rfl ?_;walk_nrm;refine EB ?_;cases hkk;refine JL.Fz rfl ?_;refine Ei ?_;refine Ei ?_;refine EH fun _ hkk=>?_;iterate 4 (refine Eo ?_;walk_nrm)
      refine EB ?_;cases hkk;refine JL.Fz rfl ?_;refine EH fun _ hkk=>?_;iterate 3 (refine Eo ?_;walk_nrm)
      refine JL.value (.pointer (some ⟨ρ.Wg,1,none⟩)) rfl rfl (by k_ne) (fun w hl=>by
        have hcv:=run_convert_to_unsafe (P:=P) H.underlying_tPU32 H.underlying_tUP H.room_tU32 (ConcN.Gen.WgLive.cell1 (show WgLive ρ.ty ρ.Wg w from hl)).choose_spec;go_simp) (fun w hl e he=>by
        have hce:=fun es=>events_convert_to_unsafe (P:=P) H.underlying_tPU32 H.underlying_tUP H.room_tU32 (ConcN.Gen.WgLive.cell1 (show WgLive ρ.ty ρ.Wg w from hl)).choose_spec es;simp [go_sem,hce] at he) ?_
      walk_nrm;refine JT.said (VD ρ.Wg 1) (by simp) rfl (fun w _=>stepG_markAt .write (by simp) rfl rfl (by k_ne) rfl H.f_raceWrite (x_raceWrite_n L) (x_raceWrite_b L) (x_raceWrite_x L) (x_raceWrite_f L) (ad:=⟨ρ.Wg,1,none⟩) (by simp [Act.eval])) ?_;walk_nrm;refine EB ?_;cases hkk;refine Ei ?_;refine EH fun _ hkk=>?_
      (refine Eo ?_;walk_nrm)
      refine EB ?_;cases hkk;refine Ei ?_;refine Ei ?_;refine EH fun _ hkk=>?_;iterate 4 (refine Eo ?_;walk_nrm)
      refine Er (stepG_unwanted rfl rfl) ?_;walk_nrm
      (refine Eo ?_;walk_nrm)
      refine EB ?_;cases hkk;refine JL.Ey rfl ?_;refine Er stepG_skip ?_;refine Ei ?_;refine EH fun _ hkk=>?_;iterate 4 (refine Eo ?_;walk_nrm)
      apply JT.acq rfl rfl
      . rintro w ⟨st,hw⟩;exact stepG_semacquire_wait rfl rfl rfl H.f_semacquire (x_semacquire_n L) (x_semacquire_b L) (x_semacquire_x L) (x_semacquire_f L) (by simp [Act.eval,smA]) hw.cellSm
      . intro w hf;exact (stepG_semacquire (n:=1) rfl rfl (by k_ne) rfl H.f_semacquire (x_semacquire_n L) (x_semacquire_b L) (x_semacquire_x L) (x_semacquire_f L) (by simp [Act.eval,smA]) hf.cellSm (by k_ne) (hf.thaw 1)).trans (by rfl)
      walk_nrm;refine EB ?_;cases hkk;refine Ei ?_;refine EH fun _ hkk=>?_;iterate 3 (refine Eo ?_;walk_nrm)
      refine JL.call rfl rfl (by first|exact Zh|exact bJ|decide|assumption) rfl H.f_uLoad (nm_uLoad L) rfl ?_;walk_nrm;simp only [uLoadFn];walk_nrm;refine Ei ?_;refine EH fun _ hkk=>?_
      (refine Eo ?_;walk_nrm)
      refine EB ?_;cases hkk;refine Ei ?_;refine EH fun _ hkk=>?_;iterate 3 (refine Eo ?_;walk_nrm)
      apply JT.last rfl
      . intro w hw;exact stepG_load_atomic (v:=0) rfl rfl (by k_ne) rfl H.f_loadU64 (x_loadU64_n L) (x_loadU64_b L) (x_loadU64_x L) .u64 (x_loadU64_f L) rfl (show w.cell? (stA ρ.Wg)=_ from hw.cellSt)
      walk_nrm
      (refine Eo ?_;walk_nrm)
      refine EB ?_;cases hkk;refine Er stepG_ret' ?_;refine JL.leave1 rfl rfl H.f_uLoad rfl ?_;walk_nrm;iterate 2 (refine Eo ?_;walk_nrm)
      refine EB ?_;cases hkk;refine Ei ?_;refine JL.Fz rfl ?_;refine Ei ?_;refine EH fun _ hkk=>?_;refine JT.en rfl (fun w=>stepG_mark0 .enable (by simp) rfl rfl (by k_ne) rfl H.f_enable (x_enable_n L) (x_enable_b L) (x_enable_x L) (x_enable_f L)) ?_;walk_nrm;refine EB ?_;cases hkk;refine EH fun _ hkk=>?_
      (refine Eo ?_;walk_nrm)
      refine JL.value (.pointer (some ⟨ρ.Wg,0,none⟩)) rfl rfl (by k_ne) (fun w hl=>by
        have hcv:=run_convert_to_unsafe (P:=P) H.underlying_tWgP H.underlying_tUP H.room_tWg (ConcN.Gen.WgLive.cell0 (show WgLive ρ.ty ρ.Wg w from hl)).choose_spec;go_simp) (fun w hl e he=>by
        have hce:=fun es=>events_convert_to_unsafe (P:=P) H.underlying_tWgP H.underlying_tUP H.room_tWg (ConcN.Gen.WgLive.cell0 (show WgLive ρ.ty ρ.Wg w from hl)).choose_spec es;simp [go_sem,hce] at he) ?_
      walk_nrm;refine JT.heard rfl (fun w _=>stepG_markAt .acquire (by simp) rfl rfl (by k_ne) rfl H.f_acquire (x_acquire_n L) (x_acquire_b L) (x_acquire_x L) (x_acquire_f L) (by simp [Act.eval])) fun W' hW'=>?_;walk_nrm;refine EB ?_;cases hkk;refine Ei ?_;refine Ei ?_;refine EH fun _ hkk=>?_
      (refine Eo ?_;walk_nrm)
      refine EB ?_;cases hkk;refine JL.Ey rfl ?_;refine Er stepG_skip ?_;refine Er stepG_ret' ?_;refine JL.leave0 rfl rfl H.f_wait rfl ?_;exact hT W' hW'
    . intro v'' hlt;walk_nrm
      (refine Eo ?_;walk_nrm)
      refine EB ?_;cases hkk;refine Er stepG_ret' ?_;refine JL.leave1 rfl rfl H.f_uCas rfl ?_;walk_nrm;refine EB ?_;cases hkk;refine JL.Ey rfl ?_;refine Er stepG_skip ?_;refine Er stepG_inBlock ?_;cases hK
      refine Er stepG_inLoop ?_;exact ih v'' zOM _ rfl rfl
end
end
end Go.LK
namespace Go.Proofs.Yticecinjcajmcaa
open Go
abbrev link:Go.Conc.Lib.WgLink:={ add:=30,done:=32,wait:=35,relMerge:=45,disable:=46,enable:=47,inBubble:=48,associate:=49,fatal:=50,uOr:=51,uAdd:=52,raceRead:=53,uLoad:=54,uStore:=55,disassociate:=56,semrelease:=57,acquire:=65,isAssociated:=66,uCas:=67,raceWrite:=68,semacquire:=69,orU64:=73,addU64:=74,loadU64:=75,storeU64:=76,casU64:=81,tWgP:=107,tUP:=109,tAssoc:=110,tWg:=89,tAU:=86,tU64:=84,tUint:=114,tU32:=87,tPU32:=115,tPAU:=137,tPU64:=139,tNoCopy:=83,tANoCopy:=75,tAlign64:=76 }
theorem dF:Go.Conc.Lib.WgLib Try.prog link:=
  ⟨Try.func30,Try.func32,Try.func35,Try.func45,Try.func46,Try.func47,Try.func48,Try.func49,Try.func50,Try.func51,Try.func52,Try.func53,Try.func54,Try.func55,Try.func56,Try.func57,Try.func65,Try.func66,Try.func67,Try.func68,Try.func69,Try.func73,Try.func74,Try.func75,Try.func76,Try.func81,Try.underlying107,Try.runUnderlying107,Try.sizeOf107,Try.isAgg107,Try.zeroValue107,Try.underlying109,Try.runUnderlying109,Try.sizeOf109,Try.isAgg109,Try.zeroValue109,Try.underlying110,Try.runUnderlying110,Try.sizeOf110,Try.isAgg110,Try.zeroValue110,Try.underlying89,Try.runUnderlying89,Try.sizeOf89,Try.isAgg89,Try.zeroValue89,Try.underlying86,Try.runUnderlying86,Try.sizeOf86,Try.isAgg86,Try.zeroValue86,Try.underlying84,Try.runUnderlying84,Try.sizeOf84,Try.isAgg84,Try.zeroValue84,Try.underlying114,Try.runUnderlying114,Try.sizeOf114,Try.isAgg114,Try.zeroValue114,Try.underlying87,Try.runUnderlying87,Try.sizeOf87,Try.isAgg87,Try.zeroValue87,Try.underlying115,Try.runUnderlying115,Try.sizeOf115,Try.isAgg115,Try.zeroValue115,Try.underlying137,Try.runUnderlying137,Try.sizeOf137,Try.isAgg137,Try.zeroValue137,Try.underlying139,Try.runUnderlying139,Try.sizeOf139,Try.isAgg139,Try.zeroValue139,Try.underlying0,Try.runUnderlying0,Try.sizeOf0,Try.isAgg0,Try.zeroValue0,Try.underlying3,Try.runUnderlying3,Try.sizeOf3,Try.isAgg3,Try.zeroValue3,Try.underlying4,Try.runUnderlying4,Try.sizeOf4,Try.isAgg4,Try.zeroValue4,Try.underlying9,Try.runUnderlying9,Try.sizeOf9,Try.isAgg9,Try.zeroValue9,Try.underlying20,Try.runUnderlying20,Try.sizeOf20,Try.isAgg20,Try.zeroValue20,Try.underlying21,Try.runUnderlying21,Try.sizeOf21,Try.isAgg21,Try.zeroValue21,zKR,zKR⟩
end Go.Proofs.Yticecinjcajmcaa
namespace Go.LK
open Go Go.Conc Go.LT Go.LC Go.Conc.Lib Go.ConcR.Gen Go.RowKit
open Go.ConcN (WgLive sumTo upd sumTo_upd upd_ne upd_same)
open Go.ConcR (KK wgBlock WgAt stA smA rd wr mk)
section
section
variable {X Sg:Type}
variable {P:Program}{L:WgLink}{Fin:FE}{Ea:E5 P Fin}
variable {M:Md X Sg}{ρ:Rn}{ws:List (EK X)}{W:World}{ex n:Nat}{b:Frame}{a:Act}{ops:Array Oper}{i:Nat}{rest:List Nat}{k:List Item}{cs:List Frame}{o:Oper}
def W0 (L:WgLink):Code:=match body_wait L with | .seq c _=>c | _=>.skip
theorem YZ (L:WgLink):body_wait L=.seq (W0 L) (.block 0 (.loop (L7 L))):=rfl
theorem uN (H:WgLib P L){Γ:Type}{S:Ou P true Γ}{γ:Γ}{Gd:World->Prop}(hT:∀ W',Gd W'->JL S γ (G (b.at (a.put ((ops[i]?).bind (·.dst)) (.tuple #[])) (.inRegion ops rest :: k)) cs) W') :
    JL (Qi P ρ.ty ρ.Wg n (Qd S γ Gd)) .pre (G ((base L.wait).at ⟨#[.pointer (some ⟨ρ.Wg,0,none⟩)] ++ Array.replicate 83 undef,[]⟩ [.code (body_wait L)]) (b.at a (.inRegion ops (i :: rest) :: k) :: cs)) W:=by
  lib_facts
  rw [YZ];walk_nrm;refine Ei ?_;simp only [W0,body_wait,waitFn,Option.getD_some];refine JL.Fz rfl ?_;refine EH fun _ hkk=>?_;refine JT.Zd rfl (fun w=>stepG_mark0 .disable (by simp) rfl rfl (by k_ne) rfl H.f_disable (x_disable_n L) (x_disable_b L) (x_disable_x L) (x_disable_f L)) ?_;walk_nrm;refine EB ?_;cases hkk;refine Er stepG_block ?_;refine Er stepG_loop ?_;exact waitLoop H hT n _ rfl rfl
theorem J0.jh (H:WgLib P L)(hty:ρ.ty=L.tWg)(hcap:n+ex+1 < 2147483648){x y:Operand}{ats:Array TypeId}(ho:ops[i]?=some o)(hw:Region.wanted o (yielded ops a.tmps)=true)(hk:b.kind≠.early)(hop:o.op=.call { callee:=.value (.func L.add),args:=#[x,y],argTypes:=ats })(hx:a.eval x=.pointer (some ⟨ρ.Wg,0,none⟩))(hy:a.eval y=.int .i64 1)(hT:JL (eO (X:=X) (Sg:=Sg) P Fin Ea) (.Ev M ρ ws (ex+1) false n) (G (b.at (a.put ((ops[i]?).bind (·.dst)) (.tuple #[])) (.inRegion ops rest :: k)) cs) W) :
    JL (eO (X:=X) (Sg:=Sg) P Fin Ea) (.Ev M ρ ws ex false n) (G (b.at a (.inRegion ops (i :: rest) :: k)) cs) W:=by
  refine JL.call (c:=body_add L) ho hw hk hop H.f_add (nm_add L) rfl ?_;have hn:(addFn L).ntmps=117:=rfl;rw [hn];simp only [List.map_toArray,List.map_cons,List.map_nil,hx,hy,List.size_toArray,List.length_cons,List.length_nil,Nat.reduceAdd,Nat.reduceSub];exact add1 H hty hcap hT
theorem JT.Zw (H:WgLib P L){Γ:Type}{S:Ou P true Γ}{γ:Γ}{Gd:World->Prop}{x:Operand}{ats:Array TypeId}(ho:ops[i]?=some o)(hw:Region.wanted o (yielded ops a.tmps)=true)(hk:b.kind≠.early)(hop:o.op=.call { callee:=.value (.func L.wait),args:=#[x],argTypes:=ats })(hx:a.eval x=.pointer (some ⟨ρ.Wg,0,none⟩))(hT:∀ W',Gd W'->JL S γ (G (b.at (a.put ((ops[i]?).bind (·.dst)) (.tuple #[])) (.inRegion ops rest :: k)) cs) W') :
    JL (Qi P ρ.ty ρ.Wg n (Qd S γ Gd)) .pre (G (b.at a (.inRegion ops (i :: rest) :: k)) cs) W:=by
  refine JL.call (c:=body_wait L) ho hw hk hop H.f_wait (nm_wait L) rfl ?_;have hn:(waitFn L).ntmps=84:=rfl;rw [hn];simp only [List.map_toArray,List.map_cons,List.map_nil,hx,List.size_toArray,List.length_cons,List.length_nil,Nat.reduceAdd,Nat.reduceSub];exact uN H hT
end
end
end Go.LK
namespace Go.Proofs.Yticecinjcajmcaa
open Go Go.Conc Go.LT Go.LC Go.LK Go.RowKit
open Go.ConcN (WgLive)
section
def Rq:Code:=match Try.f19.body with | some (.seq _ (.seq _ c))=>c | _=>.skip
def rn0:Code:=match Try.f19.body with | some (.seq c _)=>c | _=>.skip
def rn1:Code:=match Try.f19.body with | some (.seq _ (.seq c _))=>c | _=>.skip
def wz:Code:=match Rq with | .seq c _=>c | _=>.skip
def wJ:Code:=match Rq with | .seq _ (.seq c _)=>c | _=>.skip
def vZ:Code:=match Rq with | .seq _ (.seq _ (.seq c _))=>c | _=>.skip
def wC:Code:=match Rq with | .seq _ (.seq _ (.seq _ (.seq (.seq c _) _)))=>c | _=>.skip
def QM:Code:=match Rq with | .seq _ (.seq _ (.seq _ (.seq (.seq _ (.block _ (.loop c))) _)))=>c | _=>.skip
def Oi:Code:=match Rq with | .seq _ (.seq _ (.seq _ (.seq _ c)))=>c | _=>.skip
theorem XP:Try.f19.body=some (.seq rn0 (.seq rn1 (.seq wz (.seq wJ (.seq vZ (.seq (.seq wC (.block 0 (.loop QM))) Oi)))))):=rfl
def rn8:Code:=match QM with | .seq c _=>c | _=>.skip
def zO:Code:=match QM with | .seq _ (.seq _ (.seq (.block _ (.seq c _)) _))=>c | _=>.skip
def jm:Code:=match QM with | .seq _ (.seq _ (.seq (.block _ (.seq _ (.seq c _))) _))=>c | _=>.skip
def iW:Code:=match QM with | .seq _ (.seq _ (.seq (.block _ (.seq _ (.seq _ (.seq c _)))) _))=>c | _=>.skip
def gV:Code:=match QM with | .seq _ (.seq _ (.seq (.block _ (.seq _ (.seq _ (.seq _ (.seq c _))))) _))=>c | _=>.skip
def ZJ:Code:=match QM with | .seq _ (.seq _ (.seq (.block _ (.seq _ (.seq _ (.seq _ (.seq _ (.seq c _)))))) _))=>c | _=>.skip
def WY:Code:=match QM with | .seq _ (.seq _ (.seq (.block _ (.seq _ (.seq _ (.seq _ (.seq _ (.seq _ c)))))) _))=>c | _=>.skip
def qX:Code:=match QM with | .seq _ (.seq _ (.seq _ c))=>c | _=>.skip
theorem Ww:QM=.seq rn8 (.seq (.cond (.tmp 27) .skip (.exit 0)) (.seq (.block 1 (.seq zO (.seq jm (.seq iW (.seq gV (.seq ZJ WY)))))) qX)):=rfl
def iX:Array Oper:=match ZJ with | .region _ ops _=>ops | _=>#[]
def iK:Array Oper:=match WY with | .region _ ops _=>ops | _=>#[]
theorem fJ:∃ id,ZJ=.region id iX false:=⟨_,rfl⟩
theorem fu:∃ id,WY=.region id iK false:=⟨_,rfl⟩
def Px (Wg bw bd bc:Nat):Deferred:={ target:=.fn (.func 31) #[.pointer (some ⟨Wg,0,none⟩),.pointer (some ⟨bw,0,none⟩),.pointer (some ⟨bd,0,none⟩),.pointer (some ⟨bc,0,none⟩)],args:=#[] }
def Sr (bp bd br co go Wg:Nat)(lv FC Gv wv u25 u26:Value)(tm:Array Value):Prop:=∃ v0 v1 v5 v6 Ab Af Ah Ai Aj Ak Al Am Ao Ap Ar Ay Az AA AB AJ AL AO AP AQ AU AV AX AY AZ A8 A9 Ba Bb Bc Bf Bh Bj Bl Bp Bq Br,tm=#[v0,v1,.pointer (some ⟨bp,0,none⟩),.pointer (some ⟨bd,0,none⟩),.pointer (some ⟨br,0,none⟩),v5,v6,.chan (some co),.chan (some go),.pointer (some ⟨Wg,0,none⟩),lv,Ab,FC,Gv,Af,Ah,Ai,Aj,Ak,Al,Am,Ao,Ap,Ar,wv,u25,u26,Ay,Az,AA,AB,AJ,AL,AO,AP,AQ,AU,AV,AX,AY,AZ,A8,A9,Ba,Bb,Bc,Bf,Bh,Bj,Bl,Bp,Bq,Br]
section
variable {X Sg:Type}
variable {Fin:FE}{Ea:E5 Try.prog Fin}
variable {M:Md X Sg}{ρ:Rn}{ws:List (EK X)}{W:World}{n bp bd br:Nat}{lv FC Gv wv u25 u26:Value}{ds:List Deferred}{K:List Item}{cs:List Frame}
theorem o9 (hcl:¬ ρ.SN)(hzi:ρ.zi=.int .i64 0){v:EK X}{r:Nat}{tgt:X × Sg × Bool}{bw bc:Nat}{tm:Array Value}(hs:Sr bp bd br ρ.come ρ.gone ρ.Wg lv (.pointer (some ⟨bc,0,none⟩)) (.pointer (some ⟨bw,0,none⟩)) wv u25 u26 tm)(dY:v.h=n)(hvk:v.k=ws.length)(hov:v.over=false)(hown:∀ b,v.own b->¬ M.Sh b/\b≠ρ.Wg/\ρ.Bo b=false/\(∃ c e f,W.heap[b]?=some (.cells c e f))/\∀ (j:Nat) (u:EK X),ws[j]?=some u->¬ u.own b)(hin:v.own v.b/\v.own v.pb)(hch:v.t≠ρ.come/\v.t≠ρ.gone/\(∃ k,W.heap[v.t]?=some (.chan 0 #[] false k k false))/\∀ (j:Nat) (u:EK X),ws[j]?=some u->u.t≠v.t)(hlow:Fin.b0<=v.t)(hJ:∀ w,GQ (EX ρ ws) w W->∀ B,aO M ρ v B w.heap.size->LT.Rows B w->WJ M ρ Try.prog r ⟨v,B,w.heap.size,tgt⟩ (born Try.prog (Px ρ.Wg bw bd bc)) w)(hK:∀ v' W' tm',Sr bp bd br ρ.come ρ.gone ρ.Wg lv (.pointer (some ⟨bc,0,none⟩)) (.pointer (some ⟨bw,0,none⟩)) wv u25 u26 tm'->aL M ρ ws v tgt r W v' W'->JL (S0 Try.prog Fin Ea).L (.Ev M ρ (ws ++ [v']) 0 false (n+1)) (G ((base 19).at ⟨tm',ds⟩ K) cs) W') :
    JL (S0 Try.prog Fin Ea).L (.Ev M ρ ws 1 false n) (G ((base 19).at ⟨tm,ds⟩ (.code (.seq ZJ WY) :: K)) cs) W:=by
  obtain ⟨v0,v1,v5,v6,Ab,Af,Ah,Ai,Aj,Ak,Al,Am,Ao,Ap,Ar,Ay,Az,AA,AB,AJ,AL,AO,AP,AQ,AU,AV,AX,AY,AZ,A8,A9,Ba,Bb,Bc,Bf,Bh,Bj,Bl,Bp,Bq,Br,rfl⟩:=hs;refine Ei ?_;obtain ⟨id1,e1⟩:=fJ;obtain ⟨id2,e2⟩:=fu;rw [e1];refine JL.region (l:=[0,1]) rfl fun _ hkk=>?_;cases hkk;have s42:(iX[0]?)=some ⟨some 42,.makeFunc (.func 31) #[] #[.tmp 9,.tmp 13,.tmp 3,.tmp 12],_,_,_,_⟩:=rfl;refine JL.Ii (.func (.func 31) #[] #[.pointer (some ⟨ρ.Wg,0,none⟩),.pointer (some ⟨bw,0,none⟩),.pointer (some ⟨bd,0,none⟩),.pointer (some ⟨bc,0,none⟩)]) s42 rfl nE (fun _=>by kernel_rfl) ?_;dsimp only;walk_nrm;have sgo:(iX[1]?)=some ⟨none,.go { callee:=.value (.tmp 42),args:=#[],argTypes:=_ },_,_,_,_⟩:=rfl
  obtain ⟨nq,hS⟩:=Pg (P:=Try.prog) (main:=true) (K:=fun _=>True) (Still:=fun _=>False) (Bd:=0) (st:=Seat.one ρ.come ρ.zi false (·=G ((base 19).at ⟨#[v0,v1,.pointer (some ⟨bp,0,none⟩),.pointer (some ⟨bd,0,none⟩),.pointer (some ⟨br,0,none⟩),v5,v6,.chan (some ρ.come),.chan (some ρ.gone),.pointer (some ⟨ρ.Wg,0,none⟩),lv,Ab,.pointer (some ⟨bc,0,none⟩),.pointer (some ⟨bw,0,none⟩),Af,Ah,Ai,Aj,Ak,Al,Am,Ao,Ap,Ar,wv,u25,u26,Ay,Az,AA,AB,AJ,AL,AO,AP,AQ,AU,AV,AX,AY,AZ,A8,.func (.func 31) #[] #[.pointer (some ⟨ρ.Wg,0,none⟩),.pointer (some ⟨bw,0,none⟩),.pointer (some ⟨bd,0,none⟩),.pointer (some ⟨bc,0,none⟩)],.chan (some ρ.come),Bb,Bc,Bf,Bh,Bj,Bl,Bp,Bq,Br],ds⟩ (.inRegion iK [1] :: K)) cs)) (g:=G ((base 19).at ⟨#[v0,v1,.pointer (some ⟨bp,0,none⟩),.pointer (some ⟨bd,0,none⟩),.pointer (some ⟨br,0,none⟩),v5,v6,.chan (some ρ.come),.chan (some ρ.gone),.pointer (some ⟨ρ.Wg,0,none⟩),lv,Ab,.pointer (some ⟨bc,0,none⟩),.pointer (some ⟨bw,0,none⟩),Af,Ah,Ai,Aj,Ak,Al,Am,Ao,Ap,Ar,wv,u25,u26,Ay,Az,AA,AB,AJ,AL,AO,AP,AQ,AU,AV,AX,AY,AZ,A8,.func (.func 31) #[] #[.pointer (some ⟨ρ.Wg,0,none⟩),.pointer (some ⟨bw,0,none⟩),.pointer (some ⟨bd,0,none⟩),.pointer (some ⟨bc,0,none⟩)],Ba,Bb,Bc,Bf,Bh,Bj,Bl,Bp,Bq,Br],ds⟩ (.inRegion iX [] :: .code WY :: K)) cs) fun W₁=>by
    refine Er stepG_region_end ?_;rw [e2];refine JL.region (l:=[0,1]) rfl fun _ hk2=>?_;cases hk2
    simp only [iK,WY,QM,Rq,Try.f19]
    (refine Eo ?_;walk_nrm)
    refine JQ.sit rfl rfl nE (fun w=>?_) (fun w=>?_) rfl
    . go_simp
      simp [Seat.one,rcase,hzi]
    . simp [go_sem]
  refine J0.hire (Ea:=Ea) (ex:=0) hcl rfl (fun w=>?_) hS dY hvk hov hown hin hch hJ hlow fun v' W' hG=>?_
  . rw [stepG_spawn (d:=Px ρ.Wg bw bd bc) (w':=w) sgo rfl nE (by unfold execOp;go_simp;rfl) rfl,listed_none (by simp [go_sem])]
    rfl
  . rw [Gc];have s44:(iK[1]?).bind (·.dst)=some 44:=by kernel_rfl
    rw [s44];walk_nrm;show JL (S0 Try.prog Fin Ea).L _ _ _;refine Er stepG_region_end ?_;exact hK v' W' _ ⟨_,_,_,_,_,_,_,_,_,_,_,_,_,_,_,_,_,_,_,_,_,_,_,_,_,_,_,_,_,_,.func (.func 31) #[] #[.pointer (some ⟨ρ.Wg,0,none⟩),.pointer (some ⟨bw,0,none⟩),.pointer (some ⟨bd,0,none⟩),.pointer (some ⟨bc,0,none⟩)],.chan (some ρ.come),_,_,_,_,_,_,_,_,_,rfl⟩ hG
end
end
end Go.Proofs.Yticecinjcajmcaa
namespace Go.LT
open Go Go.Conc
section
variable {P:Program}{main:Bool}{Γ:Type}{S:Ou P main Γ}{γ:Γ}{W:World}
theorem JL.defers {f g : FuncId}{fn : Func}{b : Code}(hg : P.funcs[g]? = some fn)(hn : (fn.name == "runtime.NumGoroutine") = false)(hb : fn.body = some b){tm : Array Value}{Y : List Item}{args captured : Array Value}{ds : List Deferred}{mode : FrameMode}(hm : mode ≠ .run){κ : CallKind}{cs : List Frame}(h:JL S γ (G (Frame.enter P g (args ++ captured) .deferred) (FT f tm Y ds mode κ :: cs)) W):JL S γ (G (FT f tm Y ({ target:=.fn (.func g) captured,args } :: ds) mode κ) cs) W:=
  .ctl rfl (fun w=>by
    have hc:(invoke (.fn (.func g) captured) args).runT P w #[]=(.ok (.enter g (args ++ captured)) w,#[]):=Jz hg hn hb _ _ _;cases mode with
    | run=>exact absurd rfl hm
    | _=>simp [G,FT,stepG,unwind,callDeferred,hc,GStep.after,seen,-Sem.runT_eq]) h
theorem JL.VE {f:FuncId}{fn:Func}{tm:Array Value}{Y:List Item}{c:Frame}{cs:List Frame}(hf:P.funcs[f]?=some fn)(hr:fn.results=#[])(h:JL S γ (G (behind c) cs) W):JL S γ (G (FT f tm Y [] .returning .deferred) (c :: cs)) W:=
  .ctl rfl (fun w=>by
    have h1:(results fn tm).runT P w #[]=(.ok (.tuple #[]) w,#[]):=by rw [Sem.runT_eq,results_none hr,events_results_none hr]
    simp only [G,FT,stepG,unwind,hf,h1];rfl) h
end
end Go.LT
namespace Go.LK
open Go Go.Conc Go.LT
theorem Vw {P:Program}{κ:CallKind}(W:World):JL (Vs P 0) () (G (FT P.funcs.size #[] [] [] (.panicking [goexitEntry]) κ) []) W:=by
  refine JL.ctl (g':={ frame:=FT P.funcs.size #[] [] [] (.panicking [goexitEntry]) κ,callers:=[],status:=.finished,dying:=none }) rfl (fun w=>?_) fun w _=>⟨0,rfl,rfl⟩
  simp [G,FT,stepG,unwind,Frame.catches,goexitEntry]
end Go.LK
namespace Go.Proofs.Yticecinjcajmcaa
open Go Go.Conc Go.LT Go.LC Go.LK Go.RowKit
open Go.Conc.Lib Go.ConcR.Gen
open Go.ConcN (WgLive)
def ru0:Code:=match Try.f31.body with | some (.seq c _)=>c | _=>.skip
def ru1:Code:=match Try.f31.body with | some (.seq _ c)=>c | _=>.skip
theorem jG:Try.f31.body=some (.seq ru0 ru1):=rfl
section
variable {Cs Sg:Type}{D:Dr Ef Cs Sg}{m:Mem Sg}{ρ:Rn}{b k:Nat}{W:World}{σ:Sg}
variable {dv cv:Value}
theorem UG.alike {x:Wx (Wk Ef Cs) Sg ρ}{own:Nat->Prop}{z:Wk Ef Cs}(h:UG D m b k x own z σ W){W':World}(hh:W'.heap=W.heap):UG D m b k x own z σ W':=
  { h with row:=by have:=h.row;unfold Fq at this ⊢;rw [hh];exact this
           inv:=m.eq σ W W' (fun g _=>.of (by rw [hh])) h.inv
           size:=by rw [hh];exact h.size
           o3:=fun g hg=>by rw [hh];exact h.o3 g hg }
theorem YC {x:Wx (Wk Ef Cs) Sg ρ}{own:Nat->Prop}{z:Wk Ef Cs}{OY:FuncId}{recv:Value}(hD:OV (J2 D m ρ b k) dv OY recv)(hdv:∃ t v,dv=.iface t v)(h:UG D m b k x own z σ W)(hcur:z.cur=none)(hbg:z.bg=0)(Lj:x.1.1.tgt=({ z with over:=z.todo.isEmpty },σ,z.todo.isEmpty))(hcs:∀ σ W,m.Inv σ W->Kj W cv z.todo)(hty:ρ.ty=link.tWg){bw bd bc:Nat}(h1:W.cell? ⟨bw,0,none⟩=some (.pointer (some ⟨b,0,none⟩)))(h2:W.cell? ⟨bd,0,none⟩=some dv)(h3:W.cell? ⟨bc,0,none⟩=some cv) :
    JW (SW (Eu D m) ρ Try.prog).base x (born Try.prog (Px ρ.Wg bw bd bc)) W:=by
  obtain ⟨p,cap,hcv,hcl,_⟩:=hcs σ W h.inv;obtain ⟨dt,dw,rfl⟩:=hdv;show JW (SW (Eu D m) ρ Try.prog).base x (G (FT Try.prog.funcs.size #[] [] [Px ρ.Wg bw bd bc] (.panicking [goexitEntry]) (default:Frame).kind) []) W;refine JW.defers (S:=(SW (Eu D m) ρ Try.prog).base) Try.func31 zKR rfl (by simp) ?_;rw [enter_atD _ Try.func31 jG];have ht:#[] ++ #[.pointer (some ⟨ρ.Wg,0,none⟩),.pointer (some ⟨bw,0,none⟩),.pointer (some ⟨bd,0,none⟩),.pointer (some ⟨bc,0,none⟩)] ++ Array.replicate (Try.f31.ntmps - (#[] ++ #[.pointer (some ⟨ρ.Wg,0,none⟩),.pointer (some ⟨bw,0,none⟩),.pointer (some ⟨bd,0,none⟩),.pointer (some ⟨bc,0,none⟩)]:Array Value).size) undef=#[.pointer (some ⟨ρ.Wg,0,none⟩),.pointer (some ⟨bw,0,none⟩),.pointer (some ⟨bd,0,none⟩),.pointer (some ⟨bc,0,none⟩),undef,undef,undef,undef]:=by
    have:Try.f31.ntmps=8:=by kernel_rfl
    rw [this];walk_nrm
  rw [ht];show JL (SW (Eu D m) ρ Try.prog).L x _ W;generalize hroot:(FT Try.prog.funcs.size #[] [] [] (.panicking [goexitEntry]) (default:Frame).kind:Frame)=root;refine Ei ?_;simp only [ru0,Try.f31];refine EH fun _ hkk=>?_;refine JL.V7 rfl rfl nE rfl rfl ?_;walk_nrm;refine EB ?_;cases hkk;simp only [ru1,Try.f31];refine EH fun _ hkk=>?_;have HH:=Lib.hid (zAI hD (zAI h (zAI Lj (zAI hcs hty))));clear hD h Lj hcs;refine EL.KU (S:=SW (Eu D m) ρ Try.prog) (b:=baseD 31) 0 3 [] (by simp) zKR nE (rest:=[3]) rfl zKR fun W₁ ha=>?_;have hcell:∀ a,W₁.cell? a=W.cell? a:=fun a=>by obtain ⟨τ,d,rfl⟩:=ha;rfl
  rw [← hcell] at h1 h2 h3;subst hcv;clear hcell;dsimp only [List.drop,List.take];gi_wp2;refine ⟨rfl,?_⟩;obtain ⟨hD,h,Lj,hcs,hty⟩:=HH.out;clear HH;show JL (SW (Eu D m) ρ Try.prog).L x _ W₁;try dsimp only
  refine JL.enter rfl rfl nE rfl Try.func33 zKR zKR ?_;walk_nrm;cases hkk;have hA1:UG D m b k x own z σ W₁:=h.alike (EW ha);refine Zu hD ⟨dt,dw,rfl⟩ hA1 hcur hbg Lj hcs fun W'=>?_;rw [Frame.finish_at];walk_nrm;refine Er stepG_region_end ?_;refine Er stepG_end ?_;refine JL.defers Try.func32 zKR rfl (by simp) ?_;rw [enter_atD _ Try.func32 rfl];rw [hty];have ht2:#[.pointer (some ⟨ρ.Wg,0,none⟩)] ++ #[] ++ Array.replicate (Try.f32.ntmps - (#[.pointer (some ⟨ρ.Wg,0,none⟩)] ++ #[]:Array Value).size) undef=#[.pointer (some ⟨ρ.Wg,0,none⟩),undef,undef,undef]:=by
    have:Try.f32.ntmps=4:=by kernel_rfl
    rw [this];walk_nrm
  rw [ht2];subst hroot;refine xZ (L:=link) dF rfl (fun W=>?_) W';exact JL.VE Try.func31 rfl (Vw W)
end
end Go.Proofs.Yticecinjcajmcaa
namespace Go.Proofs.Yticecinjcajmcaa
open Go Go.Conc Go.LT Go.LC Go.LK Go.RowKit
open Go.ConcN (WgLive)
section
section
variable {X Sg:Type}
variable {Fin:FE}{Ea:E5 Try.prog Fin}
variable {M:Md X Sg}{ρ:Rn}{ws:List (EK X)}{W:World}{n bp bd br:Nat}{lv FC Gv wv u25 u26:Value}{ds:List Deferred}{K:List Item}{cs:List Frame}
theorem Un:(Try.prog.info? 3).map (fun i=>(i.zero,i.size,i.bytes))=some (some (.int .i64 0),1,8):=by kernel_rfl
theorem xG {i pg po pn Fw:Nat}{ca:Option Addr}{cn cc:Nat}{tm:Array Value}(hs:Sr bp bd br ρ.come ρ.gone ρ.Wg lv FC Gv (.slice (some ⟨pg,po,none⟩) pn Fw) u25 (.int .i64 i) tm)(hi:i < pn)(hpn:pn<=1000000)(hc:W.cell? ⟨pg,po+i,none⟩=some (.slice ca cn cc))(hK:∀ W' tm',Sr bp bd br ρ.come ρ.gone ρ.Wg lv (.pointer (some ⟨W.heap.size,0,none⟩)) Gv (.slice (some ⟨pg,po,none⟩) pn Fw) u25 (.int .i64 i) tm'->tm'[11]?=some (.int .i64 i)->W'.heap=W.heap.push (.cells #[.slice ca cn cc] 54 (0,0))->JL (S0 Try.prog Fin Ea).L (.Ev M ρ ws 0 false n) (G ((base 19).at ⟨tm',ds⟩ K) cs) W') :
    JL (S0 Try.prog Fin Ea).L (.Ev M ρ ws 0 false n) (G ((base 19).at ⟨tm,ds⟩ (.code zO :: K)) cs) W:=by
  obtain ⟨v0,v1,v5,v6,Ab,Af,Ah,Ai,Aj,Ak,Al,Am,Ao,Ap,Ar,Ay,Az,AA,AB,AJ,AL,AO,AP,AQ,AU,AV,AX,AY,AZ,A8,A9,Ba,Bb,Bc,Bf,Bh,Bj,Bl,Bp,Bq,Br,rfl⟩:=hs;refine EL.EJ (S:=S0 Try.prog Fin Ea) (b:=base 19) [] (by simp) zKR nE zKR fun W₁ ha=>?_;have hh:W₁.heap=W.heap:=by obtain ⟨τ,d,rfl⟩:=ha;rfl
  have hc1:W₁.cell? ⟨pg,po+i,none⟩=some (.slice ca cn cc):=by simp only [World.cell?,hh] at hc ⊢;exact hc
  have HH:=Lib.hid (zAI hK hh);clear hK hc hh;dsimp only;simp only [zO,QM,Rq,Try.f19];gi_wp2;obtain ⟨hK,hh⟩:=HH.out;clear HH;refine hK _ _ ?_ ?_ ?_
  . rw [← hh];exact ⟨_,_,_,_,_,_,_,_,_,_,_,_,_,_,_,_,_,_,_,_,_,_,_,_,_,_,_,_,_,_,_,_,_,_,_,_,_,_,_,_,_,rfl⟩
  . rfl
  . rw [← hh];rfl
theorem ND (w:World):(Instr.makeChan 81 (.int .i64 0)).run Try.prog w=.ok (.chan (some w.heap.size)) (w.alloc (.chan 0 #[] false 0 0 false)):=by obtain ⟨i,hi,h0,h1,h2⟩:=info_parts Un;exact run_makeChan (P:=Try.prog) (t:=81) (e:=3) (dir:=.both) (i:=i) (w:=w) zKR hi .i64 0 (by decide) (by simp)
theorem pY {i:Nat}{tm:Array Value}(hs:Sr bp bd br ρ.come ρ.gone ρ.Wg lv FC Gv wv u25 u26 tm)(h11:tm[11]?=some (.int .i64 i))(hK:∀ W' tm',Sr bp bd br ρ.come ρ.gone ρ.Wg lv FC (.pointer (some ⟨W.heap.size+2,0,none⟩)) wv u25 u26 tm'->W'.heap=((W.heap.push (.chan 0 #[] false 0 0 false)).push (.cells #[.int .i64 i,.bool true,.chan (some W.heap.size),.chan (some ρ.come),.chan (some ρ.gone),.bool false,.int .i64 0,.int .i64 0,.int .i64 0,.slice none 0 0,.bool false,.bool false] 94 (0,0))).push (.cells #[.pointer (some ⟨W.heap.size+1,0,none⟩)] 65 (0,0))->JL (S0 Try.prog Fin Ea).L (.Ev M ρ ws 0 false n) (G ((base 19).at ⟨tm',ds⟩ K) cs) W') :
    JL (S0 Try.prog Fin Ea).L (.Ev M ρ ws 0 false n) (G ((base 19).at ⟨tm,ds⟩ (.code jm :: K)) cs) W:=by
  obtain ⟨v0,v1,v5,v6,Ab,Af,Ah,Ai,Aj,Ak,Al,Am,Ao,Ap,Ar,Ay,Az,AA,AB,AJ,AL,AO,AP,AQ,AU,AV,AX,AY,AZ,A8,A9,Ba,Bb,Bc,Bf,Bh,Bj,Bl,Bp,Bq,Br,rfl⟩:=hs;have zZ:some Ab=some (.int .i64 (i:Int)):=h11;cases zZ
  clear h11;have hmk:∀ w:World,(Instr.makeChan 81 (.int .i64 0)).run Try.prog w=.ok (.chan (some w.heap.size)) (w.alloc (.chan 0 #[] false 0 0 false)):=ND;refine EL.EJ (S:=S0 Try.prog Fin Ea) (b:=base 19) [] (by simp) zKR nE zKR fun W₁ ha=>?_;have hh:W₁.heap=W.heap:=by obtain ⟨τ,d,rfl⟩:=ha;rfl
  have HH:=Lib.hid (zAI hK hh);clear hK hh;dsimp only;simp only [jm,QM,Rq,Try.f19];gi_wp2;obtain ⟨hK,hh⟩:=HH.out;clear HH;refine hK _ _ ?_ ?_
  . rw [← hh];exact ⟨_,_,_,_,_,_,_,_,_,_,_,_,_,_,_,_,_,_,_,_,_,_,_,_,_,_,_,_,_,_,_,_,_,_,_,_,_,_,_,_,_,rfl⟩
  . rw [← hh];rfl
theorem fq:(Try.prog.info? 65).map (fun i=>(i.zero,i.size,i.bytes))=some (some (.pointer none),1,8):=by kernel_rfl
theorem qg {bw b k:Nat}{xs:List Value}{tm:Array Value}(hs:Sr bp bd br ρ.come ρ.gone ρ.Wg lv FC (.pointer (some ⟨bw,0,none⟩)) wv u25 u26 tm)(hb:W.cell? ⟨bw,0,none⟩=some (.pointer (some ⟨b,0,none⟩)))(hown:BA.Fa W 0 1 lv k xs)(hk:k<=1000000)(hK:∀ Jh W' tm',Sr bp bd br ρ.come ρ.gone ρ.Wg Jh FC (.pointer (some ⟨bw,0,none⟩)) wv u25 u26 tm'->BA.Fa W' 0 1 Jh (k+1) (xs ++ [.pointer (some ⟨b,0,none⟩)])->(∀ g,g < W.heap.size->lv.ownBlock≠some g->W'.heap[g]?=W.heap[g]?)->(Jh.ownBlock=lv.ownBlock\/((∀ g,Jh.ownBlock=some g->W.heap.size<=g)/\∀ g,g < W.heap.size->W'.heap[g]?=W.heap[g]?))->W.heap.size<=W'.heap.size->JL (S0 Try.prog Fin Ea).L (.Ev M ρ ws 0 false n) (G ((base 19).at ⟨tm',ds⟩ K) cs) W') :
    JL (S0 Try.prog Fin Ea).L (.Ev M ρ ws 0 false n) (G ((base 19).at ⟨tm,ds⟩ (.code iW :: K)) cs) W:=by
  obtain ⟨v0,v1,v5,v6,Ab,Af,Ah,Ai,Aj,Ak,Al,Am,Ao,Ap,Ar,Ay,Az,AA,AB,AJ,AL,AO,AP,AQ,AU,AV,AX,AY,AZ,A8,A9,Ba,Bb,Bc,Bf,Bh,Bj,Bl,Bp,Bq,Br,rfl⟩:=hs;refine EL.EJ (S:=S0 Try.prog Fin Ea) (b:=base 19) [] (by simp) zKR nE zKR fun W₁ ha=>?_;have hh:W₁.heap=W.heap:=by obtain ⟨τ,d,rfl⟩:=ha;rfl
  have hb1:W₁.cell? ⟨bw,0,none⟩=some (.pointer (some ⟨b,0,none⟩)):=by simp only [World.cell?,hh] at hb ⊢;exact hb
  have hown1:BA.Fa W₁ 0 1 lv k xs:=IK hown fun g _=>.of (by rw [hh]);obtain ⟨i0,hi,hz0,hz1,hz2⟩:=info_parts fq;have hlt:∀ g,lv.ownBlock=some g->g < W₁.heap.size:=fun g hg=>by
    obtain ⟨te,_,⟨rfl,_⟩|⟨g',cap,cur,rfl,_,h1,_⟩⟩:=hown1
    . cases hg
    . cases hg;exact (zGE h1).1
  have hown2:BA.Fa (W₁.alloc (.cells #[.pointer (some ⟨b,0,none⟩)] 65)) 0 1 lv k xs:=IK hown1 fun g hg=>.of (Below.heap_alloc _ _ _ (hlt g hg));have HH:=Lib.hid (zAI hK (zAI hh (zAI hown hown1)));clear hK hb hh hown hown1;dsimp only;simp only [iW,QM,Rq,Try.f19];gi_wp2_with (gi_at_builtin;refine GZ _ rfl _ _ 90 rfl 0 65 i0 (.pointer none) 1 8 Try.underlying90 hi hz0 hz1 hz2 rfl (by decide) lv k xs rfl hown2 ⟨W₁.heap.size,0,none⟩ 1 1 [.pointer (some ⟨b,0,none⟩)] rfl rfl (cell_one_new _ _ _) (by simp [Value.oneCell']) (by unfold maxLen;omega) zOM (Nat.zero_le _) ?_;intro Jh w1 r1 r2 r3)
  obtain ⟨hK,hh,hown,hown1⟩:=HH.out;clear HH;have hsz:(W₁.alloc (.cells #[.pointer (some ⟨b,0,none⟩)] 65)).heap.size=W.heap.size+1:=by simp [hh]
  have hal:∀ g,g < W.heap.size->(W₁.alloc (.cells #[.pointer (some ⟨b,0,none⟩)] 65)).heap[g]?=W.heap[g]?:=fun g hg=>by rw [Below.heap_alloc _ _ _ (by rw [hh];exact hg),hh]
  refine hK Jh w1 _ ⟨_,_,_,_,_,_,_,_,_,_,_,_,_,_,_,_,_,_,_,_,_,_,_,_,_,_,_,_,_,_,_,_,_,_,_,_,_,_,_,_,_,rfl⟩ r1 (fun g hg hne=>?_) ?_ ?_
  . rw [r2.block g (by rw [hsz];omega) (fun e=>hne e.symm)]
    exact hal g hg
  . rcases r3 with h | ⟨h1,h2⟩
    . exact .inl h
    . exact .inr ⟨fun g hg=>by have:=h1 g hg;rw [hsz] at this;omega,fun g hg=>by rw [h2.block g (by rw [hsz];omega) (by simp)];exact hal g hg⟩
  . have:=r2.size;rw [hsz] at this;omega
end
end
section
theorem O5 {o:Obj}{c:Array Value}{e:TypeId}{f:Nat × Nat}(h:dep false o=.cells c e f):o=.cells c e f:=by cases o <;> simp_all [dep]
theorem LH {B:Hid}{w W:World}{b:Nat}{c:Array Value}{e:TypeId}{f:Nat × Nat}(hs:GQ B w W)(h1:B b=false)(h2:B.JJ b=false)(h:W.heap[b]?=some (.cells c e f)):w.heap[b]?=some (.cells c e f):=by
  rw [FJ hs,EA h1,h2] at h;cases hw:w.heap[b]? with
  | none=>rw [hw] at h;cases h
  | some o=>
    rw [hw] at h;exact congrArg some (O5 (Option.some.inj h))
theorem Lf {B:Nat->Bool}{w:World}{b:Nat}{c:Array Value}{e:TypeId}{f:Nat × Nat}(h1:B b=false)(h:w.heap[b]?=some (.cells c e f)):(D7 { hol:=B } w).heap[b]?=some (.cells c e f):=by rw [EA (B:={ hol:=B }) h1,h];rfl
section
variable {Cs Sg:Type}{D:Dr Ef Cs Sg}{m:Mem Sg}{ρ:Rn}{b k:Nat}{W:World}{σ:Sg}
variable {dv cv:Value}{ws:List (EK (Wk Ef Cs))}
theorem ZV {OY:FuncId}{recv:Value}{h t bw bd bc r:Nat}{z:Wk Ef Cs}{wy:World}(hD:OV (J2 D m ρ b k) dv OY recv)(hdv:∃ t v,dv=.iface t v)(hzi:ρ.zi=.int .i64 0)(hzg:ρ.zg=.agg #[])(hty:ρ.ty=link.tWg)(hcs:∀ σ W,m.Inv σ W->Kj W cv z.todo)(hz:z={ k:=k,todo:=z.todo })(hr:r < 2 ^ 62)(hrow:Fq W b k t ρ.come ρ.gone false 0 0 0 (.slice none 0 0) false false)(hbw:W.heap[bw]?=some (.cells #[.pointer (some ⟨b,0,none⟩)] 65 (0,0)))(hbc:W.heap[bc]?=some (.cells #[cv] 54 (0,0)))(QH:∀ g,g=b\/g=bw\/g=bc->(EX ρ ws) g=false/\(EX ρ ws).JJ g=false/\¬ m.Sh g)(rC:∀ g,m.Sh g->(EX ρ ws) g=false/\(EX ρ ws).JJ g=false)(hI:m.Inv σ W)(hbd:∀ W,m.Inv σ W->W.cell? ⟨bd,0,none⟩=some dv) :
    ∀ w,GQ (EX ρ ws) w W->∀ B,aO (Eu D m) ρ ⟨h,k,b,t,b,fun g=>g=b\/g=bw\/g=bc,z,wy,false,r⟩ B w.heap.size->LT.Rows B w->
      WJ (Eu D m) ρ Try.prog r ⟨⟨h,k,b,t,b,fun g=>g=b\/g=bw\/g=bc,z,wy,false,r⟩,B,w.heap.size,({ z with over:=z.todo.isEmpty },σ,z.todo.isEmpty)⟩ (born Try.prog (Px ρ.Wg bw bd bc)) w:=by
  intro w hs B MN hR;have hrow':=LH hs (QH b (.inl rfl)).1 (QH b (.inl rfl)).2.1 hrow;have tV:=LH hs (QH bw (.inr (.inl rfl))).1 (QH bw (.inr (.inl rfl))).2.1 hbw;have hbc':=LH hs (QH bc (.inr (.inr rfl))).1 (QH bc (.inr (.inr rfl))).2.1 hbc;have vI:∀ g,g=b\/g=bw\/g=bc->B g=false:=fun g hg=>MN.own g hg;have hI2:m.Inv σ (D7 { hol:=B } w):=by
    refine m.eq σ W _ (fun g hg=>?_) hI;have h1:=rC g hg;have a1:=K3.view (w:=w) h1.1 h1.2;have a2:K3 w (D7 { hol:=B } w) g:=K3.view (B:={ hol:=B }) (MN.sh g hg) rfl;have a3:K3 w W g:=by unfold K3 at a1 ⊢;rw [FJ hs];exact a1
    exact a3.symm.trans a2
  have hrows:∀ g,g=b\/g=bw\/g=bc->∃ c e f,w.heap[g]?=some (Obj.cells c e f):=fun g hg=>by
    rcases hg with rfl|rfl|rfl
    . exact ⟨_,_,_,hrow'⟩
    . exact ⟨_,_,_,tV⟩
    . exact ⟨_,_,_,hbc'⟩
  refine YC (x:=⟨(⟨⟨h,k,b,t,b,fun g=>g=b\/g=bw\/g=bc,z,wy,false,r⟩,B,w.heap.size,({ z with over:=z.todo.isEmpty },σ,z.todo.isEmpty)⟩,r),MN.wg⟩) (own:=fun g=>g=b\/g=bw\/g=bc) (z:=z) (σ:=σ) (W:=D7 { hol:=B } w) (b:=b) (k:=k) (bw:=bw) (bd:=bd) (bc:=bc) hD hdv ?_ (by rw [hz]) (by rw [hz]) rfl hcs hty ?_ (hbd _ hI2) ?_ w ⟨.refl _,hR⟩
  . exact {
            zi:=hzi,zg:=hzg,vb:=rfl,vk:=rfl
            row:=by
              have e1:z.st=0:=by rw [hz]
              have e2:z.bg=0:=by rw [hz]
              have e3:z.ow=0:=by rw [hz]
              rw [e1,e2,e3];exact Lf (vI b (.inl rfl)) hrow'
            zk:=by rw [hz],zo:=by rw [hz],zf:=by rw [hz],rH:=by rw [hz]
            inv:=hI2,sh:=MN.sh,low:=MN.low,size:=by rw [F9];exact Nat.le_refl _
            Wo:=fun g hg=>by obtain ⟨c,e,f,hc⟩:=hrows g hg;exact (zGE hc).1
            cb:=.inl rfl,o1:=fun g hg=>hg,o2:=fun g hg=>.inl hg
            o3:=fun g hg=>⟨vI g hg,(QH g hg).2.2,by obtain ⟨c,e,f,hc⟩:=hrows g hg;exact ⟨c,e,f,Lf (vI g hg) hc⟩⟩
            Ld:=.inl rfl
            cap:=by
              have e3:z.ow=0:=by rw [hz]
              rw [e3];show 0+r < _;omega }
  . have:=Lf (vI bw (.inr (.inl rfl))) tV;simp [World.cell?,this]
  . have:=Lf (vI bc (.inr (.inr rfl))) hbc';simp [World.cell?,this]
end
end
section
section
variable {X Sg:Type}
variable {Fin:FE}{Ea:E5 Try.prog Fin}
variable {M:Md X Sg}{ρ:Rn}{ws:List (EK X)}{W:World}{n bp bd br:Nat}{lv FC Gv wv u25 u26:Value}{ds:List Deferred}{K:List Item}{cs:List Frame}
theorem ni (hty:ρ.ty=link.tWg)(hcap:n+0+1 < 2147483648){tm:Array Value}(hs:Sr bp bd br ρ.come ρ.gone ρ.Wg lv FC Gv wv u25 u26 tm)(hK:∀ tm',Sr bp bd br ρ.come ρ.gone ρ.Wg lv FC Gv wv u25 u26 tm'->JL (S0 Try.prog Fin Ea).L (.Ev M ρ ws 1 false n) (G ((base 19).at ⟨tm',ds⟩ K) cs) W) :
    JL (S0 Try.prog Fin Ea).L (.Ev M ρ ws 0 false n) (G ((base 19).at ⟨tm,ds⟩ (.code gV :: K)) cs) W:=by
  obtain ⟨v0,v1,v5,v6,Ab,Af,Ah,Ai,Aj,Ak,Al,Am,Ao,Ap,Ar,Ay,Az,AA,AB,AJ,AL,AO,AP,AQ,AU,AV,AX,AY,AZ,A8,A9,Ba,Bb,Bc,Bf,Bh,Bj,Bl,Bp,Bq,Br,rfl⟩:=hs;dsimp only;simp only [gV,QM,Rq,Try.f19];refine EH fun _ hkk=>?_;show JL (eO (X:=X) (Sg:=Sg) Try.prog Fin Ea) _ _ _;refine J0.jh (L:=link) dF hty hcap rfl rfl nE rfl rfl rfl ?_;walk_nrm;refine EB ?_;cases hkk;exact hK _ ⟨_,_,_,_,_,_,_,_,_,_,_,_,_,_,_,_,_,_,_,_,_,_,_,_,_,_,_,_,_,_,_,_,_,_,_,_,_,_,_,_,_,rfl⟩
theorem kJ {i pn:Nat}(hi:i<=1000000)(hn:pn<=1000000){tm:Array Value}(hs:Sr bp bd br ρ.come ρ.gone ρ.Wg lv FC Gv wv (.int .i64 pn) (.int .i64 i) tm)(hK:∀ W' tm',Sr bp bd br ρ.come ρ.gone ρ.Wg lv FC Gv wv (.int .i64 pn) (.int .i64 i) tm'->tm'[27]?=some (.bool (decide (i < pn)))->W'.heap=W.heap->JL (S0 Try.prog Fin Ea).L (.Ev M ρ ws 0 false n) (G ((base 19).at ⟨tm',ds⟩ K) cs) W') :
    JL (S0 Try.prog Fin Ea).L (.Ev M ρ ws 0 false n) (G ((base 19).at ⟨tm,ds⟩ (.code rn8 :: K)) cs) W:=by
  obtain ⟨v0,v1,v5,v6,Ab,Af,Ah,Ai,Aj,Ak,Al,Am,Ao,Ap,Ar,Ay,Az,AA,AB,AJ,AL,AO,AP,AQ,AU,AV,AX,AY,AZ,A8,A9,Ba,Bb,Bc,Bf,Bh,Bj,Bl,Bp,Bq,Br,rfl⟩:=hs;refine EL.EJ (S:=S0 Try.prog Fin Ea) (b:=base 19) [] (by simp) zKR nE zKR fun W₁ ha=>?_;have hh:W₁.heap=W.heap:=by obtain ⟨τ,d,rfl⟩:=ha;rfl
  have HH:=Lib.hid (zAI hK hh);clear hK hh;dsimp only;simp only [rn8,QM,Try.f19,Rq];gi_wp2;obtain ⟨hK,hh⟩:=HH.out;exact hK W₁ _ ⟨_,_,_,_,_,_,_,_,_,_,_,_,_,_,_,_,_,_,_,_,_,_,_,_,_,_,_,_,_,_,_,_,_,_,_,_,_,_,_,_,_,rfl⟩ (by simp) hh
theorem pF {i:Nat}(hi:i < 1000000){tm:Array Value}(hs:Sr bp bd br ρ.come ρ.gone ρ.Wg lv FC Gv wv u25 (.int .i64 i) tm)(hK:∀ W' tm',Sr bp bd br ρ.come ρ.gone ρ.Wg lv FC Gv wv u25 (.int .i64 ((i+1:Nat):Int)) tm'->W'.heap=W.heap->JL (S0 Try.prog Fin Ea).L (.Ev M ρ ws 0 false n) (G ((base 19).at ⟨tm',ds⟩ K) cs) W') :
    JL (S0 Try.prog Fin Ea).L (.Ev M ρ ws 0 false n) (G ((base 19).at ⟨tm,ds⟩ (.code qX :: K)) cs) W:=by
  obtain ⟨v0,v1,v5,v6,Ab,Af,Ah,Ai,Aj,Ak,Al,Am,Ao,Ap,Ar,Ay,Az,AA,AB,AJ,AL,AO,AP,AQ,AU,AV,AX,AY,AZ,A8,A9,Ba,Bb,Bc,Bf,Bh,Bj,Bl,Bp,Bq,Br,rfl⟩:=hs;refine EL.EJ (S:=S0 Try.prog Fin Ea) (b:=base 19) [] (by simp) zKR nE zKR fun W₁ ha=>?_;have hh:W₁.heap=W.heap:=by obtain ⟨τ,d,rfl⟩:=ha;rfl
  have hw:RowKit.wrap64 ((i:Int)+1)=((i+1:Nat):Int):=KA zOM;have hl1:(-9223372036854775808:Int)<=(i:Int)+1:=by omega
  have hl2:(i:Int)+1<=9223372036854775807:=by omega
  have HH:=Lib.hid (zAI hK (zAI hh hw));clear hK hh hw;dsimp only;simp only [qX,QM,Rq,Try.f19];gi_wp2;obtain ⟨hK,hh,hw⟩:=HH.out;exact hK W₁ _ ⟨_,_,_,_,_,_,_,_,_,_,_,_,_,_,_,_,_,_,_,_,_,_,_,_,_,_,_,_,_,_,_,_,_,_,_,_,_,_,_,_,_,rfl⟩ hh
end
end
end Go.Proofs.Yticecinjcajmcaa
end
