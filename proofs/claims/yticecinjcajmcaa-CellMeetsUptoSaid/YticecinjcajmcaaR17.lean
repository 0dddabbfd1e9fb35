/-
  Part 17 of the proof that CellMeets returns true, and leaves its arguments as they were, for every input whose reading is of bulk at most 1048576. No further condition.
-/
import Derived.Test.YticecinjcajmcaaR00
import Derived.Test.YticecinjcajmcaaR12
import Derived.Test.YticecinjcajmcaaR16
import Derived.Conc.WgGenN2
set_option linter.unusedVariables false
set_option linter.unusedSectionVars false
set_option linter.unusedSimpArgs false
set_option maxHeartbeats 8000000
set_option maxRecDepth 100000
noncomputable section
namespace Go.LK
open Go Go.Conc Go.LT Go.LC
open Go.ConcN (WgLive RW AtK1 AtD1 AtD2 AtD3 AtD4)
open Go.ConcR (KK wgBlock WgAt stA smA rd wr mk DC0)
section
section
variable {P:Program}{ty:TypeId}{Wg:Nat}{Stop:Goroutine->World->Prop}{W:World}
abbrev GX (P:Program)(ty:TypeId)(Wg:Nat)(Stop:Goroutine->World->Prop)(m:Nat)(g:Goroutine)(w:World):Prop:=Goes P false (RX ty Wg) DC0 Stop m g w
def SG (P:Program)(ty:TypeId)(Wg:Nat)(Stop:Goroutine->World->Prop):Ou P false Unit where
  B:=fun _=>Qe
  J:=fun _ g _=>∃ m,∀ w,WgLive ty Wg w->GX P ty Wg Stop m g w
  live:=fun _=>WgLive ty Wg
  idle:=fun γ g g' W hs h hJ w hw=>by obtain ⟨m,hg⟩:=hJ w hw;exact ⟨m+1,fun w hl=>Goes.step hs fun w₁ h₁=>by rw [h w₁ (h₁.live hl)];exact ⟨⟨rfl,rfl⟩,hg _ (h₁.live hl)⟩⟩
theorem SG.stop {g:Goroutine}(h:∀ w,WgLive ty Wg w->Stop g w):JL (SG P ty Wg Stop) () g W:=fun w _=>⟨0,fun w hl=>Goes.stop fun w₁ h₁=>h w₁ (h₁.live hl)⟩
theorem SG.goes {g:Goroutine}(h:∀ W,JL (SG P ty Wg Stop) () g W):∃ m,∀ w,WgLive ty Wg w->GX P ty Wg Stop m g w:=h (D7 Qe default) default ⟨.refl _,IU _⟩
theorem SG.at {g:Goroutine}{w:World}(hl:WgLive ty Wg w)(h:∀ W,JL (SG P ty Wg Stop) () g W):∃ m,GX P ty Wg Stop m g w:=let ⟨m,hg⟩:=SG.goes h;⟨m,hg w hl⟩
def Vs (P:Program)(d:Nat):Ou P false Unit where
  B:=fun _=>Qe
  J:=fun _ g _=>∃ q,QuitsD P q d g
  live:=fun _ _=>True
  idle:=fun γ g g' W hs h hJ w hw=>by obtain ⟨q,hq⟩:=hJ w hw;exact ⟨q+1,QuitsD.ctl hs (fun w=>h w trivial) hq⟩
theorem Vs.of {d:Nat}{g:Goroutine}(h:∀ W,JL (Vs P d) () g W):∃ q,QuitsD P q d g:=h (D7 Qe default) default ⟨.refl _,IU _⟩
theorem Vs.end {d q:Nat}{g:Goroutine}(h:QuitsD P q d g):JL (Vs P d) () g W:=fun _ _=>⟨q,h⟩
theorem Vs.said {d:Nat}{g g':Goroutine}(e:Event)(he:e.mute=true)(hs:g.status=.running)(h:∀ w,stepG P false g w=.go g' w #[e])(hJ:JL (Vs P (deafBehind d #[e])) () g' W):JL (Vs P d) () g W:=fun w hw=>by obtain ⟨q,hq⟩:=hJ w hw;exact ⟨q+1,QuitsD.said e he hs h hq⟩
end
end
end Go.LK
namespace Go.LK
open Go Go.Conc Go.LT Go.LC Go.Conc.Lib Go.ConcR.Gen Go.RowKit
open Go.ConcN (WgLive RW AtK1 AtD1 AtD2 AtD3 AtD4)
open Go.ConcR (KK wgBlock WgAt stA smA rd wr mk DC0)
section
section
variable {P:Program}{L:WgLink}{Wg:Nat}{b₀:Frame}{a₀:Act}{ops₀:Array Oper}{i₀:Nat}{rest₀:List Nat}{k₀:List Item}{cs:List Frame}
theorem uz (H:WgLib P L)(hT:∀ W,JL (Vs P 0) () (G (b₀.at (a₀.put ((ops₀[i₀]?).bind (·.dst)) (.tuple #[])) (.inRegion ops₀ rest₀ :: k₀)) cs) W)(W:World) :
    JL (SG P L.tWg Wg (KQ P L.tWg Wg)) () (G ((base L.add).at ⟨#[.pointer (some ⟨Wg,0,none⟩),.int .i64 (-1)] ++ Array.replicate 115 undef,[]⟩ [.code (body_add L)]) (b₀.at a₀ (.inRegion ops₀ (i₀ :: rest₀) :: k₀) :: cs)) W:=by
  lib_facts
  simp only [body_add,addFn,Option.getD_some];walk_nrm;refine Ei ?_;refine JL.Fz rfl ?_;refine Ei ?_;refine Ei ?_;refine EH fun _ hkk=>?_;iterate 2 (refine Eo ?_;walk_nrm)
  refine EB ?_;cases hkk;refine JL.Fz rfl ?_;refine EH fun _ hkk=>?_
  (refine Eo ?_;walk_nrm)
  refine JL.value (.pointer (some ⟨Wg,0,none⟩)) rfl rfl (by k_ne) (fun w hl=>by
    have hcv:=run_convert_to_unsafe (P:=P) H.underlying_tWgP H.underlying_tUP H.room_tWg (ConcN.Gen.WgLive.cell0 (show WgLive L.tWg Wg w from hl)).choose_spec;go_simp) (fun w hl e he=>by
    have hce:=fun es=>events_convert_to_unsafe (P:=P) H.underlying_tWgP H.underlying_tUP H.room_tWg (ConcN.Gen.WgLive.cell0 (show WgLive L.tWg Wg w from hl)).choose_spec es;simp [go_sem,hce] at he) ?_
  walk_nrm;refine SG.stop fun w hl=>⟨rfl,_,stepG_markAt .releaseMerge (by simp) rfl rfl (by k_ne) rfl H.f_relMerge (x_relMerge_n L) (x_relMerge_b L) (x_relMerge_x L) (x_relMerge_f L) (by simp [Act.eval,stA]),SG.at hl fun W=>?_⟩
  clear hl;walk_nrm;refine EB ?_;cases hkk;refine Ei ?_;refine EH fun _ hkk=>?_;refine SG.stop fun w hl=>⟨rfl,_,stepG_mark0 .disable (by simp) rfl rfl (by k_ne) rfl H.f_disable (x_disable_n L) (x_disable_b L) (x_disable_x L) (x_disable_f L),SG.at hl fun W=>?_⟩
  clear hl;walk_nrm;refine EB ?_;cases hkk;refine EH fun _ hkk=>?_;refine Er (stepG_defer rfl rfl (by first|exact Zh|exact bJ|decide|assumption) rfl) ?_;walk_nrm;refine EB ?_;cases hkk;refine Ei ?_;refine EH fun _ hkk=>?_
  (refine Eo ?_;walk_nrm)
  refine EB ?_;cases hkk;refine Ei ?_;refine Ei ?_;refine EH fun _ hkk=>?_;refine JL.pure (.bool false) rfl rfl (by k_ne) rfl H.f_inBubble (x_inBubble_n L) (x_inBubble_b L) (x_inBubble_x L) (x_inBubble_f L) ?_;walk_nrm;refine EB ?_;cases hkk;refine JL.Ey rfl ?_;refine Er stepG_skip ?_;refine Ei ?_;refine EH fun _ hkk=>?_;iterate 6 (refine Eo ?_;walk_nrm)
  refine JL.call rfl rfl (by first|exact Zh|exact bJ|decide|assumption) rfl H.f_uAdd (nm_uAdd L) rfl ?_;walk_nrm;simp only [uAddFn];walk_nrm;refine Ei ?_;refine EH fun _ hkk=>?_
  (refine Eo ?_;walk_nrm)
  refine EB ?_;cases hkk;refine Ei ?_;refine EH fun _ hkk=>?_;iterate 4 (refine Eo ?_;walk_nrm)
  refine SG.stop fun w hl=>⟨rfl,fun v wt hwt hv hw=>?_⟩
  clear hl;have eS:IntKind.u64.wrap (((v:Nat)+1) * KK+wt+18446744069414584320)=(v:Int) * KK+wt:=by rw [IntKind.wrap_u64];simp only [KK];omega
  refine ⟨_,(stepG_add_atomic rfl rfl (by k_ne) rfl H.f_addU64 (x_addU64_n L) (x_addU64_b L) (x_addU64_x L) .u64 (x_addU64_f L) rfl rfl (show w.cell? (stA Wg)=_ from hw.cellSt) (hw.thaw 0)).trans (by rw [eS];rfl),fun hl=>?_,fun hn=>Vs.of fun W=>?_⟩
  ·
    obtain ⟨rfl,rfl⟩:=hl;have z:((0:Nat):Int) * KK+((1:Nat):Int)=1:=by simp
    have hl1:WgLive L.tWg Wg (w.setCell (stA Wg) (.int .u64 (((0:Nat):Int) * KK+((1:Nat):Int)))):=⟨_,_,hw.setSt _⟩
    simp only [z] at hl1 ⊢;clear eS hv hwt;refine SG.at hl1 fun W=>?_;clear hl1 hw;walk_nrm
    (refine Eo ?_;walk_nrm)
    refine EB ?_;cases hkk;refine Er stepG_ret' ?_;refine JL.leave1 rfl rfl H.f_uAdd rfl ?_;walk_nrm
    (refine Eo ?_;walk_nrm)
    refine EB ?_;cases hkk;refine Ei ?_;refine Ei ?_;refine EH fun _ hkk=>?_;iterate 4 (refine Eo ?_;walk_nrm)
    refine Er (stepG_unwanted rfl rfl) ?_;walk_nrm;refine Er (stepG_unwanted rfl rfl) ?_;walk_nrm
    (refine Eo ?_;walk_nrm)
    refine EB ?_;cases hkk;refine JL.Ey rfl ?_;refine Er stepG_skip ?_;refine Ei ?_;refine EH fun _ hkk=>?_;iterate 4 (refine Eo ?_;walk_nrm)
    refine EB ?_;cases hkk;refine Ei ?_;refine EH fun _ hkk=>?_;iterate 4 (refine Eo ?_;walk_nrm)
    refine EB ?_;cases hkk;refine Ei ?_;refine Ei ?_;refine EH fun _ hkk=>?_;iterate 5 (refine Eo ?_;walk_nrm)
    refine Er (stepG_unwanted rfl rfl) ?_;walk_nrm;refine Er (stepG_unwanted rfl rfl) ?_;walk_nrm;refine Er (stepG_unwanted rfl rfl) ?_;walk_nrm;refine Er (stepG_unwanted rfl rfl) ?_;walk_nrm
    (refine Eo ?_;walk_nrm)
    refine EB ?_;cases hkk;refine JL.Ey rfl ?_;refine Er stepG_skip ?_;refine Ei ?_;refine Ei ?_;refine EH fun _ hkk=>?_;iterate 2 (refine Eo ?_;walk_nrm)
    refine EB ?_;cases hkk;refine JL.Ey rfl ?_;refine Er stepG_skip ?_;refine Ei ?_;refine Ei ?_;refine EH fun _ hkk=>?_;iterate 7 (refine Eo ?_;walk_nrm)
    refine Er (stepG_unwanted rfl rfl) ?_;walk_nrm;refine Er (stepG_unwanted rfl rfl) ?_;walk_nrm;refine Er (stepG_unwanted rfl rfl) ?_;walk_nrm;refine Er (stepG_unwanted rfl rfl) ?_;walk_nrm
    (refine Eo ?_;walk_nrm)
    refine EB ?_;cases hkk;refine JL.Ey rfl ?_;refine Er stepG_skip ?_;refine Ei ?_;refine Ei ?_;refine EH fun _ hkk=>?_;iterate 6 (refine Eo ?_;walk_nrm)
    refine EB ?_;cases hkk;refine JL.Ey rfl ?_;refine Er stepG_skip ?_;refine Ei ?_;refine Ei ?_;refine EH fun _ hkk=>?_;iterate 3 (refine Eo ?_;walk_nrm)
    refine JL.call rfl rfl (by first|exact Zh|exact bJ|decide|assumption) rfl H.f_uLoad (nm_uLoad L) rfl ?_;walk_nrm;simp only [uLoadFn];walk_nrm;refine Ei ?_;refine EH fun _ hkk=>?_
    (refine Eo ?_;walk_nrm)
    refine EB ?_;cases hkk;refine Ei ?_;refine EH fun _ hkk=>?_;iterate 3 (refine Eo ?_;walk_nrm)
    refine SG.stop fun w hl=>⟨rfl,fun hw=>⟨_,stepG_load_atomic rfl rfl (by k_ne) rfl H.f_loadU64 (x_loadU64_n L) (x_loadU64_b L) (x_loadU64_x L) .u64 (x_loadU64_f L) rfl hw.cellSt,SG.at hl fun W=>?_⟩⟩
    clear hw hl;walk_nrm
    (refine Eo ?_;walk_nrm)
    refine EB ?_;cases hkk;refine Er stepG_ret' ?_;refine JL.leave1 rfl rfl H.f_uLoad rfl ?_;walk_nrm;iterate 2 (refine Eo ?_;walk_nrm)
    refine EB ?_;cases hkk;refine JL.Ey rfl ?_;refine Er stepG_skip ?_;refine Ei ?_;refine EH fun _ hkk=>?_;iterate 3 (refine Eo ?_;walk_nrm)
    refine JL.call rfl rfl (by first|exact Zh|exact bJ|decide|assumption) rfl H.f_uStore (nm_uStore L) rfl ?_;walk_nrm;simp only [uStoreFn];walk_nrm;refine EH fun _ hkk=>?_;iterate 4 (refine Eo ?_;walk_nrm)
    refine SG.stop fun w hl=>⟨rfl,fun hw=>⟨_,stepG_store_atomic rfl rfl (by k_ne) rfl H.f_storeU64 (x_storeU64_n L) (x_storeU64_b L) (x_storeU64_x L) (x_storeU64_f L) rfl rfl hw.cellSt (hw.thaw 0),SG.at ⟨_,_,hw.setSt 0⟩ fun W=>?_⟩⟩
    clear hw hl;walk_nrm;refine EB ?_;cases hkk;refine Er stepG_end ?_;refine JL.leave0 rfl rfl H.f_uStore rfl ?_;walk_nrm;refine EB ?_;cases hkk;refine Ei ?_;refine Ei ?_;refine EH fun _ hkk=>?_
    (refine Eo ?_;walk_nrm)
    refine EB ?_;cases hkk;refine JL.Ey rfl ?_;refine Er stepG_skip ?_;refine Er stepG_block ?_;refine Er stepG_loop ?_;refine Ei ?_;refine Ei ?_;refine EH fun _ hkk=>?_;iterate 2 (refine Eo ?_;walk_nrm)
    refine EB ?_;cases hkk;refine JL.Fz rfl ?_;refine Er stepG_skip ?_;refine Ei ?_;refine Er stepG_block ?_;refine EH fun _ hkk=>?_;iterate 3 (refine Eo ?_;walk_nrm)
    refine SG.stop fun w hl=>⟨rfl,mayWake_entry rfl rfl H.f_semrelease (x_semrelease_b L),fun hw=>⟨_,(stepG_semrelease rfl rfl (by k_ne) rfl H.f_semrelease (x_semrelease_n L) (x_semrelease_b L) (x_semrelease_x L) (x_semrelease_f L) (by simp [Act.eval,smA]) hw.cellSm (hw.thaw 1)).trans (by rfl),Vs.of fun W=>?_⟩⟩
    clear hw hl;walk_nrm;refine EB ?_;cases hkk;refine Er stepG_inBlock ?_;refine EH fun _ hkk=>?_;iterate 3 (refine Eo ?_;walk_nrm)
    refine EB ?_;cases hkk;refine Er stepG_inLoop ?_;refine Ei ?_;refine Ei ?_;refine EH fun _ hkk=>?_;iterate 2 (refine Eo ?_;walk_nrm)
    refine EB ?_;cases hkk;refine JL.Ey rfl ?_;refine JL.exit rfl ?_;refine Er stepG_end ?_;refine Vs.said (mk .enable) rfl rfl (fun w=>stepG_unwind_entry (v:=.tuple #[]) (evs:=#[mk .enable]) rfl H.f_enable (x_enable_n L) (x_enable_b L) (x_enable_x L) (x_enable_f L) (by simp [Extern.Race.none_]) (by simp [mk]) (by simp [mk])) ?_;refine JL.leave0 rfl rfl H.f_add rfl ?_;exact hT _
  ·
    have hd:deafBehind 1 #[mk .enable]=0:=rfl;rcases Nat.eq_zero_or_pos v with rfl|hvp
    . obtain rfl:wt=0:=by omega
      have z:((0:Nat):Int) * KK+((0:Nat):Int)=0:=by simp
      simp only [z];clear eS hv hwt hn hw;walk_nrm
      (refine Eo ?_;walk_nrm)
      refine EB ?_;cases hkk;refine Er stepG_ret' ?_;refine JL.leave1 rfl rfl H.f_uAdd rfl ?_;walk_nrm
      (refine Eo ?_;walk_nrm)
      refine EB ?_;cases hkk;refine Ei ?_;refine Ei ?_;refine EH fun _ hkk=>?_;iterate 4 (refine Eo ?_;walk_nrm)
      refine Er (stepG_unwanted rfl rfl) ?_;walk_nrm;refine Er (stepG_unwanted rfl rfl) ?_;walk_nrm
      (refine Eo ?_;walk_nrm)
      refine EB ?_;cases hkk;refine JL.Ey rfl ?_;refine Er stepG_skip ?_;refine Ei ?_;refine EH fun _ hkk=>?_;iterate 4 (refine Eo ?_;walk_nrm)
      refine EB ?_;cases hkk;refine Ei ?_;refine EH fun _ hkk=>?_;iterate 4 (refine Eo ?_;walk_nrm)
      refine EB ?_;cases hkk;refine Ei ?_;refine Ei ?_;refine EH fun _ hkk=>?_;iterate 5 (refine Eo ?_;walk_nrm)
      refine Er (stepG_unwanted rfl rfl) ?_;walk_nrm;refine Er (stepG_unwanted rfl rfl) ?_;walk_nrm;refine Er (stepG_unwanted rfl rfl) ?_;walk_nrm;refine Er (stepG_unwanted rfl rfl) ?_;walk_nrm
      (refine Eo ?_;walk_nrm)
      refine EB ?_;cases hkk;refine JL.Ey rfl ?_;refine Er stepG_skip ?_;refine Ei ?_;refine Ei ?_;refine EH fun _ hkk=>?_;iterate 2 (refine Eo ?_;walk_nrm)
      refine EB ?_;cases hkk;refine JL.Ey rfl ?_;refine Er stepG_skip ?_;refine Ei ?_;refine Ei ?_;refine EH fun _ hkk=>?_;iterate 3 (refine Eo ?_;walk_nrm)
      refine Er (stepG_unwanted rfl rfl) ?_;walk_nrm;refine Er (stepG_unwanted rfl rfl) ?_;walk_nrm;iterate 2 (refine Eo ?_;walk_nrm)
      refine Er (stepG_unwanted rfl rfl) ?_;walk_nrm;refine Er (stepG_unwanted rfl rfl) ?_;walk_nrm;refine Er (stepG_unwanted rfl rfl) ?_;walk_nrm;refine Er (stepG_unwanted rfl rfl) ?_;walk_nrm
      (refine Eo ?_;walk_nrm)
      refine EB ?_;cases hkk;refine JL.Ey rfl ?_;refine Er stepG_skip ?_;refine Ei ?_;refine Ei ?_;refine EH fun _ hkk=>?_;iterate 6 (refine Eo ?_;walk_nrm)
      refine EB ?_;cases hkk;refine JL.Fz rfl ?_;refine Er stepG_ret' ?_;refine Vs.said (mk .enable) rfl rfl (fun w=>stepG_unwind_entry (v:=.tuple #[]) (evs:=#[mk .enable]) rfl H.f_enable (x_enable_n L) (x_enable_b L) (x_enable_x L) (x_enable_f L) (by simp [Extern.Race.none_]) (by simp [mk]) (by simp [mk])) ?_;refine JL.leave0 rfl rfl H.f_add rfl ?_;exact hT _
    . obtain ⟨S,hS⟩:∃ S:Int,(v:Int) * KK+wt=S:=⟨_,rfl⟩
      have a1:S / 4294967296=(v:Int):=by rw [← hS];simp only [KK];omega
      have b1:bits .and .u64 S 2147483648=0:=by rw [← hS];have:=ConcN.st_flag v wt zOM hwt;simpa [KK] using this
      have b2:bits .and .u64 S 2147483647=(wt:Int):=by rw [← hS];have:=ConcN.st_waiters v wt zOM hwt;simpa [KK] using this
      have c1:IntKind.i32.wrap (v:Int)=(v:Int):=by rw [IntKind.wrap_i32];omega
      have q3:decide ((v:Int) < 0)=false:=decide_eq_false zOM;have q4:decide (0 < (v:Int))=true:=decide_eq_true zOM;simp only [hS];obtain rfl|rfl:wt=0\/wt=1:=by omega
      . have b3:bits .and .u64 S 2147483647=0:=by simpa using b2
        clear eS hn hw hS b2;walk_nrm
        (refine Eo ?_;walk_nrm)
        refine EB ?_;cases hkk;refine Er stepG_ret' ?_;refine JL.leave1 rfl rfl H.f_uAdd rfl ?_;walk_nrm
        (refine Eo ?_;walk_nrm)
        refine EB ?_;cases hkk;refine Ei ?_;refine Ei ?_;refine EH fun _ hkk=>?_;iterate 4 (refine Eo ?_;walk_nrm)
        refine Er (stepG_unwanted rfl rfl) ?_;walk_nrm;refine Er (stepG_unwanted rfl rfl) ?_;walk_nrm
        (refine Eo ?_;walk_nrm)
        refine EB ?_;cases hkk;refine JL.Ey rfl ?_;refine Er stepG_skip ?_;refine Ei ?_;refine EH fun _ hkk=>?_;iterate 4 (refine Eo ?_;walk_nrm)
        refine EB ?_;cases hkk;refine Ei ?_;refine EH fun _ hkk=>?_;iterate 4 (refine Eo ?_;walk_nrm)
        refine EB ?_;cases hkk;refine Ei ?_;refine Ei ?_;refine EH fun _ hkk=>?_;iterate 5 (refine Eo ?_;walk_nrm)
        refine Er (stepG_unwanted rfl rfl) ?_;walk_nrm;refine Er (stepG_unwanted rfl rfl) ?_;walk_nrm;refine Er (stepG_unwanted rfl rfl) ?_;walk_nrm;refine Er (stepG_unwanted rfl rfl) ?_;walk_nrm
        (refine Eo ?_;walk_nrm)
        refine EB ?_;cases hkk;refine JL.Ey rfl ?_;refine Er stepG_skip ?_;refine Ei ?_;refine Ei ?_;refine EH fun _ hkk=>?_;iterate 2 (refine Eo ?_;walk_nrm)
        refine EB ?_;cases hkk;refine JL.Ey rfl ?_;refine Er stepG_skip ?_;refine Ei ?_;refine Ei ?_;refine EH fun _ hkk=>?_;iterate 3 (refine Eo ?_;walk_nrm)
        refine Er (stepG_unwanted rfl rfl) ?_;walk_nrm;refine Er (stepG_unwanted rfl rfl) ?_;walk_nrm;iterate 2 (refine Eo ?_;walk_nrm)
        refine Er (stepG_unwanted rfl rfl) ?_;walk_nrm;refine Er (stepG_unwanted rfl rfl) ?_;walk_nrm;refine Er (stepG_unwanted rfl rfl) ?_;walk_nrm;refine Er (stepG_unwanted rfl rfl) ?_;walk_nrm
        (refine Eo ?_;walk_nrm)
        refine EB ?_;cases hkk;refine JL.Ey rfl ?_;refine Er stepG_skip ?_;refine Ei ?_;refine Ei ?_;refine EH fun _ hkk=>?_;iterate 3 (refine Eo ?_;walk_nrm)
        refine Er (stepG_unwanted rfl rfl) ?_;walk_nrm;refine Er (stepG_unwanted rfl rfl) ?_;walk_nrm
        (refine Eo ?_;walk_nrm)
        refine EB ?_;cases hkk;refine JL.Fz rfl ?_;refine Er stepG_ret' ?_;refine Vs.said (mk .enable) rfl rfl (fun w=>stepG_unwind_entry (v:=.tuple #[]) (evs:=#[mk .enable]) rfl H.f_enable (x_enable_n L) (x_enable_b L) (x_enable_x L) (x_enable_f L) (by simp [Extern.Race.none_]) (by simp [mk]) (by simp [mk])) ?_;refine JL.leave0 rfl rfl H.f_add rfl ?_;exact hT _
      . have b3:bits .and .u64 S 2147483647=1:=by simpa using b2
        clear eS hn hw hS b2;walk_nrm
        (refine Eo ?_;walk_nrm)
        refine EB ?_;cases hkk;refine Er stepG_ret' ?_;refine JL.leave1 rfl rfl H.f_uAdd rfl ?_;walk_nrm
        (refine Eo ?_;walk_nrm)
        refine EB ?_;cases hkk;refine Ei ?_;refine Ei ?_;refine EH fun _ hkk=>?_;iterate 4 (refine Eo ?_;walk_nrm)
        refine Er (stepG_unwanted rfl rfl) ?_;walk_nrm;refine Er (stepG_unwanted rfl rfl) ?_;walk_nrm
        (refine Eo ?_;walk_nrm)
        refine EB ?_;cases hkk;refine JL.Ey rfl ?_;refine Er stepG_skip ?_;refine Ei ?_;refine EH fun _ hkk=>?_;iterate 4 (refine Eo ?_;walk_nrm)
        refine EB ?_;cases hkk;refine Ei ?_;refine EH fun _ hkk=>?_;iterate 4 (refine Eo ?_;walk_nrm)
        refine EB ?_;cases hkk;refine Ei ?_;refine Ei ?_;refine EH fun _ hkk=>?_;iterate 5 (refine Eo ?_;walk_nrm)
        refine Er (stepG_unwanted rfl rfl) ?_;walk_nrm;refine Er (stepG_unwanted rfl rfl) ?_;walk_nrm;refine Er (stepG_unwanted rfl rfl) ?_;walk_nrm;refine Er (stepG_unwanted rfl rfl) ?_;walk_nrm
        (refine Eo ?_;walk_nrm)
        refine EB ?_;cases hkk;refine JL.Ey rfl ?_;refine Er stepG_skip ?_;refine Ei ?_;refine Ei ?_;refine EH fun _ hkk=>?_;iterate 2 (refine Eo ?_;walk_nrm)
        refine EB ?_;cases hkk;refine JL.Ey rfl ?_;refine Er stepG_skip ?_;refine Ei ?_;refine Ei ?_;refine EH fun _ hkk=>?_;iterate 7 (refine Eo ?_;walk_nrm)
        refine Er (stepG_unwanted rfl rfl) ?_;walk_nrm;refine Er (stepG_unwanted rfl rfl) ?_;walk_nrm;refine Er (stepG_unwanted rfl rfl) ?_;walk_nrm;refine Er (stepG_unwanted rfl rfl) ?_;walk_nrm
        (refine Eo ?_;walk_nrm)
        refine EB ?_;cases hkk;refine JL.Ey rfl ?_;refine Er stepG_skip ?_;refine Ei ?_;refine Ei ?_;refine EH fun _ hkk=>?_;iterate 3 (refine Eo ?_;walk_nrm)
        refine Er (stepG_unwanted rfl rfl) ?_;walk_nrm;refine Er (stepG_unwanted rfl rfl) ?_;walk_nrm
        (refine Eo ?_;walk_nrm)
        refine EB ?_;cases hkk;refine JL.Fz rfl ?_;refine Er stepG_ret' ?_;refine Vs.said (mk .enable) rfl rfl (fun w=>stepG_unwind_entry (v:=.tuple #[]) (evs:=#[mk .enable]) rfl H.f_enable (x_enable_n L) (x_enable_b L) (x_enable_x L) (x_enable_f L) (by simp [Extern.Race.none_]) (by simp [mk]) (by simp [mk])) ?_;refine JL.leave0 rfl rfl H.f_add rfl ?_;exact hT _
end
end
section
section
variable {P:Program}{L:WgLink}{Wg:Nat}{c:Frame}{cs:List Frame}
theorem xZ (H:WgLib P L)(hcm:c.mode=.returning)(hT:∀ W,JL (Vs P 0) () (G c cs) W)(W:World) :
    JL (SG P L.tWg Wg (KQ P L.tWg Wg)) () (G ((baseD L.done).at ⟨#[.pointer (some ⟨Wg,0,none⟩),undef,undef,undef],[]⟩ [.code (body_done L)]) (c :: cs)) W:=by
  lib_facts
  simp only [body_done,doneFn,Option.getD_some];refine EH fun _ hkk=>?_
  (refine Eo ?_;walk_nrm)
  refine JL.call (c:=body_add L) rfl rfl nE rfl H.f_add (nm_add L) rfl ?_;have hn:(addFn L).ntmps=117:=rfl;rw [hn];simp only [List.map_toArray,List.map_cons,List.map_nil,Act.eval,Array.getD_eq_getD_getElem?,List.getElem?_toArray,List.getElem?_cons_succ,List.getElem?_cons_zero,Option.getD_some,List.size_toArray,List.length_cons,List.length_nil,Nat.reduceAdd,Nat.reduceSub];refine uz H (fun W=>?_) W;walk_nrm;refine EB ?_;cases hkk;refine Er stepG_end ?_;exact JL.leaveD rfl rfl H.f_done rfl hcm (hT W)
end
end
end Go.LK
namespace Go.Proofs.Yticecinjcajmcaa
open Go Go.Conc Go.LT Go.LC Go.LK Go.RowKit
open Go.ConcN (WgLive)
section
def pc0:Code:=match Try.f33.body with | some (.seq c _)=>c | _=>.skip
def pc1:Code:=match Try.f33.body with | some (.seq _ (.seq c _))=>c | _=>.skip
def pc2:Code:=match Try.f33.body with | some (.seq _ (.seq _ (.seq c _)))=>c | _=>.skip
def Tg:Code:=match Try.f33.body with | some (.seq _ (.seq _ (.seq _ (.block _ (.loop c)))))=>c | _=>.skip
theorem fT:Try.f33.body=some (.seq pc0 (.seq pc1 (.seq pc2 (.block 0 (.loop Tg))))):=rfl
def pl3:Code:=match Tg with | .seq c _=>c | _=>.skip
def pQ:Code:=match Tg with | .seq _ (.seq _ (.seq _ c))=>c | _=>.skip
def Ti:Code:=match Tg with | .seq _ (.seq _ (.seq (.block _ c) _))=>c | _=>.skip
theorem WM:Tg=.seq pl3 (.seq (.cond (.tmp 13) .skip (.exit 0)) (.seq (.block 1 Ti) pQ)):=rfl
def pb4:Code:=match Ti with | .seq c _=>c | _=>.skip
def pb5:Code:=match Ti with | .seq _ (.seq c _)=>c | _=>.skip
def zR:Code:=match Ti with | .seq _ (.seq _ (.seq c _))=>c | _=>.skip
def pb7:Code:=match Ti with | .seq _ (.seq _ (.seq _ (.seq c _)))=>c | _=>.skip
def pb8:Code:=match Ti with | .seq _ (.seq _ (.seq _ (.seq _ (.seq c _))))=>c | _=>.skip
def Zc:Code:=match Ti with | .seq _ (.seq _ (.seq _ (.seq _ (.seq _ c))))=>c | _=>.skip
theorem rQ:Ti=.seq pb4 (.seq pb5 (.seq zR (.seq pb7 (.seq pb8 Zc)))):=rfl
section
variable {Cs Sg:Type}{D:Dr Ef Cs Sg}{m:Mem Sg}{ρ:Rn}{b k:Nat}{cf:Frame}{fs:List Frame}{W:World}{σ:Sg}
def sw (s:FI Ef Cs Sg ρ)(σ:Sg):Prop:=s.gr=false/\s.z.cur=none/\s.z.bg=0/\s.x.1.1.tgt=({ s.z with over:=s.z.todo.isEmpty },σ,s.z.todo.isEmpty)
theorem dM {cc:Code}{s:FI Ef Cs Sg ρ}{wv dv cv:Value}{pb:Nat}{ds:List Deferred}{K:List Item}{v7 v8 v9 Aa Ab Ac Ae Af Ah Ai Aj Ak Al Am Ao Ap Ar Au Av Aw Ay Az AA AB AJ AL AO AP AQ AU AV AX AY AZ A8 A9 Ba Bb Bc Bf Bh Bj Bl Bp Bq Br Bu Bv Bw Bz BD BF BG BH BI BJ BK BL BM BN BO BP BQ BR BS BU BX BZ Ca Cb Cc Ce Cg Ci:Value}(kT:∀ tm K,Ve ρ Try.prog 120 ((base 33).at ⟨tm,ds⟩ K) (cf :: fs))(hA:Jt m b k s σ W)(hT:sw s σ)(hpb:s.pb=pb){c:Ef}{l:List Ef}(htd:s.z.todo=c :: l)(hJ:∀ (s':FI Ef Cs Sg ρ) (t:Nat) (σ':Sg) (W':World),Jt m b k ⟨s'.x,s'.own,s'.core,s'.pb,{ s.z with st:=t },true,s.ans⟩ σ' W'->s'.x.1.1.v.h=s.x.1.1.v.h->s'.x.1.1.v.t=s.x.1.1.v.t->s'.own=s.own->s'.core=s.core->s'.pb=s.pb->s'.x.1.2+1=s.x.1.2->s'.x.1.1.tgt=D.hold s.z t σ'->(∀ g,s.own g/\g≠b->W'.heap[g]?=W.heap[g]?)->W.heap.size<=W'.heap.size->
      JL (SW (Eu D m) ρ Try.prog).L s'.x (G ((base 33).at ⟨#[wv,dv,cv,.pointer (some ⟨pb,0,none⟩),undef,undef,undef,v7,v8,v9,Aa,Ab,Ac,Ae,Af,Ah,.pointer (some ⟨b,0,none⟩),.tuple #[],.pointer (some ⟨b,0,none⟩),.tuple #[],Am,Ao,Ap,Ar,Au,Av,Aw,Ay,Az,AA,AB,AJ,AL,AO,AP,AQ,AU,AV,AX,AY,AZ,A8,A9,Ba,Bb,Bc,Bf,Bh,Bj,Bl,Bp,Bq,Br,Bu,Bv,Bw,Bz,BD,BF,BG,BH,BI,BJ,BK,BL,BM,BN,BO,BP,BQ,BR,BS,BU,BX,BZ,Ca,Cb,Cc,Ce,Cg,Ci],ds⟩ (.code cc :: K)) (cf :: fs)) W') :
    JL (SW (Eu D m) ρ Try.prog).L s.x (G ((base 33).at ⟨#[wv,dv,cv,.pointer (some ⟨pb,0,none⟩),undef,undef,undef,v7,v8,v9,Aa,Ab,Ac,Ae,Af,Ah,Ai,Aj,Ak,Al,Am,Ao,Ap,Ar,Au,Av,Aw,Ay,Az,AA,AB,AJ,AL,AO,AP,AQ,AU,AV,AX,AY,AZ,A8,A9,Ba,Bb,Bc,Bf,Bh,Bj,Bl,Bp,Bq,Br,Bu,Bv,Bw,Bz,BD,BF,BG,BH,BI,BJ,BK,BL,BM,BN,BO,BP,BQ,BR,BS,BU,BX,BZ,Ca,Cb,Cc,Ce,Cg,Ci],ds⟩ (.code pb5 :: .code (.seq zR cc) :: K)) (cf :: fs)) W:=by
  obtain ⟨x,own,core,pb',z,gr,ans⟩:=s;obtain rfl:pb'=pb:=hpb;obtain ⟨hgr,hcur,hbg,Lj⟩:=hT;simp only at hgr hcur hbg Lj htd;subst hgr;obtain rfl:x.1.1.v.b=b:=hA.vb;obtain rfl:x.1.1.v.k=k:=hA.vk;have hcap:=hA.cap;have hpc:=hA.pc;simp only at hpc;rw [htd] at Lj;simp only [List.isEmpty_cons] at Lj;dsimp only;simp only [pb5,Ti,Tg,Try.f33];refine EH fun _ hkk=>?_;refine EL.read (S:=SW (Eu D m) ρ Try.prog) (ad:=⟨pb',0,none⟩) (.pointer (some ⟨x.1.1.v.b,0,none⟩)) rfl rfl nE hpc (fun w h=>by go_simp) (fun w h e he=>by simp [go_sem,h] at he;exact he) ?_;walk_nrm;refine JL.enter rfl rfl nE rfl Try.func59 zKR zKR ?_;walk_nrm;cases hkk;generalize hK:Item.code (.seq zR cc) :: K=K6;have h:=hA.row;simp only at h;refine PZ h fun W₁ ha=>Qf ?_;obtain ⟨τ,d,rfl⟩:=ha
  have hsel:∀ (c:Frame) (cs:List Frame) (w:World),stepG Try.prog false (G ((base 59).at ⟨Mj x.1.1.v.b x.1.1.v.k ρ.come ρ.gone,[]⟩ [.inRegion JN [0,1,2,3],.code Kr]) (c :: cs)) w =
      .comm (G ((base 59).at ⟨Mj x.1.1.v.b x.1.1.v.k ρ.come ρ.gone,[]⟩ [.inRegion JN [0,1,2,3],.code Kr]) (c :: cs)) (He ρ x.1.1.v.k) true .select w #[]:=fun c cs w=>by
    rw [Xu];have h1:=hA.zi;have h2:=hA.zg;simp only [He,h1,h2]
  have hcell:∀ o v,W.cell? ⟨x.1.1.v.b,o,none⟩=some v->(sh W τ d).cell? ⟨x.1.1.v.b,o,none⟩=some v:=fun _ _ h=>h;have hm:∀ {σ:Sg},m.Inv σ W->m.Inv σ (sh W τ d):=fun h=>m.eq _ W _ (fun b _=>.of rfl) h;have h':=h;unfold Fq at h';have hrec:qH x.1.1.v.k ({ z with over:=false }:Wk Ef Cs) x.1.1.v.b own (sh W τ d):=⟨hA.zk,hA.co _ hA.cb,_,_,_,_,_,by have e2:=hA.zf;simp only at e2;simp only [e2];exact h,(hA.am.mono fun g hg=>⟨hA.co g hg.1,hg.2.1⟩).QD fun g _=>.of rfl⟩
  have hz':({ z with over:=false }:Wk Ef Cs)=z:=by have e1:=hA.zo;simp only at e1;rw [← e1]
  have bS:({ k:=z.k,todo:=c :: l,cur:=z.cur,st:=z.st,bg:=z.bg,ow:=z.ow,out:=z.out,fell:=z.fell }:Wk Ef Cs)=z:=by rw [← htd];exact hz'
  rw [bS] at Lj;rw [hz'] at hrec;refine SW.sit (M:=Eu D m) (own:=own) (pb:=pb') rfl (hsel _ _) (by rw [Lj];exact hm hA.inv) hA.sh (by rw [Lj];exact hrec) (hA.co _ hA.Pb) hA.o1 hA.o2 hA.o3 hA.Ld (fun e=>by rw [Lj] at e;cases e) fun _=>⟨⟨hcell _ _ (by simp [World.cell?,h']),hcell _ _ (by simp [World.cell?,h']),hpc⟩,?_⟩
  have htw:#[.pointer (some ⟨x.1.1.v.b,0,none⟩)] ++ Array.replicate (Try.f60.ntmps - #[Value.pointer (some ⟨x.1.1.v.b,0,none⟩)].size) undef=#[.pointer (some ⟨x.1.1.v.b,0,none⟩),undef,undef,undef,undef,undef,undef,undef,undef,undef,undef,undef,undef,undef,undef,undef,undef,undef,undef,undef,undef,undef,undef]:=by
    have:Try.f60.ntmps=23:=by kernel_rfl
    rw [this];walk_nrm
  refine ⟨?gs,fun v' hs home hh=>Pg fun W₃=>?sit,fun hsh=>?shut,?hold⟩
  case sit=>
    unfold He;refine OO ?_;rw [Frame.finish_at];walk_nrm;refine Er stepG_region_end ?_;rw [← hK];refine Ei ?_;simp only [zR,Ti,Tg,Try.f33];refine JL.region (l:=[0,1]) rfl fun _ hk3=>?_;cases hk3
    refine JQ.load (.pointer (some ⟨x.1.1.v.b,0,none⟩)) rfl rfl nE (fun w hK=>by
      have h2:=hK.2.2;rw [hs.pb,hs.b] at h2;go_simp) (fun w hK e he=>by
      have h2:=hK.2.2;rw [hs.pb,hs.b] at h2;simp [go_sem,h2] at he;subst he;exact ⟨_,rfl,.inr (.inr (by rw [hs.pb])),by unfold Za;rw [hs.pb];show pb' < _;omega⟩) ?_
    walk_nrm;refine JL.call rfl rfl nE rfl Try.func60 zKR PK ?_;rw [List.map_toArray];simp only [List.map_cons,List.map_nil,Act.eval,Array.getD_eq_getD_getElem?,List.getElem?_toArray,List.getElem?_cons_succ,List.getElem?_cons_zero,Option.getD_some];rw [htw,← hs.t,← hs.b];refine Ur hA.zi hA.zg ?_;rw [hs.t,hs.b];exact hh
  case shut=>exact PX (kT _ _)
  case hold=>
    intro r' hr v' hs t σ' W' y e1 e2 e3 MN hn0 hH hI;have h2:Fq W' x.1.1.v.b x.1.1.v.k x.1.1.v.t ρ.come ρ.gone false z.st z.bg z.ow ans false false:=by unfold Fq;rw [hH.own _ (hA.o1 _ hA.Ld)];exact h
    refine RQ h2 fun W'' h3 h4 h5=>?_;rw [Frame.finish_at];show JL (SW (Eu D m) ρ Try.prog).L y _ W'';walk_nrm;refine Er stepG_region_end ?_;rw [Lj] at e2;have hso:v'.own=own:=hs.own;have hoth:∀ g,own g->g≠x.1.1.v.b->W''.heap[g]?=W.heap[g]?:=fun g hg hne=>(h4 g hne).trans (hH.own g hg);have hbS:¬ m.Sh x.1.1.v.b:=(hA.o3 _ (hA.co _ hA.cb)).2.1;refine hJ ⟨y,own,core,pb',z,true,ans⟩ t σ' W'' ?_ (by show y.1.1.v.h=_;rw [e1,hs.h]) (by show y.1.1.v.t=_;rw [e1,hs.t]) rfl rfl rfl (by show y.1.2+1=x.1.2;omega) e2 (fun g hg=>hoth g hg.1 hg.2) (by rw [h5];exact hH.size);exact {
            zi:=hA.zi,zg:=hA.zg,vb:=by show y.1.1.v.b=_;rw [e1,hs.b],vk:=by show y.1.1.v.k=_;rw [e1,hs.k]
            row:=by show Fq W'' _ _ y.1.1.v.t _ _ _ _ _ _ _ _ _;rw [e1,hs.t];exact h3
            zk:=hA.zk,zo:=hA.zo,zf:=hA.zf
            am:=hA.am.QD fun g hg=>.of (hoth g (hA.co g hg.1) hg.2.1)
            inv:=m.eq σ' W' W'' (fun g hg=>.of (h4 g fun e=>hbS (e ▸ hg))) hI
            sh:=fun g hg=>MN.sh g hg,low:=fun g hg=>MN.low g hg
            size:=by show y.1.1.n0<=_;rw [hn0,h5];exact Nat.le_refl _
            Wo:=fun g hg=>by
              show g < y.1.1.n0;have hg':own g:=by rw [← hso,← e1];exact hg
              obtain ⟨_,_,c,e,f,hc⟩:=hA.o3 g hg';have:=(zGE hc).1;have h6:W.heap.size<=W'.heap.size:=hH.size;rw [hn0];omega
            cb:=hA.cb,Pb:=hA.Pb,co:=hA.co
            o1:=fun g hg=>by rw [← hso,← e1];exact hg
            o2:=fun g hg=>.inl (by show y.1.1.v.own g;rw [e1,hso];exact hg)
            o3:=fun g hg=>⟨MN.own g (by rw [hso];exact hg),(hA.o3 g hg).2.1,by
              by_cases e:g=x.1.1.v.b
              . rw [e];exact ⟨_,_,_,h3⟩
              . rw [hoth g hg e];exact (hA.o3 g hg).2.2⟩
            Ld:=by show y.1.1.v.own _;rw [e1,hso];exact hA.co _ hA.cb
            TM:=hA.TM
            pc:=by rw [cell_of (hoth pb' (hA.co _ hA.Pb) hA.TM)];exact hA.pc
            cap:=by simp at hcap ⊢;omega }
end
end
section
def Sl (wv dv cv:Value)(pb:Nat)(u7 u8 Ob FU FC:Value)(tm:Array Value):Prop:=∃ v9 Ae Af Ah Ai Aj Ak Al Am Ao Ap Ar Au Av Aw Ay Az AA AB AJ AL AO AP AQ AU AV AX AY AZ A8 A9 Ba Bb Bc Bf Bh Bj Bl Bp Bq Br Bu Bv Bw Bz BD BF BG BH BI BJ BK BL BM BN BO BP BQ BR BS BU BX BZ Ca Cb Cc Ce Cg Ci,tm=#[wv,dv,cv,.pointer (some ⟨pb,0,none⟩),undef,undef,undef,u7,u8,v9,Ob,FU,FC,Ae,Af,Ah,Ai,Aj,Ak,Al,Am,Ao,Ap,Ar,Au,Av,Aw,Ay,Az,AA,AB,AJ,AL,AO,AP,AQ,AU,AV,AX,AY,AZ,A8,A9,Ba,Bb,Bc,Bf,Bh,Bj,Bl,Bp,Bq,Br,Bu,Bv,Bw,Bz,BD,BF,BG,BH,BI,BJ,BK,BL,BM,BN,BO,BP,BQ,BR,BS,BU,BX,BZ,Ca,Cb,Cc,Ce,Cg,Ci]
section
variable {Cs Sg:Type}{D:Dr Ef Cs Sg}{m:Mem Sg}{ρ:Rn}{b k:Nat}{cf:Frame}{fs:List Frame}{W:World}{σ:Sg}
variable {x:Wx (Wk Ef Cs) Sg ρ}{own core:Nat->Prop}{pb:Nat}{z:Wk Ef Cs}{ans:Value}{gr:Bool}{wv dv cv u7 u8 Ob FU FC:Value}{ds:List Deferred}{K:List Item}
theorem Fq.cells {W:World}{b k t co go:Nat}{gr:Bool}{st bg ow:Int}{ans:Value}{dn fl:Bool}(h:Fq W b k t co go gr st bg ow ans dn fl) :
    W.cell? ⟨b,5,none⟩=some (.bool gr)/\W.cell? ⟨b,6,none⟩=some (.int .i64 st)/\W.cell? ⟨b,7,none⟩=some (.int .i64 bg)/\W.cell? ⟨b,8,none⟩=some (.int .i64 ow)/\W.cell? ⟨b,9,none⟩=some ans/\W.cell? ⟨b,10,none⟩=some (.bool dn)/\W.cell? ⟨b,11,none⟩=some (.bool fl):=by
  unfold Fq at h;simp [World.cell?,h]
theorem EW {W W':World}(h:LT.Alike W W'):W'.heap=W.heap:=by obtain ⟨τ,d,rfl⟩:=h;rfl
theorem Jt.alike {s:FI Ef Cs Sg ρ}{W':World}(h:Jt m b k s σ W)(hh:W'.heap=W.heap):Jt m b k s σ W':=by
  have hc:∀ a,W'.cell? a=W.cell? a:=fun a=>by simp [World.cell?,hh]
  exact { h with row:=by have:=h.row;unfold Fq at this ⊢;rw [hh];exact this
                 am:=h.am.QD fun g _=>.of (by rw [hh])
                 inv:=m.eq σ W W' (fun g _=>.of (by rw [hh])) h.inv
                 size:=by rw [hh];exact h.size
                 o3:=fun g hg=>by rw [hh];exact h.o3 g hg
                 pc:=by rw [hc];exact h.pc }
theorem oQ (hA:Jt m b k ⟨x,own,core,pb,z,true,ans⟩ σ W)(hcap:x.1.2+1 < 2 ^ 62){tm:Array Value}(hs:Sl wv dv cv pb u7 u8 Ob FU FC tm)(hJ:∀ W' tm',Sl wv dv cv pb u7 u8 Ob FU FC tm'->Jt m b k ⟨x,own,core,pb,{ z with bg:=z.st,ow:=0 },true,ans⟩ σ W'->Ht b W W'->JL (SW (Eu D m) ρ Try.prog).L x (G ((base 33).at ⟨tm',ds⟩ K) (cf :: fs)) W') :
    JL (SW (Eu D m) ρ Try.prog).L x (G ((base 33).at ⟨tm,ds⟩ (.code pb7 :: K)) (cf :: fs)) W:=by
  obtain ⟨v9,Ae,Af,Ah,Ai,Aj,Ak,Al,Am,Ao,Ap,Ar,Au,Av,Aw,Ay,Az,AA,AB,AJ,AL,AO,AP,AQ,AU,AV,AX,AY,AZ,A8,A9,Ba,Bb,Bc,Bf,Bh,Bj,Bl,Bp,Bq,Br,Bu,Bv,Bw,Bz,BD,BF,BG,BH,BI,BJ,BK,BL,BM,BN,BO,BP,BQ,BR,BS,BU,BX,BZ,Ca,Cb,Cc,Ce,Cg,Ci,rfl⟩:=hs;refine EL.EJ (S:=SW (Eu D m) ρ Try.prog) (b:=base 33) [] (by simp) zKR nE zKR fun W₁ ha=>?_;have hA1:=hA.alike (EW ha);obtain ⟨c5,c6,c7,c8,c9,c10,c11⟩:=hA1.row.cells;have f7:W₁.frozen? ⟨b,7,none⟩=false:=hA1.row.frozen;have f8:W₁.frozen? ⟨b,8,none⟩=false:=hA1.row.frozen;have hpc:=hA1.pc;have HH:=Lib.hid (zAI hJ (zAI hA (zAI hA1 hcap)));clear hJ hA hA1 hcap;simp only at hpc c5 c6 c7 c8 c9 c10 c11;dsimp only;simp only [pb7,Ti,Tg,Try.f33];gi_region
  obtain ⟨hJ,hA,hA1,hcap⟩:=HH.out;clear HH;have hrow:=hA1.row;unfold Fq at hrow;generalize hW':World.setCell _ _ _=W';have hh:=EW ha;have ht:Ht b W W'.drew:=⟨fun g hg=>by
    show W'.heap[g]?=_;rw [← hW',← hh];simp [World.setCell,Array.getElem?_modify,hg.symm],by
    show W'.heap.size=_;rw [← hW',← hh];simp [World.setCell]⟩
  refine hJ W'.drew _ ⟨_,_,_,_,_,_,_,_,_,_,_,_,_,_,_,_,_,_,_,_,_,_,_,_,_,_,_,_,_,_,_,_,_,_,_,_,_,_,_,_,_,_,_,_,_,_,_,_,_,_,_,_,_,_,_,_,_,_,_,_,_,_,_,_,_,_,_,_,_,rfl⟩ (hA.turn ?_ ht rfl rfl rfl rfl (by simp;omega)) ht;show W'.heap[b]?=_;rw [← hW'];simp [World.setCell,Array.getElem?_modify,hrow]
end
end
end Go.Proofs.Yticecinjcajmcaa
namespace Go.LK
open Go Go.Conc Go.LT Go.LC
open Go.ConcN (WgLive)
open Go.ConcR (KK wgBlock WgAt stA smA rd wr mk)
section
variable {P:Program}{ρ:Rn}{m:Nat}{b:Frame}{a:Act}{k:List Item}{cs:List Frame}
theorem FV.c {f:Frame}{g':Goroutine}(h:∀ {w},stepG P false (G f cs) w=.go g' w #[])(hJ:FV ρ P m g'):FV ρ P (m+1) (G f cs):=.ctl rfl (fun _ _=>h) hJ
theorem FV.op {ops:Array Oper}{i:Nat}{rest:List Nat}{o:Oper}(v:Value)(ho:ops[i]?=some o)(hw:Region.wanted o (yielded ops a.tmps)=true)(hk:b.kind≠.early)(hr:∀ w,(execOp a.eval o).runT P w #[]=(.ok (.value v) w,#[]))(h:FV ρ P m (G (b.at (a.put o.dst v) (.inRegion ops rest :: k)) cs)):FV ρ P (m+1) (G (b.at a (.inRegion ops (i :: rest) :: k)) cs):=
  .ctl rfl (fun w _=>by rw [stepG_value ho hw hk (by rw [← Sem.runT_fst (es:=#[]),hr]),listed_none];show ((execOp a.eval o).runT P w #[]).2=#[];rw [hr]) h
theorem FV.nop {ops:Array Oper}{i:Nat}{rest:List Nat}{o:Oper}(ho:ops[i]?=some o)(hw:Region.wanted o (yielded ops a.tmps)=true)(hk:b.kind≠.early)(hr:∀ w,(execOp a.eval o).runT P w #[]=(.ok .skip w,#[]))(h:FV ρ P m (G (b.at (a.put o.dst undef) (.inRegion ops rest :: k)) cs)):FV ρ P (m+1) (G (b.at a (.inRegion ops (i :: rest) :: k)) cs):=
  .ctl rfl (fun w _=>by rw [stepG_none ho hw hk (by rw [← Sem.runT_fst (es:=#[]),hr]),listed_none];show ((execOp a.eval o).runT P w #[]).2=#[];rw [hr]) h
theorem FV.up {g:Goroutine}(h:FV ρ P m g)(j:Nat):FV ρ P (m+j) g:=by
  induction j with
  | zero=>exact h
  | succ j ih=>exact fun w hl=>(ih w hl).more
theorem FV.reg {id:Nat}{ops:Array Oper}{l:List Nat}(hl:List.range ops.size=l)(h:FV ρ P m (G (b.at a (.inRegion ops l :: k)) cs)):FV ρ P (m+1) (G (b.at a (.code (.region id ops false) :: k)) cs):=
  .c (g':=G (b.at a (.inRegion ops (List.range ops.size) :: k)) cs) stepG_region (by rw [hl];exact h)
theorem Ux {ty:TypeId}{Wg:Nat}{w:World}(o:Obj)(h:WgLive ty Wg w):WgLive ty Wg { w with heap:=w.heap.push o }:=by obtain ⟨st,sm,h⟩:=h;refine ⟨st,sm,?_⟩;unfold WgAt at h ⊢;have hlt:=(zGE h).1;show (w.heap.push o)[Wg]?=_;rw [Array.getElem?_push,if_neg zOM];exact h
theorem FV.lay {ops:Array Oper}{i:Nat}{rest:List Nat}{o:Oper}{ob:Obj}(hok:Pv ob)(ho:ops[i]?=some o)(hw:Region.wanted o (yielded ops a.tmps)=true)(hk:b.kind≠.early)(hr:∀ w,(execOp a.eval o).runT P w #[]=(.ok (.value (.pointer (some ⟨w.heap.size,0,none⟩))) (w.alloc ob),#[]))(h:∀ N,FV ρ P m (G (b.at (a.put o.dst (.pointer (some ⟨N,0,none⟩))) (.inRegion ops rest :: k)) cs)):FV ρ P (m+1) (G (b.at a (.inRegion ops (i :: rest) :: k)) cs):=fun w hl=>
  Goes.step rfl fun w₁ h₁=>by have hl₁:=h₁.live hl;rw [stepG_value ho hw hk (by rw [← Sem.runT_fst (es:=#[]),hr]),listed_none (by show ((execOp a.eval o).runT P w₁ #[]).2=#[];rw [hr])];exact ⟨⟨rfl,.inr ⟨ob,hok,rfl⟩⟩,h _ _ (Ux ob hl₁)⟩
theorem FV.recover {ops:Array Oper}{i:Nat}{rest:List Nat}{o:Oper}{ats:Array TypeId}{c:Frame}{v:Value}{older:List PanicEntry}(ho:ops[i]?=some o)(hw:Region.wanted o (yielded ops a.tmps)=true)(hk:b.kind=.deferred)(hro:b.roundOf=none)(hop:o.op=.call { callee:=.builtin .recover,args:=#[],argTypes:=ats })(hc:c.mode=.panicking (⟨v,false,false⟩ :: older))(h:FV ρ P m (G (b.at (a.put o.dst v) (.inRegion ops rest :: k)) ({ c with mode:=.panicking (⟨v,true,false⟩ :: older) } :: cs))):FV ρ P (m+1) (G (b.at a (.inRegion ops (i :: rest) :: k)) (c :: cs)):=by
  refine .c ?_ h;intro w;rw [stepG_oper ho hw];have hr:(execOp a.eval o).runT P w #[]=(.ok .recover w,#[]):=by unfold execOp;simp only [hop];rfl
  have hfin:(b.at a (.inRegion ops (i :: rest) :: k)).finish v=b.at (a.put o.dst v) (.inRegion ops rest :: k):=by rw [Frame.finish_at,ho];rfl
  rw [← hfin];have hm:tryRecover (b.at a (.inRegion ops (i :: rest) :: k)) (c :: cs)=some (v,{ c with mode:=.panicking (⟨v,true,false⟩ :: older) } :: cs):=by unfold tryRecover;simp [Frame.at,hk,hc]
  have hse:seen P b.fn #[]=#[]:=seen_none P _;simp only [Frame.at,hk,hro] at hm hse;simp [stepG.apply,hr,G,Frame.at,hk,hro,GStep.after,hm,hse,-Sem.runT_eq]
theorem FV.pops {f:FuncId}{fn:Func}{tm:Array Value}{c:Frame}{ch:List PanicEntry}{κ:CallKind}(hκ:κ=.normal\/κ=.deferred)(hf:P.funcs[f]?=some fn)(h:FV ρ P m (G (c.raise ch) cs)):FV ρ P (m+1) (G (FT f tm k [] (.panicking ch) κ) (c :: cs)):=
  .ctl rfl (fun w _=>by rcases hκ with rfl | rfl <;> simp [G,FT,stepG,unwind,Frame.catches,hf]) h
theorem FV.raise {ops:Array Oper}{i:Nat}{rest:List Nat}{o:Oper}{v:Value}(ho:ops[i]?=some o)(hw:Region.wanted o (yielded ops a.tmps)=true)(hk:b.kind≠.early)(hr:∀ w,(execOp a.eval o).runT P w #[]=(.halt (.panic v) w,#[]))(h:FV ρ P m (G ((b.at a (.inRegion ops (i :: rest) :: k)).raise [⟨v,false,false⟩]) cs)):FV ρ P (m+1) (G (b.at a (.inRegion ops (i :: rest) :: k)) cs):=
  .ctl rfl (fun w _=>by rw [OJ (v:=v) ho hw hk (by rw [← Sem.runT_fst (es:=#[]),hr]),listed_none];show ((execOp a.eval o).runT P w #[]).2=#[];rw [hr]) h
end
end Go.LK
namespace Go.Proofs.Yticecinjcajmcaa
open Go Go.Conc Go.LT Go.LC Go.LK Go.RowKit
abbrev V3:Value:=.iface 120 (.agg #[])
section
variable {ρ:Rn}{cf:Frame}{fs:List Frame}
theorem aC (h:Ve ρ Try.prog 120 cf fs)(tm:Array Value)(k:List Item)(N:Nat):Ve ρ Try.prog 120 ((base 61).at ⟨tm,[O6 N]⟩ k) (cf :: fs):=by
  intro ch hch;obtain ⟨older,hge,rfl⟩:=hch;obtain ⟨m0,h0⟩:=h (⟨V3,false,false⟩ :: ⟨V3,true,false⟩ :: older) ⟨_,fun e he=>(List.mem_cons.1 he).elim (fun h=>by rw [h]) (hge e),rfl⟩;refine ⟨m0+40,FV.ctl (g':=G (Frame.enter Try.prog 77 (#[] ++ #[.pointer (some ⟨N+2,0,none⟩),.pointer (some ⟨N,0,none⟩)]) .deferred) (FT 61 tm k [] (.panicking (⟨V3,false,false⟩ :: older)) .normal :: cf :: fs)) rfl (fun w _=>?_) ?_⟩
  . have hc:(invoke (.fn (.func 77) #[.pointer (some ⟨N+2,0,none⟩),.pointer (some ⟨N,0,none⟩)]) #[]).runT Try.prog w #[]=(.ok (.enter 77 (#[] ++ #[.pointer (some ⟨N+2,0,none⟩),.pointer (some ⟨N,0,none⟩)])) w,#[]):=Jz Try.func77 zKR SF _ _ _;show stepG Try.prog false (G (FT 61 tm k [O6 N] (.panicking (⟨V3,false,false⟩ :: older)) .normal) (cf :: fs)) w=_;simp [G,FT,stepG,unwind,callDeferred,O6,hc,GStep.after,seen,-Sem.runT_eq]
  . rw [enter_atD _ Try.func77 SF];have ht:(#[] ++ #[.pointer (some ⟨N+2,0,none⟩),.pointer (some ⟨N,0,none⟩)] ++ Array.replicate (Try.f77.ntmps - ((#[] ++ #[.pointer (some ⟨N+2,0,none⟩),.pointer (some ⟨N,0,none⟩)]:Array Value)).size) undef:Array Value)=#[.pointer (some ⟨N+2,0,none⟩),.pointer (some ⟨N,0,none⟩),undef,undef,undef,undef,undef,undef,undef,undef,undef,undef,undef,undef,undef,undef,undef,undef,undef]:=by
      have:Try.f77.ntmps=19:=by kernel_rfl
      rw [this];walk_nrm
    rw [ht];clear ht;refine FV.c stepG_seq ?_;simp only [dd0,Try.f77];refine FV.reg (l:=[0,1]) rfl ?_;refine FV.recover (v:=V3) (older:=older) rfl rfl rfl rfl rfl rfl ?_;walk_nrm;refine FV.op V3 rfl rfl nE (fun _=>by kernel_rfl) ?_;walk_nrm;refine FV.c stepG_region_end ?_;simp only [dd1,Try.f77];refine FV.c stepG_seq ?_;refine FV.c stepG_seq ?_;refine FV.reg (l:=[0,1,2,3,4,5,6,7]) rfl ?_;refine FV.op V3 rfl rfl nE (fun _=>by kernel_rfl) ?_;walk_nrm;refine FV.op (.tuple #[.agg #[],.bool true]) rfl rfl nE (fun _=>by kernel_rfl) ?_;walk_nrm;refine FV.op (.tuple #[.agg #[],.bool true]) rfl rfl nE (fun _=>by kernel_rfl) ?_;walk_nrm;refine FV.op (.agg #[]) rfl rfl nE (fun _=>by kernel_rfl) ?_;walk_nrm;refine FV.op (.bool true) rfl rfl nE (fun _=>by kernel_rfl) ?_;walk_nrm;refine FV.lay (ob:=.cells #[] 120 (0,0)) trivial rfl rfl nE (fun _=>by kernel_rfl) fun N'=>?_;walk_nrm
    refine FV.nop rfl rfl nE (fun _=>by kernel_rfl) ?_;walk_nrm;refine FV.op (.bool true) rfl rfl nE (fun _=>by kernel_rfl) ?_;walk_nrm;refine FV.c stepG_region_end ?_;refine FV.c stepG_seq ?_;refine FV.reg (l:=[0]) rfl ?_;refine FV.op (.bool true) rfl rfl nE (fun _=>by kernel_rfl) ?_;walk_nrm;refine FV.c stepG_region_end ?_;refine FV.c (stepG_cond rfl) ?_;refine FV.reg (l:=[0,1]) rfl ?_;refine FV.op V3 rfl rfl nE (fun _=>by kernel_rfl) ?_;walk_nrm;refine FV.raise (v:=V3) rfl rfl nE (fun _=>by kernel_rfl) ?_;refine FV.pops (f:=77) (ch:=[⟨V3,false,false⟩]) (.inr rfl) Try.func77 ?_;refine FV.pops (f:=61) (ch:=⟨V3,false,false⟩ :: ⟨V3,true,false⟩ :: older) (.inl rfl) Try.func61 ?_;exact FV.up h0 12
end
end Go.Proofs.Yticecinjcajmcaa
namespace Go.Proofs.Yticecinjcajmcaa
open Go Go.Conc Go.LT Go.LC Go.LK Go.RowKit
open Go.ConcN (WgLive)
section
section
variable {Cs Sg:Type}{D:Dr Ef Cs Sg}{m:Mem Sg}{ρ:Rn}{b k:Nat}{cf:Frame}{fs:List Frame}{W:World}{σ:Sg}
variable {x:Wx (Wk Ef Cs) Sg ρ}{own core:Nat->Prop}{pb:Nat}{z:Wk Ef Cs}{ans:Value}{gr:Bool}{wv dv cv u7 u8 Ob FU FC:Value}{ds:List Deferred}{K:List Item}
theorem Jt.other {s:FI Ef Cs Sg ρ}{W':World}(h:Jt m b k s σ W)(hh:∀ g,s.own g\/m.Sh g->W'.heap[g]?=W.heap[g]?)(hs:W.heap.size<=W'.heap.size):Jt m b k s σ W':=by
  exact { h with row:=by have:=h.row;unfold Fq at this ⊢;rw [hh b (.inl (h.co b h.cb))];exact this
                 am:=h.am.QD fun g hg=>.of (hh g (.inl (h.co g hg.1)))
                 inv:=m.eq σ W W' (fun g hg=>.of (hh g (.inr hg))) h.inv
                 size:=Nat.le_trans h.size hs
                 o3:=fun g hg=>by rw [hh g (.inl hg)];exact h.o3 g hg
                 pc:=by rw [cell_of (hh s.pb (.inl (h.co _ h.Pb)))];exact h.pc }
theorem Jt.lt {s:FI Ef Cs Sg ρ}(h:Jt m b k s σ W){g:Nat}(hg:s.own g\/m.Sh g):g < W.heap.size:=by
  rcases hg with hg|hg
  . obtain ⟨_,_,c,e,f,hc⟩:=h.o3 g hg;exact (zGE hc).1
  . obtain ⟨c,e,f,hc⟩:=m.rows σ W g hg h.inv;exact (zGE hc).1
theorem mF {s:FI Ef Cs Sg ρ}{recv:Value}{OY:FuncId}(hD:OV (J2 D m ρ b k) dv OY recv)(hdv:∃ t v,dv=.iface t v)(kT:∀ tm K,Ve ρ Try.prog 120 ((base 33).at ⟨tm,ds⟩ K) (cf :: fs))(hA:Jt m b k s σ W)(hpb:s.pb=pb){c:Ef}{N7:Nat}{pa:Option Addr}{pn pc:Nat}(hB:(J2 D m ρ b k).Rw s σ c)(h7:W.heap[N7]?=some (.cells #[.int .i64 c.kind,.int .i64 c.a,.int .i64 c.b,.int .i64 c.c,.slice pa pn pc] 44 (0,0))){tm:Array Value}(hs:Sl wv dv cv pb (.pointer (some ⟨N7,0,none⟩)) u8 Ob FU FC tm)(hwv:wv=.pointer (some ⟨b,0,none⟩))(hJ:∀ s' σ' W' e iv N8 tm',Sl wv dv cv pb (.pointer (some ⟨N7,0,none⟩)) (.pointer (some ⟨N8,0,none⟩)) Ob FU FC tm'->Jt m b k s' σ' W'->zw s s'->(∀ g,s.own g/\g≠b->W'.heap[g]?=W.heap[g]?)->(J2 D m ρ b k).End s' σ' (e,false)->FR W' (fun g=>(s'.own g/\g≠b)/\¬ (s.own g/\g≠b)) iv e.ints->
      ¬ (s'.own N8\/m.Sh N8)->W'.heap[N8]?=some (.cells #[.int .i64 0,.int .i64 0,.int .i64 0,.bool e.ok,.int .i64 e.n,.int .i64 e.m,.int .i64 e.err,iv,.slice none 0 0] 42 (0,0))->W.heap.size<=W'.heap.size->
      JL (SW (Eu D m) ρ Try.prog).L s'.x (G ((base 33).at ⟨tm',ds⟩ K) (cf :: fs)) W') :
    JL (SW (Eu D m) ρ Try.prog).L s.x (G ((base 33).at ⟨tm,ds⟩ (.code pb8 :: K)) (cf :: fs)) W:=by
  obtain ⟨v9,Ae,Af,Ah,Ai,Aj,Ak,Al,Am,Ao,Ap,Ar,Au,Av,Aw,Ay,Az,AA,AB,AJ,AL,AO,AP,AQ,AU,AV,AX,AY,AZ,A8,A9,Ba,Bb,Bc,Bf,Bh,Bj,Bl,Bp,Bq,Br,Bu,Bv,Bw,Bz,BD,BF,BG,BH,BI,BJ,BK,BL,BM,BN,BO,BP,BQ,BR,BS,BU,BX,BZ,Ca,Cb,Cc,Ce,Cg,Ci,rfl⟩:=hs;subst hwv;subst hpb;have hpc:=hA.pc;dsimp only;simp only [pb8,Ti,Tg,Try.f33];refine EH fun _ hkk=>?_;refine EL.read (S:=SW (Eu D m) ρ Try.prog) (ad:=⟨s.pb,0,none⟩) (.pointer (some ⟨b,0,none⟩)) rfl rfl nE hpc (fun w h=>by go_simp) (fun w h e he=>by simp [go_sem,h] at he;exact he) ?_;walk_nrm
  (refine Eo ?_;walk_nrm)
  refine EL.KU (S:=SW (Eu D m) ρ Try.prog) (b:=base 33) 2 1 [] (by simp) zKR nE (rest:=[3,4,5]) rfl zKR fun W₁ ha=>?_;have hh:=EW ha;have hA1:=hA.alike hh;rw [← hh] at h7;dsimp only [List.drop,List.take];have c0:W₁.cell? ⟨N7,0,none⟩=some (.int .i64 c.kind):=by simp [World.cell?,h7]
  have c1:W₁.cell? ⟨N7,1,none⟩=some (.int .i64 c.a):=by simp [World.cell?,h7]
  have c2:W₁.cell? ⟨N7,2,none⟩=some (.int .i64 c.b):=by simp [World.cell?,h7]
  have c3:W₁.cell? ⟨N7,3,none⟩=some (.int .i64 c.c):=by simp [World.cell?,h7]
  have c4:W₁.cell? ⟨N7,4,none⟩=some (.slice pa pn pc):=by simp [World.cell?,h7]
  have HH:=Lib.hid (zAI hJ (zAI hA1 (zAI hB (zAI hh hA))));clear hJ hA hA1 hB hh h7 hpc;gi_wp2;refine ⟨rfl,?_⟩;obtain ⟨hJ,hA1,hB,hh,hA⟩:=HH.out;clear HH c0 c1 c2 c3 c4;show JL (SW (Eu D m) ρ Try.prog).L s.x _ W₁;dsimp only;refine JL.enter rfl rfl nE rfl Try.func61 zKR zKR ?_;rw [List.map_toArray];simp only [List.map_cons,List.map_nil,Act.eval,Array.getD_eq_getD_getElem?,List.getElem?_toArray,List.getElem?_cons_succ,List.getElem?_cons_zero,Option.getD_some];refine Yi (J2 D m ρ b k) hD (c:=c) (pv:=.slice pa pn pc) hA1 hB ⟨_,rfl⟩ ⟨pa,pn,pc,rfl⟩ hdv (fun tm k N _=>aC (kT _ _) tm k N) fun s' σ' W' e iv a1 a2 a3 a4=>?_;rw [Frame.finish_at];have a1':Jt m b k s' σ' W':=a1;have hle:zw s s':=a2.le;have hkp:∀ g,s.own g/\g≠b->W'.heap[g]?=W.heap[g]?:=fun g hg=>(a2.kept g hg).2.trans (by rw [hh]);obtain ⟨TR,en,em,J4,Ny⟩:=e
  obtain ⟨io,il,ic,rfl⟩:=Nq a4;have hsz:W.heap.size<=W'.heap.size:=by have:=a2.size;rw [hh] at this;exact this
  have HH:=Lib.hid (zAI hJ (zAI a1' (zAI hle (zAI hkp (zAI a3 (zAI a4 hsz))))));clear hJ a1' hle hkp a3 a4 hsz a1 a2 hA1 hB hh hA;show JL (SW (Eu D m) ρ Try.prog).L s'.x _ W';walk_nrm;unfold QT;refine EL.GU (S:=SW (Eu D m) ρ Try.prog) (b:=base 33) 4 [] (by simp) zKR nE rfl zKR fun W3 LA=>?_;dsimp only [List.drop];gi_wp2;refine ⟨rfl,?_⟩;obtain ⟨hJ,a1,hle,hkp,a3,a4,hsz⟩:=HH.out;clear HH;have hh3:=EW LA;have hb3:∀ g,g < W'.heap.size->(W3.alloc (.cells #[.int .i64 0,.int .i64 0,.int .i64 0,.bool TR,.int .i64 en,.int .i64 em,.int .i64 J4,.slice io il ic,.slice none 0 0] 42)).heap[g]?=W'.heap[g]?:=fun g hg=>by rw [Below.heap_alloc _ _ _ (by rw [hh3];exact hg),hh3]
  have a5:=a1.other (W':=W3.alloc (.cells #[.int .i64 0,.int .i64 0,.int .i64 0,.bool TR,.int .i64 en,.int .i64 em,.int .i64 J4,.slice io il ic,.slice none 0 0] 42)) (fun g hg=>hb3 g (a1.lt hg)) (by simp [hh3]);show JL (SW (Eu D m) ρ Try.prog).L s'.x _ _;refine EB ?_;cases hkk;refine hJ s' σ' _ ⟨TR,en,em,J4,Ny⟩ (.slice io il ic) W3.heap.size _ ⟨_,_,_,_,_,_,_,_,_,_,_,_,_,_,_,_,_,_,_,_,_,_,_,_,_,_,_,_,_,_,_,_,_,_,_,_,_,_,_,_,_,_,_,_,_,_,_,_,_,_,_,_,_,_,_,_,_,_,_,_,_,_,_,_,_,_,_,_,_,rfl⟩ a5 hle (fun g hg=>(hb3 g (a1.lt (.inl (hle.own g hg.1)))).trans (hkp g hg)) a3 (a4.QD fun g hg=>.of (hb3 g (a1.lt (.inl hg.1.1)))) (fun h=>?_) (heap_alloc_new _ _) (by simp [hh3];omega);have:=a1.lt h;rw [hh3] at this;exact Nat.lt_irrefl _ this
end
end
end Go.Proofs.Yticecinjcajmcaa
end
