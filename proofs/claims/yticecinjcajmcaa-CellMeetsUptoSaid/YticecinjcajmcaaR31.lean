/-
  Part 31 of the proof that CellMeets returns true, and leaves its arguments as they were, for every input whose reading is of bulk at most 1048576. No further condition.
-/
import Derived.Test.YticecinjcajmcaaR00
import Derived.Test.YticecinjcajmcaaR30
import Derived.Deep.RegionHeld3
set_option linter.unusedVariables false
set_option linter.unusedSectionVars false
set_option linter.unusedSimpArgs false
set_option maxHeartbeats 4000000
set_option maxRecDepth 100000
noncomputable section
namespace Go.Proofs.Yticecinjcajmcaa
open Go Go.Conc Go.LT Go.LC Go.LK Go.RowKit
open BA TU
section
section
variable {Fin:FE}{Ea:E5 Try.prog Fin}
variable {B:Nat->Bool}{W:World}{nn:Nat}{c:Frame}{cs:List Frame}
variable {wo ta ya fa:Option Addr}{wn tn tc yn yc fl fc Fw:Nat}{u:Int}
theorem YF {n:Int}(hn:n < 1\/256 < n)(hK:∀ W',(∀ g,g < W.heap.size->W'.heap[g]?=W.heap[g]?)->W.heap.size<=W'.heap.size->JW (S0 (X:=Wk Ef Ec) (Sg:=List Int) Try.prog Fin Ea).base (.Gp B nn) (G (c.finish (.tuple #[.agg #[.slice none 0 0,.slice none 0 0,.int .i64 0,.bool false],.slice none 0 0,.int .i64 42])) cs) W') :
    JW (S0 (X:=Wk Ef Ec) (Sg:=List Int) Try.prog Fin Ea).base (.Gp B nn) (G (Frame.enter Try.prog 7 #[.int .i64 n,.slice fa fl fc,.agg #[.slice wo wn Fw,.slice ta tn tc,.slice ya yn yc,.int .i64 u]] .normal) (c :: cs)) W:=by
  rw [enter_at _ Try.func7 Pj,show Try.f7.ntmps=58 from by kernel_rfl];walk_nrm;show JL (S0 (X:=Wk Ef Ec) (Sg:=List Int) Try.prog Fin Ea).L _ _ W;refine Ei ?_;refine EL.EJ (S:=S0 (X:=Wk Ef Ec) (Sg:=List Int) Try.prog Fin Ea) (b:=base 7) [] (by simp) zKR nE zKR fun W₁ ha=>?_;have hh:W₁.heap=W.heap:=by obtain ⟨τ,d,rfl⟩:=ha;rfl
  have HH:=Lib.hid hh;clear hh;simp only [yM,Try.f7];gi_wp2;generalize hW1:World.alloc (World.alloc W₁ _) _=W1;have q1:W1.heap=(W.heap.push (.cells #[.slice wo wn Fw,.slice ta tn tc,.slice ya yn yc,.int .i64 u] 25 (0,0))).push (.cells #[.slice none 0 0,.slice none 0 0,.int .i64 0,.bool false] 31 (0,0)):=by rw [← hW1,← HH.out];rfl
  have hs:W₁.heap.size=W.heap.size:=by rw [HH.out]
  clear HH hW1 ha;rw [hs];clear hs;show JL (S0 (X:=Wk Ef Ec) (Sg:=List Int) Try.prog Fin Ea).L _ _ W1;try dsimp only
  refine Ei ?_;simp only [wW,Try.f7];refine EH fun _ hkk=>?_
  (refine Eo ?_;walk_nrm)
  refine JL.enter rfl rfl nE rfl Try.func9 zKR zKR ?_;walk_nrm;have z1:W1.heap.size=W.heap.size+2:=by rw [q1];simp
  have o1:∀ g,g < W.heap.size->W1.heap[g]?=W.heap[g]?:=fun g hg=>by rw [q1];simp only [Array.getElem?_push,Array.size_push];rw [if_neg zOM,if_neg zOM]
  have r1:W1.heap[W.heap.size+1]?=some (.cells #[.slice none 0 0,.slice none 0 0,.int .i64 0,.bool false] 31 (0,0)):=by
    rw [q1];simp only [Array.getElem?_push,Array.size_push]
    simp
  clear q1;refine Vh (S:=(S0 (X:=Wk Ef Ec) (Sg:=List Int) Try.prog Fin Ea)) hn fun W2 q2=>?_;have ob:∀ g,g < W.heap.size->W2.heap[g]?=W.heap[g]?:=fun g hg=>by rw [q2];exact o1 g hg
  have rb:W2.heap[W.heap.size+1]?=some (.cells #[.slice none 0 0,.slice none 0 0,.int .i64 0,.bool false] 31 (0,0)):=by rw [q2];exact r1
  have sz:W.heap.size+2<=W2.heap.size:=by rw [q2,z1];omega
  clear q2 o1 r1 z1;rw [Frame.finish_at];show JL (S0 (X:=Wk Ef Ec) (Sg:=List Int) Try.prog Fin Ea).L _ _ W2;walk_nrm;iterate 5 (refine Eo ?_;walk_nrm)
  refine EB ?_;cases hkk;refine Ei ?_;simp only [uU,Try.f7];refine Er stepG_block ?_;refine Ei ?_;refine EH fun _ hkk=>?_;iterate 3 (refine Eo ?_;walk_nrm)
  refine EB ?_;cases hkk;refine JL.Fz (by simp [Act.eval]) ?_;refine EL.EJ (S:=S0 (X:=Wk Ef Ec) (Sg:=List Int) Try.prog Fin Ea) (b:=base 7) [] (by simp) zKR nE zKR fun W₃ LA=>?_;have hh3:W₃.heap=W2.heap:=by obtain ⟨τ,d,rfl⟩:=LA;rfl
  have hbb:W₃.heap[W.heap.size+1]?=some (.cells #[.slice none 0 0,.slice none 0 0,.int .i64 0,.bool false] 31 (0,0)):=by rw [hh3];exact rb
  have x0:W₃.cell? ⟨W.heap.size+1,0,none⟩=some (.slice none 0 0):=by simp [World.cell?,hbb]
  have x1:W₃.cell? ⟨W.heap.size+1,1,none⟩=some (.slice none 0 0):=by simp [World.cell?,hbb]
  have x2:W₃.cell? ⟨W.heap.size+1,2,none⟩=some (.int .i64 0):=by simp [World.cell?,hbb]
  have x3:W₃.cell? ⟨W.heap.size+1,3,none⟩=some (.bool false):=by simp [World.cell?,hbb]
  have f0:W₃.frozen? ⟨W.heap.size+1,0,none⟩=false:=by simp [World.frozen?,hbb]
  have f1:W₃.frozen? ⟨W.heap.size+1,1,none⟩=false:=by simp [World.frozen?,hbb]
  have f2:W₃.frozen? ⟨W.heap.size+1,2,none⟩=false:=by simp [World.frozen?,hbb]
  have f3:W₃.frozen? ⟨W.heap.size+1,3,none⟩=false:=by simp [World.frozen?,hbb]
  have HV:=Lib.hid (zAI @hK (zAI hh3 (zAI hbb (zAI ob sz))));clear hK hh3 hbb ob sz;gi_wp2;intro Y;obtain ⟨hK,hh3,hbb,ob,sz⟩:=HV.out;generalize hW':World.setCell _ _ _=W';have hoth:∀ g,g≠W.heap.size+1->W'.heap[g]?=W2.heap[g]?:=fun g hg=>by rw [← hW',← hh3];simp [World.setCell,Array.getElem?_modify,Ne.symm hg]
  have hrow:W'.heap[W.heap.size+1]?=some (.cells #[.slice none 0 0,.slice none 0 0,.int .i64 0,.bool false] 31 (0,0)):=by rw [← hW'];simp [World.setCell,Array.getElem?_modify,hbb]
  have hsz:W'.heap.size=W2.heap.size:=by rw [← hW',← hh3];simp [World.setCell]
  clear hW';refine JW.returns (S:=S0 (X:=Wk Ef Ec) (Sg:=List Int) Try.prog Fin Ea) Try.func7 (v:=.tuple #[.agg #[.slice none 0 0,.slice none 0 0,.int .i64 0,.bool false],.slice none 0 0,.int .i64 42]) (fun W₂ ha2=>?_) (hK W' (fun g hg=>by rw [hoth g zOM];exact ob g hg) (by rw [hsz];omega));have J3:W₂.heap=W'.heap:=by obtain ⟨τ,d,rfl⟩:=ha2;rfl
  have g0:W₂.cell? ⟨W.heap.size+1,0,none⟩=some (.slice none 0 0):=by simp [World.cell?,J3,hrow]
  have g1:W₂.cell? ⟨W.heap.size+1,1,none⟩=some (.slice none 0 0):=by simp [World.cell?,J3,hrow]
  have g2:W₂.cell? ⟨W.heap.size+1,2,none⟩=some (.int .i64 0):=by simp [World.cell?,J3,hrow]
  have g3:W₂.cell? ⟨W.heap.size+1,3,none⟩=some (.bool false):=by simp [World.cell?,J3,hrow]
  clear J3 hrow hoth hsz hK hh3 hbb ob sz HV x0 x1 x2 x3 f0 f1 f2 f3;simp [results,Try.results7,go_sem,Frame.at,g0,g1,g2,g3]
theorem Yv {n:Nat}(hn1:1<=n)(hn2:n<=256)(hfl:n < fl)(hK:∀ W',(∀ g,g < W.heap.size->W'.heap[g]?=W.heap[g]?)->W.heap.size<=W'.heap.size->JW (S0 (X:=Wk Ef Ec) (Sg:=List Int) Try.prog Fin Ea).base (.Gp B nn) (G (c.finish (.tuple #[.agg #[.slice none 0 0,.slice none 0 0,.int .i64 0,.bool false],.slice none 0 0,.int .i64 42])) cs) W') :
    JW (S0 (X:=Wk Ef Ec) (Sg:=List Int) Try.prog Fin Ea).base (.Gp B nn) (G (Frame.enter Try.prog 7 #[.int .i64 n,.slice fa fl fc,.agg #[.slice wo wn Fw,.slice ta tn tc,.slice ya yn yc,.int .i64 u]] .normal) (c :: cs)) W:=by
  rw [enter_at _ Try.func7 Pj,show Try.f7.ntmps=58 from by kernel_rfl];walk_nrm;show JL (S0 (X:=Wk Ef Ec) (Sg:=List Int) Try.prog Fin Ea).L _ _ W;refine Ei ?_;refine EL.EJ (S:=S0 (X:=Wk Ef Ec) (Sg:=List Int) Try.prog Fin Ea) (b:=base 7) [] (by simp) zKR nE zKR fun W₁ ha=>?_;have hh:W₁.heap=W.heap:=by obtain ⟨τ,d,rfl⟩:=ha;rfl
  have HH:=Lib.hid hh;clear hh;simp only [yM,Try.f7];gi_wp2;generalize hW1:World.alloc (World.alloc W₁ _) _=W1;have q1:W1.heap=(W.heap.push (.cells #[.slice wo wn Fw,.slice ta tn tc,.slice ya yn yc,.int .i64 u] 25 (0,0))).push (.cells #[.slice none 0 0,.slice none 0 0,.int .i64 0,.bool false] 31 (0,0)):=by rw [← hW1,← HH.out];rfl
  have hs:W₁.heap.size=W.heap.size:=by rw [HH.out]
  clear HH hW1 ha;rw [hs];clear hs;show JL (S0 (X:=Wk Ef Ec) (Sg:=List Int) Try.prog Fin Ea).L _ _ W1;try dsimp only
  refine Ei ?_;simp only [wW,Try.f7];refine EH fun _ hkk=>?_
  (refine Eo ?_;walk_nrm)
  refine JL.enter rfl rfl nE rfl Try.func9 zKR zKR ?_;walk_nrm;refine Lc (S:=(S0 (X:=Wk Ef Ec) (Sg:=List Int) Try.prog Fin Ea)) hn1 hn2 fun W2 q2=>?_;have z1:W1.heap.size=W.heap.size+2:=by rw [q1];simp
  have sz:W.heap.size+4<=W2.heap.size:=by rw [q2];simp [z1]
  have ob:∀ g,g < W.heap.size->W2.heap[g]?=W.heap[g]?:=fun g hg=>by rw [q2,q1];simp only [Array.getElem?_push,Array.size_push];rw [if_neg zOM,if_neg zOM,if_neg zOM,if_neg zOM]
  have rb:W2.heap[W.heap.size+1]?=some (.cells #[.slice none 0 0,.slice none 0 0,.int .i64 0,.bool false] 31 (0,0)):=by
    rw [q2,q1];simp only [Array.getElem?_push,Array.size_push];rw [if_neg zOM,if_neg zOM]
    simp
  clear q1 q2;rw [z1];clear z1;rw [Frame.finish_at];show JL (S0 (X:=Wk Ef Ec) (Sg:=List Int) Try.prog Fin Ea).L _ _ W2;walk_nrm;iterate 5 (refine Eo ?_;walk_nrm)
  refine EB ?_;cases hkk;refine Ei ?_;simp only [uU,Try.f7];refine Er stepG_block ?_;refine Ei ?_;refine EH fun _ hkk=>?_;iterate 3 (refine Eo ?_;walk_nrm)
  refine EB ?_;cases hkk;refine JL.Ey (by simp [Act.eval]) ?_;refine Ei ?_;refine EH fun _ hkk=>?_;iterate 5 (refine Eo ?_;walk_nrm)
  refine EB ?_;cases hkk;refine JL.Fz (by simp [Act.eval] <;> omega) ?_;refine EL.EJ (S:=S0 (X:=Wk Ef Ec) (Sg:=List Int) Try.prog Fin Ea) (b:=base 7) [] (by simp) zKR nE zKR fun W₃ LA=>?_;have hh3:W₃.heap=W2.heap:=by obtain ⟨τ,d,rfl⟩:=LA;rfl
  have hbb:W₃.heap[W.heap.size+1]?=some (.cells #[.slice none 0 0,.slice none 0 0,.int .i64 0,.bool false] 31 (0,0)):=by rw [hh3];exact rb
  have x0:W₃.cell? ⟨W.heap.size+1,0,none⟩=some (.slice none 0 0):=by simp [World.cell?,hbb]
  have x1:W₃.cell? ⟨W.heap.size+1,1,none⟩=some (.slice none 0 0):=by simp [World.cell?,hbb]
  have x2:W₃.cell? ⟨W.heap.size+1,2,none⟩=some (.int .i64 0):=by simp [World.cell?,hbb]
  have x3:W₃.cell? ⟨W.heap.size+1,3,none⟩=some (.bool false):=by simp [World.cell?,hbb]
  have f0:W₃.frozen? ⟨W.heap.size+1,0,none⟩=false:=by simp [World.frozen?,hbb]
  have f1:W₃.frozen? ⟨W.heap.size+1,1,none⟩=false:=by simp [World.frozen?,hbb]
  have f2:W₃.frozen? ⟨W.heap.size+1,2,none⟩=false:=by simp [World.frozen?,hbb]
  have f3:W₃.frozen? ⟨W.heap.size+1,3,none⟩=false:=by simp [World.frozen?,hbb]
  have HV:=Lib.hid (zAI @hK (zAI hh3 (zAI hbb (zAI ob sz))));clear hK hh3 hbb ob sz;gi_wp2;intro Y;obtain ⟨hK,hh3,hbb,ob,sz⟩:=HV.out;generalize hW':World.setCell _ _ _=W';have hoth:∀ g,g≠W.heap.size+1->W'.heap[g]?=W2.heap[g]?:=fun g hg=>by rw [← hW',← hh3];simp [World.setCell,Array.getElem?_modify,Ne.symm hg]
  have hrow:W'.heap[W.heap.size+1]?=some (.cells #[.slice none 0 0,.slice none 0 0,.int .i64 0,.bool false] 31 (0,0)):=by rw [← hW'];simp [World.setCell,Array.getElem?_modify,hbb]
  have hsz:W'.heap.size=W2.heap.size:=by rw [← hW',← hh3];simp [World.setCell]
  clear hW';refine JW.returns (S:=S0 (X:=Wk Ef Ec) (Sg:=List Int) Try.prog Fin Ea) Try.func7 (v:=.tuple #[.agg #[.slice none 0 0,.slice none 0 0,.int .i64 0,.bool false],.slice none 0 0,.int .i64 42]) (fun W₂ ha2=>?_) (hK W' (fun g hg=>by rw [hoth g zOM];exact ob g hg) (by rw [hsz];omega));have J3:W₂.heap=W'.heap:=by obtain ⟨τ,d,rfl⟩:=ha2;rfl
  have g0:W₂.cell? ⟨W.heap.size+1,0,none⟩=some (.slice none 0 0):=by simp [World.cell?,J3,hrow]
  have g1:W₂.cell? ⟨W.heap.size+1,1,none⟩=some (.slice none 0 0):=by simp [World.cell?,J3,hrow]
  have g2:W₂.cell? ⟨W.heap.size+1,2,none⟩=some (.int .i64 0):=by simp [World.cell?,J3,hrow]
  have g3:W₂.cell? ⟨W.heap.size+1,3,none⟩=some (.bool false):=by simp [World.cell?,J3,hrow]
  clear J3 hrow hoth hsz hK hh3 hbb ob sz HV x0 x1 x2 x3 f0 f1 f2 f3;simp [results,Try.results7,go_sem,Frame.at,g0,g1,g2,g3]
theorem X0 {n pg po fb fo:Nat}{fs:List Int}{Kp:Nat->Prop}(hn1:1<=n)(hn2:n<=256)(hfl:fs.length=fl)(hfn:fl<=n)(Gi:∀ g,Kp g->∃ c e f,W.heap[g]?=some (.cells c e f))(hfs:∀ i x,fs[i]?=some x->fa=some ⟨fb,fo,none⟩/\Kp fb/\W.cell? ⟨fb,fo+i,none⟩=some (.int .i64 x))(hwn:wn<=1000000)(hwo:0 < wn->wo=some ⟨pg,po,none⟩/\Kp pg)(hcell:(∀ i,i < wn->∃ a q c,q<=1000000000/\W.cell? ⟨pg,po+i,none⟩=some (.slice a q c))/\(wn=0\/8 < wn\/u < 0\/20000 < u\/∃ j,j < wn/\∃ a q c,64 < q/\W.cell? ⟨pg,po+j,none⟩=some (.slice a q c)))(hK:∀ W',(∀ g,Kp g->g < W.heap.size->W'.heap[g]?=W.heap[g]?)->W.heap.size<=W'.heap.size->JW (S0 (X:=Wk Ef Ec) (Sg:=List Int) Try.prog Fin Ea).base (.Gp B nn) (G (c.finish (.tuple #[.agg #[.slice none 0 0,.slice none 0 0,.int .i64 0,.bool false],.slice none 0 0,.int .i64 30])) cs) W') :
    JW (S0 (X:=Wk Ef Ec) (Sg:=List Int) Try.prog Fin Ea).base (.Gp B nn) (G (Frame.enter Try.prog 7 #[.int .i64 n,.slice fa fl fc,.agg #[.slice wo wn Fw,.slice ta tn tc,.slice ya yn yc,.int .i64 u]] .normal) (c :: cs)) W:=by
  rw [enter_at _ Try.func7 Pj,show Try.f7.ntmps=58 from by kernel_rfl];walk_nrm;have hkl:∀ g,Kp g->g < W.heap.size:=fun g hg=>by obtain ⟨c,e,f,hc⟩:=Gi g hg;exact (zGE hc).1
  have HA:=Lib.hid (zAI @hK (zAI Gi (zAI hfs (zAI hwo (zAI hcell hkl)))));clear hK Gi hfs hwo hcell hkl;show JL (S0 (X:=Wk Ef Ec) (Sg:=List Int) Try.prog Fin Ea).L _ _ W;refine Ei ?_;refine EL.EJ (S:=S0 (X:=Wk Ef Ec) (Sg:=List Int) Try.prog Fin Ea) (b:=base 7) [] (by simp) zKR nE zKR fun W₁ ha=>?_;have hh:W₁.heap=W.heap:=by obtain ⟨τ,d,rfl⟩:=ha;rfl
  have HH:=Lib.hid hh;clear hh;simp only [yM,Try.f7];gi_wp2;generalize hW1:World.alloc (World.alloc W₁ _) _=W1;have q1:W1.heap=(W.heap.push (.cells #[.slice wo wn Fw,.slice ta tn tc,.slice ya yn yc,.int .i64 u] 25 (0,0))).push (.cells #[.slice none 0 0,.slice none 0 0,.int .i64 0,.bool false] 31 (0,0)):=by rw [← hW1,← HH.out];rfl
  have hs:W₁.heap.size=W.heap.size:=by rw [HH.out]
  clear HH hW1 ha;rw [hs];clear hs;show JL (S0 (X:=Wk Ef Ec) (Sg:=List Int) Try.prog Fin Ea).L _ _ W1;try dsimp only
  refine Ei ?_;simp only [wW,Try.f7];refine EH fun _ hkk=>?_
  (refine Eo ?_;walk_nrm)
  refine JL.enter rfl rfl nE rfl Try.func9 zKR zKR ?_;walk_nrm;refine Lc (S:=(S0 (X:=Wk Ef Ec) (Sg:=List Int) Try.prog Fin Ea)) hn1 hn2 fun W2 q2=>?_;rw [Frame.finish_at];show JL (S0 (X:=Wk Ef Ec) (Sg:=List Int) Try.prog Fin Ea).L _ _ W2;walk_nrm;iterate 5 (refine Eo ?_;walk_nrm)
  refine EB ?_;cases hkk;refine Ei ?_;simp only [uU,Try.f7];refine Er stepG_block ?_;refine Ei ?_;refine EH fun _ hkk=>?_;iterate 3 (refine Eo ?_;walk_nrm)
  refine EB ?_;cases hkk;refine JL.Ey (by simp [Act.eval]) ?_;refine Ei ?_;refine EH fun _ hkk=>?_;iterate 5 (refine Eo ?_;walk_nrm)
  refine EB ?_;cases hkk;refine JL.Ey (by simp [Act.eval] <;> omega) ?_;refine Er stepG_skip ?_;refine Er stepG_inBlock ?_;have z1:W1.heap.size=W.heap.size+2:=by rw [q1];simp
  have z2:W2.heap.size=W.heap.size+4:=by rw [q2];simp [z1]
  have o2:∀ g,g < W.heap.size->W2.heap[g]?=W.heap[g]?:=fun g hg=>by rw [q2,q1];simp only [Array.getElem?_push,Array.size_push];rw [if_neg zOM,if_neg zOM,if_neg zOM,if_neg zOM]
  have r0:W2.heap[W.heap.size]?=some (.cells #[.slice wo wn Fw,.slice ta tn tc,.slice ya yn yc,.int .i64 u] 25 (0,0)):=by
    rw [q2,q1];simp only [Array.getElem?_push,Array.size_push];rw [if_neg zOM,if_neg zOM,if_neg zOM]
    simp
  have r1:W2.heap[W.heap.size+1]?=some (.cells #[.slice none 0 0,.slice none 0 0,.int .i64 0,.bool false] 31 (0,0)):=by
    rw [q2,q1];simp only [Array.getElem?_push,Array.size_push];rw [if_neg zOM,if_neg zOM]
    simp
  have r2:W2.heap[W.heap.size+2]?=some (.cells (List.replicate n (Value.int .i64 0)).toArray 78 (0,0)):=by
    rw [q2];simp only [Array.getElem?_push,Array.size_push,z1];rw [if_neg zOM]
    simp
  have r3:W2.heap[W.heap.size+3]?=some (.cells #[.slice (some ⟨W.heap.size+2,0,none⟩) n n] 64 (0,0)):=by
    rw [q2];simp only [Array.getElem?_push,Array.size_push,z1]
    simp
  clear q1 q2;rw [z1];clear z1;obtain ⟨hK,Gi,hfs,hwo,hcell,hkl⟩:=HA.out;refine Ei ?_;have qh:Y3=.seq (match Y3 with | .seq c _=>c | _=>.skip) (.block 1 (.loop Vu)):=rfl;rw [qh];refine Ei ?_;simp only [Y3,Try.f7];refine EH fun _ hkk=>?_;iterate 3 (refine Eo ?_;walk_nrm)
  refine EB ?_;cases hkk;refine Er stepG_block ?_;refine Er stepG_loop ?_;refine Xm (n:=n) (fs:=fs) (fb:=fb) (fo:=fo) (σ0:=List.replicate n 0) (ct:=W.heap.size+3) (cb:=W.heap.size+2) (W0:=W2) (Kq:=fun g=>g=W.heap.size\/g=W.heap.size+1\/Kp g) hn2 hfl hfn (by simp) zOM (fun g hg=>?_) (fun i x hx=>?_) ?_ fl 0 W2 _ _ _ _ _ _ _ _ _ _ _ zOM (Nat.zero_le _) (Nat.le_refl _) (fun g _=>rfl) r3 (by simpa using r2)
  . rcases hg with rfl | rfl | hg
    . exact ⟨⟨_,_,_,r0⟩,by omega⟩
    . exact ⟨⟨_,_,_,r1⟩,by omega⟩
    . have:=hkl g hg;exact ⟨by rw [o2 g this];exact Gi g hg,by omega⟩
  . obtain ⟨h1,h2,h3⟩:=hfs i x hx;exact ⟨h1,.inr (.inr h2),by rw [cell_of (w:=W) (a:=⟨fb,fo+i,none⟩) (o2 fb (hkl fb h2))];exact h3⟩
  clear hK Gi hfs hwo hcell hkl;intro xO Da Db DC DF DI DJ DL DN DR DT DU z2' k2' r3' r2';have r0':=(k2' (W.heap.size) (.inl rfl)).trans r0;have r1':=(k2' (W.heap.size+1) (.inr (.inl rfl))).trans r1;have k3':∀ g,Kp g->xO.heap[g]?=W.heap[g]?:=fun g hg=>by rw [k2' g (.inr (.inr hg))];exact o2 g (HA.out.2.2.2.2.2 g hg)
  rw [z2] at z2';clear r0 r1 r2 r3 o2 k2' z2 r3' r2';generalize xO=W2 at *;have r0:=r0';clear r0';refine Ei ?_;simp only [pE,Try.f7];have hev:=fun (x:Value) (w:World) (es:Array Event)=>kE Try.underlying36 x w es;refine EH fun _ hkk=>?_;iterate 3 (refine Eo ?_;walk_nrm)
  refine EB ?_;cases hkk;clear hev;refine Ei ?_;simp only [qU,Try.f7];refine EH fun _ hkk=>?_;refine EL.KU (S:=(S0 (X:=Wk Ef Ec) (Sg:=List Int) Try.prog Fin Ea)) (b:=base 7) 0 2 [] (by simp) zKR nE (rest:=[2,3,4,5,6,7,8]) rfl zKR fun W₃ LA=>?_;have hh3:W₃.heap=W2.heap:=by obtain ⟨τ,d,rfl⟩:=LA;rfl
  have c0:W₃.cell? ⟨W.heap.size,0,none⟩=some (.slice wo wn Fw):=by simp [World.cell?,hh3,r0]
  have c1:W₃.cell? ⟨W.heap.size,1,none⟩=some (.slice ta tn tc):=by simp [World.cell?,hh3,r0]
  have c2:W₃.cell? ⟨W.heap.size,2,none⟩=some (.slice ya yn yc):=by simp [World.cell?,hh3,r0]
  have c3:W₃.cell? ⟨W.heap.size,3,none⟩=some (.int .i64 u):=by simp [World.cell?,hh3,r0]
  have HH:=Lib.hid (zAI hh3 (zAI z2' (zAI k3' (zAI r0 r1'))));clear hh3 z2' k3' r0 r1';dsimp only [List.drop,List.take];gi_wp2;refine ⟨rfl,?_⟩;obtain ⟨hh3,z2,k3,r0,r1⟩:=HH.out;clear HH c0 c1 c2 c3 LA;show JL (S0 (X:=Wk Ef Ec) (Sg:=List Int) Try.prog Fin Ea).L _ _ W₃;try dsimp only
  refine JL.enter rfl rfl nE rfl Try.func19 zKR zKR ?_;walk_nrm;obtain ⟨hK,Gi,hfs,hwo,hcell,hkl⟩:=HA.out;clear HA;have mv:0 < wn->∀ o,W₃.cell? ⟨pg,o,none⟩=W.cell? ⟨pg,o,none⟩:=fun h o=>cell_of (a:=⟨pg,o,none⟩) (by show W₃.heap[pg]?=_;rw [hh3];exact k3 pg (hwo h).2);refine jE (pg:=pg) (po:=po) hwn (fun h=>(hwo h).1) ⟨fun i hi=>?_,?_⟩ fun W4 o4 s4=>?_
  . rw [mv zOM];exact hcell.1 i hi
  . rcases hcell.2 with h | h | h | h | ⟨j,hj,h⟩
    . exact .inl h
    . exact .inr (.inl h)
    . exact .inr (.inr (.inl h))
    . exact .inr (.inr (.inr (.inl h)))
    . exact .inr (.inr (.inr (.inr ⟨j,hj,by rw [mv zOM];exact h⟩)))
  rw [Frame.finish_at];show JL (S0 (X:=Wk Ef Ec) (Sg:=List Int) Try.prog Fin Ea).L _ _ W4;walk_nrm;have uO:∀ g,Kp g->W4.heap[g]?=W.heap[g]?:=fun g hg=>by have:=hkl g hg;rw [o4 g (by rw [hh3];omega),hh3];exact k3 g hg
  have yL:=(o4 (W.heap.size+1) (by rw [hh3];omega)).trans ((congrArg (·[W.heap.size+1]?) hh3).trans r1);have zI:W.heap.size+4<=W4.heap.size:=by rw [hh3] at s4;omega
  have HH:=Lib.hid (zAI @hK (zAI uO (zAI yL zI)));clear hK uO yL zI hh3 z2 k3 r0 r1 Gi hfs hwo hcell hkl mv o4 s4;refine EL.GU (S:=(S0 (X:=Wk Ef Ec) (Sg:=List Int) Try.prog Fin Ea)) (b:=base 7) 3 [] (by simp) zKR nE rfl zKR fun W₅ TH=>?_;have H5:=Lib.hid (show W₅.heap=W4.heap by obtain ⟨τ,d,rfl⟩:=TH;rfl);dsimp only [List.drop];gi_wp2;refine ⟨rfl,?_⟩;generalize Ro:World.alloc W₅ _=W6;obtain ⟨hK,uO,yL,zI⟩:=HH.out;clear HH;have z6:W6.heap.size=W4.heap.size+1:=by rw [← Ro];simp [H5.out]
  have o6:∀ g,g < W4.heap.size->W6.heap[g]?=W4.heap[g]?:=fun g hg=>by rw [← Ro,Below.heap_alloc _ _ _ (by rw [H5.out];exact hg),H5.out]
  have ob:∀ g,Kp g->g < W.heap.size->W6.heap[g]?=W.heap[g]?:=fun g hg hl=>by rw [o6 g zOM];exact uO g hg
  have rb:=(o6 (W.heap.size+1) zOM).trans yL;have sz:W.heap.size+4<=W6.heap.size:=by omega
  clear Ro H5 TH uO yL zI z6 o6;show JL (S0 (X:=Wk Ef Ec) (Sg:=List Int) Try.prog Fin Ea).L _ _ W6;try dsimp only
  cases hkk;refine Er stepG_region_end ?_;refine Ei ?_;simp only [pR,Try.f7];refine Ei ?_;refine EH fun _ hkk=>?_;iterate 2 (refine Eo ?_;walk_nrm)
  refine EB ?_;cases hkk;refine JL.Fz (by simp [Act.eval]) ?_;refine EL.EJ (S:=S0 (X:=Wk Ef Ec) (Sg:=List Int) Try.prog Fin Ea) (b:=base 7) [] (by simp) zKR nE zKR fun W₃ LA=>?_;have hh3:W₃.heap=W6.heap:=by obtain ⟨τ,d,rfl⟩:=LA;rfl
  have hbb:W₃.heap[W.heap.size+1]?=some (.cells #[.slice none 0 0,.slice none 0 0,.int .i64 0,.bool false] 31 (0,0)):=by rw [hh3];exact rb
  have x0:W₃.cell? ⟨W.heap.size+1,0,none⟩=some (.slice none 0 0):=by simp [World.cell?,hbb]
  have x1:W₃.cell? ⟨W.heap.size+1,1,none⟩=some (.slice none 0 0):=by simp [World.cell?,hbb]
  have x2:W₃.cell? ⟨W.heap.size+1,2,none⟩=some (.int .i64 0):=by simp [World.cell?,hbb]
  have x3:W₃.cell? ⟨W.heap.size+1,3,none⟩=some (.bool false):=by simp [World.cell?,hbb]
  have f0:W₃.frozen? ⟨W.heap.size+1,0,none⟩=false:=by simp [World.frozen?,hbb]
  have f1:W₃.frozen? ⟨W.heap.size+1,1,none⟩=false:=by simp [World.frozen?,hbb]
  have f2:W₃.frozen? ⟨W.heap.size+1,2,none⟩=false:=by simp [World.frozen?,hbb]
  have f3:W₃.frozen? ⟨W.heap.size+1,3,none⟩=false:=by simp [World.frozen?,hbb]
  have HV:=Lib.hid (zAI @hK (zAI hh3 (zAI hbb (zAI ob sz))));clear hK hh3 hbb ob sz;gi_wp2;intro Y;obtain ⟨hK,hh3,hbb,ob,sz⟩:=HV.out;generalize hW':World.setCell _ _ _=W';have hoth:∀ g,g≠W.heap.size+1->W'.heap[g]?=W6.heap[g]?:=fun g hg=>by rw [← hW',← hh3];simp [World.setCell,Array.getElem?_modify,Ne.symm hg]
  have hrow:W'.heap[W.heap.size+1]?=some (.cells #[.slice none 0 0,.slice none 0 0,.int .i64 0,.bool false] 31 (0,0)):=by rw [← hW'];simp [World.setCell,Array.getElem?_modify,hbb]
  have hsz:W'.heap.size=W6.heap.size:=by rw [← hW',← hh3];simp [World.setCell]
  clear hW';refine JW.returns (S:=S0 (X:=Wk Ef Ec) (Sg:=List Int) Try.prog Fin Ea) Try.func7 (v:=.tuple #[.agg #[.slice none 0 0,.slice none 0 0,.int .i64 0,.bool false],.slice none 0 0,.int .i64 30]) (fun W₂ ha2=>?_) (hK W' (fun g hg hl=>by rw [hoth g zOM];exact ob g hg hl) (by rw [hsz];omega));have J3:W₂.heap=W'.heap:=by obtain ⟨τ,d,rfl⟩:=ha2;rfl
  have g0:W₂.cell? ⟨W.heap.size+1,0,none⟩=some (.slice none 0 0):=by simp [World.cell?,J3,hrow]
  have g1:W₂.cell? ⟨W.heap.size+1,1,none⟩=some (.slice none 0 0):=by simp [World.cell?,J3,hrow]
  have g2:W₂.cell? ⟨W.heap.size+1,2,none⟩=some (.int .i64 0):=by simp [World.cell?,J3,hrow]
  have g3:W₂.cell? ⟨W.heap.size+1,3,none⟩=some (.bool false):=by simp [World.cell?,J3,hrow]
  clear J3 hrow hoth hsz hK hh3 hbb ob sz HV x0 x1 x2 x3 f0 f1 f2 f3;simp [results,Try.results7,go_sem,Frame.at,g0,g1,g2,g3]
end
end
def TP (a:List Int)(i:Nat):Int:=a.getD i 0
def dD (a b:List Int)(i:Nat):Prop:=∀ j,j < i->TP a j=TP b j
theorem Yp {a b:List Int}(hl:a.length=b.length)(h:dD a b a.length):a=b:=by
  apply List.ext_getElem hl;intro i h1 h2;have:=h i h1
  simpa [TP,List.getD_eq_getElem?_getD,h1,h2] using this
theorem Qz {w:World}{u:Value}{a:List Int}(h:Reads w u (a.map (Value.int .i64))):∃ ua uc,u=.slice ua a.length uc/\∀ i,i < a.length->∃ b o,ua=some ⟨b,o,none⟩/\w.cell? ⟨b,o+i,none⟩=some (.int .i64 (TP a i)):=by
  rcases h with ⟨h0,ao,c,rfl,_⟩|⟨h0,b,o,c,rfl,_,_,h3⟩
  . have ha:a=[]:=by simpa using h0
    subst ha;exact ⟨ao,c,rfl,fun i hi=>absurd hi (Nat.not_lt_zero i)⟩
  . rw [List.length_map];refine ⟨_,c,rfl,fun i hi=>⟨b,o,rfl,h3 i _ ?_⟩⟩;have:a[i]?=some (TP a i):=by simp [TP,List.getD,hi]
    rw [List.getElem?_map,this];rfl
theorem iZ (h:FuncId)(u v:Value)(a b:List Int)(w:World)(hu:Reads w u (a.map (Value.int .i64)))(hv:Reads w v (b.map (Value.int .i64)))(h1:a.length<=1000000) :
    CallsIn (Fence.list [h,8,14] none) 0 Try.prog 14 #[u,v] w fun e w'=>e=.returned (.bool (decide (a=b)))/\Below w.heap.size w w':=by
  obtain ⟨ua,uc,rfl,hua⟩:=Qz hu;obtain ⟨va,vc,rfl,hva⟩:=Qz hv;have HU:=Lib.hid hua;have HV:=Lib.hid hva;clear hu hv hua hva;gi_enter Try.func14,Try.ntmps14
  by_cases hl:a.length=b.length
  . gi_wp2;gi_loopw [5] (fun iv wr=>∃ i:Nat,i<=a.length/\iv=.int .i64 i/\Below w.heap.size w wr/\dD a b i) (fun iv _=>a.length - (intOf iv).toNat)
    case atStart=>exact ⟨0,by omega,rfl,Below.refl _ _,fun j hj=>by omega⟩
    case round=>
      obtain ⟨i,hi,rfl,hB,hE⟩:=hrel;by_cases hlt:i < a.length
      . have hlt':i < b.length:=by omega
        obtain ⟨b1,o1,rfl,d1⟩:=HU.out i hlt;obtain ⟨b2,o2,rfl,d2⟩:=HV.out i hlt';have q1:wr.cell? ⟨b1,o1+i,none⟩=some (.int .i64 (TP a i)):=(hB.cell (p:=⟨b1,o1+i,none⟩) (World.block_lt_of_cell? w _ d1)).trans d1;have q2:wr.cell? ⟨b2,o2+i,none⟩=some (.int .i64 (TP b i)):=(hB.cell (p:=⟨b2,o2+i,none⟩) (World.block_lt_of_cell? w _ d2)).trans d2;have Aka:(i:Int) < (b.length:Int):=by omega
        clear d1 d2;by_cases he:TP a i=TP b i
        . have hE':dD a b (i+1):=fun j hj=>by
            by_cases hji:j=i
            . subst hji;exact he
            . exact hE j zOM
          have he':(TP a i != TP b i)=false:=by simpa using he
          have HE':=Lib.hid hE';clear he hE hE';generalize TP a i=x at q1 he';generalize TP b i=y at q2 he';gi_wp2;gi_region
          gi_wp2;go_roundw
          case rel=>exact ⟨i+1,by omega,by go_num,hB.drew,HE'.out⟩
          case measure=>simp [intOf];omega
        . have he':(TP a i != TP b i)=true:=by simpa using he
          have hne:decide (a=b)=false:=decide_eq_false (fun e=>he (by rw [e]));have HN:=Lib.hid hne;clear he hE hne;generalize TP a i=x at q1 he';generalize TP b i=y at q2 he';gi_wp2;gi_region
          gi_wp2;go_ret
          exact ⟨by rw [HN.out];rfl,hB.drew⟩
      . obtain rfl:i=a.length:=by omega
        have hh:decide (a=b)=true:=decide_eq_true (Yp hl hE);have HH:=Lib.hid hh;clear hh;gi_wp2;go_ret
        exact ⟨by rw [HH.out];rfl,hB⟩
  . have hne:decide (a=b)=false:=decide_eq_false (fun e=>hl (by rw [e]));have HN:=Lib.hid hne;have hli:¬ ((a.length:Int)=(b.length:Int)):=by omega
    clear hne;gi_wp2;go_ret
    exact ⟨by rw [HN.out];rfl,Below.refl _ _⟩
def Zi:List (List Ef):=[[⟨6,0,5,0⟩],[⟨6,0,9,0⟩]]
def WE:List Int:=[0,1,1,0,0]
def kz:Rs Ef Ec (List Int):=Rs.go Em (Fv 0) (Fv 0) (Rs.new Zi ([] ++ (List.replicate 1 0).drop 0) WE [])
theorem zW:kz.s=5:=by kernel_rfl
theorem wB:kz.σ=[9]:=by kernel_rfl
theorem ql:kz.xs.length=2:=by kernel_rfl
theorem iF:kz.xs.all (fun x=>x.over && decide (x.out.length<=1000000))=true:=by kernel_rfl
theorem mD:∀ x∈kz.xs,x.out.length<=1000000:=fun x hx=>by have:=List.all_eq_true.1 iF x hx;simp at this;exact this.2
theorem mK:kz.rd.any id=false:=by kernel_rfl
theorem wh:kz.xs[0]?.map (·.out)=some [⟨⟨false,9,0,0,[]⟩,1,5,3⟩]:=by kernel_rfl
theorem xX:kz.xs[1]?.map (·.out)=some [⟨⟨false,9,0,0,[]⟩,2,3,2⟩]:=by kernel_rfl
section
def kn0:Code:=match Try.f5.body with | some (.seq c _)=>c | _=>.skip
def kn1:Code:=match Try.f5.body with | some (.seq _ (.seq c _))=>c | _=>.skip
def kk1:Code:=match Try.f5.body with | some (.seq _ (c))=>c | _=>.skip
def zH:Code:=match Try.f5.body with | some (.seq _ (.seq _ (.seq c _)))=>c | _=>.skip
def zQ:Code:=match Try.f5.body with | some (.seq _ (.seq _ (c)))=>c | _=>.skip
def kn3:Code:=match Try.f5.body with | some (.seq _ (.seq _ (.seq _ (.seq c _))))=>c | _=>.skip
def zD:Code:=match Try.f5.body with | some (.seq _ (.seq _ (.seq _ (c))))=>c | _=>.skip
def kn4:Code:=match Try.f5.body with | some (.seq _ (.seq _ (.seq _ (.seq _ (.seq c _)))))=>c | _=>.skip
def kk4:Code:=match Try.f5.body with | some (.seq _ (.seq _ (.seq _ (.seq _ (c)))))=>c | _=>.skip
def kn5:Code:=match Try.f5.body with | some (.seq _ (.seq _ (.seq _ (.seq _ (.seq _ (.seq c _))))))=>c | _=>.skip
def zP:Code:=match Try.f5.body with | some (.seq _ (.seq _ (.seq _ (.seq _ (.seq _ (c))))))=>c | _=>.skip
def kn6:Code:=match Try.f5.body with | some (.seq _ (.seq _ (.seq _ (.seq _ (.seq _ (.seq _ (.seq c _)))))))=>c | _=>.skip
def zM:Code:=match Try.f5.body with | some (.seq _ (.seq _ (.seq _ (.seq _ (.seq _ (.seq _ (c)))))))=>c | _=>.skip
def kn7:Code:=match Try.f5.body with | some (.seq _ (.seq _ (.seq _ (.seq _ (.seq _ (.seq _ (.seq _ (c))))))))=>c | _=>.skip
def kk7:Code:=match Try.f5.body with | some (.seq _ (.seq _ (.seq _ (.seq _ (.seq _ (.seq _ (.seq _ (c))))))))=>c | _=>.skip
theorem iw:Try.f5.body=some (.seq kn0 kk1):=rfl
theorem qB:kk1=.seq kn1 zQ:=rfl
theorem nV:zQ=.seq zH zD:=rfl
theorem mW:zD=.seq kn3 kk4:=rfl
theorem rz:kk4=.seq kn4 zP:=rfl
theorem oF:zP=.seq kn5 zM:=rfl
theorem oG:zM=.seq kn6 kk7:=rfl
theorem SX:∀ g∈[8,14],@Lets (Host.only 5) Try.prog g:=fun g hg=>by
  simp only [List.mem_cons,List.not_mem_nil,or_false] at hg;rcases hg with rfl|rfl
  . exact ⟨by kernel_rfl,.inl ⟨_,_,Try.func8,by kernel_rfl,rfl,by kernel_rfl⟩⟩
  . exact ⟨by kernel_rfl,.inl ⟨_,_,Try.func14,by kernel_rfl,rfl,by kernel_rfl⟩⟩
section
variable {Fin:FE}{Ea:E5 Try.prog Fin}
variable {B:Nat->Bool}{W:World}{nn:Nat}{c:Frame}{cs:List Frame}
variable {v0 v1 v2 v3 v4 v5 v6 v7 v8 v9 Aa Ab Ac Ae Af Ah Ai Aj Ak Al Am Ao Ap Ar Au Av Aw Ay Az AA AB AJ AL AO AP AQ AU AV AX AY AZ A8 A9 Ba Bb Bc Bf Bh Bj Bl Bp Bq Br Bu Bv Bw Bz BD BF BG BH BI BJ BK BL BM BN BO BP BQ BR BS BU BX BZ Ca Cb Cc Ce Cg Ci Cj Ck Cm Co Cq Cr Ct Cu Cw Cx Cy Cz CB CF CG CJ CK CO CQ CS CU CV CW CX CY CZ C8 C9:Value}
theorem uY {r7 r8:Nat}(h1:W.cell? ⟨r7,2,none⟩=some (.int .i64 3))(h2:W.cell? ⟨r7,4,none⟩=some (.int .i64 9))(h3:W.cell? ⟨r8,2,none⟩=some (.int .i64 2))(h4:W.cell? ⟨r8,4,none⟩=some (.int .i64 9))(hJ:∀ W',W'.heap=W.heap->JW (S0 (X:=Wk Ef Ec) (Sg:=List Int) Try.prog Fin Ea).base (.Gp B nn) (G (c.finish (.bool true)) cs) W') :
    JL (S0 (X:=Wk Ef Ec) (Sg:=List Int) Try.prog Fin Ea).L (.Gp B nn) (G ((base 5).at ⟨#[v0,v1,v2,v3,v4,v5,v6,.pointer (some ⟨r7,0,none⟩),.pointer (some ⟨r8,0,none⟩),v9,.int .i64 41,Ab,Ac,Ae,Af,Ah,Ai,Aj,Ak,Al,Am,Ao,Ap,Ar,Au,Av,Aw,Ay,Az,AA,AB,AJ,AL,AO,AP,AQ,AU,AV,AX,AY,AZ,A8,A9,Ba,Bb,Bc,Bf,Bh,Bj,Bl,Bp,Bq,Br,Bu,Bv,Bw,Bz,BD,BF,BG,BH,BI,BJ,BK,BL,BM,BN,BO,BP,BQ,BR,BS,BU,BX,BZ,Ca,Cb,Cc,Ce,Cg,Ci,Cj,Ck,Cm,Co,Cq,Cr,Ct,Cu,Cw,Cx,Cy,Cz,CB,CF,CG,CJ,CK,CO,CQ,CS,CU,CV,CW,CX,CY,CZ,C8,C9],[]⟩ (.code kn7 :: [])) (c :: cs)) W:=by
  refine EL.EJ (S:=(S0 (X:=Wk Ef Ec) (Sg:=List Int) Try.prog Fin Ea)) (b:=base 5) [8,14] SX zKR nE zKR fun W₁ ha=>?_;have hh:W₁.heap=W.heap:=by obtain ⟨τ,d,rfl⟩:=ha;rfl
  have e1:W₁.cell? ⟨r7,2,none⟩=some (.int .i64 3):=by simp only [World.cell?,hh] at h1 ⊢;exact h1
  have e2:W₁.cell? ⟨r7,4,none⟩=some (.int .i64 9):=by simp only [World.cell?,hh] at h2 ⊢;exact h2
  have e3:W₁.cell? ⟨r8,2,none⟩=some (.int .i64 2):=by simp only [World.cell?,hh] at h3 ⊢;exact h3
  have e4:W₁.cell? ⟨r8,4,none⟩=some (.int .i64 9):=by simp only [World.cell?,hh] at h4 ⊢;exact h4
  have HH:=Lib.hid (zAI hJ hh);clear hJ hh h1 h2 h3 h4;simp only [kn7,Try.f5];gi_wp2;intro Y;obtain ⟨hJ,hh⟩:=HH.out;exact JL.back rfl Try.func5 (v:=.bool true) (fun w=>by kernel_rfl) (hJ _ hh)
theorem wT {r7 r8 ct cb:Nat}{Kp:Nat->Prop}(h1:W.cell? ⟨r7,2,none⟩=some (.int .i64 3))(h2:W.cell? ⟨r7,4,none⟩=some (.int .i64 9))(h3:W.cell? ⟨r8,2,none⟩=some (.int .i64 2))(h4:W.cell? ⟨r8,4,none⟩=some (.int .i64 9))(Gi:∀ g,Kp g->∃ c e f,W.heap[g]?=some (.cells c e f))(k7:Kp r7)(k8:Kp r8)(hne:ct≠cb)(hkc:∀ g,Kp g->g≠cb)(hc1:W.heap[ct]?=some (.cells #[.slice (some ⟨cb,0,none⟩) 3 3] 64 (0,0)))(hc2:W.heap[cb]?=some (.cells #[.int .i64 0,.int .i64 0,.int .i64 0] 78 (0,0)))(hJ:∀ W',(∀ g,Kp g->W'.heap[g]?=W.heap[g]?)->W.heap.size<=W'.heap.size->JW (S0 (X:=Wk Ef Ec) (Sg:=List Int) Try.prog Fin Ea).base (.Gp B nn) (G (c.finish (.bool true)) cs) W') :
    JL (S0 (X:=Wk Ef Ec) (Sg:=List Int) Try.prog Fin Ea).L (.Gp B nn) (G ((base 5).at ⟨#[v0,v1,v2,v3,v4,.pointer (some ⟨ct,0,none⟩),v6,.pointer (some ⟨r7,0,none⟩),.pointer (some ⟨r8,0,none⟩),v9,Aa,Ab,Ac,Ae,Af,Ah,Ai,Aj,Ak,Al,Am,Ao,Ap,Ar,Au,Av,Aw,Ay,Az,AA,AB,AJ,AL,AO,AP,AQ,AU,AV,AX,AY,AZ,A8,A9,Ba,Bb,Bc,Bf,Bh,Bj,Bl,Bp,Bq,Br,Bu,Bv,Bw,Bz,BD,BF,BG,BH,BI,BJ,BK,BL,BM,BN,BO,BP,BQ,BR,BS,BU,BX,BZ,Ca,Cb,Cc,Ce,Cg,Ci,Cj,Ck,Cm,Co,Cq,Cr,Ct,Cu,Cw,Cx,Cy,Cz,CB,CF,CG,CJ,CK,CO,CQ,CS,CU,CV,CW,CX,CY,CZ,C8,C9],[]⟩ (.code zM :: [])) (c :: cs)) W:=by
  have HH:=Lib.hid (zAI h1 (zAI h2 (zAI h3 (zAI h4 (zAI Gi (zAI k7 (zAI k8 (zAI hne (zAI hkc (zAI hc1 (zAI hc2 hJ)))))))))));clear h1 h2 h3 h4 Gi k7 k8 hne hkc hc1 hc2 hJ;rw [oG];refine Ei ?_;simp only [kn6,Try.f5];refine EH fun _ hkk=>?_
  (refine Eo ?_;walk_nrm)
  refine JL.enter rfl rfl nE rfl Try.func18 zKR zKR ?_;walk_nrm;obtain ⟨h1,h2,h3,h4,Gi,k7,k8,hne,hkc,hc1,hc2,hJ⟩:=HH.out;clear HH;obtain ⟨M0,hM0⟩:∃ M0,M0=XV ct cb 3 Kp W Gi:=⟨_,rfl⟩
  have hCM:Fg M0 ct cb 3:=by rw [hM0];exact Nf (by decide) hne hkc
  refine Xo (kG Em M0 (.Gp B nn) (S0 (X:=Wk Ef Ec) (Sg:=List Int) Try.prog Fin Ea)) hCM (s:={ own:=fun _=>False,f:=5,res:=([0,0,0],({ err:=41 },false)) }) (σ:=[0,0,0]) (c:=⟨1,9,0,0⟩) rfl ⟨?_,fun b hb=>hb.elim⟩ (by show MU Em 5 _ _=_;kernel_rfl) trivial ?_
  . rw [hM0];exact ⟨rfl,hc1,hc2,fun g hg=>rfl⟩
  . intro s' σ' W' e hA' hO hE _;have hE':(σ',(e,false))=s'.res:=hE;have hr:s'.res=(([0,0,0],({ err:=41 },false)):List Int × (An × Bool)):=hO.le;rw [hr] at hE';cases hE'
    have hI:=hA'.inv;rw [hM0] at hI;obtain ⟨_,_,_,hfx⟩:=hI;have f7:=hfx r7 k7;have f8:=hfx r8 k8;rw [Frame.finish_at];show JL (S0 (X:=Wk Ef Ec) (Sg:=List Int) Try.prog Fin Ea).L (.Gp B nn) _ W';have HH:=Lib.hid (zAI h1 (zAI h2 (zAI h3 (zAI h4 (zAI hfx (zAI f7 (zAI f8 hJ)))))));have hsz:W.heap.size<=W'.heap.size:=hO.size;clear h1 h2 h3 h4 Gi k7 k8 hne hkc hc1 hc2 hJ hfx f7 f8 hO hA' hCM hM0 hr hE;walk_nrm;iterate 5 (refine Eo ?_;walk_nrm)
    refine EB ?_;cases hkk;obtain ⟨h1,h2,h3,h4,hfx,f7,f8,hJ⟩:=HH.out;exact uY (by rw [cell_of (w:=W) (a:=⟨r7,2,none⟩) f7];exact h1) (by rw [cell_of (w:=W) (a:=⟨r7,4,none⟩) f7];exact h2) (by rw [cell_of (w:=W) (a:=⟨r8,2,none⟩) f8];exact h3) (by rw [cell_of (w:=W) (a:=⟨r8,4,none⟩) f8];exact h4) fun W2 hw=>hJ W2 (fun g hg=>by rw [hw];exact hfx g hg) (by rw [hw];exact hsz)
end
end
section
theorem Tk (H:Array Obj)(a b:Obj):((H.push a).push b)[H.size]?=some a:=by rw [Array.getElem?_push,if_neg (by simp),Array.getElem?_push,if_pos rfl]
theorem Tm (H:Array Obj)(a b:Obj):((H.push a).push b)[H.size+1]?=some b:=by rw [Array.getElem?_push,if_pos (by simp)]
theorem vO {W₁ W2:World}{a b:Array Value}{t t':TypeId}{f f':Nat × Nat}(h:((W₁.alloc (.cells a t f)).alloc (.cells b t' f')).drew=W2){i:Nat}{v:Value}(hv:a[i]?=some v):W2.cell? ⟨W₁.heap.size,i,none⟩=some v:=by
  have:W2.heap[W₁.heap.size]?=some (.cells a t f):=by rw [← h];exact Tk _ _ _
  simp only [World.cell?,this];exact hv
theorem uL {W₁ W2:World}{a b:Array Value}{t t':TypeId}{f f':Nat × Nat}(h:((W₁.alloc (.cells a t f)).alloc (.cells b t' f')).drew=W2){i:Nat}{v:Value}(hv:b[i]?=some v):W2.cell? ⟨W₁.heap.size+1,i,none⟩=some v:=by
  have:W2.heap[W₁.heap.size+1]?=some (.cells b t' f'):=by rw [← h];exact Tm _ _ _
  simp only [World.cell?,this];exact hv
section
variable {Fin:FE}{Ea:E5 Try.prog Fin}
variable {B:Nat->Bool}{W:World}{nn:Nat}{c:Frame}{cs:List Frame}
variable {v0 v1 v2 v3 v4 v5 v6 v7 v8 v9 Aa Ab Ac Ae Af Ah Ai Aj Ak Al Am Ao Ap Ar Au Av Aw Ay Az AA AB AJ AL AO AP AQ AU AV AX AY AZ A8 A9 Ba Bb Bc Bf Bh Bj Bl Bp Bq Br Bu Bv Bw Bz BD BF BG BH BI BJ BK BL BM BN BO BP BQ BR BS BU BX BZ Ca Cb Cc Ce Cg Ci Cj Ck Cm Co Cq Cr Ct Cu Cw Cx Cy Cz CB CF CG CJ CK CO CQ CS CU CV CW CX CY CZ C8 C9:Value}
theorem vJ {rb ab ao ac g0 o0 c0 g1 o1 c1 ct:Nat}(p0:W.cell? ⟨rb,0,none⟩=some (.slice (some ⟨ab,ao,none⟩) 2 ac))(p1:W.cell? ⟨ab,ao,none⟩=some (.slice (some ⟨g0,o0,none⟩) 1 c0))(p2:W.cell? ⟨ab,ao+1,none⟩=some (.slice (some ⟨g1,o1,none⟩) 1 c1))(x0:W.cell? ⟨g0,o0,none⟩=some (.int .i64 1))(x1:W.cell? ⟨g0,o0+1,none⟩=some (.int .i64 5))(x2:W.cell? ⟨g0,o0+2,none⟩=some (.int .i64 3))(x3:W.cell? ⟨g0,o0+3,none⟩=some (.bool false))(x4:W.cell? ⟨g0,o0+4,none⟩=some (.int .i64 9))(x5:W.cell? ⟨g0,o0+5,none⟩=some (.int .i64 0))(x6:W.cell? ⟨g0,o0+6,none⟩=some (.int .i64 0))(x7:W.cell? ⟨g0,o0+7,none⟩=some (.slice none 0 0))(x8:W.cell? ⟨g0,o0+8,none⟩=some (.slice none 0 0))(y0:W.cell? ⟨g1,o1,none⟩=some (.int .i64 2))(y1:W.cell? ⟨g1,o1+1,none⟩=some (.int .i64 3))(y2:W.cell? ⟨g1,o1+2,none⟩=some (.int .i64 2))(y3:W.cell? ⟨g1,o1+3,none⟩=some (.bool false))(y4:W.cell? ⟨g1,o1+4,none⟩=some (.int .i64 9))(y5:W.cell? ⟨g1,o1+5,none⟩=some (.int .i64 0))(y6:W.cell? ⟨g1,o1+6,none⟩=some (.int .i64 0))(y7:W.cell? ⟨g1,o1+7,none⟩=some (.slice none 0 0))(y8:W.cell? ⟨g1,o1+8,none⟩=some (.slice none 0 0)){cb:Nat}{Kp:Nat->Prop}(Gi:∀ g,Kp g->∃ c e f,W.heap[g]?=some (.cells c e f))(hne:ct≠cb)(hkc:∀ g,Kp g->g≠cb)(hc1:W.heap[ct]?=some (.cells #[.slice (some ⟨cb,0,none⟩) 3 3] 64 (0,0)))(hc2:W.heap[cb]?=some (.cells #[.int .i64 0,.int .i64 0,.int .i64 0] 78 (0,0)))(hJ:∀ W',(∀ g,Kp g->W'.heap[g]?=W.heap[g]?)->W.heap.size<=W'.heap.size->JW (S0 (X:=Wk Ef Ec) (Sg:=List Int) Try.prog Fin Ea).base (.Gp B nn) (G (c.finish (.bool true)) cs) W') :
    JL (S0 (X:=Wk Ef Ec) (Sg:=List Int) Try.prog Fin Ea).L (.Gp B nn) (G ((base 5).at ⟨#[v0,v1,.pointer (some ⟨rb,0,none⟩),v3,v4,.pointer (some ⟨ct,0,none⟩),v6,v7,v8,v9,Aa,Ab,Ac,Ae,Af,Ah,Ai,Aj,Ak,Al,Am,Ao,Ap,Ar,Au,Av,Aw,Ay,Az,AA,AB,AJ,AL,AO,AP,AQ,AU,AV,AX,AY,AZ,A8,A9,Ba,Bb,Bc,Bf,Bh,Bj,Bl,Bp,Bq,Br,Bu,Bv,Bw,Bz,BD,BF,BG,BH,BI,BJ,BK,BL,BM,BN,BO,BP,BQ,BR,BS,BU,BX,BZ,Ca,Cb,Cc,Ce,Cg,Ci,Cj,Ck,Cm,Co,Cq,Cr,Ct,Cu,Cw,Cx,Cy,Cz,CB,CF,CG,CJ,CK,CO,CQ,CS,CU,CV,CW,CX,CY,CZ,C8,C9],[]⟩ (.code zP :: [])) (c :: cs)) W:=by
  rw [oF];refine Ei ?_;refine EL.EJ (S:=(S0 (X:=Wk Ef Ec) (Sg:=List Int) Try.prog Fin Ea)) (b:=base 5) [8,14] SX zKR nE zKR fun W₁ ha=>?_;have hh:W₁.heap=W.heap:=by obtain ⟨τ,d,rfl⟩:=ha;rfl
  have HJ:=Lib.hid (zAI Gi (zAI hne (zAI hkc (zAI hc1 (zAI hc2 (zAI hJ hh))))));clear Gi hne hkc hc1 hc2 hJ;replace p0:W₁.cell? ⟨rb,0,none⟩=some (.slice (some ⟨ab,ao,none⟩) 2 ac):=by simp only [World.cell?,hh] at p0 ⊢;exact p0
  replace p1:W₁.cell? ⟨ab,ao,none⟩=some (.slice (some ⟨g0,o0,none⟩) 1 c0):=by simp only [World.cell?,hh] at p1 ⊢;exact p1
  replace p2:W₁.cell? ⟨ab,ao+1,none⟩=some (.slice (some ⟨g1,o1,none⟩) 1 c1):=by simp only [World.cell?,hh] at p2 ⊢;exact p2
  replace x0:W₁.cell? ⟨g0,o0,none⟩=some (.int .i64 1):=by simp only [World.cell?,hh] at x0 ⊢;exact x0
  replace x1:W₁.cell? ⟨g0,o0+1,none⟩=some (.int .i64 5):=by simp only [World.cell?,hh] at x1 ⊢;exact x1
  replace x2:W₁.cell? ⟨g0,o0+2,none⟩=some (.int .i64 3):=by simp only [World.cell?,hh] at x2 ⊢;exact x2
  replace x3:W₁.cell? ⟨g0,o0+3,none⟩=some (.bool false):=by simp only [World.cell?,hh] at x3 ⊢;exact x3
  replace x4:W₁.cell? ⟨g0,o0+4,none⟩=some (.int .i64 9):=by simp only [World.cell?,hh] at x4 ⊢;exact x4
  replace x5:W₁.cell? ⟨g0,o0+5,none⟩=some (.int .i64 0):=by simp only [World.cell?,hh] at x5 ⊢;exact x5
  replace x6:W₁.cell? ⟨g0,o0+6,none⟩=some (.int .i64 0):=by simp only [World.cell?,hh] at x6 ⊢;exact x6
  replace x7:W₁.cell? ⟨g0,o0+7,none⟩=some (.slice none 0 0):=by simp only [World.cell?,hh] at x7 ⊢;exact x7
  replace x8:W₁.cell? ⟨g0,o0+8,none⟩=some (.slice none 0 0):=by simp only [World.cell?,hh] at x8 ⊢;exact x8
  replace y0:W₁.cell? ⟨g1,o1,none⟩=some (.int .i64 2):=by simp only [World.cell?,hh] at y0 ⊢;exact y0
  replace y1:W₁.cell? ⟨g1,o1+1,none⟩=some (.int .i64 3):=by simp only [World.cell?,hh] at y1 ⊢;exact y1
  replace y2:W₁.cell? ⟨g1,o1+2,none⟩=some (.int .i64 2):=by simp only [World.cell?,hh] at y2 ⊢;exact y2
  replace y3:W₁.cell? ⟨g1,o1+3,none⟩=some (.bool false):=by simp only [World.cell?,hh] at y3 ⊢;exact y3
  replace y4:W₁.cell? ⟨g1,o1+4,none⟩=some (.int .i64 9):=by simp only [World.cell?,hh] at y4 ⊢;exact y4
  replace y5:W₁.cell? ⟨g1,o1+5,none⟩=some (.int .i64 0):=by simp only [World.cell?,hh] at y5 ⊢;exact y5
  replace y6:W₁.cell? ⟨g1,o1+6,none⟩=some (.int .i64 0):=by simp only [World.cell?,hh] at y6 ⊢;exact y6
  replace y7:W₁.cell? ⟨g1,o1+7,none⟩=some (.slice none 0 0):=by simp only [World.cell?,hh] at y7 ⊢;exact y7
  replace y8:W₁.cell? ⟨g1,o1+8,none⟩=some (.slice none 0 0):=by simp only [World.cell?,hh] at y8 ⊢;exact y8
  have Ow:∀ g (oa ob:Obj),g < W₁.heap.size->((W₁.alloc oa).alloc ob).drew.heap[g]?=W₁.heap[g]?:=fun g oa ob hg=>by show ((W₁.heap.push oa).push ob)[g]?=_;rw [Array.getElem?_push,Array.getElem?_push,Array.size_push,if_neg zOM,if_neg zOM]
  have J6:∀ g (oa:Obj),g < W₁.heap.size->(W₁.alloc oa).drew.heap[g]?=W₁.heap[g]?:=fun g oa hg=>by show (W₁.heap.push oa)[g]?=_;rw [Array.getElem?_push,if_neg zOM]
  have zp0:∀ oa ob:Obj,((W₁.alloc oa).alloc ob).drew.cell? ⟨rb,0,none⟩=some (.slice (some ⟨ab,ao,none⟩) 2 ac):=fun oa ob=>(cell_of (Ow _ oa ob (Et p0))).trans p0;have zp1:∀ oa ob:Obj,((W₁.alloc oa).alloc ob).drew.cell? ⟨ab,ao,none⟩=some (.slice (some ⟨g0,o0,none⟩) 1 c0):=fun oa ob=>(cell_of (Ow _ oa ob (Et p1))).trans p1;have zp2:∀ oa ob:Obj,((W₁.alloc oa).alloc ob).drew.cell? ⟨ab,ao+1,none⟩=some (.slice (some ⟨g1,o1,none⟩) 1 c1):=fun oa ob=>(cell_of (Ow _ oa ob (Et p2))).trans p2;have zx0:∀ oa ob:Obj,((W₁.alloc oa).alloc ob).drew.cell? ⟨g0,o0,none⟩=some (.int .i64 1):=fun oa ob=>(cell_of (Ow _ oa ob (Et x0))).trans x0;have zx1:∀ oa ob:Obj,((W₁.alloc oa).alloc ob).drew.cell? ⟨g0,o0+1,none⟩=some (.int .i64 5):=fun oa ob=>(cell_of (Ow _ oa ob (Et x1))).trans x1
  have zx2:∀ oa ob:Obj,((W₁.alloc oa).alloc ob).drew.cell? ⟨g0,o0+2,none⟩=some (.int .i64 3):=fun oa ob=>(cell_of (Ow _ oa ob (Et x2))).trans x2;have zx3:∀ oa ob:Obj,((W₁.alloc oa).alloc ob).drew.cell? ⟨g0,o0+3,none⟩=some (.bool false):=fun oa ob=>(cell_of (Ow _ oa ob (Et x3))).trans x3;have zx4:∀ oa ob:Obj,((W₁.alloc oa).alloc ob).drew.cell? ⟨g0,o0+4,none⟩=some (.int .i64 9):=fun oa ob=>(cell_of (Ow _ oa ob (Et x4))).trans x4;have zx5:∀ oa ob:Obj,((W₁.alloc oa).alloc ob).drew.cell? ⟨g0,o0+5,none⟩=some (.int .i64 0):=fun oa ob=>(cell_of (Ow _ oa ob (Et x5))).trans x5;have zx6:∀ oa ob:Obj,((W₁.alloc oa).alloc ob).drew.cell? ⟨g0,o0+6,none⟩=some (.int .i64 0):=fun oa ob=>(cell_of (Ow _ oa ob (Et x6))).trans x6;have zx7:∀ oa ob:Obj,((W₁.alloc oa).alloc ob).drew.cell? ⟨g0,o0+7,none⟩=some (.slice none 0 0):=fun oa ob=>(cell_of (Ow _ oa ob (Et x7))).trans x7
  have zx8:∀ oa ob:Obj,((W₁.alloc oa).alloc ob).drew.cell? ⟨g0,o0+8,none⟩=some (.slice none 0 0):=fun oa ob=>(cell_of (Ow _ oa ob (Et x8))).trans x8;have zy0:∀ oa ob:Obj,((W₁.alloc oa).alloc ob).drew.cell? ⟨g1,o1,none⟩=some (.int .i64 2):=fun oa ob=>(cell_of (Ow _ oa ob (Et y0))).trans y0;have zy1:∀ oa ob:Obj,((W₁.alloc oa).alloc ob).drew.cell? ⟨g1,o1+1,none⟩=some (.int .i64 3):=fun oa ob=>(cell_of (Ow _ oa ob (Et y1))).trans y1;have zy2:∀ oa ob:Obj,((W₁.alloc oa).alloc ob).drew.cell? ⟨g1,o1+2,none⟩=some (.int .i64 2):=fun oa ob=>(cell_of (Ow _ oa ob (Et y2))).trans y2;have zy3:∀ oa ob:Obj,((W₁.alloc oa).alloc ob).drew.cell? ⟨g1,o1+3,none⟩=some (.bool false):=fun oa ob=>(cell_of (Ow _ oa ob (Et y3))).trans y3;have zy4:∀ oa ob:Obj,((W₁.alloc oa).alloc ob).drew.cell? ⟨g1,o1+4,none⟩=some (.int .i64 9):=fun oa ob=>(cell_of (Ow _ oa ob (Et y4))).trans y4
  have zy5:∀ oa ob:Obj,((W₁.alloc oa).alloc ob).drew.cell? ⟨g1,o1+5,none⟩=some (.int .i64 0):=fun oa ob=>(cell_of (Ow _ oa ob (Et y5))).trans y5;have zy6:∀ oa ob:Obj,((W₁.alloc oa).alloc ob).drew.cell? ⟨g1,o1+6,none⟩=some (.int .i64 0):=fun oa ob=>(cell_of (Ow _ oa ob (Et y6))).trans y6;have zy7:∀ oa ob:Obj,((W₁.alloc oa).alloc ob).drew.cell? ⟨g1,o1+7,none⟩=some (.slice none 0 0):=fun oa ob=>(cell_of (Ow _ oa ob (Et y7))).trans y7;have zy8:∀ oa ob:Obj,((W₁.alloc oa).alloc ob).drew.cell? ⟨g1,o1+8,none⟩=some (.slice none 0 0):=fun oa ob=>(cell_of (Ow _ oa ob (Et y8))).trans y8;have wp0:∀ oa:Obj,(W₁.alloc oa).drew.cell? ⟨rb,0,none⟩=some (.slice (some ⟨ab,ao,none⟩) 2 ac):=fun oa=>(cell_of (J6 _ oa (Et p0))).trans p0;have wp1:∀ oa:Obj,(W₁.alloc oa).drew.cell? ⟨ab,ao,none⟩=some (.slice (some ⟨g0,o0,none⟩) 1 c0):=fun oa=>(cell_of (J6 _ oa (Et p1))).trans p1
  have wp2:∀ oa:Obj,(W₁.alloc oa).drew.cell? ⟨ab,ao+1,none⟩=some (.slice (some ⟨g1,o1,none⟩) 1 c1):=fun oa=>(cell_of (J6 _ oa (Et p2))).trans p2;have wx0:∀ oa:Obj,(W₁.alloc oa).drew.cell? ⟨g0,o0,none⟩=some (.int .i64 1):=fun oa=>(cell_of (J6 _ oa (Et x0))).trans x0;have wx1:∀ oa:Obj,(W₁.alloc oa).drew.cell? ⟨g0,o0+1,none⟩=some (.int .i64 5):=fun oa=>(cell_of (J6 _ oa (Et x1))).trans x1;have wx2:∀ oa:Obj,(W₁.alloc oa).drew.cell? ⟨g0,o0+2,none⟩=some (.int .i64 3):=fun oa=>(cell_of (J6 _ oa (Et x2))).trans x2;have wx3:∀ oa:Obj,(W₁.alloc oa).drew.cell? ⟨g0,o0+3,none⟩=some (.bool false):=fun oa=>(cell_of (J6 _ oa (Et x3))).trans x3;have wx4:∀ oa:Obj,(W₁.alloc oa).drew.cell? ⟨g0,o0+4,none⟩=some (.int .i64 9):=fun oa=>(cell_of (J6 _ oa (Et x4))).trans x4
  have wx5:∀ oa:Obj,(W₁.alloc oa).drew.cell? ⟨g0,o0+5,none⟩=some (.int .i64 0):=fun oa=>(cell_of (J6 _ oa (Et x5))).trans x5;have wx6:∀ oa:Obj,(W₁.alloc oa).drew.cell? ⟨g0,o0+6,none⟩=some (.int .i64 0):=fun oa=>(cell_of (J6 _ oa (Et x6))).trans x6;have wx7:∀ oa:Obj,(W₁.alloc oa).drew.cell? ⟨g0,o0+7,none⟩=some (.slice none 0 0):=fun oa=>(cell_of (J6 _ oa (Et x7))).trans x7;have wx8:∀ oa:Obj,(W₁.alloc oa).drew.cell? ⟨g0,o0+8,none⟩=some (.slice none 0 0):=fun oa=>(cell_of (J6 _ oa (Et x8))).trans x8;have wy0:∀ oa:Obj,(W₁.alloc oa).drew.cell? ⟨g1,o1,none⟩=some (.int .i64 2):=fun oa=>(cell_of (J6 _ oa (Et y0))).trans y0;have wy1:∀ oa:Obj,(W₁.alloc oa).drew.cell? ⟨g1,o1+1,none⟩=some (.int .i64 3):=fun oa=>(cell_of (J6 _ oa (Et y1))).trans y1
  have wy2:∀ oa:Obj,(W₁.alloc oa).drew.cell? ⟨g1,o1+2,none⟩=some (.int .i64 2):=fun oa=>(cell_of (J6 _ oa (Et y2))).trans y2;have wy3:∀ oa:Obj,(W₁.alloc oa).drew.cell? ⟨g1,o1+3,none⟩=some (.bool false):=fun oa=>(cell_of (J6 _ oa (Et y3))).trans y3;have wy4:∀ oa:Obj,(W₁.alloc oa).drew.cell? ⟨g1,o1+4,none⟩=some (.int .i64 9):=fun oa=>(cell_of (J6 _ oa (Et y4))).trans y4;have wy5:∀ oa:Obj,(W₁.alloc oa).drew.cell? ⟨g1,o1+5,none⟩=some (.int .i64 0):=fun oa=>(cell_of (J6 _ oa (Et y5))).trans y5;have wy6:∀ oa:Obj,(W₁.alloc oa).drew.cell? ⟨g1,o1+6,none⟩=some (.int .i64 0):=fun oa=>(cell_of (J6 _ oa (Et y6))).trans y6;have wy7:∀ oa:Obj,(W₁.alloc oa).drew.cell? ⟨g1,o1+7,none⟩=some (.slice none 0 0):=fun oa=>(cell_of (J6 _ oa (Et y7))).trans y7
  have wy8:∀ oa:Obj,(W₁.alloc oa).drew.cell? ⟨g1,o1+8,none⟩=some (.slice none 0 0):=fun oa=>(cell_of (J6 _ oa (Et y8))).trans y8;clear Ow J6 hh;simp only [kn5,Try.f5];gi_region
  all_goals
    clear p0 p1 p2 x0 x1 x2 x3 x4 x5 x6 x7 x8 y0 y1 y2 y3 y4 y5 y6 y7 y8 zp0 zp1 zp2 zx0 zx1 zx2 zx3 zx4 zx5 zx6 zx7 zx8 zy0 zy1 zy2 zy3 zy4 zy5 zy6 zy7 zy8 wp0 wp1 wp2 wx0 wx1 wx2 wx3 wx4 wx5 wx6 wx7 wx8 wy0 wy1 wy2 wy3 wy4 wy5 wy6 wy7 wy8;obtain ⟨Gi,hne,hkc,hc1,hc2,hJ,hh⟩:=HJ.out;generalize hW2:World.drew _=W2;have o2:∀ g,g < W.heap.size->W2.heap[g]?=W.heap[g]?:=fun g hg=>by
      rw [← hh,← hW2];show ((W₁.heap.push _).push _)[g]?=_;have:g < W₁.heap.size:=by rw [hh];exact hg
      rw [Array.getElem?_push,Array.getElem?_push,Array.size_push,if_neg zOM,if_neg zOM]
    have z2:W2.heap.size=W.heap.size+2:=by
      rw [← hh,← hW2];show ((W₁.heap.push _).push _).size=_
      simp
    have lt:∀ {g:Nat} {o},W.heap[g]?=some o->g < W.heap.size:=fun h=>(zGE h).1;have n0:∃ c e f,W2.heap[W.heap.size]?=some (.cells c e f):=by rw [← hh,← hW2];exact ⟨_,_,_,Tk _ _ _⟩
    have n1:∃ c e f,W2.heap[W.heap.size+1]?=some (.cells c e f):=by rw [← hh,← hW2];exact ⟨_,_,_,Tm _ _ _⟩
    show JL (S0 (X:=Wk Ef Ec) (Sg:=List Int) Try.prog Fin Ea).L (.Gp B nn) (G ((base 5).at ⟨_,[]⟩ (.code zM :: [])) (c :: cs)) W2;have hk2:∀ g,(g=W.heap.size\/g=W.heap.size+1\/Kp g)->∃ c e f,W2.heap[g]?=some (.cells c e f):=fun g hg=>by
      rcases hg with rfl|rfl|hg
      . exact n0
      . exact n1
      . obtain ⟨x,y,z,hx⟩:=Gi g hg;exact ⟨x,y,z,(o2 g (lt hx)).trans hx⟩
    have tK:∀ g,(g=W.heap.size\/g=W.heap.size+1\/Kp g)->g≠cb:=fun g hg=>by
      have:=lt hc2;rcases hg with rfl|rfl|hg
      . omega
      . omega
      . exact hkc g hg
    rw [← hh] at hk2 tK;refine wT (Kp:=fun g=>g=W₁.heap.size\/g=W₁.heap.size+1\/Kp g) ?_ ?_ ?_ ?_ hk2 (by simp) (by simp) hne tK (by rw [o2 _ (lt hc1)];exact hc1) (by rw [o2 _ (lt hc2)];exact hc2) (fun W' hk hs=>hJ W' (fun g hg=>?_) zOM);any_goals first | exact vO hW2 rfl | exact uL hW2 rfl
    obtain ⟨x,y,z,hx⟩:=Gi g hg;exact (hk g (.inr (.inr hg))).trans (o2 g (lt hx))
end
end
end Go.Proofs.Yticecinjcajmcaa
end
