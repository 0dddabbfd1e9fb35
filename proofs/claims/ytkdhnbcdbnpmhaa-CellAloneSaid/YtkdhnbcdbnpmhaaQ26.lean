/-
  Part 26 of the proof that CellAlone returns true for every input and leaves its arguments as they were. No further condition.
-/
import Derived.Test.YtkdhnbcdbnpmhaaQ25
import Derived.Stop.RegionWithIn
import Derived.Deep.RegionHeld3
set_option linter.unusedVariables false
set_option linter.unusedSectionVars false
set_option maxHeartbeats 4000000
set_option maxRecDepth 100000
namespace Go.Proofs.Ytkdhnbcdbnpmhaa
open Go Go.Conc Go.LT Go.LC Go.LK Go.RowKit
open BA TU
section
noncomputable def py0:Code:=match Try.f19.body with | some (.seq c _)=>c | _=>.skip
noncomputable def py1:Code:=match Try.f19.body with | some (.seq _ (.seq c _))=>c | _=>.skip
noncomputable def pyB:Code:=match Try.f19.body with | some (.seq _ (.seq _ (.seq c _)))=>c | _=>.skip
noncomputable def pyL:Code:=match Try.f19.body with | some (.seq _ (.seq _ (.seq _ (.seq c _))))=>c | _=>.skip
noncomputable def Aab:Code:=match Try.f19.body with | some (.seq _ (.seq _ (.seq _ (.seq _ (.seq c _)))))=>c | _=>.skip
noncomputable def yF:Code:=match Try.f19.body with | some (.seq _ (.seq _ (.seq _ (.seq _ (.seq _ (.seq c _))))))=>c | _=>.skip
noncomputable def xJ:Code:=match Try.f19.body with | some (.seq _ (.seq _ (.seq _ (.seq _ (.seq _ (.seq _ (.seq c _)))))))=>c | _=>.skip
noncomputable def xX:Code:=match Try.f19.body with | some (.seq _ (.seq _ (.seq _ (.seq _ (.seq _ (.seq _ (.seq _ c)))))))=>c | _=>.skip
theorem yK {P:Program}{t:TypeId}{e:TypeId}(h:P.underlying t=some (.pointer e))(x:Value)(w:World)(es:Array Event):(Instr.makeInterface t x).events P w es=es:=by unfold Instr.makeInterface;simp [go_sem,underlying,h]
theorem kV:Try.f19.body=some (.seq py0 (.seq py1 (.seq pyB (.seq pyL (.seq Aab (.seq yF (.seq xJ xX))))))):=rfl
section
variable {Fin:Iw}{GR:Ig Try.prog Fin}
variable {B:Nat->Bool}{W:World}{nn:Nat}{c:Frame}{cs:List Frame}
theorem ZE {n:Nat}{plans:List (List G5)}{turns:List Int}{pg po JG:Nat}{Mh:List Value}{ta ya:Option Addr}{tn tc yc:Nat}{u:Int}{Kp Fx:Nat->Prop}(hn1:1<=n)(hn2:n<=256)(ZH:∀ g,Fx g->∃ c e f,W.heap[g]?=some (.cells c e f))(hFB:∀ g,Fx g->B g=false)(hP:∀ {Sg:Type} (m:Mem Sg),(∀ σ W',m.Inv σ W'->∀ g,Fx g->W'.heap[g]?=W.heap[g]?)->Oa m pg po Mh plans)(h64:∀ pl∈plans,pl.length<=64)(h0:0 < plans.length)(h8:plans.length<=8)(hu:0<=u)(hu2:u<=20000)(NT:Reads W (.slice ta tn tc) (turns.map (Value.int .i64)))(hlen:turns.length<=1000000)(hcap:nn+8 < 1000000)(hB:∀ g,B g=true->g < W.heap.size)(r9:∀ g,(Value.slice ta tn tc).ownBlock=some g->Kp g)(Kr:∀ g,Kp g->(∃ c e f,W.heap[g]?=some (.cells c e f))/\B g=false/\¬ Fx g)(z:Rs G5 GU (List Int))(hz:z=Rs.go He (Kg u) (Kg u) (Rs.new plans (List.replicate n 0) turns))(hend:∀ x∈z.xs,x.over=true/\x.out.length<=1000000)(hK:∀ B' W' N1 a1 a2 a3 vv,(∀ g,B' g=true->B g=true\/(W.heap.size<=g/\g < N1))->W.heap.size<=N1->N1<=W'.heap.size->Ran N1 z (.slice a1 a2 a3) W'->IE W' N1 1 vv n (z.σ.map (Value.int .i64))->(∀ g,Kp g\/Fx g->W'.heap[g]?=W.heap[g]?)->
      JW (S0 (X:=Wk G5 GU) (Sg:=List Int) Try.prog Fin GR).base (.Ii B' (nn+plans.length)) (G (c.finish (.tuple #[.agg #[.slice a1 a2 a3,.slice none 0 0,.int .i64 z.s,.bool false],vv,.int .i64 0])) cs) W') :
    JW (S0 (X:=Wk G5 GU) (Sg:=List Int) Try.prog Fin GR).base (.Ii B nn) (G (Frame.enter Try.prog 19 #[.int .i64 n,.slice none 0 0,.agg #[.slice (some ⟨pg,po,none⟩) Mh.length JG,.slice ta tn tc,.slice ya 0 yc,.int .i64 u]] .normal) (c :: cs)) W:=by
  have ht:#[.int .i64 n,.slice none 0 0,.agg #[.slice (some ⟨pg,po,none⟩) Mh.length JG,.slice ta tn tc,.slice ya 0 yc,.int .i64 u]] ++ Array.replicate (Try.f19.ntmps - (#[.int .i64 n,.slice none 0 0,.agg #[.slice (some ⟨pg,po,none⟩) Mh.length JG,.slice ta tn tc,.slice ya 0 yc,.int .i64 u]]:Array Value).size) undef=#[.int .i64 n,.slice none 0 0,.agg #[.slice (some ⟨pg,po,none⟩) Mh.length JG,.slice ta tn tc,.slice ya 0 yc,.int .i64 u],undef,undef,undef,undef,undef,undef,undef,undef,undef,undef,undef,undef,undef,undef,undef,undef,undef,undef,undef,undef,undef,undef,undef,undef,undef,undef,undef,undef,undef,undef,undef,undef,undef,undef,undef,undef,undef,undef,undef,undef,undef,undef,undef,undef,undef,undef,undef,undef,undef,undef,undef,undef,undef,undef,undef]:=by
    have:Try.f19.ntmps=58:=by kernel_rfl
    rw [this];walk_nrm
  rw [enter_at _ Try.func19 kV,ht];clear ht;have hkl:∀ g,Kp g\/Fx g->g < W.heap.size:=fun g hg=>by
    rcases hg with hg|hg
    . obtain ⟨⟨c,e,f,hc⟩,_⟩:=Kr g hg;exact (Array.getElem?_eq_some_iff.1 hc).1
    . obtain ⟨c,e,f,hc⟩:=ZH g hg;exact (Array.getElem?_eq_some_iff.1 hc).1
  have HA:=Lib.hid (And.intro ZH (And.intro hFB (And.intro @hP (And.intro h64 (And.intro NT (And.intro hB (And.intro r9 (And.intro Kr (And.intro hz (And.intro hend (And.intro hK hkl)))))))))));clear ZH hFB hP h64 NT hB r9 Kr hz hend hK hkl;show JL (S0 (X:=Wk G5 GU) (Sg:=List Int) Try.prog Fin GR).L _ _ W;refine GY stepG_seq ?_;refine HY.Ht (S:=S0 (X:=Wk G5 GU) (Sg:=List Int) Try.prog Fin GR) (b:=base 19) [] (by simp) (by kernel_rfl) nE (by kernel_rfl) fun GQ ha=>?_;have hh:GQ.heap=W.heap:=by obtain ⟨τ,d,rfl⟩:=ha;rfl
  have HH:=Lib.hid hh;clear hh;simp only [py0,Try.f19];gi_wp2;generalize hW1:World.alloc (World.alloc GQ _) _=W1;have q1:W1.heap=(W.heap.push (.cells #[.slice (some ⟨pg,po,none⟩) Mh.length JG,.slice ta tn tc,.slice ya 0 yc,.int .i64 u] 59 (0,0))).push (.cells #[.slice none 0 0,.slice none 0 0,.int .i64 0,.bool false] 63 (0,0)):=by rw [← hW1,← HH.out];rfl
  have hs:GQ.heap.size=W.heap.size:=by rw [HH.out]
  clear HH hW1 ha;rw [hs];clear hs;show JL (S0 (X:=Wk G5 GU) (Sg:=List Int) Try.prog Fin GR).L _ _ W1;try dsimp only
  refine GY stepG_seq ?_;simp only [py1,Try.f19];refine Hu fun _ hkk=>?_
  (refine Hf ?_;walk_nrm)
  refine JL.enter rfl rfl nE rfl Try.func6 (by kernel_rfl) (by kernel_rfl) ?_;walk_nrm;refine Od (S:=(S0 (X:=Wk G5 GU) (Sg:=List Int) Try.prog Fin GR)) hn1 hn2 fun W2 q2=>?_;rw [Frame.finish_at];show JL (S0 (X:=Wk G5 GU) (Sg:=List Int) Try.prog Fin GR).L _ _ W2;walk_nrm;iterate 5 (refine Hf ?_;walk_nrm)
  refine Hw ?_;cases hkk;refine GY stepG_seq ?_;simp only [pyB,Try.f19];refine GY stepG_block ?_;refine GY stepG_seq ?_;refine Hu fun _ hkk=>?_;iterate 3 (refine Hf ?_;walk_nrm)
  refine Hw ?_;cases hkk;refine JL.Ho (by simp [Act.eval]) ?_;refine GY stepG_seq ?_;refine Hu fun _ hkk=>?_;iterate 5 (refine Hf ?_;walk_nrm)
  refine Hw ?_;cases hkk;refine JL.Ho (by simp [Act.eval] <;> omega) ?_;refine GY stepG_skip ?_;refine GY stepG_inBlock ?_;refine GY stepG_seq ?_;simp only [pyL,Try.f19];refine GY stepG_seq ?_;refine Hu fun _ hkk=>?_;iterate 3 (refine Hf ?_;walk_nrm)
  refine Hw ?_;cases hkk;refine GY stepG_block ?_;refine GY stepG_loop ?_;refine GY stepG_seq ?_;refine Hu fun _ hkk=>?_
  (refine Hf ?_;walk_nrm)
  refine Hw ?_;cases hkk;refine GY stepG_seq ?_;refine JL.Ho (by simp [Act.eval]) ?_;refine JL.exit rfl ?_;refine GY stepG_seq ?_;simp only [Aab,Try.f19];have hev:=fun (x:Value) (w:World) (es:Array Event)=>yK Try.underlying24 x w es;refine Hu fun _ hkk=>?_;iterate 3 (refine Hf ?_;walk_nrm)
  refine Hw ?_;cases hkk;clear hev;refine GY stepG_seq ?_;simp only [yF,Try.f19];refine Hu fun _ hkk=>?_;have z1:W1.heap.size=W.heap.size+2:=by rw [q1];simp
  have z2:W2.heap.size=W.heap.size+4:=by rw [q2];simp [z1]
  have o2:∀ g,g < W.heap.size->W2.heap[g]?=W.heap[g]?:=fun g hg=>by rw [q2,q1];simp only [Array.getElem?_push,Array.size_push];rw [if_neg (by omega),if_neg (by omega),if_neg (by omega),if_neg (by omega)]
  have r0:W2.heap[W.heap.size]?=some (.cells #[.slice (some ⟨pg,po,none⟩) Mh.length JG,.slice ta tn tc,.slice ya 0 yc,.int .i64 u] 59 (0,0)):=by
    rw [q2,q1];simp only [Array.getElem?_push,Array.size_push];rw [if_neg (by omega),if_neg (by omega),if_neg (by omega)]
    simp
  have r1:W2.heap[W.heap.size+1]?=some (.cells #[.slice none 0 0,.slice none 0 0,.int .i64 0,.bool false] 63 (0,0)):=by
    rw [q2,q1];simp only [Array.getElem?_push,Array.size_push];rw [if_neg (by omega),if_neg (by omega)]
    simp
  have r2:W2.heap[W.heap.size+2]?=some (.cells (List.replicate n (Value.int .i64 0)).toArray 80 (0,0)):=by
    rw [q2];simp only [Array.getElem?_push,Array.size_push,z1];rw [if_neg (by omega)]
    simp
  have r3:W2.heap[W.heap.size+3]?=some (.cells #[.slice (some ⟨W.heap.size+2,0,none⟩) n n] 71 (0,0)):=by
    rw [q2];simp only [Array.getElem?_push,Array.size_push,z1]
    simp
  clear q1 q2;rw [z1];clear z1;refine HY.Jm (S:=(S0 (X:=Wk G5 GU) (Sg:=List Int) Try.prog Fin GR)) (b:=base 19) 0 2 [] (by simp) (by kernel_rfl) nE (rest:=[2,3,4,5,6,7,8]) rfl (by kernel_rfl) fun Hl Ky=>?_;have hh3:Hl.heap=W2.heap:=by obtain ⟨τ,d,rfl⟩:=Ky;rfl
  have c0:Hl.cell? ⟨W.heap.size,0,none⟩=some (.slice (some ⟨pg,po,none⟩) Mh.length JG):=by simp [World.cell?,hh3,r0]
  have c1:Hl.cell? ⟨W.heap.size,1,none⟩=some (.slice ta tn tc):=by simp [World.cell?,hh3,r0]
  have c2:Hl.cell? ⟨W.heap.size,2,none⟩=some (.slice ya 0 yc):=by simp [World.cell?,hh3,r0]
  have c3:Hl.cell? ⟨W.heap.size,3,none⟩=some (.int .i64 u):=by simp [World.cell?,hh3,r0]
  have HH:=Lib.hid (And.intro hh3 (And.intro z2 (And.intro o2 (And.intro r0 (And.intro r1 (And.intro r2 r3))))));clear hh3 z2 o2 r0 r1 r2 r3;dsimp only [List.drop,List.take];gi_wp2;refine ⟨rfl,?_⟩;obtain ⟨hh3,z2,o2,r0,r1,r2,r3⟩:=HH.out;clear HH c0 c1 c2 c3 Ky;show JL (S0 (X:=Wk G5 GU) (Sg:=List Int) Try.prog Fin GR).L _ _ Hl;try dsimp only
  refine JL.enter rfl rfl nE rfl Try.func52 (by kernel_rfl) (by kernel_rfl) ?_;walk_nrm;obtain ⟨ZH,hFB,hP,h64,NT,hB,r9,Kr,hz,hend,hK,hkl⟩:=HA.out;clear HA;obtain ⟨M0,hM0⟩:∃ M0,M0=KO (W.heap.size+3) (W.heap.size+2) n Fx W ZH:=⟨_,rfl⟩
  have hCM:Ir M0 (W.heap.size+3) (W.heap.size+2) n:=by rw [hM0];exact Qa hn2 (by omega) fun g hg e=>by have:=hkl g (.inr hg);omega
  have WV:∀ g,W.heap.size<=g->B g=false:=fun g hg=>by
    cases hb:B g with
    | false=>rfl
    | true=>have:=hB g hb;omega
  have gL:∀ σ W',M0.Inv σ W'->∀ g,Fx g->W'.heap[g]?=W.heap[g]?:=fun σ W' h=>by rw [hM0] at h;exact h.2.2.2
  have nA:∀ g,M0.Sh g->g=W.heap.size+3\/g=W.heap.size+2\/Fx g:=fun g hg=>by rw [hM0] at hg;exact hg
  refine iw (D:=He) (m:=M0) (σ:=List.replicate n 0) (turns:=turns) (plans:=plans) (Kp:=fun g=>g=W.heap.size+1\/Kp g) (fun bd ρ b k=>aD (MP He (Ue M0 bd (.iface 24 (.pointer (some ⟨W.heap.size+3,0,none⟩)))) ρ b k) (WK hCM hn1)) (hP M0 gL) h64 h0 h8 hu hu2
    (NT.same fun k _ hk=>by rw [hh3];exact o2 k hk) hlen hcap ?_ (fun g hg=>by rw [hh3,z2];have:=hB g hg;omega) (fun g hg=>?_) (fun g hg=>.inr (r9 g hg)) (fun g hg=>?_) z hz hend ?_
  . rw [hM0];exact ⟨by simp,by rw [hh3];exact r3,by rw [hh3,List.map_replicate];exact r2,fun g hg=>by rw [hh3];exact o2 g (hkl g (.inr hg))⟩
  . rcases nA g hg with rfl | rfl | hg
    . exact WV _ (by omega)
    . exact WV _ (by omega)
    . exact hFB g hg
  . rw [hh3];rcases hg with rfl|hg
    . exact ⟨⟨_,_,_,r1⟩,WV _ (by omega),fun hs=>by
        rcases nA _ hs with e|e|e
        . omega
        . omega
        . have:=hkl _ (.inr e);omega⟩
    . have hl:=hkl g (.inl hg);refine ⟨by rw [o2 g hl];exact (Kr g hg).1,(Kr g hg).2.1,fun hs=>?_⟩;rcases nA g hs with e|e|e
      . omega
      . omega
      . exact (Kr g hg).2.2 e
  . intro B' W4 N1 a1 a2 a3 hB' hN1 hN2 xq TS ZR;rw [Frame.finish_at];show JL (S0 (X:=Wk G5 GU) (Sg:=List Int) Try.prog Fin GR).L _ _ W4;walk_nrm;have hz1:W.heap.size+1 < W4.heap.size:=by rw [hh3] at hN1;omega
    have hbz:=ZR (W.heap.size+1) (.inl rfl);rw [hh3,r1] at hbz;have dP:∀ g,Kp g\/Fx g->W4.heap[g]?=W.heap[g]?:=fun g hg=>by
      rcases hg with h|h
      . rw [ZR g (.inr h),hh3];exact o2 g (hkl g (.inl h))
      . exact gL _ _ xq g h
    have hI5:=xq;rw [hM0] at hI5;obtain ⟨i1,i2,i3,_⟩:=hI5;rw [hh3,z2] at hN1;have HH:=Lib.hid (And.intro hK (And.intro hB' (And.intro TS (And.intro dP (And.intro hN1 (And.intro hbz (And.intro i1 (And.intro i2 (And.intro i3 hkl)))))))));have Ae5:Hl.heap.size=W2.heap.size:=by rw [hh3]
    clear hK hB' TS dP hbz i1 i2 i3 hkl ZR xq gL nA hCM hM0 WV ZH hFB hP h64 NT hB r9 Kr hz hend hh3 o2 r0 r1 r2 r3;refine HY.JR (S:=(S0 (X:=Wk G5 GU) (Sg:=List Int) Try.prog Fin GR)) (b:=base 19) 3 [] (by simp) (by kernel_rfl) nE rfl (by kernel_rfl) fun KQ aT=>?_;have H5:=Lib.hid (show KQ.heap=W4.heap by obtain ⟨τ,d,rfl⟩:=aT;rfl);dsimp only [List.drop];gi_wp2;refine ⟨rfl,?_⟩;generalize bF:World.alloc KQ _=W6;have q6:W6.heap=W4.heap.push (.cells #[.slice a1 a2 a3,.slice none 0 0,.int .i64 z.s,.bool false] 63 (0,0)):=by rw [← bF,← H5.out];rfl
    have hs5:KQ.heap.size=W4.heap.size:=by rw [H5.out]
    rw [hs5];clear bF hs5 H5 aT;show JL (S0 (X:=Wk G5 GU) (Sg:=List Int) Try.prog Fin GR).L _ _ W6;try dsimp only
    cases hkk;refine GY stepG_region_end ?_;refine GY stepG_seq ?_;simp only [xJ,Try.f19];refine GY stepG_seq ?_;refine Hu fun _ hkk=>?_;iterate 2 (refine Hf ?_;walk_nrm)
    refine Hw ?_;cases hkk;refine JL.Ho (by simp [Act.eval]) ?_;refine GY stepG_skip ?_;obtain ⟨hK,hB',TS,dP,hN1,hbz,i1,i2,i3,hkl⟩:=HH.out;clear HH;have z6:W6.heap.size=W4.heap.size+1:=by rw [q6];simp
    have o6:∀ g,g < W4.heap.size->W6.heap[g]?=W4.heap[g]?:=fun g hg=>by rw [q6,Array.getElem?_push,if_neg (by omega)]
    have n6:W6.heap[W4.heap.size]?=some (.cells #[.slice a1 a2 a3,.slice none 0 0,.int .i64 z.s,.bool false] 63 (0,0)):=by rw [q6,Array.getElem?_push,if_pos rfl]
    clear q6;refine HY.Ht (S:=(S0 (X:=Wk G5 GU) (Sg:=List Int) Try.prog Fin GR)) (b:=base 19) [9,27,61] (Po (by kernel_rfl) (by kernel_rfl)) (by kernel_rfl) nE (by kernel_rfl) fun M5 ha7=>?_;have uP:M5.heap=W6.heap:=by obtain ⟨τ,d,rfl⟩:=ha7;rfl
    have j2:M5.heap[W.heap.size+3]?=some (.cells #[.slice (some ⟨W.heap.size+2,0,none⟩) n n] 71 (0,0)):=by rw [uP,o6 _ (by omega)];exact i2
    have j3:M5.heap[W.heap.size+2]?=some (.cells (z.σ.map (Value.int .i64)).toArray 80 (0,0)):=by rw [uP,o6 _ (by omega)];exact i3
    have n7:M5.heap[W4.heap.size]?=some (.cells #[.slice a1 a2 a3,.slice none 0 0,.int .i64 z.s,.bool false] 63 (0,0)):=by rw [uP];exact n6
    have b7:M5.heap[W.heap.size+1]?=some (.cells #[.slice none 0 0,.slice none 0 0,.int .i64 0,.bool false] 63 (0,0)):=by rw [uP,o6 _ (by omega)];exact hbz
    have s7:M5.heap.size=W4.heap.size+1:=by rw [uP,z6]
    have d0:M5.cell? ⟨W4.heap.size,0,none⟩=some (.slice a1 a2 a3):=by simp [World.cell?,n7]
    have d1:M5.cell? ⟨W4.heap.size,1,none⟩=some (.slice none 0 0):=by simp [World.cell?,n7]
    have d2:M5.cell? ⟨W4.heap.size,2,none⟩=some (.int .i64 z.s):=by simp [World.cell?,n7]
    have d3:M5.cell? ⟨W4.heap.size,3,none⟩=some (.bool false):=by simp [World.cell?,n7]
    have hfin:∀ (w1 W':World) vv,IE w1 M5.heap.size 1 vv n (z.σ.map (Value.int .i64))->Below M5.heap.size M5.drew w1->(∀ g,g≠W.heap.size+1->W'.heap[g]?=w1.heap[g]?)->W'.heap.size=w1.heap.size->JW (S0 (X:=Wk G5 GU) (Sg:=List Int) Try.prog Fin GR).base (.Ii B' (nn+plans.length)) (G (c.finish (.tuple #[.agg #[.slice a1 a2 a3,.slice none 0 0,.int .i64 z.s,.bool false],vv,.int .i64 0])) cs) W':=fun w1 W' vv hov hB hst hsz=>by
      have zB:∀ g,g < W4.heap.size->g≠W.heap.size+1->W'.heap[g]?=W4.heap[g]?:=fun g hg hne=>by rw [hst g hne,hB.block g (by omega)];show M5.heap[g]?=_;rw [uP,o6 g hg]
      have hs1:M5.heap.size<=w1.heap.size:=hB.size;refine hK B' W' N1 a1 a2 a3 vv (fun g hg=>?_) (by omega) (by omega) ?_ ?_ fun g hg=>?_
      . rcases hB' g hg with h | h
        . exact .inl h
        . rw [Ae5,z2] at h;exact .inr ⟨by omega,h.2⟩
      . obtain ⟨vs,k1,k2⟩:=TS.ex;refine ⟨vs,KU k1 fun g hg=>by have:=Mk k1 hg;exact zB g this.2 (by omega),fun j v x hv hx=>?_⟩;obtain ⟨⟨Mt,l1,l2,l3⟩,l4⟩:=k2 j v x hv hx;refine ⟨⟨Mt,l1,KU l2 fun g hg=>by have:=Mk l2 hg;exact zB g this.2 (by omega),fun i a iv ha hi=>?_⟩,l4⟩;rcases l3 i a iv ha hi with h|⟨h0,g,cap,x1,_,x3,x4,x5⟩
        . exact .inl h
        . have hne:g≠W.heap.size+1:=fun e=>by
            cases hl:a.a.ints with
            | nil=>exact h0 hl
            | cons y0 l0=>
              have:=x5 0 y0 (by rw [hl];rfl);rw [e] at this;simp [World.cell?,hbz] at this
          refine .inr ⟨h0,g,cap,x1,trivial,x3,x4,fun k y hy=>?_⟩;have hlt:g < W4.heap.size:=Hz (x5 k y hy);rw [cell_of (w:=W4) (a:=⟨g,k,none⟩) (zB g hlt hne)];exact x5 k y hy
      . obtain ⟨te,m1,m2 | ⟨g,cap,cur,m3,m4,m5,m6⟩⟩:=hov
        . exact ⟨te,m1,.inl m2⟩
        . exact ⟨te,m1,.inr ⟨g,cap,cur,m3,by omega,by rw [hst g (by omega)];exact m5,m6⟩⟩
      . have hl:=hkl g hg;rw [zB g (by omega) (by omega)];exact dP g hg
    have HV:=Lib.hid (And.intro hfin (And.intro i1 (And.intro j2 (And.intro j3 (And.intro n7 (And.intro b7 s7))))));clear hfin hK hB' TS dP hN1 hbz i1 i2 i3 hkl j2 j3 n7 b7 s7 z6 o6 n6 uP ha7;simp only [xX,Try.f19];gi_wp2
    gi_region_with (gi_at_call 9;refine (values_in 19 (cb:=W.heap.size+2) (σ:=z.σ) M5.drew hn2 HV.out.2.1 HV.out.2.2.1 HV.out.2.2.2.1).mono ?_;rintro e w1 ⟨v,rfl,ho,hB⟩;have e0:w1.cell? ⟨W4.heap.size,0,none⟩=some (.slice a1 a2 a3):=(hB.cell (p:=⟨W4.heap.size,0,none⟩) (by have:=HV.out.2.2.2.2.2.2;show W4.heap.size < M5.heap.size;omega)).trans d0;have e1:w1.cell? ⟨W4.heap.size,1,none⟩=some (.slice none 0 0):=(hB.cell (p:=⟨W4.heap.size,1,none⟩) (by have:=HV.out.2.2.2.2.2.2;show W4.heap.size < M5.heap.size;omega)).trans d1;have e2:w1.cell? ⟨W4.heap.size,2,none⟩=some (.int .i64 z.s):=(hB.cell (p:=⟨W4.heap.size,2,none⟩) (by have:=HV.out.2.2.2.2.2.2;show W4.heap.size < M5.heap.size;omega)).trans d2;have e3:w1.cell? ⟨W4.heap.size,3,none⟩=some (.bool false):=(hB.cell (p:=⟨W4.heap.size,3,none⟩) (by have:=HV.out.2.2.2.2.2.2;show W4.heap.size < M5.heap.size;omega)).trans d3;have hbb:w1.heap[W.heap.size+1]?=some (.cells #[.slice none 0 0,.slice none 0 0,.int .i64 0,.bool false] 63 (0,0)):=(hB.block _ (by have:=HV.out.2.2.2.2.2.2;show W.heap.size+1 < M5.heap.size;omega)).trans HV.out.2.2.2.2.2.1;have x0:w1.cell? ⟨W.heap.size+1,0,none⟩=some (.slice none 0 0):=(by simp [World.cell?,hbb]);have x1:w1.cell? ⟨W.heap.size+1,1,none⟩=some (.slice none 0 0):=(by simp [World.cell?,hbb]);have x2:w1.cell? ⟨W.heap.size+1,2,none⟩=some (.int .i64 0):=(by simp [World.cell?,hbb]);have x3:w1.cell? ⟨W.heap.size+1,3,none⟩=some (.bool false):=(by simp [World.cell?,hbb]);have f0:w1.frozen? ⟨W.heap.size+1,0,none⟩=false:=(by simp [World.frozen?,hbb]);have f1:w1.frozen? ⟨W.heap.size+1,1,none⟩=false:=(by simp [World.frozen?,hbb]);have f2:w1.frozen? ⟨W.heap.size+1,2,none⟩=false:=(by simp [World.frozen?,hbb]);have f3:w1.frozen? ⟨W.heap.size+1,3,none⟩=false:=(by simp [World.frozen?,hbb]);have HB:=Lib.hid (And.intro hB (And.intro ho hbb));clear hB ho hbb)
    all_goals
      gi_wp2;intro Y;obtain ⟨hfin,_⟩:=HV.out;obtain ⟨hB,ho,hbb⟩:=HB.out;generalize hW':World.setCell _ _ _=W';have hoth:∀ g,g≠W.heap.size+1->W'.heap[g]?=w1.heap[g]?:=fun g hg=>by rw [← hW'];simp [World.setCell,Array.getElem?_modify,Ne.symm hg]
      have hrow:W'.heap[W.heap.size+1]?=some (.cells #[.slice a1 a2 a3,.slice none 0 0,.int .i64 z.s,.bool false] 63 (0,0)):=by rw [← hW'];simp [World.setCell,Array.getElem?_modify,hbb]
      have hsz:W'.heap.size=w1.heap.size:=by rw [← hW'];simp [World.setCell]
      clear hW';refine JW.returns (S:=(S0 (X:=Wk G5 GU) (Sg:=List Int) Try.prog Fin GR)) Try.func19 (v:=.tuple #[.agg #[.slice a1 a2 a3,.slice none 0 0,.int .i64 z.s,.bool false],v,.int .i64 0]) (fun Jj ha2=>?_) (hfin w1 W' v ho hB hoth hsz);have PS:Jj.heap=W'.heap:=by obtain ⟨τ,d,rfl⟩:=ha2;rfl
      have g0:Jj.cell? ⟨W.heap.size+1,0,none⟩=some (.slice a1 a2 a3):=by simp [World.cell?,PS,hrow]
      have g1:Jj.cell? ⟨W.heap.size+1,1,none⟩=some (.slice none 0 0):=by simp [World.cell?,PS,hrow]
      have g2:Jj.cell? ⟨W.heap.size+1,2,none⟩=some (.int .i64 z.s):=by simp [World.cell?,PS,hrow]
      have g3:Jj.cell? ⟨W.heap.size+1,3,none⟩=some (.bool false):=by simp [World.cell?,PS,hrow]
      clear PS hrow hoth hsz hfin hB ho hbb HV HB x0 x1 x2 x3 e0 e1 e2 e3 f0 f1 f2 f3 d0 d1 d2 d3;simp [results,Try.results19,go_sem,Frame.at,g0,g1,g2,g3]
end
end
def Qb (a:List Int)(i:Nat):Int:=a.getD i 0
def Xx (a b:List Int)(i:Nat):Prop:=∀ j,j < i->Qb a j=Qb b j
theorem UG {a b:List Int}(hl:a.length=b.length)(h:Xx a b a.length):a=b:=by
  apply List.ext_getElem hl;intro i h1 h2;have:=h i h1
  simpa [Qb,List.getD_eq_getElem?_getD,h1,h2] using this
theorem Og {w:World}{u:Value}{a:List Int}(h:Reads w u (a.map (Value.int .i64))):∃ ua uc,u=.slice ua a.length uc/\∀ i,i < a.length->∃ b o,ua=some ⟨b,o,none⟩/\w.cell? ⟨b,o+i,none⟩=some (.int .i64 (Qb a i)):=by
  rcases h with ⟨h0,ao,c,rfl,_⟩|⟨h0,b,o,c,rfl,_,_,h3⟩
  . have ha:a=[]:=by simpa using h0
    subst ha;exact ⟨ao,c,rfl,fun i hi=>absurd hi (Nat.not_lt_zero i)⟩
  . rw [List.length_map];refine ⟨_,c,rfl,fun i hi=>⟨b,o,rfl,h3 i _ ?_⟩⟩;have:a[i]?=some (Qb a i):=by simp [Qb,List.getD,hi]
    rw [List.getElem?_map,this];rfl
theorem nK (h:FuncId)(u v:Value)(a b:List Int)(w:World)(hu:Reads w u (a.map (Value.int .i64)))(hv:Reads w v (b.map (Value.int .i64)))(h1:a.length<=1000000) :
    CallsIn (Fence.list [h,7,10] none) 0 Try.prog 10 #[u,v] w fun e w'=>e=.returned (.bool (decide (a=b)))/\Below w.heap.size w w':=by
  obtain ⟨ua,uc,rfl,yZ⟩:=Og hu;obtain ⟨va,vc,rfl,hva⟩:=Og hv;have HU:=Lib.hid yZ;have HV:=Lib.hid hva;clear hu hv yZ hva;gi_enter Try.func10,Try.ntmps10
  by_cases hl:a.length=b.length
  . gi_wp2;gi_loopw [5] (fun iv wr=>∃ i:Nat,i<=a.length/\iv=.int .i64 i/\Below w.heap.size w wr/\Xx a b i) (fun iv _=>a.length - (intOf iv).toNat)
    case atStart=>exact ⟨0,by omega,rfl,Below.refl _ _,fun j hj=>by omega⟩
    case round=>
      obtain ⟨i,hi,rfl,hB,hE⟩:=hrel;by_cases hlt:i < a.length
      . have hlt':i < b.length:=by omega
        obtain ⟨b1,o1,rfl,d1⟩:=HU.out i hlt;obtain ⟨b2,o2,rfl,d2⟩:=HV.out i hlt';have q1:wr.cell? ⟨b1,o1+i,none⟩=some (.int .i64 (Qb a i)):=(hB.cell (p:=⟨b1,o1+i,none⟩) (World.block_lt_of_cell? w _ d1)).trans d1;have q2:wr.cell? ⟨b2,o2+i,none⟩=some (.int .i64 (Qb b i)):=(hB.cell (p:=⟨b2,o2+i,none⟩) (World.block_lt_of_cell? w _ d2)).trans d2;have Ac2:(i:Int) < (b.length:Int):=by omega
        clear d1 d2;by_cases he:Qb a i=Qb b i
        . have hE':Xx a b (i+1):=fun j hj=>by
            by_cases hji:j=i
            . subst hji;exact he
            . exact hE j (by omega)
          have he':(Qb a i != Qb b i)=false:=by simpa using he
          have HE':=Lib.hid hE';clear he hE hE';generalize Qb a i=x at q1 he';generalize Qb b i=y at q2 he';gi_wp2;gi_region
          gi_wp2;go_roundw
          case rel=>exact ⟨i+1,by omega,by go_num,hB.drew,HE'.out⟩
          case measure=>simp [intOf];omega
        . have he':(Qb a i != Qb b i)=true:=by simpa using he
          have hne:decide (a=b)=false:=decide_eq_false (fun e=>he (by rw [e]));have HN:=Lib.hid hne;clear he hE hne;generalize Qb a i=x at q1 he';generalize Qb b i=y at q2 he';gi_wp2;gi_region
          gi_wp2;go_ret
          exact ⟨by rw [HN.out];rfl,hB.drew⟩
      . obtain rfl:i=a.length:=by omega
        have hh:decide (a=b)=true:=decide_eq_true (UG hl hE);have HH:=Lib.hid hh;clear hh;gi_wp2;go_ret
        exact ⟨by rw [HH.out];rfl,hB⟩
  . have hne:decide (a=b)=false:=decide_eq_false (fun e=>hl (by rw [e]));have HN:=Lib.hid hne;have hli:¬ ((a.length:Int)=(b.length:Int)):=by omega
    clear hne;gi_wp2;go_ret
    exact ⟨by rw [HN.out];rfl,Below.refl _ _⟩
def gH:List (List G5):=[[⟨6,0,5,0⟩],[⟨6,0,9,0⟩]]
def X0:List Int:=[0,1,1,0,0]
def kz:Rs G5 GU (List Int):=Rs.go He (Kg 0) (Kg 0) (Rs.new gH (List.replicate 1 0) X0)
theorem Ad8:kz.s=5:=by kernel_rfl
theorem zI:kz.σ=[9]:=by kernel_rfl
theorem vR:kz.xs.length=2:=by kernel_rfl
theorem mF:kz.xs.all (fun x=>x.over && decide (x.out.length<=1000000))=true:=by kernel_rfl
theorem rU:∀ x∈kz.xs,x.over=true/\x.out.length<=1000000:=fun x hx=>by
  have:=List.all_eq_true.1 mF x hx
  simpa using this
theorem Aay:kz.xs[0]?.map (·.out)=some [⟨⟨false,9,0,0,[]⟩,1,5,3⟩]:=by kernel_rfl
theorem zG:kz.xs[1]?.map (·.out)=some [⟨⟨false,9,0,0,[]⟩,2,3,2⟩]:=by kernel_rfl
section
noncomputable def kn0:Code:=match Try.f5.body with | some (.seq c _)=>c | _=>.skip
noncomputable def kn1:Code:=match Try.f5.body with | some (.seq _ (.seq c _))=>c | _=>.skip
noncomputable def kk1:Code:=match Try.f5.body with | some (.seq _ (c))=>c | _=>.skip
noncomputable def kn2:Code:=match Try.f5.body with | some (.seq _ (.seq _ (.seq c _)))=>c | _=>.skip
noncomputable def kk2:Code:=match Try.f5.body with | some (.seq _ (.seq _ (c)))=>c | _=>.skip
noncomputable def kn3:Code:=match Try.f5.body with | some (.seq _ (.seq _ (.seq _ (.seq c _))))=>c | _=>.skip
noncomputable def kk3:Code:=match Try.f5.body with | some (.seq _ (.seq _ (.seq _ (c))))=>c | _=>.skip
noncomputable def kn4:Code:=match Try.f5.body with | some (.seq _ (.seq _ (.seq _ (.seq _ (.seq c _)))))=>c | _=>.skip
noncomputable def kk4:Code:=match Try.f5.body with | some (.seq _ (.seq _ (.seq _ (.seq _ (c)))))=>c | _=>.skip
noncomputable def kn5:Code:=match Try.f5.body with | some (.seq _ (.seq _ (.seq _ (.seq _ (.seq _ (.seq c _))))))=>c | _=>.skip
noncomputable def kk5:Code:=match Try.f5.body with | some (.seq _ (.seq _ (.seq _ (.seq _ (.seq _ (c))))))=>c | _=>.skip
noncomputable def kn6:Code:=match Try.f5.body with | some (.seq _ (.seq _ (.seq _ (.seq _ (.seq _ (.seq _ (.seq c _)))))))=>c | _=>.skip
noncomputable def kk6:Code:=match Try.f5.body with | some (.seq _ (.seq _ (.seq _ (.seq _ (.seq _ (.seq _ (c)))))))=>c | _=>.skip
noncomputable def kn7:Code:=match Try.f5.body with | some (.seq _ (.seq _ (.seq _ (.seq _ (.seq _ (.seq _ (.seq _ (c))))))))=>c | _=>.skip
noncomputable def kk7:Code:=match Try.f5.body with | some (.seq _ (.seq _ (.seq _ (.seq _ (.seq _ (.seq _ (.seq _ (c))))))))=>c | _=>.skip
theorem lC:Try.f5.body=some (.seq kn0 kk1):=rfl
theorem qM:kk1=.seq kn1 kk2:=rfl
theorem tX:kk2=.seq kn2 kk3:=rfl
theorem vI:kk3=.seq kn3 kk4:=rfl
theorem rJ:kk4=.seq kn4 kk5:=rfl
theorem qp:kk5=.seq kn5 kk6:=rfl
theorem tV:kk6=.seq kn6 kk7:=rfl
theorem U5:∀ g∈[7,10],@Lets (Host.only 5) Try.prog g:=fun g hg=>by
  simp only [List.mem_cons,List.not_mem_nil,or_false] at hg;rcases hg with rfl|rfl
  . exact ⟨by kernel_rfl,.inl ⟨_,_,Try.func7,by kernel_rfl,rfl,by kernel_rfl⟩⟩
  . exact ⟨by kernel_rfl,.inl ⟨_,_,Try.func10,by kernel_rfl,rfl,by kernel_rfl⟩⟩
section
variable {Fin:Iw}{GR:Ig Try.prog Fin}
variable {B:Nat->Bool}{W:World}{nn:Nat}{c:Frame}{cs:List Frame}
variable {v0 v1 v2 v3 v4 v5 v6 v7 v8 v9 Aa Ab Ac Ae Af Ah Ai Aj Ak Al Am Ao Ap Aq Ar Au Av Aw Ay Az AA AB AJ AL AO AP AQ AU AV AX AY AZ A8 A9 Ba Bb Bc Bf Bh Bj Bl Bp Bq Br Bu Bv Bw Bz BD BF BG BH BI BJ BK BL BM BN BO BP BQ BR BS BU BX BZ Ca Cb Cc Ce Cg Ci Cj Ck Cm Co Cq Cr Ct Cu Cw Cx Cy Cz CB CF CG CJ CK CO CQ CS CU CV CW CX CY CZ C8:Value}
theorem yx {r7 r8:Nat}(h1:W.cell? ⟨r7,2,none⟩=some (.int .i64 3))(h2:W.cell? ⟨r7,4,none⟩=some (.int .i64 9))(h3:W.cell? ⟨r8,2,none⟩=some (.int .i64 2))(h4:W.cell? ⟨r8,4,none⟩=some (.int .i64 9))(hJ:∀ W',W'.heap=W.heap->JW (S0 (X:=Wk G5 GU) (Sg:=List Int) Try.prog Fin GR).base (.Ii B nn) (G (c.finish (.bool true)) cs) W') :
    JL (S0 (X:=Wk G5 GU) (Sg:=List Int) Try.prog Fin GR).L (.Ii B nn) (G ((base 5).at ⟨#[v0,v1,v2,v3,v4,v5,v6,.pointer (some ⟨r7,0,none⟩),.pointer (some ⟨r8,0,none⟩),v9,.int .i64 41,Ab,Ac,Ae,Af,Ah,Ai,Aj,Ak,Al,Am,Ao,Ap,Aq,Ar,Au,Av,Aw,Ay,Az,AA,AB,AJ,AL,AO,AP,AQ,AU,AV,AX,AY,AZ,A8,A9,Ba,Bb,Bc,Bf,Bh,Bj,Bl,Bp,Bq,Br,Bu,Bv,Bw,Bz,BD,BF,BG,BH,BI,BJ,BK,BL,BM,BN,BO,BP,BQ,BR,BS,BU,BX,BZ,Ca,Cb,Cc,Ce,Cg,Ci,Cj,Ck,Cm,Co,Cq,Cr,Ct,Cu,Cw,Cx,Cy,Cz,CB,CF,CG,CJ,CK,CO,CQ,CS,CU,CV,CW,CX,CY,CZ,C8],[]⟩ (.code kn7 :: [])) (c :: cs)) W:=by
  refine HY.Ht (S:=(S0 (X:=Wk G5 GU) (Sg:=List Int) Try.prog Fin GR)) (b:=base 5) [7,10] U5 (by kernel_rfl) nE (by kernel_rfl) fun GQ ha=>?_;have hh:GQ.heap=W.heap:=by obtain ⟨τ,d,rfl⟩:=ha;rfl
  have e1:GQ.cell? ⟨r7,2,none⟩=some (.int .i64 3):=by simp only [World.cell?,hh] at h1 ⊢;exact h1
  have e2:GQ.cell? ⟨r7,4,none⟩=some (.int .i64 9):=by simp only [World.cell?,hh] at h2 ⊢;exact h2
  have e3:GQ.cell? ⟨r8,2,none⟩=some (.int .i64 2):=by simp only [World.cell?,hh] at h3 ⊢;exact h3
  have e4:GQ.cell? ⟨r8,4,none⟩=some (.int .i64 9):=by simp only [World.cell?,hh] at h4 ⊢;exact h4
  have HH:=Lib.hid (And.intro hJ hh);clear hJ hh h1 h2 h3 h4;simp only [kn7,Try.f5];gi_wp2;intro Y;obtain ⟨hJ,hh⟩:=HH.out;exact JL.back rfl Try.func5 (v:=.bool true) (fun w=>by kernel_rfl) (hJ _ hh)
theorem wT {r7 r8 ct cb:Nat}{Kp:Nat->Prop}(h1:W.cell? ⟨r7,2,none⟩=some (.int .i64 3))(h2:W.cell? ⟨r7,4,none⟩=some (.int .i64 9))(h3:W.cell? ⟨r8,2,none⟩=some (.int .i64 2))(h4:W.cell? ⟨r8,4,none⟩=some (.int .i64 9))(Kr:∀ g,Kp g->∃ c e f,W.heap[g]?=some (.cells c e f))(k7:Kp r7)(k8:Kp r8)(hne:ct≠cb)(hkc:∀ g,Kp g->g≠cb)(hc1:W.heap[ct]?=some (.cells #[.slice (some ⟨cb,0,none⟩) 3 3] 71 (0,0)))(hc2:W.heap[cb]?=some (.cells #[.int .i64 0,.int .i64 0,.int .i64 0] 80 (0,0)))(hJ:∀ W',(∀ g,Kp g->W'.heap[g]?=W.heap[g]?)->W.heap.size<=W'.heap.size->JW (S0 (X:=Wk G5 GU) (Sg:=List Int) Try.prog Fin GR).base (.Ii B nn) (G (c.finish (.bool true)) cs) W') :
    JL (S0 (X:=Wk G5 GU) (Sg:=List Int) Try.prog Fin GR).L (.Ii B nn) (G ((base 5).at ⟨#[v0,v1,v2,v3,v4,.pointer (some ⟨ct,0,none⟩),v6,.pointer (some ⟨r7,0,none⟩),.pointer (some ⟨r8,0,none⟩),v9,Aa,Ab,Ac,Ae,Af,Ah,Ai,Aj,Ak,Al,Am,Ao,Ap,Aq,Ar,Au,Av,Aw,Ay,Az,AA,AB,AJ,AL,AO,AP,AQ,AU,AV,AX,AY,AZ,A8,A9,Ba,Bb,Bc,Bf,Bh,Bj,Bl,Bp,Bq,Br,Bu,Bv,Bw,Bz,BD,BF,BG,BH,BI,BJ,BK,BL,BM,BN,BO,BP,BQ,BR,BS,BU,BX,BZ,Ca,Cb,Cc,Ce,Cg,Ci,Cj,Ck,Cm,Co,Cq,Cr,Ct,Cu,Cw,Cx,Cy,Cz,CB,CF,CG,CJ,CK,CO,CQ,CS,CU,CV,CW,CX,CY,CZ,C8],[]⟩ (.code kk6 :: [])) (c :: cs)) W:=by
  have HH:=Lib.hid (And.intro h1 (And.intro h2 (And.intro h3 (And.intro h4 (And.intro Kr (And.intro k7 (And.intro k8 (And.intro hne (And.intro hkc (And.intro hc1 (And.intro hc2 hJ)))))))))));clear h1 h2 h3 h4 Kr k7 k8 hne hkc hc1 hc2 hJ;rw [tV];refine GY stepG_seq ?_;simp only [kn6,Try.f5];refine Hu fun _ hkk=>?_
  (refine Hf ?_;walk_nrm)
  refine JL.enter rfl rfl nE rfl Try.func20 (by kernel_rfl) (by kernel_rfl) ?_;walk_nrm;obtain ⟨h1,h2,h3,h4,Kr,k7,k8,hne,hkc,hc1,hc2,hJ⟩:=HH.out;clear HH;obtain ⟨M0,hM0⟩:∃ M0,M0=KO ct cb 3 Kp W Kr:=⟨_,rfl⟩
  have hCM:Ir M0 ct cb 3:=by rw [hM0];exact Qa (by decide) hne hkc
  refine RQ (Mr He M0 (.Ii B nn) (S0 (X:=Wk G5 GU) (Sg:=List Int) Try.prog Fin GR)) hCM (s:={ own:=fun _=>False,f:=5,res:=([0,0,0],({ err:=41 },false)) }) (σ:=[0,0,0]) (c:=⟨1,9,0,0⟩) rfl ⟨?_,fun b hb=>hb.elim⟩ (by show IL He 5 _ _=_;kernel_rfl) trivial ?_
  . rw [hM0];exact ⟨rfl,hc1,hc2,fun g hg=>rfl⟩
  . intro s' σ' W' e hA' hO hE _;have hE':(σ',(e,false))=s'.res:=hE;have hr:s'.res=(([0,0,0],({ err:=41 },false)):List Int × (An × Bool)):=hO.le;rw [hr] at hE';cases hE'
    have hI:=hA'.inv;rw [hM0] at hI;obtain ⟨_,_,_,hfx⟩:=hI;have f7:=hfx r7 k7;have f8:=hfx r8 k8;rw [Frame.finish_at];show JL (S0 (X:=Wk G5 GU) (Sg:=List Int) Try.prog Fin GR).L (.Ii B nn) _ W';have HH:=Lib.hid (And.intro h1 (And.intro h2 (And.intro h3 (And.intro h4 (And.intro hfx (And.intro f7 (And.intro f8 hJ)))))));have hsz:W.heap.size<=W'.heap.size:=hO.size;clear h1 h2 h3 h4 Kr k7 k8 hne hkc hc1 hc2 hJ hfx f7 f8 hO hA' hCM hM0 hr hE;walk_nrm;iterate 5 (refine Hf ?_;walk_nrm)
    refine Hw ?_;cases hkk;obtain ⟨h1,h2,h3,h4,hfx,f7,f8,hJ⟩:=HH.out;exact yx (by rw [cell_of (w:=W) (a:=⟨r7,2,none⟩) f7];exact h1) (by rw [cell_of (w:=W) (a:=⟨r7,4,none⟩) f7];exact h2) (by rw [cell_of (w:=W) (a:=⟨r8,2,none⟩) f8];exact h3) (by rw [cell_of (w:=W) (a:=⟨r8,4,none⟩) f8];exact h4) fun W2 hw=>hJ W2 (fun g hg=>by rw [hw];exact hfx g hg) (by rw [hw];exact hsz)
end
end
section
theorem Om (H:Array Obj)(a b:Obj):((H.push a).push b)[H.size]?=some a:=by rw [Array.getElem?_push,if_neg (by simp),Array.getElem?_push,if_pos rfl]
theorem Oe (H:Array Obj)(a b:Obj):((H.push a).push b)[H.size+1]?=some b:=by rw [Array.getElem?_push,if_pos (by simp)]
theorem yJ {GQ W2:World}{a b:Array Value}{t t':TypeId}{f f':Nat × Nat}(h:((GQ.alloc (.cells a t f)).alloc (.cells b t' f')).drew=W2){i:Nat}{v:Value}(hv:a[i]?=some v):W2.cell? ⟨GQ.heap.size,i,none⟩=some v:=by
  have:W2.heap[GQ.heap.size]?=some (.cells a t f):=by rw [← h];exact Om _ _ _
  simp only [World.cell?,this];exact hv
theorem zR {GQ W2:World}{a b:Array Value}{t t':TypeId}{f f':Nat × Nat}(h:((GQ.alloc (.cells a t f)).alloc (.cells b t' f')).drew=W2){i:Nat}{v:Value}(hv:b[i]?=some v):W2.cell? ⟨GQ.heap.size+1,i,none⟩=some v:=by
  have:W2.heap[GQ.heap.size+1]?=some (.cells b t' f'):=by rw [← h];exact Oe _ _ _
  simp only [World.cell?,this];exact hv
section
variable {Fin:Iw}{GR:Ig Try.prog Fin}
variable {B:Nat->Bool}{W:World}{nn:Nat}{c:Frame}{cs:List Frame}
variable {v0 v1 v2 v3 v4 v5 v6 v7 v8 v9 Aa Ab Ac Ae Af Ah Ai Aj Ak Al Am Ao Ap Aq Ar Au Av Aw Ay Az AA AB AJ AL AO AP AQ AU AV AX AY AZ A8 A9 Ba Bb Bc Bf Bh Bj Bl Bp Bq Br Bu Bv Bw Bz BD BF BG BH BI BJ BK BL BM BN BO BP BQ BR BS BU BX BZ Ca Cb Cc Ce Cg Ci Cj Ck Cm Co Cq Cr Ct Cu Cw Cx Cy Cz CB CF CG CJ CK CO CQ CS CU CV CW CX CY CZ C8:Value}
theorem Aai {rb ab ao ac g0 o0 c0 g1 o1 c1 ct:Nat}(p0:W.cell? ⟨rb,0,none⟩=some (.slice (some ⟨ab,ao,none⟩) 2 ac))(p1:W.cell? ⟨ab,ao,none⟩=some (.slice (some ⟨g0,o0,none⟩) 1 c0))(p2:W.cell? ⟨ab,ao+1,none⟩=some (.slice (some ⟨g1,o1,none⟩) 1 c1))(x0:W.cell? ⟨g0,o0,none⟩=some (.int .i64 1))(x1:W.cell? ⟨g0,o0+1,none⟩=some (.int .i64 5))(x2:W.cell? ⟨g0,o0+2,none⟩=some (.int .i64 3))(x3:W.cell? ⟨g0,o0+3,none⟩=some (.bool false))(x4:W.cell? ⟨g0,o0+4,none⟩=some (.int .i64 9))(x5:W.cell? ⟨g0,o0+5,none⟩=some (.int .i64 0))(x6:W.cell? ⟨g0,o0+6,none⟩=some (.int .i64 0))(x7:W.cell? ⟨g0,o0+7,none⟩=some (.slice none 0 0))(x8:W.cell? ⟨g0,o0+8,none⟩=some (.slice none 0 0))(y0:W.cell? ⟨g1,o1,none⟩=some (.int .i64 2))(y1:W.cell? ⟨g1,o1+1,none⟩=some (.int .i64 3))(y2:W.cell? ⟨g1,o1+2,none⟩=some (.int .i64 2))(y3:W.cell? ⟨g1,o1+3,none⟩=some (.bool false))(y4:W.cell? ⟨g1,o1+4,none⟩=some (.int .i64 9))(y5:W.cell? ⟨g1,o1+5,none⟩=some (.int .i64 0))(y6:W.cell? ⟨g1,o1+6,none⟩=some (.int .i64 0))(y7:W.cell? ⟨g1,o1+7,none⟩=some (.slice none 0 0))(y8:W.cell? ⟨g1,o1+8,none⟩=some (.slice none 0 0)){cb:Nat}{Kp:Nat->Prop}(Kr:∀ g,Kp g->∃ c e f,W.heap[g]?=some (.cells c e f))(hne:ct≠cb)(hkc:∀ g,Kp g->g≠cb)(hc1:W.heap[ct]?=some (.cells #[.slice (some ⟨cb,0,none⟩) 3 3] 71 (0,0)))(hc2:W.heap[cb]?=some (.cells #[.int .i64 0,.int .i64 0,.int .i64 0] 80 (0,0)))(hJ:∀ W',(∀ g,Kp g->W'.heap[g]?=W.heap[g]?)->W.heap.size<=W'.heap.size->JW (S0 (X:=Wk G5 GU) (Sg:=List Int) Try.prog Fin GR).base (.Ii B nn) (G (c.finish (.bool true)) cs) W') :
    JL (S0 (X:=Wk G5 GU) (Sg:=List Int) Try.prog Fin GR).L (.Ii B nn) (G ((base 5).at ⟨#[v0,v1,.pointer (some ⟨rb,0,none⟩),v3,v4,.pointer (some ⟨ct,0,none⟩),v6,v7,v8,v9,Aa,Ab,Ac,Ae,Af,Ah,Ai,Aj,Ak,Al,Am,Ao,Ap,Aq,Ar,Au,Av,Aw,Ay,Az,AA,AB,AJ,AL,AO,AP,AQ,AU,AV,AX,AY,AZ,A8,A9,Ba,Bb,Bc,Bf,Bh,Bj,Bl,Bp,Bq,Br,Bu,Bv,Bw,Bz,BD,BF,BG,BH,BI,BJ,BK,BL,BM,BN,BO,BP,BQ,BR,BS,BU,BX,BZ,Ca,Cb,Cc,Ce,Cg,Ci,Cj,Ck,Cm,Co,Cq,Cr,Ct,Cu,Cw,Cx,Cy,Cz,CB,CF,CG,CJ,CK,CO,CQ,CS,CU,CV,CW,CX,CY,CZ,C8],[]⟩ (.code kk5 :: [])) (c :: cs)) W:=by
  rw [qp];refine GY stepG_seq ?_;refine HY.Ht (S:=(S0 (X:=Wk G5 GU) (Sg:=List Int) Try.prog Fin GR)) (b:=base 5) [7,10] U5 (by kernel_rfl) nE (by kernel_rfl) fun GQ ha=>?_;have hh:GQ.heap=W.heap:=by obtain ⟨τ,d,rfl⟩:=ha;rfl
  have HJ:=Lib.hid (And.intro Kr (And.intro hne (And.intro hkc (And.intro hc1 (And.intro hc2 (And.intro hJ hh))))));clear Kr hne hkc hc1 hc2 hJ;replace p0:GQ.cell? ⟨rb,0,none⟩=some (.slice (some ⟨ab,ao,none⟩) 2 ac):=by simp only [World.cell?,hh] at p0 ⊢;exact p0
  replace p1:GQ.cell? ⟨ab,ao,none⟩=some (.slice (some ⟨g0,o0,none⟩) 1 c0):=by simp only [World.cell?,hh] at p1 ⊢;exact p1
  replace p2:GQ.cell? ⟨ab,ao+1,none⟩=some (.slice (some ⟨g1,o1,none⟩) 1 c1):=by simp only [World.cell?,hh] at p2 ⊢;exact p2
  replace x0:GQ.cell? ⟨g0,o0,none⟩=some (.int .i64 1):=by simp only [World.cell?,hh] at x0 ⊢;exact x0
  replace x1:GQ.cell? ⟨g0,o0+1,none⟩=some (.int .i64 5):=by simp only [World.cell?,hh] at x1 ⊢;exact x1
  replace x2:GQ.cell? ⟨g0,o0+2,none⟩=some (.int .i64 3):=by simp only [World.cell?,hh] at x2 ⊢;exact x2
  replace x3:GQ.cell? ⟨g0,o0+3,none⟩=some (.bool false):=by simp only [World.cell?,hh] at x3 ⊢;exact x3
  replace x4:GQ.cell? ⟨g0,o0+4,none⟩=some (.int .i64 9):=by simp only [World.cell?,hh] at x4 ⊢;exact x4
  replace x5:GQ.cell? ⟨g0,o0+5,none⟩=some (.int .i64 0):=by simp only [World.cell?,hh] at x5 ⊢;exact x5
  replace x6:GQ.cell? ⟨g0,o0+6,none⟩=some (.int .i64 0):=by simp only [World.cell?,hh] at x6 ⊢;exact x6
  replace x7:GQ.cell? ⟨g0,o0+7,none⟩=some (.slice none 0 0):=by simp only [World.cell?,hh] at x7 ⊢;exact x7
  replace x8:GQ.cell? ⟨g0,o0+8,none⟩=some (.slice none 0 0):=by simp only [World.cell?,hh] at x8 ⊢;exact x8
  replace y0:GQ.cell? ⟨g1,o1,none⟩=some (.int .i64 2):=by simp only [World.cell?,hh] at y0 ⊢;exact y0
  replace y1:GQ.cell? ⟨g1,o1+1,none⟩=some (.int .i64 3):=by simp only [World.cell?,hh] at y1 ⊢;exact y1
  replace y2:GQ.cell? ⟨g1,o1+2,none⟩=some (.int .i64 2):=by simp only [World.cell?,hh] at y2 ⊢;exact y2
  replace y3:GQ.cell? ⟨g1,o1+3,none⟩=some (.bool false):=by simp only [World.cell?,hh] at y3 ⊢;exact y3
  replace y4:GQ.cell? ⟨g1,o1+4,none⟩=some (.int .i64 9):=by simp only [World.cell?,hh] at y4 ⊢;exact y4
  replace y5:GQ.cell? ⟨g1,o1+5,none⟩=some (.int .i64 0):=by simp only [World.cell?,hh] at y5 ⊢;exact y5
  replace y6:GQ.cell? ⟨g1,o1+6,none⟩=some (.int .i64 0):=by simp only [World.cell?,hh] at y6 ⊢;exact y6
  replace y7:GQ.cell? ⟨g1,o1+7,none⟩=some (.slice none 0 0):=by simp only [World.cell?,hh] at y7 ⊢;exact y7
  replace y8:GQ.cell? ⟨g1,o1+8,none⟩=some (.slice none 0 0):=by simp only [World.cell?,hh] at y8 ⊢;exact y8
  have QG:∀ g (oa ob:Obj),g < GQ.heap.size->((GQ.alloc oa).alloc ob).drew.heap[g]?=GQ.heap[g]?:=fun g oa ob hg=>by show ((GQ.heap.push oa).push ob)[g]?=_;rw [Array.getElem?_push,Array.getElem?_push,Array.size_push,if_neg (by omega),if_neg (by omega)]
  have MZ:∀ g (oa:Obj),g < GQ.heap.size->(GQ.alloc oa).drew.heap[g]?=GQ.heap[g]?:=fun g oa hg=>by show (GQ.heap.push oa)[g]?=_;rw [Array.getElem?_push,if_neg (by omega)]
  have zp0:∀ oa ob:Obj,((GQ.alloc oa).alloc ob).drew.cell? ⟨rb,0,none⟩=some (.slice (some ⟨ab,ao,none⟩) 2 ac):=fun oa ob=>(cell_of (QG _ oa ob (Hz p0))).trans p0;have zp1:∀ oa ob:Obj,((GQ.alloc oa).alloc ob).drew.cell? ⟨ab,ao,none⟩=some (.slice (some ⟨g0,o0,none⟩) 1 c0):=fun oa ob=>(cell_of (QG _ oa ob (Hz p1))).trans p1;have zp2:∀ oa ob:Obj,((GQ.alloc oa).alloc ob).drew.cell? ⟨ab,ao+1,none⟩=some (.slice (some ⟨g1,o1,none⟩) 1 c1):=fun oa ob=>(cell_of (QG _ oa ob (Hz p2))).trans p2;have zx0:∀ oa ob:Obj,((GQ.alloc oa).alloc ob).drew.cell? ⟨g0,o0,none⟩=some (.int .i64 1):=fun oa ob=>(cell_of (QG _ oa ob (Hz x0))).trans x0;have zx1:∀ oa ob:Obj,((GQ.alloc oa).alloc ob).drew.cell? ⟨g0,o0+1,none⟩=some (.int .i64 5):=fun oa ob=>(cell_of (QG _ oa ob (Hz x1))).trans x1
  have zx2:∀ oa ob:Obj,((GQ.alloc oa).alloc ob).drew.cell? ⟨g0,o0+2,none⟩=some (.int .i64 3):=fun oa ob=>(cell_of (QG _ oa ob (Hz x2))).trans x2;have zx3:∀ oa ob:Obj,((GQ.alloc oa).alloc ob).drew.cell? ⟨g0,o0+3,none⟩=some (.bool false):=fun oa ob=>(cell_of (QG _ oa ob (Hz x3))).trans x3;have zx4:∀ oa ob:Obj,((GQ.alloc oa).alloc ob).drew.cell? ⟨g0,o0+4,none⟩=some (.int .i64 9):=fun oa ob=>(cell_of (QG _ oa ob (Hz x4))).trans x4;have zx5:∀ oa ob:Obj,((GQ.alloc oa).alloc ob).drew.cell? ⟨g0,o0+5,none⟩=some (.int .i64 0):=fun oa ob=>(cell_of (QG _ oa ob (Hz x5))).trans x5;have zx6:∀ oa ob:Obj,((GQ.alloc oa).alloc ob).drew.cell? ⟨g0,o0+6,none⟩=some (.int .i64 0):=fun oa ob=>(cell_of (QG _ oa ob (Hz x6))).trans x6;have zx7:∀ oa ob:Obj,((GQ.alloc oa).alloc ob).drew.cell? ⟨g0,o0+7,none⟩=some (.slice none 0 0):=fun oa ob=>(cell_of (QG _ oa ob (Hz x7))).trans x7
  have zx8:∀ oa ob:Obj,((GQ.alloc oa).alloc ob).drew.cell? ⟨g0,o0+8,none⟩=some (.slice none 0 0):=fun oa ob=>(cell_of (QG _ oa ob (Hz x8))).trans x8;have zy0:∀ oa ob:Obj,((GQ.alloc oa).alloc ob).drew.cell? ⟨g1,o1,none⟩=some (.int .i64 2):=fun oa ob=>(cell_of (QG _ oa ob (Hz y0))).trans y0;have zy1:∀ oa ob:Obj,((GQ.alloc oa).alloc ob).drew.cell? ⟨g1,o1+1,none⟩=some (.int .i64 3):=fun oa ob=>(cell_of (QG _ oa ob (Hz y1))).trans y1;have zy2:∀ oa ob:Obj,((GQ.alloc oa).alloc ob).drew.cell? ⟨g1,o1+2,none⟩=some (.int .i64 2):=fun oa ob=>(cell_of (QG _ oa ob (Hz y2))).trans y2;have zy3:∀ oa ob:Obj,((GQ.alloc oa).alloc ob).drew.cell? ⟨g1,o1+3,none⟩=some (.bool false):=fun oa ob=>(cell_of (QG _ oa ob (Hz y3))).trans y3;have zy4:∀ oa ob:Obj,((GQ.alloc oa).alloc ob).drew.cell? ⟨g1,o1+4,none⟩=some (.int .i64 9):=fun oa ob=>(cell_of (QG _ oa ob (Hz y4))).trans y4
  have zy5:∀ oa ob:Obj,((GQ.alloc oa).alloc ob).drew.cell? ⟨g1,o1+5,none⟩=some (.int .i64 0):=fun oa ob=>(cell_of (QG _ oa ob (Hz y5))).trans y5;have zy6:∀ oa ob:Obj,((GQ.alloc oa).alloc ob).drew.cell? ⟨g1,o1+6,none⟩=some (.int .i64 0):=fun oa ob=>(cell_of (QG _ oa ob (Hz y6))).trans y6;have zy7:∀ oa ob:Obj,((GQ.alloc oa).alloc ob).drew.cell? ⟨g1,o1+7,none⟩=some (.slice none 0 0):=fun oa ob=>(cell_of (QG _ oa ob (Hz y7))).trans y7;have zy8:∀ oa ob:Obj,((GQ.alloc oa).alloc ob).drew.cell? ⟨g1,o1+8,none⟩=some (.slice none 0 0):=fun oa ob=>(cell_of (QG _ oa ob (Hz y8))).trans y8;have wp0:∀ oa:Obj,(GQ.alloc oa).drew.cell? ⟨rb,0,none⟩=some (.slice (some ⟨ab,ao,none⟩) 2 ac):=fun oa=>(cell_of (MZ _ oa (Hz p0))).trans p0;have wp1:∀ oa:Obj,(GQ.alloc oa).drew.cell? ⟨ab,ao,none⟩=some (.slice (some ⟨g0,o0,none⟩) 1 c0):=fun oa=>(cell_of (MZ _ oa (Hz p1))).trans p1
  have wp2:∀ oa:Obj,(GQ.alloc oa).drew.cell? ⟨ab,ao+1,none⟩=some (.slice (some ⟨g1,o1,none⟩) 1 c1):=fun oa=>(cell_of (MZ _ oa (Hz p2))).trans p2;have wx0:∀ oa:Obj,(GQ.alloc oa).drew.cell? ⟨g0,o0,none⟩=some (.int .i64 1):=fun oa=>(cell_of (MZ _ oa (Hz x0))).trans x0;have wx1:∀ oa:Obj,(GQ.alloc oa).drew.cell? ⟨g0,o0+1,none⟩=some (.int .i64 5):=fun oa=>(cell_of (MZ _ oa (Hz x1))).trans x1;have wx2:∀ oa:Obj,(GQ.alloc oa).drew.cell? ⟨g0,o0+2,none⟩=some (.int .i64 3):=fun oa=>(cell_of (MZ _ oa (Hz x2))).trans x2;have wx3:∀ oa:Obj,(GQ.alloc oa).drew.cell? ⟨g0,o0+3,none⟩=some (.bool false):=fun oa=>(cell_of (MZ _ oa (Hz x3))).trans x3;have wx4:∀ oa:Obj,(GQ.alloc oa).drew.cell? ⟨g0,o0+4,none⟩=some (.int .i64 9):=fun oa=>(cell_of (MZ _ oa (Hz x4))).trans x4
  have wx5:∀ oa:Obj,(GQ.alloc oa).drew.cell? ⟨g0,o0+5,none⟩=some (.int .i64 0):=fun oa=>(cell_of (MZ _ oa (Hz x5))).trans x5;have wx6:∀ oa:Obj,(GQ.alloc oa).drew.cell? ⟨g0,o0+6,none⟩=some (.int .i64 0):=fun oa=>(cell_of (MZ _ oa (Hz x6))).trans x6;have wx7:∀ oa:Obj,(GQ.alloc oa).drew.cell? ⟨g0,o0+7,none⟩=some (.slice none 0 0):=fun oa=>(cell_of (MZ _ oa (Hz x7))).trans x7;have wx8:∀ oa:Obj,(GQ.alloc oa).drew.cell? ⟨g0,o0+8,none⟩=some (.slice none 0 0):=fun oa=>(cell_of (MZ _ oa (Hz x8))).trans x8;have wy0:∀ oa:Obj,(GQ.alloc oa).drew.cell? ⟨g1,o1,none⟩=some (.int .i64 2):=fun oa=>(cell_of (MZ _ oa (Hz y0))).trans y0;have wy1:∀ oa:Obj,(GQ.alloc oa).drew.cell? ⟨g1,o1+1,none⟩=some (.int .i64 3):=fun oa=>(cell_of (MZ _ oa (Hz y1))).trans y1
  have wy2:∀ oa:Obj,(GQ.alloc oa).drew.cell? ⟨g1,o1+2,none⟩=some (.int .i64 2):=fun oa=>(cell_of (MZ _ oa (Hz y2))).trans y2;have wy3:∀ oa:Obj,(GQ.alloc oa).drew.cell? ⟨g1,o1+3,none⟩=some (.bool false):=fun oa=>(cell_of (MZ _ oa (Hz y3))).trans y3;have wy4:∀ oa:Obj,(GQ.alloc oa).drew.cell? ⟨g1,o1+4,none⟩=some (.int .i64 9):=fun oa=>(cell_of (MZ _ oa (Hz y4))).trans y4;have wy5:∀ oa:Obj,(GQ.alloc oa).drew.cell? ⟨g1,o1+5,none⟩=some (.int .i64 0):=fun oa=>(cell_of (MZ _ oa (Hz y5))).trans y5;have wy6:∀ oa:Obj,(GQ.alloc oa).drew.cell? ⟨g1,o1+6,none⟩=some (.int .i64 0):=fun oa=>(cell_of (MZ _ oa (Hz y6))).trans y6;have wy7:∀ oa:Obj,(GQ.alloc oa).drew.cell? ⟨g1,o1+7,none⟩=some (.slice none 0 0):=fun oa=>(cell_of (MZ _ oa (Hz y7))).trans y7
  have wy8:∀ oa:Obj,(GQ.alloc oa).drew.cell? ⟨g1,o1+8,none⟩=some (.slice none 0 0):=fun oa=>(cell_of (MZ _ oa (Hz y8))).trans y8;clear QG MZ hh;simp only [kn5,Try.f5];gi_region
  all_goals
    clear p0 p1 p2 x0 x1 x2 x3 x4 x5 x6 x7 x8 y0 y1 y2 y3 y4 y5 y6 y7 y8 zp0 zp1 zp2 zx0 zx1 zx2 zx3 zx4 zx5 zx6 zx7 zx8 zy0 zy1 zy2 zy3 zy4 zy5 zy6 zy7 zy8 wp0 wp1 wp2 wx0 wx1 wx2 wx3 wx4 wx5 wx6 wx7 wx8 wy0 wy1 wy2 wy3 wy4 wy5 wy6 wy7 wy8;obtain ⟨Kr,hne,hkc,hc1,hc2,hJ,hh⟩:=HJ.out;generalize hW2:World.drew _=W2;have o2:∀ g,g < W.heap.size->W2.heap[g]?=W.heap[g]?:=fun g hg=>by
      rw [← hh,← hW2];show ((GQ.heap.push _).push _)[g]?=_;have:g < GQ.heap.size:=by rw [hh];exact hg
      rw [Array.getElem?_push,Array.getElem?_push,Array.size_push,if_neg (by omega),if_neg (by omega)]
    have z2:W2.heap.size=W.heap.size+2:=by
      rw [← hh,← hW2];show ((GQ.heap.push _).push _).size=_
      simp
    have lt:∀ {g:Nat} {o},W.heap[g]?=some o->g < W.heap.size:=fun h=>(Array.getElem?_eq_some_iff.1 h).1;have n0:∃ c e f,W2.heap[W.heap.size]?=some (.cells c e f):=by rw [← hh,← hW2];exact ⟨_,_,_,Om _ _ _⟩
    have n1:∃ c e f,W2.heap[W.heap.size+1]?=some (.cells c e f):=by rw [← hh,← hW2];exact ⟨_,_,_,Oe _ _ _⟩
    show JL (S0 (X:=Wk G5 GU) (Sg:=List Int) Try.prog Fin GR).L (.Ii B nn) (G ((base 5).at ⟨_,[]⟩ (.code kk6 :: [])) (c :: cs)) W2;have hk2:∀ g,(g=W.heap.size\/g=W.heap.size+1\/Kp g)->∃ c e f,W2.heap[g]?=some (.cells c e f):=fun g hg=>by
      rcases hg with rfl|rfl|hg
      . exact n0
      . exact n1
      . obtain ⟨x,y,z,hx⟩:=Kr g hg;exact ⟨x,y,z,(o2 g (lt hx)).trans hx⟩
    have zm:∀ g,(g=W.heap.size\/g=W.heap.size+1\/Kp g)->g≠cb:=fun g hg=>by
      have:=lt hc2;rcases hg with rfl|rfl|hg
      . omega
      . omega
      . exact hkc g hg
    rw [← hh] at hk2 zm;refine wT (Kp:=fun g=>g=GQ.heap.size\/g=GQ.heap.size+1\/Kp g) ?_ ?_ ?_ ?_ hk2 (by simp) (by simp) hne zm (by rw [o2 _ (lt hc1)];exact hc1) (by rw [o2 _ (lt hc2)];exact hc2) (fun W' hk hs=>hJ W' (fun g hg=>?_) (by omega));any_goals first | exact yJ hW2 rfl | exact zR hW2 rfl
    obtain ⟨x,y,z,hx⟩:=Kr g hg;exact (hk g (.inr (.inr hg))).trans (o2 g (lt hx))
end
end
section
theorem ZO (W:World)(v:Value)(t:TypeId)(f:Nat × Nat):Reads (W.alloc (.cells #[v] t f)) (.slice (some ⟨W.heap.size,0,none⟩) 1 1) [v]:=by
  refine .inr ⟨by simp,_,_,_,rfl,by simp,by unfold maxLen;omega,fun i u hu=>?_⟩;have hi:i=0:=by
    have:=(List.getElem?_eq_some_iff.1 hu).1
    simpa using this
  subst hi;have hu9:v=u:=by simpa using hu
  have h:(W.alloc (.cells #[v] t f)).heap[W.heap.size]?=some (.cells #[v] t f):=by show (W.heap.push _)[_]?=_;rw [Array.getElem?_push,if_pos rfl]
  simp only [World.cell?,h];rw [← hu9];rfl
theorem QS (h:FuncId)(x:Int)(w:World)(hx:0<=x/\x<=1000):CallsIn (Fence.list [h,7,10] none) 0 Try.prog 7 #[.int .i64 x] w fun e w'=>e=.returned (.int .i64 x)/\w=w':=by
  gi_enter Try.func7,Try.ntmps7
  gi_wp2;go_ret
  exact ⟨rfl,rfl⟩
section
variable {Fin:Iw}{GR:Ig Try.prog Fin}
variable {B:Nat->Bool}{W:World}{nn:Nat}{c:Frame}{cs:List Frame}
variable {v0 v1 v2 v3 v4 v5 v6 v7 v8 v9 Aa Ab Ac Ae Af Ah Ai Aj Ak Al Am Ao Ap Aq Ar Au Av Aw Ay Az AA AB AJ AL AO AP AQ AU AV AX AY AZ A8 A9 Ba Bb Bc Bf Bh Bj Bl Bp Bq Br Bu Bv Bw Bz BD BF BG BH BI BJ BK BL BM BN BO BP BQ BR BS BU BX BZ Ca Cb Cc Ce Cg Ci Cj Ck Cm Co Cq Cr Ct Cu Cw Cx Cy Cz CB CF CG CJ CK CO CQ CS CU CV CW CX CY CZ C8:Value}
theorem zy {rb ab ao ac g0 o0 c0 g1 o1 c1 ct:Nat}{vv:Value}(p5:W.cell? ⟨rb,2,none⟩=some (.int .i64 5))(hvv:Reads W vv [.int .i64 9])(p0:W.cell? ⟨rb,0,none⟩=some (.slice (some ⟨ab,ao,none⟩) 2 ac))(p1:W.cell? ⟨ab,ao,none⟩=some (.slice (some ⟨g0,o0,none⟩) 1 c0))(p2:W.cell? ⟨ab,ao+1,none⟩=some (.slice (some ⟨g1,o1,none⟩) 1 c1))(x0:W.cell? ⟨g0,o0,none⟩=some (.int .i64 1))(x1:W.cell? ⟨g0,o0+1,none⟩=some (.int .i64 5))(x2:W.cell? ⟨g0,o0+2,none⟩=some (.int .i64 3))(x3:W.cell? ⟨g0,o0+3,none⟩=some (.bool false))(x4:W.cell? ⟨g0,o0+4,none⟩=some (.int .i64 9))(x5:W.cell? ⟨g0,o0+5,none⟩=some (.int .i64 0))(x6:W.cell? ⟨g0,o0+6,none⟩=some (.int .i64 0))(x7:W.cell? ⟨g0,o0+7,none⟩=some (.slice none 0 0))(x8:W.cell? ⟨g0,o0+8,none⟩=some (.slice none 0 0))(y0:W.cell? ⟨g1,o1,none⟩=some (.int .i64 2))(y1:W.cell? ⟨g1,o1+1,none⟩=some (.int .i64 3))(y2:W.cell? ⟨g1,o1+2,none⟩=some (.int .i64 2))(y3:W.cell? ⟨g1,o1+3,none⟩=some (.bool false))(y4:W.cell? ⟨g1,o1+4,none⟩=some (.int .i64 9))(y5:W.cell? ⟨g1,o1+5,none⟩=some (.int .i64 0))(y6:W.cell? ⟨g1,o1+6,none⟩=some (.int .i64 0))(y7:W.cell? ⟨g1,o1+7,none⟩=some (.slice none 0 0))(y8:W.cell? ⟨g1,o1+8,none⟩=some (.slice none 0 0)){cb:Nat}{Kp:Nat->Prop}(Kr:∀ g,Kp g->∃ c e f,W.heap[g]?=some (.cells c e f))(hne:ct≠cb)(hkc:∀ g,Kp g->g≠cb)(hc1:W.heap[ct]?=some (.cells #[.slice (some ⟨cb,0,none⟩) 3 3] 71 (0,0)))(hc2:W.heap[cb]?=some (.cells #[.int .i64 0,.int .i64 0,.int .i64 0] 80 (0,0)))(hJ:∀ W',(∀ g,Kp g->W'.heap[g]?=W.heap[g]?)->W.heap.size<=W'.heap.size->JW (S0 (X:=Wk G5 GU) (Sg:=List Int) Try.prog Fin GR).base (.Ii B nn) (G (c.finish (.bool true)) cs) W') :
    JL (S0 (X:=Wk G5 GU) (Sg:=List Int) Try.prog Fin GR).L (.Ii B nn) (G ((base 5).at ⟨#[v0,v1,.pointer (some ⟨rb,0,none⟩),vv,.int .i64 0,.pointer (some ⟨ct,0,none⟩),.int .i64 0,v7,v8,v9,Aa,Ab,Ac,Ae,Af,Ah,Ai,Aj,Ak,Al,Am,Ao,Ap,Aq,Ar,Au,Av,Aw,Ay,Az,AA,AB,AJ,AL,AO,AP,AQ,AU,AV,AX,AY,AZ,A8,A9,Ba,Bb,Bc,Bf,Bh,Bj,Bl,Bp,Bq,Br,Bu,Bv,Bw,Bz,BD,BF,BG,BH,BI,BJ,BK,BL,BM,BN,BO,BP,BQ,BR,BS,BU,BX,BZ,Ca,Cb,Cc,Ce,Cg,Ci,Cj,Ck,Cm,Co,Cq,Cr,Ct,Cu,Cw,Cx,Cy,Cz,CB,CF,CG,CJ,CK,CO,CQ,CS,CU,CV,CW,CX,CY,CZ,C8],[]⟩ (.code kk4 :: [])) (c :: cs)) W:=by
  rw [rJ];refine GY stepG_seq ?_;refine HY.Ht (S:=(S0 (X:=Wk G5 GU) (Sg:=List Int) Try.prog Fin GR)) (b:=base 5) [7,10] U5 (by kernel_rfl) nE (by kernel_rfl) fun GQ ha=>?_;have hh:GQ.heap=W.heap:=by obtain ⟨τ,d,rfl⟩:=ha;rfl
  have hv1:Reads GQ vv (([9]:List Int).map (Value.int .i64)):=hvv.same fun k _ _=>by rw [hh]
  have q0:GQ.cell? ⟨rb,0,none⟩=some (.slice (some ⟨ab,ao,none⟩) 2 ac):=by simp only [World.cell?,hh] at p0 ⊢;exact p0
  have q1:GQ.cell? ⟨ab,ao,none⟩=some (.slice (some ⟨g0,o0,none⟩) 1 c0):=by simp only [World.cell?,hh] at p1 ⊢;exact p1
  have q2:GQ.cell? ⟨ab,ao+1,none⟩=some (.slice (some ⟨g1,o1,none⟩) 1 c1):=by simp only [World.cell?,hh] at p2 ⊢;exact p2
  have q5:GQ.cell? ⟨rb,2,none⟩=some (.int .i64 5):=by simp only [World.cell?,hh] at p5 ⊢;exact p5
  have HJ:=Lib.hid (And.intro Kr (And.intro hne (And.intro hkc (And.intro hc1 (And.intro hc2 (And.intro hJ hh))))));have HP:=Lib.hid (And.intro p0 (And.intro p1 (And.intro p2 (And.intro x0 (And.intro x1 (And.intro x2 (And.intro x3 (And.intro x4 (And.intro x5 (And.intro x6 (And.intro x7 (And.intro x8 (And.intro y0 (And.intro y1 (And.intro y2 (And.intro y3 (And.intro y4 (And.intro y5 (And.intro y6 (And.intro y7 y8))))))))))))))))))));clear Kr hne hkc hc1 hc2 hJ p5 p0 p1 p2 x0 x1 x2 x3 x4 x5 x6 x7 x8 y0 y1 y2 y3 y4 y5 y6 y7 y8 hvv hh;simp only [kn4,Try.f5];gi_wp2_with (first | (gi_at_call 7;refine (QS 5 _ _ (by decide)).mono ?_;rintro e w2 ⟨rfl,rfl⟩))
  refine (nK _ vv _ [9] [9] _ (hv1.same fun k hk hl=>?_) ?_ (by decide)).mono ?_
  . show (GQ.heap.push _)[k]?=_;rw [Array.getElem?_push,if_neg (by omega)]
  . exact ZO GQ _ _ _
  rintro e w1 ⟨rfl,hB⟩;have HB:=Lib.hid hB;clear hB;gi_wp2;obtain ⟨Kr,hne,hkc,hc1,hc2,hJ,hh⟩:=HJ.out;obtain ⟨p0,p1,p2,x0,x1,x2,x3,x4,x5,x6,x7,x8,y0,y1,y2,y3,y4,y5,y6,y7,y8⟩:=HP.out;have hB:Below GQ.heap.size GQ w1:=(Below.refl _ _ |>.alloc (Nat.le_refl _) _).trans (HB.out.mono (by show _<=(GQ.heap.push _).size;simp));clear HB HP HJ;have o1:∀ g,g < W.heap.size->w1.heap[g]?=W.heap[g]?:=fun g hg=>by rw [hB.block g (by rw [hh];exact hg),hh]
  have s1:W.heap.size<=w1.heap.size:=by have:=hB.size;rw [hh] at this;exact this
  have cc:∀ {a:Addr} {v:Value},W.cell? a=some v->w1.cell? a=some v:=fun h=>(cell_of (o1 _ (Hz h))).trans h;have lt:∀ {g:Nat} {o},W.heap[g]?=some o->g < W.heap.size:=fun h=>(Array.getElem?_eq_some_iff.1 h).1;show JL (S0 (X:=Wk G5 GU) (Sg:=List Int) Try.prog Fin GR).L (.Ii B nn) (G ((base 5).at ⟨_,[]⟩ (.code kk5 :: [])) (c :: cs)) w1;exact Aai (cc p0) (cc p1) (cc p2) (cc x0) (cc x1) (cc x2) (cc x3) (cc x4) (cc x5) (cc x6) (cc x7) (cc x8) (cc y0) (cc y1) (cc y2) (cc y3) (cc y4) (cc y5) (cc y6) (cc y7) (cc y8) (Kp:=Kp) (fun g hg=>by
    obtain ⟨x,y,z,hx⟩:=Kr g hg;exact ⟨x,y,z,(o1 g (lt hx)).trans hx⟩) hne hkc ((o1 _ (lt hc1)).trans hc1) ((o1 _ (lt hc2)).trans hc2) fun W' hk hs=>hJ W' (fun g hg=>by
    obtain ⟨x,y,z,hx⟩:=Kr g hg;exact (hk g hg).trans (o1 g (lt hx))) (by omega)
end
end
end Go.Proofs.Ytkdhnbcdbnpmhaa
