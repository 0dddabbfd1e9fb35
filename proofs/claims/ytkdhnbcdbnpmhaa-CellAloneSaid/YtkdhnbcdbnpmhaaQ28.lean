/-
  Part 28 of the proof that CellAlone returns true for every input and leaves its arguments as they were. No further condition.
-/
import Derived.Test.YtkdhnbcdbnpmhaaQ27
set_option linter.unusedVariables false
set_option linter.unusedSectionVars false
set_option maxHeartbeats 4000000
set_option maxRecDepth 100000
namespace Go.Proofs.Ytkdhnbcdbnpmhaa
open Go Go.Conc Go.LT Go.LC Go.LK Go.RowKit
open BA TU
section
theorem Hg {main:Bool}{Γ:Type}{S:HY Try.prog main Γ}{γ:Γ}{b:Frame}{ds:List Deferred}{k:List Item}{cs:List Frame}{tm:Array Value}{W:World}(h:JL S.L γ (G (b.at ⟨tm,ds⟩ k) cs) W):TB S γ b ds k cs Exit.normal ⟨tm,[]⟩ W:=h
section
variable {Fin:Iw}{GR:Ig Try.prog Fin}
variable {B:Nat->Bool}{W:World}{nn:Nat}{c:Frame}{cs:List Frame}
variable {v0 v1 v2 v3 v4 v5 v6 v7 v8 v9 Aa Ab Ac Ae Af Ah Ai Aj Ak Al Am Ao Ap Aq Ar Au Av Aw Ay Az AA AB AJ AL AO AP AQ AU AV AX AY AZ A8 A9 Ba Bb Bc Bf Bh Bj Bl Bp Bq Br Bu Bv Bw Bz BD BF BG BH BI BJ BK BL BM BN BO BP BQ BR BS BU BX BZ Ca Cb Cc Ce Cg Ci Cj Ck Cm Co Cq Cr Ct Cu Cw Cx Cy Cz CB CF CG CJ CK CO CQ CS CU CV CW CX CY CZ C8 C9 Da Db Dc Df Dg Dh Di Dj Dk Dl Dm Dn Dp Dq Dt Du Dv Dw Dx Dy Dz DC DF DI DJ DL DN DR DT DU DV DX DY DZ D5 D7 D8 D9 Ea Eb Ec Ed Ee Ef Eh Ei Ej El Em Eo Ep Er Es Et Eu Ev Ew Ey Ez:Value}
theorem dW {was:Int}{ct cb lb b n k:Nat}{σ:List Int}{d:G5}{ys:Value}{Kp:Nat->Prop}(h:Two ct cb lb b n σ σ d ys Kp W)(hk:d.kind=2)(ha:d.a=k)(hkn:k < n)(hw:was=σ.getD k 0)(hJ:∀ W' σ',Two ct cb lb b n σ' σ' d ys Kp W'->(∀ g,Kp g->W'.heap[g]?=W.heap[g]?)->W.heap.size<=W'.heap.size->JW (S0 (X:=Wk G5 GU) (Sg:=List Int) Try.prog Fin GR).base (.Ii B nn) (G (c.finish (.bool true)) cs) W') :
    JL (S0 (X:=Wk G5 GU) (Sg:=List Int) Try.prog Fin GR).L (.Ii B nn) (G ((base 8).at ⟨#[.pointer (some ⟨ct,0,none⟩),.slice (some ⟨lb,0,none⟩) n n,v2,v3,v4,.pointer (some ⟨b,0,none⟩),v6,.bool true,.int .i64 0,.int .i64 was,.int .i64 0,.bool false,.int .i64 0,.int .i64 was,Af,Ah,Ai,Aj,Ak,Al,Am,Ao,Ap,Aq,Ar,Au,Av,Aw,Ay,Az,AA,AB,AJ,AL,AO,AP,AQ,AU,AV,AX,AY,AZ,A8,A9,Ba,Bb,Bc,Bf,Bh,Bj,Bl,Bp,Bq,Br,Bu,Bv,Bw,Bz,BD,BF,BG,BH,BI,BJ,BK,BL,BM,BN,BO,BP,BQ,BR,BS,BU,BX,BZ,Ca,Cb,Cc,Ce,Cg,Ci,Cj,Ck,Cm,Co,Cq,Cr,Ct,Cu,Cw,Cx,Cy,Cz,CB,CF,CG,CJ,CK,CO,CQ,CS,CU,CV,CW,CX,CY,CZ,C8,C9,Da,Db,Dc,Df,Dg,Dh,Di,Dj,Dk,Dl,Dm,Dn,Dp,Dq,Dt,Du,Dv,Dw,Dx,Dy,Dz,DC,DF,DI,DJ,DL,DN,DR,DT,DU,DV,DX,DY,DZ,D5,D7,D8,D9,Ea,Eb,Ec,Ed,Ee,Ef,Eh,Ei,Ej,El,Em,Eo,Ep,Er,Es,Et,Eu,Ev,Ew,Ey,Ez],[]⟩ (.code Uc :: [.inBlock 0,.code Ow])) (c :: cs)) W:=by
  have HH:=Lib.hid (And.intro h (And.intro hJ (And.intro hw ha)));clear hJ hw ha;obtain ⟨f1,f2,f3⟩:=h.field;clear h;rw [Zc];refine GY stepG_seq ?_;simp only [eH,Uc,I4,Jh,Mi,Try.f8];refine Hu fun _ hkk=>?_;refine HY.Jm (S:=(S0 (X:=Wk G5 GU) (Sg:=List Int) Try.prog Fin GR)) (b:=base 8) 0 5 [] (by simp) (by kernel_rfl) nE (rest:=[5,6]) rfl (by kernel_rfl) fun Hl Ky=>?_;have hh3:Hl.heap=W.heap:=by obtain ⟨τ,d,rfl⟩:=Ky;rfl
  replace f1:Hl.cell? ⟨b,1,none⟩=some (.int .i64 d.a):=by simp only [World.cell?,hh3] at f1 ⊢;exact f1
  replace f2:Hl.cell? ⟨b,2,none⟩=some (.int .i64 d.b):=by simp only [World.cell?,hh3] at f2 ⊢;exact f2
  replace f3:Hl.cell? ⟨b,3,none⟩=some (.int .i64 d.c):=by simp only [World.cell?,hh3] at f3 ⊢;exact f3
  have H3:=Lib.hid hh3;clear hh3;dsimp only [List.drop,List.take];gi_wp2;try refine ⟨rfl,?_⟩
  obtain ⟨h,hJ,hw,ha⟩:=HH.out;clear HH f1 f2 f3 Ky;show JL (S0 (X:=Wk G5 GU) (Sg:=List Int) Try.prog Fin GR).L _ _ Hl;try dsimp only
  refine JL.enter rfl rfl nE rfl Try.func21 (by kernel_rfl) (by kernel_rfl) ?_;walk_nrm;have h3:=h.same H3.out;refine Vg (Mr He (KO ct cb n (fun g=>g=lb\/g=b\/Kp g) Hl h3.fx) (.Ii B nn) (S0 (X:=Wk G5 GU) (Sg:=List Int) Try.prog Fin GR)) h3.mem (s:={ own:=fun _=>False,f:=5,res:=(σ.set k d.b,({},false)) }) (σ:=σ) (c:=d) hk ⟨h3.inv,fun b hb=>hb.elim⟩ ?hS trivial ?_
  case hS=>
    show IL He 5 _ σ=some _;exact wN hk ha hkn h3.len
  intro s' σ' W' e hA' hO hE _;have hE':(σ',(e,false))=s'.res:=hE;have hr:s'.res=((σ.set k d.b,({},false)):List Int × (An × Bool)):=hO.le;rw [hr] at hE';cases hE'
  obtain ⟨h4,Nb⟩:=h3.step hA'.inv;have J7:∀ g,Kp g->W'.heap[g]?=W.heap[g]?:=fun g hg=>by rw [Nb g hg,H3.out]
  have s4:W.heap.size<=W'.heap.size:=by have:=hO.size;rw [H3.out] at this;exact this
  rw [Frame.finish_at];show JL (S0 (X:=Wk G5 GU) (Sg:=List Int) Try.prog Fin GR).L (.Ii B nn) _ W';have HH:=Lib.hid (And.intro h4 (And.intro J7 (And.intro s4 (And.intro hJ (And.intro hw ha)))));obtain ⟨f1,f2,f3⟩:=h4.field;clear h h4 hO hA' hE hr J7 Nb s4 hJ H3 s' hw h3 ha;walk_nrm;cases hkk
  (refine Hf ?_;walk_nrm)
  refine GY stepG_region_end ?_;refine HY.Ht (S:=(S0 (X:=Wk G5 GU) (Sg:=List Int) Try.prog Fin GR)) (b:=base 8) [7,10] Jy (by kernel_rfl) nE (by kernel_rfl) fun GQ ha=>?_;have hh:GQ.heap=W'.heap:=by obtain ⟨τ,d,rfl⟩:=ha;rfl
  replace f2:GQ.cell? ⟨b,2,none⟩=some (.int .i64 d.b):=by simp only [World.cell?,hh] at f2 ⊢;exact f2
  replace f3:GQ.cell? ⟨b,3,none⟩=some (.int .i64 d.c):=by simp only [World.cell?,hh] at f3 ⊢;exact f3
  have H5:=Lib.hid hh;clear hh ha f1;simp only [jJ,Uc,I4,Jh,Mi,Try.f8];gi_wp2;all_goals
    refine Hg ?_;refine GY stepG_inBlock ?_;obtain ⟨h4,J7,s4,hJ,hw,ha⟩:=HH.out;exact KN (h4.same H5.out) ha hkn (rfl) (fun g hg=>by simp only [World.drew,H5.out];exact J7 g hg) (by simp only [World.drew,H5.out];exact s4) hJ
theorem bq {was:Int}{ct cb lb b n k:Nat}{σ:List Int}{d:G5}{ys:Value}{Kp:Nat->Prop}(h:Two ct cb lb b n σ σ d ys Kp W)(hk:d.kind=2)(ho:inn n d.a=false)(hJ:∀ W' σ',Two ct cb lb b n σ' σ' d ys Kp W'->(∀ g,Kp g->W'.heap[g]?=W.heap[g]?)->W.heap.size<=W'.heap.size->JW (S0 (X:=Wk G5 GU) (Sg:=List Int) Try.prog Fin GR).base (.Ii B nn) (G (c.finish (.bool true)) cs) W') :
    JL (S0 (X:=Wk G5 GU) (Sg:=List Int) Try.prog Fin GR).L (.Ii B nn) (G ((base 8).at ⟨#[.pointer (some ⟨ct,0,none⟩),.slice (some ⟨lb,0,none⟩) n n,v2,v3,v4,.pointer (some ⟨b,0,none⟩),v6,.bool false,.int .i64 0,.int .i64 0,.int .i64 0,.bool false,.int .i64 0,.int .i64 0,Af,Ah,Ai,Aj,Ak,Al,Am,Ao,Ap,Aq,Ar,Au,Av,Aw,Ay,Az,AA,AB,AJ,AL,AO,AP,AQ,AU,AV,AX,AY,AZ,A8,A9,Ba,Bb,Bc,Bf,Bh,Bj,Bl,Bp,Bq,Br,Bu,Bv,Bw,Bz,BD,BF,BG,BH,BI,BJ,BK,BL,BM,BN,BO,BP,BQ,BR,BS,BU,BX,BZ,Ca,Cb,Cc,Ce,Cg,Ci,Cj,Ck,Cm,Co,Cq,Cr,Ct,Cu,Cw,Cx,Cy,Cz,CB,CF,CG,CJ,CK,CO,CQ,CS,CU,CV,CW,CX,CY,CZ,C8,C9,Da,Db,Dc,Df,Dg,Dh,Di,Dj,Dk,Dl,Dm,Dn,Dp,Dq,Dt,Du,Dv,Dw,Dx,Dy,Dz,DC,DF,DI,DJ,DL,DN,DR,DT,DU,DV,DX,DY,DZ,D5,D7,D8,D9,Ea,Eb,Ec,Ed,Ee,Ef,Eh,Ei,Ej,El,Em,Eo,Ep,Er,Es,Et,Eu,Ev,Ew,Ey,Ez],[]⟩ (.code Uc :: [.inBlock 0,.code Ow])) (c :: cs)) W:=by
  have HH:=Lib.hid (And.intro h (And.intro hJ True.intro));clear hJ;obtain ⟨f1,f2,f3⟩:=h.field;clear h;rw [Zc];refine GY stepG_seq ?_;simp only [eH,Uc,I4,Jh,Mi,Try.f8];refine Hu fun _ hkk=>?_;refine HY.Jm (S:=(S0 (X:=Wk G5 GU) (Sg:=List Int) Try.prog Fin GR)) (b:=base 8) 0 5 [] (by simp) (by kernel_rfl) nE (rest:=[5,6]) rfl (by kernel_rfl) fun Hl Ky=>?_;have hh3:Hl.heap=W.heap:=by obtain ⟨τ,d,rfl⟩:=Ky;rfl
  replace f1:Hl.cell? ⟨b,1,none⟩=some (.int .i64 d.a):=by simp only [World.cell?,hh3] at f1 ⊢;exact f1
  replace f2:Hl.cell? ⟨b,2,none⟩=some (.int .i64 d.b):=by simp only [World.cell?,hh3] at f2 ⊢;exact f2
  replace f3:Hl.cell? ⟨b,3,none⟩=some (.int .i64 d.c):=by simp only [World.cell?,hh3] at f3 ⊢;exact f3
  have H3:=Lib.hid hh3;clear hh3;dsimp only [List.drop,List.take];gi_wp2;try refine ⟨rfl,?_⟩
  obtain ⟨h,hJ,hw⟩:=HH.out;clear HH f1 f2 f3 Ky;show JL (S0 (X:=Wk G5 GU) (Sg:=List Int) Try.prog Fin GR).L _ _ Hl;try dsimp only
  refine JL.enter rfl rfl nE rfl Try.func21 (by kernel_rfl) (by kernel_rfl) ?_;walk_nrm;have h3:=h.same H3.out;refine Vg (Mr He (KO ct cb n (fun g=>g=lb\/g=b\/Kp g) Hl h3.fx) (.Ii B nn) (S0 (X:=Wk G5 GU) (Sg:=List Int) Try.prog Fin GR)) h3.mem (s:={ own:=fun _=>False,f:=5,res:=(σ,({ err:=41 },false)) }) (σ:=σ) (c:=d) hk ⟨h3.inv,fun b hb=>hb.elim⟩ ?hS trivial ?_
  case hS=>
    show IL He 5 _ σ=some _;exact O9 (by rw [h3.len];exact ho)
  intro s' σ' W' e hA' hO hE _;have hE':(σ',(e,false))=s'.res:=hE;have hr:s'.res=((σ,({ err:=41 },false)):List Int × (An × Bool)):=hO.le;rw [hr] at hE';cases hE'
  obtain ⟨h4,Nb⟩:=h3.step hA'.inv;have J7:∀ g,Kp g->W'.heap[g]?=W.heap[g]?:=fun g hg=>by rw [Nb g hg,H3.out]
  have s4:W.heap.size<=W'.heap.size:=by have:=hO.size;rw [H3.out] at this;exact this
  rw [Frame.finish_at];show JL (S0 (X:=Wk G5 GU) (Sg:=List Int) Try.prog Fin GR).L (.Ii B nn) _ W';have HH:=Lib.hid (And.intro h4 (And.intro J7 (And.intro s4 (And.intro hJ hw))));obtain ⟨f1,f2,f3⟩:=h4.field;clear h h4 hO hA' hE hr J7 Nb s4 hJ H3 s' hw h3;walk_nrm;cases hkk
  (refine Hf ?_;walk_nrm)
  refine GY stepG_region_end ?_;refine HY.Ht (S:=(S0 (X:=Wk G5 GU) (Sg:=List Int) Try.prog Fin GR)) (b:=base 8) [7,10] Jy (by kernel_rfl) nE (by kernel_rfl) fun GQ ha=>?_;have hh:GQ.heap=W'.heap:=by obtain ⟨τ,d,rfl⟩:=ha;rfl
  replace f2:GQ.cell? ⟨b,2,none⟩=some (.int .i64 d.b):=by simp only [World.cell?,hh] at f2 ⊢;exact f2
  replace f3:GQ.cell? ⟨b,3,none⟩=some (.int .i64 d.c):=by simp only [World.cell?,hh] at f3 ⊢;exact f3
  have H5:=Lib.hid hh;clear hh ha f1;simp only [jJ,Uc,I4,Jh,Mi,Try.f8];gi_wp2;all_goals
    refine Hg ?_;refine GY stepG_inBlock ?_;obtain ⟨h4,J7,s4,hJ,hw⟩:=HH.out;exact Oj (k:=0) (h4.same H5.out) (fun g hg=>by simp only [World.drew,H5.out];exact J7 g hg) (by simp only [World.drew,H5.out];exact s4) hJ
end
end
section
section
variable {Fin:Iw}{GR:Ig Try.prog Fin}
variable {B:Nat->Bool}{W:World}{nn:Nat}{c:Frame}{cs:List Frame}
variable {v0 v1 v2 v3 v4 v5 v6 v7 v8 v9 Aa Ab Ac Ae Af Ah Ai Aj Ak Al Am Ao Ap Aq Ar Au Av Aw Ay Az AA AB AJ AL AO AP AQ AU AV AX AY AZ A8 A9 Ba Bb Bc Bf Bh Bj Bl Bp Bq Br Bu Bv Bw Bz BD BF BG BH BI BJ BK BL BM BN BO BP BQ BR BS BU BX BZ Ca Cb Cc Ce Cg Ci Cj Ck Cm Co Cq Cr Ct Cu Cw Cx Cy Cz CB CF CG CJ CK CO CQ CS CU CV CW CX CY CZ C8 C9 Da Db Dc Df Dg Dh Di Dj Dk Dl Dm Dn Dp Dq Dt Du Dv Dw Dx Dy Dz DC DF DI DJ DL DN DR DT DU DV DX DY DZ D5 D7 D8 D9 Ea Eb Ec Ed Ee Ef Eh Ei Ej El Em Eo Ep Er Es Et Eu Ev Ew Ey Ez:Value}
theorem gX {was:Int}{ct cb lb b n k:Nat}{σ:List Int}{d:G5}{ys:Value}{Kp:Nat->Prop}(h:Two ct cb lb b n σ σ d ys Kp W)(hk:d.kind=4)(ha:d.a=k)(hkn:k < n)(hw:was=σ.getD k 0)(hJ:∀ W' σ',Two ct cb lb b n σ' σ' d ys Kp W'->(∀ g,Kp g->W'.heap[g]?=W.heap[g]?)->W.heap.size<=W'.heap.size->JW (S0 (X:=Wk G5 GU) (Sg:=List Int) Try.prog Fin GR).base (.Ii B nn) (G (c.finish (.bool true)) cs) W') :
    JL (S0 (X:=Wk G5 GU) (Sg:=List Int) Try.prog Fin GR).L (.Ii B nn) (G ((base 8).at ⟨#[.pointer (some ⟨ct,0,none⟩),.slice (some ⟨lb,0,none⟩) n n,v2,v3,v4,.pointer (some ⟨b,0,none⟩),v6,.bool true,.int .i64 0,.int .i64 was,.int .i64 0,.bool false,.int .i64 0,.int .i64 was,Af,Ah,Ai,Aj,Ak,Al,Am,Ao,Ap,Aq,Ar,Au,Av,Aw,Ay,Az,AA,AB,AJ,AL,AO,AP,AQ,AU,AV,AX,AY,AZ,A8,A9,Ba,Bb,Bc,Bf,Bh,Bj,Bl,Bp,Bq,Br,Bu,Bv,Bw,Bz,BD,BF,BG,BH,BI,BJ,BK,BL,BM,BN,BO,BP,BQ,BR,BS,BU,BX,BZ,Ca,Cb,Cc,Ce,Cg,Ci,Cj,Ck,Cm,Co,Cq,Cr,Ct,Cu,Cw,Cx,Cy,Cz,CB,CF,CG,CJ,CK,CO,CQ,CS,CU,CV,CW,CX,CY,CZ,C8,C9,Da,Db,Dc,Df,Dg,Dh,Di,Dj,Dk,Dl,Dm,Dn,Dp,Dq,Dt,Du,Dv,Dw,Dx,Dy,Dz,DC,DF,DI,DJ,DL,DN,DR,DT,DU,DV,DX,DY,DZ,D5,D7,D8,D9,Ea,Eb,Ec,Ed,Ee,Ef,Eh,Ei,Ej,El,Em,Eo,Ep,Er,Es,Et,Eu,Ev,Ew,Ey,Ez],[]⟩ (.code TL :: [.inBlock 0,.code Ow])) (c :: cs)) W:=by
  have HH:=Lib.hid (And.intro h (And.intro hJ (And.intro hw ha)));clear hJ hw ha;obtain ⟨f1,f2,f3⟩:=h.field;clear h;rw [YM];refine GY stepG_seq ?_;simp only [jQ,TL,I4,Jh,JJ,Kt,Mi,Try.f8];refine Hu fun _ hkk=>?_;refine HY.Jm (S:=(S0 (X:=Wk G5 GU) (Sg:=List Int) Try.prog Fin GR)) (b:=base 8) 0 5 [] (by simp) (by kernel_rfl) nE (rest:=[5,6,7,8,9,10]) rfl (by kernel_rfl) fun Hl Ky=>?_;have hh3:Hl.heap=W.heap:=by obtain ⟨τ,d,rfl⟩:=Ky;rfl
  replace f1:Hl.cell? ⟨b,1,none⟩=some (.int .i64 d.a):=by simp only [World.cell?,hh3] at f1 ⊢;exact f1
  replace f2:Hl.cell? ⟨b,2,none⟩=some (.int .i64 d.b):=by simp only [World.cell?,hh3] at f2 ⊢;exact f2
  replace f3:Hl.cell? ⟨b,3,none⟩=some (.int .i64 d.c):=by simp only [World.cell?,hh3] at f3 ⊢;exact f3
  have H3:=Lib.hid hh3;clear hh3;dsimp only [List.drop,List.take];gi_wp2;try refine ⟨rfl,?_⟩
  obtain ⟨h,hJ,hw,ha⟩:=HH.out;clear HH f1 f2 f3 Ky;show JL (S0 (X:=Wk G5 GU) (Sg:=List Int) Try.prog Fin GR).L _ _ Hl;try dsimp only
  refine JL.enter rfl rfl nE rfl Try.func23 (by kernel_rfl) (by kernel_rfl) ?_;walk_nrm;have h3:=h.same H3.out;refine Ve (Mr He (KO ct cb n (fun g=>g=lb\/g=b\/Kp g) Hl h3.fx) (.Ii B nn) (S0 (X:=Wk G5 GU) (Sg:=List Int) Try.prog Fin GR)) h3.mem (s:={ own:=fun _=>False,f:=5,res:=(σ.set k d.b,({ n:=was },false)) }) (σ:=σ) (c:=d) hk ⟨h3.inv,fun b hb=>hb.elim⟩ ?hS trivial ?_
  case hS=>
    show IL He 5 _ σ=some _;exact zX hk ha hkn h3.len hw
  intro s' σ' W' e hA' hO hE _;have hE':(σ',(e,false))=s'.res:=hE;have hr:s'.res=((σ.set k d.b,({ n:=was },false)):List Int × (An × Bool)):=hO.le;rw [hr] at hE';cases hE'
  obtain ⟨h4,Nb⟩:=h3.step hA'.inv;have J7:∀ g,Kp g->W'.heap[g]?=W.heap[g]?:=fun g hg=>by rw [Nb g hg,H3.out]
  have s4:W.heap.size<=W'.heap.size:=by have:=hO.size;rw [H3.out] at this;exact this
  rw [Frame.finish_at];show JL (S0 (X:=Wk G5 GU) (Sg:=List Int) Try.prog Fin GR).L (.Ii B nn) _ W';have HH:=Lib.hid (And.intro h4 (And.intro J7 (And.intro s4 (And.intro hJ (And.intro hw ha)))));obtain ⟨f1,f2,f3⟩:=h4.field;clear h h4 hO hA' hE hr J7 Nb s4 hJ H3 s' hw h3 ha;walk_nrm;cases hkk;iterate 5 (refine Hf ?_;walk_nrm)
  refine GY stepG_region_end ?_;refine HY.Ht (S:=(S0 (X:=Wk G5 GU) (Sg:=List Int) Try.prog Fin GR)) (b:=base 8) [7,10] Jy (by kernel_rfl) nE (by kernel_rfl) fun GQ ha=>?_;have hh:GQ.heap=W'.heap:=by obtain ⟨τ,d,rfl⟩:=ha;rfl
  replace f2:GQ.cell? ⟨b,2,none⟩=some (.int .i64 d.b):=by simp only [World.cell?,hh] at f2 ⊢;exact f2
  replace f3:GQ.cell? ⟨b,3,none⟩=some (.int .i64 d.c):=by simp only [World.cell?,hh] at f3 ⊢;exact f3
  have H5:=Lib.hid hh;clear hh ha f1;simp only [gy,TL,I4,Jh,JJ,Kt,Mi,Try.f8];gi_region
  all_goals
    refine Hg ?_;refine GY stepG_inBlock ?_;obtain ⟨h4,J7,s4,hJ,hw,ha⟩:=HH.out;exact KN (h4.same H5.out) ha hkn (rfl) (fun g hg=>by simp only [World.drew,H5.out];exact J7 g hg) (by simp only [World.drew,H5.out];exact s4) hJ
theorem ak {was:Int}{ct cb lb b n k:Nat}{σ:List Int}{d:G5}{ys:Value}{Kp:Nat->Prop}(h:Two ct cb lb b n σ σ d ys Kp W)(hk:d.kind=4)(ho:inn n d.a=false)(hJ:∀ W' σ',Two ct cb lb b n σ' σ' d ys Kp W'->(∀ g,Kp g->W'.heap[g]?=W.heap[g]?)->W.heap.size<=W'.heap.size->JW (S0 (X:=Wk G5 GU) (Sg:=List Int) Try.prog Fin GR).base (.Ii B nn) (G (c.finish (.bool true)) cs) W') :
    JL (S0 (X:=Wk G5 GU) (Sg:=List Int) Try.prog Fin GR).L (.Ii B nn) (G ((base 8).at ⟨#[.pointer (some ⟨ct,0,none⟩),.slice (some ⟨lb,0,none⟩) n n,v2,v3,v4,.pointer (some ⟨b,0,none⟩),v6,.bool false,.int .i64 0,.int .i64 0,.int .i64 0,.bool false,.int .i64 0,.int .i64 0,Af,Ah,Ai,Aj,Ak,Al,Am,Ao,Ap,Aq,Ar,Au,Av,Aw,Ay,Az,AA,AB,AJ,AL,AO,AP,AQ,AU,AV,AX,AY,AZ,A8,A9,Ba,Bb,Bc,Bf,Bh,Bj,Bl,Bp,Bq,Br,Bu,Bv,Bw,Bz,BD,BF,BG,BH,BI,BJ,BK,BL,BM,BN,BO,BP,BQ,BR,BS,BU,BX,BZ,Ca,Cb,Cc,Ce,Cg,Ci,Cj,Ck,Cm,Co,Cq,Cr,Ct,Cu,Cw,Cx,Cy,Cz,CB,CF,CG,CJ,CK,CO,CQ,CS,CU,CV,CW,CX,CY,CZ,C8,C9,Da,Db,Dc,Df,Dg,Dh,Di,Dj,Dk,Dl,Dm,Dn,Dp,Dq,Dt,Du,Dv,Dw,Dx,Dy,Dz,DC,DF,DI,DJ,DL,DN,DR,DT,DU,DV,DX,DY,DZ,D5,D7,D8,D9,Ea,Eb,Ec,Ed,Ee,Ef,Eh,Ei,Ej,El,Em,Eo,Ep,Er,Es,Et,Eu,Ev,Ew,Ey,Ez],[]⟩ (.code TL :: [.inBlock 0,.code Ow])) (c :: cs)) W:=by
  have HH:=Lib.hid (And.intro h (And.intro hJ True.intro));clear hJ;obtain ⟨f1,f2,f3⟩:=h.field;clear h;rw [YM];refine GY stepG_seq ?_;simp only [jQ,TL,I4,Jh,JJ,Kt,Mi,Try.f8];refine Hu fun _ hkk=>?_;refine HY.Jm (S:=(S0 (X:=Wk G5 GU) (Sg:=List Int) Try.prog Fin GR)) (b:=base 8) 0 5 [] (by simp) (by kernel_rfl) nE (rest:=[5,6,7,8,9,10]) rfl (by kernel_rfl) fun Hl Ky=>?_;have hh3:Hl.heap=W.heap:=by obtain ⟨τ,d,rfl⟩:=Ky;rfl
  replace f1:Hl.cell? ⟨b,1,none⟩=some (.int .i64 d.a):=by simp only [World.cell?,hh3] at f1 ⊢;exact f1
  replace f2:Hl.cell? ⟨b,2,none⟩=some (.int .i64 d.b):=by simp only [World.cell?,hh3] at f2 ⊢;exact f2
  replace f3:Hl.cell? ⟨b,3,none⟩=some (.int .i64 d.c):=by simp only [World.cell?,hh3] at f3 ⊢;exact f3
  have H3:=Lib.hid hh3;clear hh3;dsimp only [List.drop,List.take];gi_wp2;try refine ⟨rfl,?_⟩
  obtain ⟨h,hJ,hw⟩:=HH.out;clear HH f1 f2 f3 Ky;show JL (S0 (X:=Wk G5 GU) (Sg:=List Int) Try.prog Fin GR).L _ _ Hl;try dsimp only
  refine JL.enter rfl rfl nE rfl Try.func23 (by kernel_rfl) (by kernel_rfl) ?_;walk_nrm;have h3:=h.same H3.out;refine Ve (Mr He (KO ct cb n (fun g=>g=lb\/g=b\/Kp g) Hl h3.fx) (.Ii B nn) (S0 (X:=Wk G5 GU) (Sg:=List Int) Try.prog Fin GR)) h3.mem (s:={ own:=fun _=>False,f:=5,res:=(σ,({ err:=41 },false)) }) (σ:=σ) (c:=d) hk ⟨h3.inv,fun b hb=>hb.elim⟩ ?hS trivial ?_
  case hS=>
    show IL He 5 _ σ=some _;exact O9 (by rw [h3.len];exact ho)
  intro s' σ' W' e hA' hO hE _;have hE':(σ',(e,false))=s'.res:=hE;have hr:s'.res=((σ,({ err:=41 },false)):List Int × (An × Bool)):=hO.le;rw [hr] at hE';cases hE'
  obtain ⟨h4,Nb⟩:=h3.step hA'.inv;have J7:∀ g,Kp g->W'.heap[g]?=W.heap[g]?:=fun g hg=>by rw [Nb g hg,H3.out]
  have s4:W.heap.size<=W'.heap.size:=by have:=hO.size;rw [H3.out] at this;exact this
  rw [Frame.finish_at];show JL (S0 (X:=Wk G5 GU) (Sg:=List Int) Try.prog Fin GR).L (.Ii B nn) _ W';have HH:=Lib.hid (And.intro h4 (And.intro J7 (And.intro s4 (And.intro hJ hw))));obtain ⟨f1,f2,f3⟩:=h4.field;clear h h4 hO hA' hE hr J7 Nb s4 hJ H3 s' hw h3;walk_nrm;cases hkk;iterate 5 (refine Hf ?_;walk_nrm)
  refine GY stepG_region_end ?_;refine HY.Ht (S:=(S0 (X:=Wk G5 GU) (Sg:=List Int) Try.prog Fin GR)) (b:=base 8) [7,10] Jy (by kernel_rfl) nE (by kernel_rfl) fun GQ ha=>?_;have hh:GQ.heap=W'.heap:=by obtain ⟨τ,d,rfl⟩:=ha;rfl
  replace f2:GQ.cell? ⟨b,2,none⟩=some (.int .i64 d.b):=by simp only [World.cell?,hh] at f2 ⊢;exact f2
  replace f3:GQ.cell? ⟨b,3,none⟩=some (.int .i64 d.c):=by simp only [World.cell?,hh] at f3 ⊢;exact f3
  have H5:=Lib.hid hh;clear hh ha f1;simp only [gy,TL,I4,Jh,JJ,Kt,Mi,Try.f8];gi_region
  all_goals
    refine Hg ?_;refine GY stepG_inBlock ?_;obtain ⟨h4,J7,s4,hJ,hw⟩:=HH.out;exact Oj (k:=0) (h4.same H5.out) (fun g hg=>by simp only [World.drew,H5.out];exact J7 g hg) (by simp only [World.drew,H5.out];exact s4) hJ
end
end
section
section
variable {d:G5}{σ:List Int}{k n:Nat}{was:Int}
theorem V7 {m:Bool}(h:inn σ.length d.a=false):IL He 5 (.look m d.a d.b) σ=some (σ,({ err:=41 },false)):=by simp [IL,He,h]
theorem wQ (ha:d.a=k)(hkn:k < n)(hl:σ.length=n)(hw:was=σ.getD k 0):IL He 5 (.look true d.a d.b) σ=some (σ.set k (max was d.b),({ n:=max was d.b },false)):=by
  have hi:=O8 ha hkn hl;have hw':σ.getD d.a.toNat 0=was:=by rw [hw,ha];rfl
  have hk:d.a.toNat=k:=by rw [ha];rfl
  by_cases hc:d.b<=was
  . have hm:max was d.b=was:=by omega
    have hs:σ.set k was=σ:=by rw [hw];exact Na σ k
    rw [hm,hs];simp only [IL,He,hi,PD,hw',hc];rfl
  . have hm:max was d.b=d.b:=by omega
    have hb:PD true was d.b=false:=by simp [PD];omega
    have e1:He.next 0 (.look true d.a d.b) σ=(σ,.inl (.cas true d.a d.b was)):=by simp only [He,hi,hw',hb];rfl
    have e2:He.next 0 (.cas true d.a d.b was) σ=(σ.set k d.b,.inr ({ n:=d.b },false)):=by simp only [He,hk];rw [if_pos hw.symm]
    rw [hm];simp only [IL,e1,e2]
theorem zJ (ha:d.a=k)(hkn:k < n)(hl:σ.length=n)(hw:was=σ.getD k 0):IL He 5 (.look false d.a d.b) σ=some (σ.set k (min was d.b),({ n:=min was d.b },false)):=by
  have hi:=O8 ha hkn hl;have hw':σ.getD d.a.toNat 0=was:=by rw [hw,ha];rfl
  have hk:d.a.toNat=k:=by rw [ha];rfl
  by_cases hc:was<=d.b
  . have hm:min was d.b=was:=by omega
    have hs:σ.set k was=σ:=by rw [hw];exact Na σ k
    rw [hm,hs];simp only [IL,He,hi,PD,hw',hc];rfl
  . have hm:min was d.b=d.b:=by omega
    have hb:PD false was d.b=false:=by simp [PD];omega
    have e1:He.next 0 (.look false d.a d.b) σ=(σ,.inl (.cas false d.a d.b was)):=by simp only [He,hi,hw',hb];rfl
    have e2:He.next 0 (.cas false d.a d.b was) σ=(σ.set k d.b,.inr ({ n:=d.b },false)):=by simp only [He,hk];rw [if_pos hw.symm]
    rw [hm];simp only [IL,e1,e2]
end
section
variable {Fin:Iw}{GR:Ig Try.prog Fin}
variable {B:Nat->Bool}{W:World}{nn:Nat}{c:Frame}{cs:List Frame}
variable {v0 v1 v2 v3 v4 v5 v6 v7 v8 v9 Aa Ab Ac Ae Af Ah Ai Aj Ak Al Am Ao Ap Aq Ar Au Av Aw Ay Az AA AB AJ AL AO AP AQ AU AV AX AY AZ A8 A9 Ba Bb Bc Bf Bh Bj Bl Bp Bq Br Bu Bv Bw Bz BD BF BG BH BI BJ BK BL BM BN BO BP BQ BR BS BU BX BZ Ca Cb Cc Ce Cg Ci Cj Ck Cm Co Cq Cr Ct Cu Cw Cx Cy Cz CB CF CG CJ CK CO CQ CS CU CV CW CX CY CZ C8 C9 Da Db Dc Df Dg Dh Di Dj Dk Dl Dm Dn Dp Dq Dt Du Dv Dw Dx Dy Dz DC DF DI DJ DL DN DR DT DU DV DX DY DZ D5 D7 D8 D9 Ea Eb Ec Ed Ee Ef Eh Ei Ej El Em Eo Ep Er Es Et Eu Ev Ew Ey Ez:Value}
theorem fG {was:Int}{ct cb lb b n k:Nat}{σ:List Int}{d:G5}{ys:Value}{Kp:Nat->Prop}(h:Two ct cb lb b n σ σ d ys Kp W)(hk:d.kind=6)(ha:d.a=k)(hkn:k < n)(hw:was=σ.getD k 0)(hJ:∀ W' σ',Two ct cb lb b n σ' σ' d ys Kp W'->(∀ g,Kp g->W'.heap[g]?=W.heap[g]?)->W.heap.size<=W'.heap.size->JW (S0 (X:=Wk G5 GU) (Sg:=List Int) Try.prog Fin GR).base (.Ii B nn) (G (c.finish (.bool true)) cs) W') :
    JL (S0 (X:=Wk G5 GU) (Sg:=List Int) Try.prog Fin GR).L (.Ii B nn) (G ((base 8).at ⟨#[.pointer (some ⟨ct,0,none⟩),.slice (some ⟨lb,0,none⟩) n n,v2,v3,v4,.pointer (some ⟨b,0,none⟩),v6,.bool true,.int .i64 0,.int .i64 was,.int .i64 0,.bool false,.int .i64 0,.int .i64 was,Af,Ah,Ai,Aj,Ak,Al,Am,Ao,Ap,Aq,Ar,Au,Av,Aw,Ay,Az,AA,AB,AJ,AL,AO,AP,AQ,AU,AV,AX,AY,AZ,A8,A9,Ba,Bb,Bc,Bf,Bh,Bj,Bl,Bp,Bq,Br,Bu,Bv,Bw,Bz,BD,BF,BG,BH,BI,BJ,BK,BL,BM,BN,BO,BP,BQ,BR,BS,BU,BX,BZ,Ca,Cb,Cc,Ce,Cg,Ci,Cj,Ck,Cm,Co,Cq,Cr,Ct,Cu,Cw,Cx,Cy,Cz,CB,CF,CG,CJ,CK,CO,CQ,CS,CU,CV,CW,CX,CY,CZ,C8,C9,Da,Db,Dc,Df,Dg,Dh,Di,Dj,Dk,Dl,Dm,Dn,Dp,Dq,Dt,Du,Dv,Dw,Dx,Dy,Dz,DC,DF,DI,DJ,DL,DN,DR,DT,DU,DV,DX,DY,DZ,D5,D7,D8,D9,Ea,Eb,Ec,Ed,Ee,Ef,Eh,Ei,Ej,El,Em,Eo,Ep,Er,Es,Et,Eu,Ev,Ew,Ey,Ez],[]⟩ (.code Uj :: [.inBlock 0,.code Ow])) (c :: cs)) W:=by
  have HH:=Lib.hid (And.intro h (And.intro hJ (And.intro hw ha)));clear hJ hw ha;obtain ⟨f1,f2,f3⟩:=h.field;clear h;rw [Y8];refine GY stepG_seq ?_;simp only [fP,Uj,I4,Jh,JJ,Kt,Li,Nl,Mi,Try.f8];refine Hu fun _ hkk=>?_;refine HY.Jm (S:=(S0 (X:=Wk G5 GU) (Sg:=List Int) Try.prog Fin GR)) (b:=base 8) 0 5 [] (by simp) (by kernel_rfl) nE (rest:=[5,6,7,8,9,10]) rfl (by kernel_rfl) fun Hl Ky=>?_;have hh3:Hl.heap=W.heap:=by obtain ⟨τ,d,rfl⟩:=Ky;rfl
  replace f1:Hl.cell? ⟨b,1,none⟩=some (.int .i64 d.a):=by simp only [World.cell?,hh3] at f1 ⊢;exact f1
  replace f2:Hl.cell? ⟨b,2,none⟩=some (.int .i64 d.b):=by simp only [World.cell?,hh3] at f2 ⊢;exact f2
  replace f3:Hl.cell? ⟨b,3,none⟩=some (.int .i64 d.c):=by simp only [World.cell?,hh3] at f3 ⊢;exact f3
  have H3:=Lib.hid hh3;clear hh3;dsimp only [List.drop,List.take];gi_wp2;try refine ⟨rfl,?_⟩
  obtain ⟨h,hJ,hw,ha⟩:=HH.out;clear HH f1 f2 f3 Ky;show JL (S0 (X:=Wk G5 GU) (Sg:=List Int) Try.prog Fin GR).L _ _ Hl;try dsimp only
  refine JL.enter rfl rfl nE rfl Try.func25 (by kernel_rfl) (by kernel_rfl) ?_;walk_nrm;have h3:=h.same H3.out;refine U7 (Mr He (KO ct cb n (fun g=>g=lb\/g=b\/Kp g) Hl h3.fx) (.Ii B nn) (S0 (X:=Wk G5 GU) (Sg:=List Int) Try.prog Fin GR)) h3.mem (s:={ own:=fun _=>False,f:=5,res:=(σ.set k (max was d.b),({ n:=max was d.b },false)) }) (σ:=σ) (i:=d.a) (v:=d.b) ⟨h3.inv,fun b hb=>hb.elim⟩ ?hS trivial ?_
  case hS=>
    show IL He 5 _ σ=some _;exact wQ ha hkn h3.len hw
  intro s' σ' W' e hA' hO hE _;have hE':(σ',(e,false))=s'.res:=hE;have hr:s'.res=((σ.set k (max was d.b),({ n:=max was d.b },false)):List Int × (An × Bool)):=hO.le;rw [hr] at hE';cases hE'
  obtain ⟨h4,Nb⟩:=h3.step hA'.inv;have J7:∀ g,Kp g->W'.heap[g]?=W.heap[g]?:=fun g hg=>by rw [Nb g hg,H3.out]
  have s4:W.heap.size<=W'.heap.size:=by have:=hO.size;rw [H3.out] at this;exact this
  rw [Frame.finish_at];show JL (S0 (X:=Wk G5 GU) (Sg:=List Int) Try.prog Fin GR).L (.Ii B nn) _ W';have HH:=Lib.hid (And.intro h4 (And.intro J7 (And.intro s4 (And.intro hJ (And.intro hw ha)))));obtain ⟨f1,f2,f3⟩:=h4.field;clear h h4 hO hA' hE hr J7 Nb s4 hJ H3 s' hw h3 ha;walk_nrm;cases hkk;iterate 5 (refine Hf ?_;walk_nrm)
  refine GY stepG_region_end ?_;refine HY.Ht (S:=(S0 (X:=Wk G5 GU) (Sg:=List Int) Try.prog Fin GR)) (b:=base 8) [7,10] Jy (by kernel_rfl) nE (by kernel_rfl) fun GQ ha=>?_;have hh:GQ.heap=W'.heap:=by obtain ⟨τ,d,rfl⟩:=ha;rfl
  replace f2:GQ.cell? ⟨b,2,none⟩=some (.int .i64 d.b):=by simp only [World.cell?,hh] at f2 ⊢;exact f2
  replace f3:GQ.cell? ⟨b,3,none⟩=some (.int .i64 d.c):=by simp only [World.cell?,hh] at f3 ⊢;exact f3
  have H5:=Lib.hid hh;clear hh ha f1;simp only [dK,Uj,I4,Jh,JJ,Kt,Li,Nl,Mi,Try.f8];gi_wp2;all_goals
    refine Hg ?_;refine GY stepG_inBlock ?_;obtain ⟨h4,J7,s4,hJ,hw,ha⟩:=HH.out;first | (rw [show max was d.b=d.b from by omega];exact KN (h4.same H5.out) ha hkn (by rw [show max was d.b=d.b from by omega]) (fun g hg=>by simp only [World.drew,H5.out];exact J7 g hg) (by simp only [World.drew,H5.out];exact s4) hJ) | (rw [show max was d.b=was from by omega];exact KN (h4.same H5.out) ha hkn (by rw [show max was d.b=was from by omega]) (fun g hg=>by simp only [World.drew,H5.out];exact J7 g hg) (by simp only [World.drew,H5.out];exact s4) hJ)
theorem bH {was:Int}{ct cb lb b n k:Nat}{σ:List Int}{d:G5}{ys:Value}{Kp:Nat->Prop}(h:Two ct cb lb b n σ σ d ys Kp W)(hk:d.kind=6)(ho:inn n d.a=false)(hJ:∀ W' σ',Two ct cb lb b n σ' σ' d ys Kp W'->(∀ g,Kp g->W'.heap[g]?=W.heap[g]?)->W.heap.size<=W'.heap.size->JW (S0 (X:=Wk G5 GU) (Sg:=List Int) Try.prog Fin GR).base (.Ii B nn) (G (c.finish (.bool true)) cs) W') :
    JL (S0 (X:=Wk G5 GU) (Sg:=List Int) Try.prog Fin GR).L (.Ii B nn) (G ((base 8).at ⟨#[.pointer (some ⟨ct,0,none⟩),.slice (some ⟨lb,0,none⟩) n n,v2,v3,v4,.pointer (some ⟨b,0,none⟩),v6,.bool false,.int .i64 0,.int .i64 0,.int .i64 0,.bool false,.int .i64 0,.int .i64 0,Af,Ah,Ai,Aj,Ak,Al,Am,Ao,Ap,Aq,Ar,Au,Av,Aw,Ay,Az,AA,AB,AJ,AL,AO,AP,AQ,AU,AV,AX,AY,AZ,A8,A9,Ba,Bb,Bc,Bf,Bh,Bj,Bl,Bp,Bq,Br,Bu,Bv,Bw,Bz,BD,BF,BG,BH,BI,BJ,BK,BL,BM,BN,BO,BP,BQ,BR,BS,BU,BX,BZ,Ca,Cb,Cc,Ce,Cg,Ci,Cj,Ck,Cm,Co,Cq,Cr,Ct,Cu,Cw,Cx,Cy,Cz,CB,CF,CG,CJ,CK,CO,CQ,CS,CU,CV,CW,CX,CY,CZ,C8,C9,Da,Db,Dc,Df,Dg,Dh,Di,Dj,Dk,Dl,Dm,Dn,Dp,Dq,Dt,Du,Dv,Dw,Dx,Dy,Dz,DC,DF,DI,DJ,DL,DN,DR,DT,DU,DV,DX,DY,DZ,D5,D7,D8,D9,Ea,Eb,Ec,Ed,Ee,Ef,Eh,Ei,Ej,El,Em,Eo,Ep,Er,Es,Et,Eu,Ev,Ew,Ey,Ez],[]⟩ (.code Uj :: [.inBlock 0,.code Ow])) (c :: cs)) W:=by
  have HH:=Lib.hid (And.intro h (And.intro hJ True.intro));clear hJ;obtain ⟨f1,f2,f3⟩:=h.field;clear h;rw [Y8];refine GY stepG_seq ?_;simp only [fP,Uj,I4,Jh,JJ,Kt,Li,Nl,Mi,Try.f8];refine Hu fun _ hkk=>?_;refine HY.Jm (S:=(S0 (X:=Wk G5 GU) (Sg:=List Int) Try.prog Fin GR)) (b:=base 8) 0 5 [] (by simp) (by kernel_rfl) nE (rest:=[5,6,7,8,9,10]) rfl (by kernel_rfl) fun Hl Ky=>?_;have hh3:Hl.heap=W.heap:=by obtain ⟨τ,d,rfl⟩:=Ky;rfl
  replace f1:Hl.cell? ⟨b,1,none⟩=some (.int .i64 d.a):=by simp only [World.cell?,hh3] at f1 ⊢;exact f1
  replace f2:Hl.cell? ⟨b,2,none⟩=some (.int .i64 d.b):=by simp only [World.cell?,hh3] at f2 ⊢;exact f2
  replace f3:Hl.cell? ⟨b,3,none⟩=some (.int .i64 d.c):=by simp only [World.cell?,hh3] at f3 ⊢;exact f3
  have H3:=Lib.hid hh3;clear hh3;dsimp only [List.drop,List.take];gi_wp2;try refine ⟨rfl,?_⟩
  obtain ⟨h,hJ,hw⟩:=HH.out;clear HH f1 f2 f3 Ky;show JL (S0 (X:=Wk G5 GU) (Sg:=List Int) Try.prog Fin GR).L _ _ Hl;try dsimp only
  refine JL.enter rfl rfl nE rfl Try.func25 (by kernel_rfl) (by kernel_rfl) ?_;walk_nrm;have h3:=h.same H3.out;refine U7 (Mr He (KO ct cb n (fun g=>g=lb\/g=b\/Kp g) Hl h3.fx) (.Ii B nn) (S0 (X:=Wk G5 GU) (Sg:=List Int) Try.prog Fin GR)) h3.mem (s:={ own:=fun _=>False,f:=5,res:=(σ,({ err:=41 },false)) }) (σ:=σ) (i:=d.a) (v:=d.b) ⟨h3.inv,fun b hb=>hb.elim⟩ ?hS trivial ?_
  case hS=>
    show IL He 5 _ σ=some _;exact V7 (by rw [h3.len];exact ho)
  intro s' σ' W' e hA' hO hE _;have hE':(σ',(e,false))=s'.res:=hE;have hr:s'.res=((σ,({ err:=41 },false)):List Int × (An × Bool)):=hO.le;rw [hr] at hE';cases hE'
  obtain ⟨h4,Nb⟩:=h3.step hA'.inv;have J7:∀ g,Kp g->W'.heap[g]?=W.heap[g]?:=fun g hg=>by rw [Nb g hg,H3.out]
  have s4:W.heap.size<=W'.heap.size:=by have:=hO.size;rw [H3.out] at this;exact this
  rw [Frame.finish_at];show JL (S0 (X:=Wk G5 GU) (Sg:=List Int) Try.prog Fin GR).L (.Ii B nn) _ W';have HH:=Lib.hid (And.intro h4 (And.intro J7 (And.intro s4 (And.intro hJ hw))));obtain ⟨f1,f2,f3⟩:=h4.field;clear h h4 hO hA' hE hr J7 Nb s4 hJ H3 s' hw h3;walk_nrm;cases hkk;iterate 5 (refine Hf ?_;walk_nrm)
  refine GY stepG_region_end ?_;refine HY.Ht (S:=(S0 (X:=Wk G5 GU) (Sg:=List Int) Try.prog Fin GR)) (b:=base 8) [7,10] Jy (by kernel_rfl) nE (by kernel_rfl) fun GQ ha=>?_;have hh:GQ.heap=W'.heap:=by obtain ⟨τ,d,rfl⟩:=ha;rfl
  replace f2:GQ.cell? ⟨b,2,none⟩=some (.int .i64 d.b):=by simp only [World.cell?,hh] at f2 ⊢;exact f2
  replace f3:GQ.cell? ⟨b,3,none⟩=some (.int .i64 d.c):=by simp only [World.cell?,hh] at f3 ⊢;exact f3
  have H5:=Lib.hid hh;clear hh ha f1;simp only [dK,Uj,I4,Jh,JJ,Kt,Li,Nl,Mi,Try.f8];gi_wp2;all_goals
    refine Hg ?_;refine GY stepG_inBlock ?_;obtain ⟨h4,J7,s4,hJ,hw⟩:=HH.out;exact Oj (k:=0) (h4.same H5.out) (fun g hg=>by simp only [World.drew,H5.out];exact J7 g hg) (by simp only [World.drew,H5.out];exact s4) hJ
end
end
section
section
variable {Fin:Iw}{GR:Ig Try.prog Fin}
variable {B:Nat->Bool}{W:World}{nn:Nat}{c:Frame}{cs:List Frame}
variable {v0 v1 v2 v3 v4 v5 v6 v7 v8 v9 Aa Ab Ac Ae Af Ah Ai Aj Ak Al Am Ao Ap Aq Ar Au Av Aw Ay Az AA AB AJ AL AO AP AQ AU AV AX AY AZ A8 A9 Ba Bb Bc Bf Bh Bj Bl Bp Bq Br Bu Bv Bw Bz BD BF BG BH BI BJ BK BL BM BN BO BP BQ BR BS BU BX BZ Ca Cb Cc Ce Cg Ci Cj Ck Cm Co Cq Cr Ct Cu Cw Cx Cy Cz CB CF CG CJ CK CO CQ CS CU CV CW CX CY CZ C8 C9 Da Db Dc Df Dg Dh Di Dj Dk Dl Dm Dn Dp Dq Dt Du Dv Dw Dx Dy Dz DC DF DI DJ DL DN DR DT DU DV DX DY DZ D5 D7 D8 D9 Ea Eb Ec Ed Ee Ef Eh Ei Ej El Em Eo Ep Er Es Et Eu Ev Ew Ey Ez:Value}
theorem dA {was:Int}{ct cb lb b n k:Nat}{σ:List Int}{d:G5}{ys:Value}{Kp:Nat->Prop}(h:Two ct cb lb b n σ σ d ys Kp W)(hk:d.kind=7)(ha:d.a=k)(hkn:k < n)(hw:was=σ.getD k 0)(hJ:∀ W' σ',Two ct cb lb b n σ' σ' d ys Kp W'->(∀ g,Kp g->W'.heap[g]?=W.heap[g]?)->W.heap.size<=W'.heap.size->JW (S0 (X:=Wk G5 GU) (Sg:=List Int) Try.prog Fin GR).base (.Ii B nn) (G (c.finish (.bool true)) cs) W') :
    JL (S0 (X:=Wk G5 GU) (Sg:=List Int) Try.prog Fin GR).L (.Ii B nn) (G ((base 8).at ⟨#[.pointer (some ⟨ct,0,none⟩),.slice (some ⟨lb,0,none⟩) n n,v2,v3,v4,.pointer (some ⟨b,0,none⟩),v6,.bool true,.int .i64 0,.int .i64 was,.int .i64 0,.bool false,.int .i64 0,.int .i64 was,Af,Ah,Ai,Aj,Ak,Al,Am,Ao,Ap,Aq,Ar,Au,Av,Aw,Ay,Az,AA,AB,AJ,AL,AO,AP,AQ,AU,AV,AX,AY,AZ,A8,A9,Ba,Bb,Bc,Bf,Bh,Bj,Bl,Bp,Bq,Br,Bu,Bv,Bw,Bz,BD,BF,BG,BH,BI,BJ,BK,BL,BM,BN,BO,BP,BQ,BR,BS,BU,BX,BZ,Ca,Cb,Cc,Ce,Cg,Ci,Cj,Ck,Cm,Co,Cq,Cr,Ct,Cu,Cw,Cx,Cy,Cz,CB,CF,CG,CJ,CK,CO,CQ,CS,CU,CV,CW,CX,CY,CZ,C8,C9,Da,Db,Dc,Df,Dg,Dh,Di,Dj,Dk,Dl,Dm,Dn,Dp,Dq,Dt,Du,Dv,Dw,Dx,Dy,Dz,DC,DF,DI,DJ,DL,DN,DR,DT,DU,DV,DX,DY,DZ,D5,D7,D8,D9,Ea,Eb,Ec,Ed,Ee,Ef,Eh,Ei,Ej,El,Em,Eo,Ep,Er,Es,Et,Eu,Ev,Ew,Ey,Ez],[]⟩ (.code Ug :: [.inBlock 0,.code Ow])) (c :: cs)) W:=by
  have HH:=Lib.hid (And.intro h (And.intro hJ (And.intro hw ha)));clear hJ hw ha;obtain ⟨f1,f2,f3⟩:=h.field;clear h;rw [Zb];refine GY stepG_seq ?_;simp only [jh,Ug,I4,Jh,JJ,Kt,Li,Nl,P8,Mi,Try.f8];refine Hu fun _ hkk=>?_;refine HY.Jm (S:=(S0 (X:=Wk G5 GU) (Sg:=List Int) Try.prog Fin GR)) (b:=base 8) 0 5 [] (by simp) (by kernel_rfl) nE (rest:=[5,6,7,8,9,10]) rfl (by kernel_rfl) fun Hl Ky=>?_;have hh3:Hl.heap=W.heap:=by obtain ⟨τ,d,rfl⟩:=Ky;rfl
  replace f1:Hl.cell? ⟨b,1,none⟩=some (.int .i64 d.a):=by simp only [World.cell?,hh3] at f1 ⊢;exact f1
  replace f2:Hl.cell? ⟨b,2,none⟩=some (.int .i64 d.b):=by simp only [World.cell?,hh3] at f2 ⊢;exact f2
  replace f3:Hl.cell? ⟨b,3,none⟩=some (.int .i64 d.c):=by simp only [World.cell?,hh3] at f3 ⊢;exact f3
  have H3:=Lib.hid hh3;clear hh3;dsimp only [List.drop,List.take];gi_wp2;try refine ⟨rfl,?_⟩
  obtain ⟨h,hJ,hw,ha⟩:=HH.out;clear HH f1 f2 f3 Ky;show JL (S0 (X:=Wk G5 GU) (Sg:=List Int) Try.prog Fin GR).L _ _ Hl;try dsimp only
  refine JL.enter rfl rfl nE rfl Try.func26 (by kernel_rfl) (by kernel_rfl) ?_;walk_nrm;have h3:=h.same H3.out;refine VR (Mr He (KO ct cb n (fun g=>g=lb\/g=b\/Kp g) Hl h3.fx) (.Ii B nn) (S0 (X:=Wk G5 GU) (Sg:=List Int) Try.prog Fin GR)) h3.mem (s:={ own:=fun _=>False,f:=5,res:=(σ.set k (min was d.b),({ n:=min was d.b },false)) }) (σ:=σ) (i:=d.a) (v:=d.b) ⟨h3.inv,fun b hb=>hb.elim⟩ ?hS trivial ?_
  case hS=>
    show IL He 5 _ σ=some _;exact zJ ha hkn h3.len hw
  intro s' σ' W' e hA' hO hE _;have hE':(σ',(e,false))=s'.res:=hE;have hr:s'.res=((σ.set k (min was d.b),({ n:=min was d.b },false)):List Int × (An × Bool)):=hO.le;rw [hr] at hE';cases hE'
  obtain ⟨h4,Nb⟩:=h3.step hA'.inv;have J7:∀ g,Kp g->W'.heap[g]?=W.heap[g]?:=fun g hg=>by rw [Nb g hg,H3.out]
  have s4:W.heap.size<=W'.heap.size:=by have:=hO.size;rw [H3.out] at this;exact this
  rw [Frame.finish_at];show JL (S0 (X:=Wk G5 GU) (Sg:=List Int) Try.prog Fin GR).L (.Ii B nn) _ W';have HH:=Lib.hid (And.intro h4 (And.intro J7 (And.intro s4 (And.intro hJ (And.intro hw ha)))));obtain ⟨f1,f2,f3⟩:=h4.field;clear h h4 hO hA' hE hr J7 Nb s4 hJ H3 s' hw h3 ha;walk_nrm;cases hkk;iterate 5 (refine Hf ?_;walk_nrm)
  refine GY stepG_region_end ?_;refine HY.Ht (S:=(S0 (X:=Wk G5 GU) (Sg:=List Int) Try.prog Fin GR)) (b:=base 8) [7,10] Jy (by kernel_rfl) nE (by kernel_rfl) fun GQ ha=>?_;have hh:GQ.heap=W'.heap:=by obtain ⟨τ,d,rfl⟩:=ha;rfl
  replace f2:GQ.cell? ⟨b,2,none⟩=some (.int .i64 d.b):=by simp only [World.cell?,hh] at f2 ⊢;exact f2
  replace f3:GQ.cell? ⟨b,3,none⟩=some (.int .i64 d.c):=by simp only [World.cell?,hh] at f3 ⊢;exact f3
  have H5:=Lib.hid hh;clear hh ha f1;simp only [jB,Ug,I4,Jh,JJ,Kt,Li,Nl,P8,Mi,Try.f8];gi_wp2;all_goals
    refine Hg ?_;refine GY stepG_inBlock ?_;obtain ⟨h4,J7,s4,hJ,hw,ha⟩:=HH.out;first | (rw [show min was d.b=d.b from by omega];exact KN (h4.same H5.out) ha hkn (by rw [show min was d.b=d.b from by omega]) (fun g hg=>by simp only [World.drew,H5.out];exact J7 g hg) (by simp only [World.drew,H5.out];exact s4) hJ) | (rw [show min was d.b=was from by omega];exact KN (h4.same H5.out) ha hkn (by rw [show min was d.b=was from by omega]) (fun g hg=>by simp only [World.drew,H5.out];exact J7 g hg) (by simp only [World.drew,H5.out];exact s4) hJ)
theorem bU {was:Int}{ct cb lb b n k:Nat}{σ:List Int}{d:G5}{ys:Value}{Kp:Nat->Prop}(h:Two ct cb lb b n σ σ d ys Kp W)(hk:d.kind=7)(ho:inn n d.a=false)(hJ:∀ W' σ',Two ct cb lb b n σ' σ' d ys Kp W'->(∀ g,Kp g->W'.heap[g]?=W.heap[g]?)->W.heap.size<=W'.heap.size->JW (S0 (X:=Wk G5 GU) (Sg:=List Int) Try.prog Fin GR).base (.Ii B nn) (G (c.finish (.bool true)) cs) W') :
    JL (S0 (X:=Wk G5 GU) (Sg:=List Int) Try.prog Fin GR).L (.Ii B nn) (G ((base 8).at ⟨#[.pointer (some ⟨ct,0,none⟩),.slice (some ⟨lb,0,none⟩) n n,v2,v3,v4,.pointer (some ⟨b,0,none⟩),v6,.bool false,.int .i64 0,.int .i64 0,.int .i64 0,.bool false,.int .i64 0,.int .i64 0,Af,Ah,Ai,Aj,Ak,Al,Am,Ao,Ap,Aq,Ar,Au,Av,Aw,Ay,Az,AA,AB,AJ,AL,AO,AP,AQ,AU,AV,AX,AY,AZ,A8,A9,Ba,Bb,Bc,Bf,Bh,Bj,Bl,Bp,Bq,Br,Bu,Bv,Bw,Bz,BD,BF,BG,BH,BI,BJ,BK,BL,BM,BN,BO,BP,BQ,BR,BS,BU,BX,BZ,Ca,Cb,Cc,Ce,Cg,Ci,Cj,Ck,Cm,Co,Cq,Cr,Ct,Cu,Cw,Cx,Cy,Cz,CB,CF,CG,CJ,CK,CO,CQ,CS,CU,CV,CW,CX,CY,CZ,C8,C9,Da,Db,Dc,Df,Dg,Dh,Di,Dj,Dk,Dl,Dm,Dn,Dp,Dq,Dt,Du,Dv,Dw,Dx,Dy,Dz,DC,DF,DI,DJ,DL,DN,DR,DT,DU,DV,DX,DY,DZ,D5,D7,D8,D9,Ea,Eb,Ec,Ed,Ee,Ef,Eh,Ei,Ej,El,Em,Eo,Ep,Er,Es,Et,Eu,Ev,Ew,Ey,Ez],[]⟩ (.code Ug :: [.inBlock 0,.code Ow])) (c :: cs)) W:=by
  have HH:=Lib.hid (And.intro h (And.intro hJ True.intro));clear hJ;obtain ⟨f1,f2,f3⟩:=h.field;clear h;rw [Zb];refine GY stepG_seq ?_;simp only [jh,Ug,I4,Jh,JJ,Kt,Li,Nl,P8,Mi,Try.f8];refine Hu fun _ hkk=>?_;refine HY.Jm (S:=(S0 (X:=Wk G5 GU) (Sg:=List Int) Try.prog Fin GR)) (b:=base 8) 0 5 [] (by simp) (by kernel_rfl) nE (rest:=[5,6,7,8,9,10]) rfl (by kernel_rfl) fun Hl Ky=>?_;have hh3:Hl.heap=W.heap:=by obtain ⟨τ,d,rfl⟩:=Ky;rfl
  replace f1:Hl.cell? ⟨b,1,none⟩=some (.int .i64 d.a):=by simp only [World.cell?,hh3] at f1 ⊢;exact f1
  replace f2:Hl.cell? ⟨b,2,none⟩=some (.int .i64 d.b):=by simp only [World.cell?,hh3] at f2 ⊢;exact f2
  replace f3:Hl.cell? ⟨b,3,none⟩=some (.int .i64 d.c):=by simp only [World.cell?,hh3] at f3 ⊢;exact f3
  have H3:=Lib.hid hh3;clear hh3;dsimp only [List.drop,List.take];gi_wp2;try refine ⟨rfl,?_⟩
  obtain ⟨h,hJ,hw⟩:=HH.out;clear HH f1 f2 f3 Ky;show JL (S0 (X:=Wk G5 GU) (Sg:=List Int) Try.prog Fin GR).L _ _ Hl;try dsimp only
  refine JL.enter rfl rfl nE rfl Try.func26 (by kernel_rfl) (by kernel_rfl) ?_;walk_nrm;have h3:=h.same H3.out;refine VR (Mr He (KO ct cb n (fun g=>g=lb\/g=b\/Kp g) Hl h3.fx) (.Ii B nn) (S0 (X:=Wk G5 GU) (Sg:=List Int) Try.prog Fin GR)) h3.mem (s:={ own:=fun _=>False,f:=5,res:=(σ,({ err:=41 },false)) }) (σ:=σ) (i:=d.a) (v:=d.b) ⟨h3.inv,fun b hb=>hb.elim⟩ ?hS trivial ?_
  case hS=>
    show IL He 5 _ σ=some _;exact V7 (by rw [h3.len];exact ho)
  intro s' σ' W' e hA' hO hE _;have hE':(σ',(e,false))=s'.res:=hE;have hr:s'.res=((σ,({ err:=41 },false)):List Int × (An × Bool)):=hO.le;rw [hr] at hE';cases hE'
  obtain ⟨h4,Nb⟩:=h3.step hA'.inv;have J7:∀ g,Kp g->W'.heap[g]?=W.heap[g]?:=fun g hg=>by rw [Nb g hg,H3.out]
  have s4:W.heap.size<=W'.heap.size:=by have:=hO.size;rw [H3.out] at this;exact this
  rw [Frame.finish_at];show JL (S0 (X:=Wk G5 GU) (Sg:=List Int) Try.prog Fin GR).L (.Ii B nn) _ W';have HH:=Lib.hid (And.intro h4 (And.intro J7 (And.intro s4 (And.intro hJ hw))));obtain ⟨f1,f2,f3⟩:=h4.field;clear h h4 hO hA' hE hr J7 Nb s4 hJ H3 s' hw h3;walk_nrm;cases hkk;iterate 5 (refine Hf ?_;walk_nrm)
  refine GY stepG_region_end ?_;refine HY.Ht (S:=(S0 (X:=Wk G5 GU) (Sg:=List Int) Try.prog Fin GR)) (b:=base 8) [7,10] Jy (by kernel_rfl) nE (by kernel_rfl) fun GQ ha=>?_;have hh:GQ.heap=W'.heap:=by obtain ⟨τ,d,rfl⟩:=ha;rfl
  replace f2:GQ.cell? ⟨b,2,none⟩=some (.int .i64 d.b):=by simp only [World.cell?,hh] at f2 ⊢;exact f2
  replace f3:GQ.cell? ⟨b,3,none⟩=some (.int .i64 d.c):=by simp only [World.cell?,hh] at f3 ⊢;exact f3
  have H5:=Lib.hid hh;clear hh ha f1;simp only [jB,Ug,I4,Jh,JJ,Kt,Li,Nl,P8,Mi,Try.f8];gi_wp2;all_goals
    refine Hg ?_;refine GY stepG_inBlock ?_;obtain ⟨h4,J7,s4,hJ,hw⟩:=HH.out;exact Oj (k:=0) (h4.same H5.out) (fun g hg=>by simp only [World.drew,H5.out];exact J7 g hg) (by simp only [World.drew,H5.out];exact s4) hJ
end
end
section
section
variable {d:G5}{σ:List Int}{k n:Nat}{was:Int}
theorem rz (hk:d.kind=5)(ha:d.a=k)(hkn:k < n)(hl:σ.length=n)(hw:was=σ.getD k 0)(hq:was=d.b):IL He 5 (.one d) σ=some (σ.set k d.c,({ ok:=true },false)):=by
  rw [Pg (O8 ha hkn hl)];have hx:σ.getD k 0=d.b:=by rw [← hw];exact hq
  simp at hx;simp [II,hk,ha,hx]
theorem tY (hk:d.kind=5)(ha:d.a=k)(hkn:k < n)(hl:σ.length=n)(hw:was=σ.getD k 0)(hq:¬ was=d.b):IL He 5 (.one d) σ=some (σ,({},false)):=by
  rw [Pg (O8 ha hkn hl)];have hx:¬ σ.getD k 0=d.b:=by rw [← hw];exact hq
  simp at hx;simp [II,hk,ha,hx]
end
section
variable {Fin:Iw}{GR:Ig Try.prog Fin}
variable {B:Nat->Bool}{W:World}{nn:Nat}{c:Frame}{cs:List Frame}
variable {v0 v1 v2 v3 v4 v5 v6 v7 v8 v9 Aa Ab Ac Ae Af Ah Ai Aj Ak Al Am Ao Ap Aq Ar Au Av Aw Ay Az AA AB AJ AL AO AP AQ AU AV AX AY AZ A8 A9 Ba Bb Bc Bf Bh Bj Bl Bp Bq Br Bu Bv Bw Bz BD BF BG BH BI BJ BK BL BM BN BO BP BQ BR BS BU BX BZ Ca Cb Cc Ce Cg Ci Cj Ck Cm Co Cq Cr Ct Cu Cw Cx Cy Cz CB CF CG CJ CK CO CQ CS CU CV CW CX CY CZ C8 C9 Da Db Dc Df Dg Dh Di Dj Dk Dl Dm Dn Dp Dq Dt Du Dv Dw Dx Dy Dz DC DF DI DJ DL DN DR DT DU DV DX DY DZ D5 D7 D8 D9 Ea Eb Ec Ed Ee Ef Eh Ei Ej El Em Eo Ep Er Es Et Eu Ev Ew Ey Ez:Value}
theorem iE {was:Int}{ct cb lb b n k:Nat}{σ:List Int}{d:G5}{ys:Value}{Kp:Nat->Prop}(h:Two ct cb lb b n σ σ d ys Kp W)(hk:d.kind=5)(ha:d.a=k)(hkn:k < n)(hw:was=σ.getD k 0)(hq:was=d.b)(hJ:∀ W' σ',Two ct cb lb b n σ' σ' d ys Kp W'->(∀ g,Kp g->W'.heap[g]?=W.heap[g]?)->W.heap.size<=W'.heap.size->JW (S0 (X:=Wk G5 GU) (Sg:=List Int) Try.prog Fin GR).base (.Ii B nn) (G (c.finish (.bool true)) cs) W') :
    JL (S0 (X:=Wk G5 GU) (Sg:=List Int) Try.prog Fin GR).L (.Ii B nn) (G ((base 8).at ⟨#[.pointer (some ⟨ct,0,none⟩),.slice (some ⟨lb,0,none⟩) n n,v2,v3,v4,.pointer (some ⟨b,0,none⟩),v6,.bool true,.int .i64 0,.int .i64 was,.int .i64 0,.bool false,.int .i64 0,.int .i64 was,Af,Ah,Ai,Aj,Ak,Al,Am,Ao,Ap,Aq,Ar,Au,Av,Aw,Ay,Az,AA,AB,AJ,AL,AO,AP,AQ,AU,AV,AX,AY,AZ,A8,A9,Ba,Bb,Bc,Bf,Bh,Bj,Bl,Bp,Bq,Br,Bu,Bv,Bw,Bz,BD,BF,BG,BH,BI,BJ,BK,BL,BM,BN,BO,BP,BQ,BR,BS,BU,BX,BZ,Ca,Cb,Cc,Ce,Cg,Ci,Cj,Ck,Cm,Co,Cq,Cr,Ct,Cu,Cw,Cx,Cy,Cz,CB,CF,CG,CJ,CK,CO,CQ,CS,CU,CV,CW,CX,CY,CZ,C8,C9,Da,Db,Dc,Df,Dg,Dh,Di,Dj,Dk,Dl,Dm,Dn,Dp,Dq,Dt,Du,Dv,Dw,Dx,Dy,Dz,DC,DF,DI,DJ,DL,DN,DR,DT,DU,DV,DX,DY,DZ,D5,D7,D8,D9,Ea,Eb,Ec,Ed,Ee,Ef,Eh,Ei,Ej,El,Em,Eo,Ep,Er,Es,Et,Eu,Ev,Ew,Ey,Ez],[]⟩ (.code QM :: [.inBlock 0,.code Ow])) (c :: cs)) W:=by
  have HH:=Lib.hid (And.intro h (And.intro hJ (And.intro hw ha)));clear hJ hw ha;obtain ⟨f1,f2,f3⟩:=h.field;clear h;rw [Vk];refine GY stepG_seq ?_;simp only [YZ,QM,I4,Jh,JJ,Kt,Li,Mi,Try.f8];refine Hu fun _ hkk=>?_;refine HY.Jm (S:=(S0 (X:=Wk G5 GU) (Sg:=List Int) Try.prog Fin GR)) (b:=base 8) 0 7 [] (by simp) (by kernel_rfl) nE (rest:=[7,8,9,10,11,12]) rfl (by kernel_rfl) fun Hl Ky=>?_;have hh3:Hl.heap=W.heap:=by obtain ⟨τ,d,rfl⟩:=Ky;rfl
  replace f1:Hl.cell? ⟨b,1,none⟩=some (.int .i64 d.a):=by simp only [World.cell?,hh3] at f1 ⊢;exact f1
  replace f2:Hl.cell? ⟨b,2,none⟩=some (.int .i64 d.b):=by simp only [World.cell?,hh3] at f2 ⊢;exact f2
  replace f3:Hl.cell? ⟨b,3,none⟩=some (.int .i64 d.c):=by simp only [World.cell?,hh3] at f3 ⊢;exact f3
  have H3:=Lib.hid hh3;clear hh3;dsimp only [List.drop,List.take];gi_wp2;try refine ⟨rfl,?_⟩
  obtain ⟨h,hJ,hw,ha⟩:=HH.out;clear HH f1 f2 f3 Ky;show JL (S0 (X:=Wk G5 GU) (Sg:=List Int) Try.prog Fin GR).L _ _ Hl;try dsimp only
  refine JL.enter rfl rfl nE rfl Try.func24 (by kernel_rfl) (by kernel_rfl) ?_;walk_nrm;have h3:=h.same H3.out;refine R7 (Mr He (KO ct cb n (fun g=>g=lb\/g=b\/Kp g) Hl h3.fx) (.Ii B nn) (S0 (X:=Wk G5 GU) (Sg:=List Int) Try.prog Fin GR)) h3.mem (s:={ own:=fun _=>False,f:=5,res:=(σ.set k d.c,({ ok:=true },false)) }) (σ:=σ) (c:=d) hk ⟨h3.inv,fun b hb=>hb.elim⟩ ?hS trivial ?_
  case hS=>
    show IL He 5 _ σ=some _;exact rz hk ha hkn h3.len hw hq
  intro s' σ' W' e hA' hO hE _;have hE':(σ',(e,false))=s'.res:=hE;have hr:s'.res=((σ.set k d.c,({ ok:=true },false)):List Int × (An × Bool)):=hO.le;rw [hr] at hE';cases hE'
  obtain ⟨h4,Nb⟩:=h3.step hA'.inv;have J7:∀ g,Kp g->W'.heap[g]?=W.heap[g]?:=fun g hg=>by rw [Nb g hg,H3.out]
  have s4:W.heap.size<=W'.heap.size:=by have:=hO.size;rw [H3.out] at this;exact this
  rw [Frame.finish_at];show JL (S0 (X:=Wk G5 GU) (Sg:=List Int) Try.prog Fin GR).L (.Ii B nn) _ W';have HH:=Lib.hid (And.intro h4 (And.intro J7 (And.intro s4 (And.intro hJ (And.intro hw ha)))));obtain ⟨f1,f2,f3⟩:=h4.field;clear h h4 hO hA' hE hr J7 Nb s4 hJ H3 s' hw h3 ha;walk_nrm;cases hkk;iterate 5 (refine Hf ?_;walk_nrm)
  refine GY stepG_region_end ?_;refine HY.Ht (S:=(S0 (X:=Wk G5 GU) (Sg:=List Int) Try.prog Fin GR)) (b:=base 8) [7,10] Jy (by kernel_rfl) nE (by kernel_rfl) fun GQ ha=>?_;have hh:GQ.heap=W'.heap:=by obtain ⟨τ,d,rfl⟩:=ha;rfl
  replace f2:GQ.cell? ⟨b,2,none⟩=some (.int .i64 d.b):=by simp only [World.cell?,hh] at f2 ⊢;exact f2
  replace f3:GQ.cell? ⟨b,3,none⟩=some (.int .i64 d.c):=by simp only [World.cell?,hh] at f3 ⊢;exact f3
  have H5:=Lib.hid hh;clear hh ha f1;simp only [YI,QM,I4,Jh,JJ,Kt,Li,Mi,Try.f8];gi_wp2;all_goals
    refine Hg ?_;refine GY stepG_inBlock ?_;obtain ⟨h4,J7,s4,hJ,hw,ha⟩:=HH.out;exact KN (h4.same H5.out) ha hkn (rfl) (fun g hg=>by simp only [World.drew,H5.out];exact J7 g hg) (by simp only [World.drew,H5.out];exact s4) hJ
end
end
section
section
variable {Fin:Iw}{GR:Ig Try.prog Fin}
variable {B:Nat->Bool}{W:World}{nn:Nat}{c:Frame}{cs:List Frame}
variable {v0 v1 v2 v3 v4 v5 v6 v7 v8 v9 Aa Ab Ac Ae Af Ah Ai Aj Ak Al Am Ao Ap Aq Ar Au Av Aw Ay Az AA AB AJ AL AO AP AQ AU AV AX AY AZ A8 A9 Ba Bb Bc Bf Bh Bj Bl Bp Bq Br Bu Bv Bw Bz BD BF BG BH BI BJ BK BL BM BN BO BP BQ BR BS BU BX BZ Ca Cb Cc Ce Cg Ci Cj Ck Cm Co Cq Cr Ct Cu Cw Cx Cy Cz CB CF CG CJ CK CO CQ CS CU CV CW CX CY CZ C8 C9 Da Db Dc Df Dg Dh Di Dj Dk Dl Dm Dn Dp Dq Dt Du Dv Dw Dx Dy Dz DC DF DI DJ DL DN DR DT DU DV DX DY DZ D5 D7 D8 D9 Ea Eb Ec Ed Ee Ef Eh Ei Ej El Em Eo Ep Er Es Et Eu Ev Ew Ey Ez:Value}
theorem jT {was:Int}{ct cb lb b n k:Nat}{σ:List Int}{d:G5}{ys:Value}{Kp:Nat->Prop}(h:Two ct cb lb b n σ σ d ys Kp W)(hk:d.kind=5)(ha:d.a=k)(hkn:k < n)(hw:was=σ.getD k 0)(hq:¬ was=d.b)(hJ:∀ W' σ',Two ct cb lb b n σ' σ' d ys Kp W'->(∀ g,Kp g->W'.heap[g]?=W.heap[g]?)->W.heap.size<=W'.heap.size->JW (S0 (X:=Wk G5 GU) (Sg:=List Int) Try.prog Fin GR).base (.Ii B nn) (G (c.finish (.bool true)) cs) W') :
    JL (S0 (X:=Wk G5 GU) (Sg:=List Int) Try.prog Fin GR).L (.Ii B nn) (G ((base 8).at ⟨#[.pointer (some ⟨ct,0,none⟩),.slice (some ⟨lb,0,none⟩) n n,v2,v3,v4,.pointer (some ⟨b,0,none⟩),v6,.bool true,.int .i64 0,.int .i64 was,.int .i64 0,.bool false,.int .i64 0,.int .i64 was,Af,Ah,Ai,Aj,Ak,Al,Am,Ao,Ap,Aq,Ar,Au,Av,Aw,Ay,Az,AA,AB,AJ,AL,AO,AP,AQ,AU,AV,AX,AY,AZ,A8,A9,Ba,Bb,Bc,Bf,Bh,Bj,Bl,Bp,Bq,Br,Bu,Bv,Bw,Bz,BD,BF,BG,BH,BI,BJ,BK,BL,BM,BN,BO,BP,BQ,BR,BS,BU,BX,BZ,Ca,Cb,Cc,Ce,Cg,Ci,Cj,Ck,Cm,Co,Cq,Cr,Ct,Cu,Cw,Cx,Cy,Cz,CB,CF,CG,CJ,CK,CO,CQ,CS,CU,CV,CW,CX,CY,CZ,C8,C9,Da,Db,Dc,Df,Dg,Dh,Di,Dj,Dk,Dl,Dm,Dn,Dp,Dq,Dt,Du,Dv,Dw,Dx,Dy,Dz,DC,DF,DI,DJ,DL,DN,DR,DT,DU,DV,DX,DY,DZ,D5,D7,D8,D9,Ea,Eb,Ec,Ed,Ee,Ef,Eh,Ei,Ej,El,Em,Eo,Ep,Er,Es,Et,Eu,Ev,Ew,Ey,Ez],[]⟩ (.code QM :: [.inBlock 0,.code Ow])) (c :: cs)) W:=by
  have HH:=Lib.hid (And.intro h (And.intro hJ (And.intro hw ha)));clear hJ hw ha;obtain ⟨f1,f2,f3⟩:=h.field;clear h;rw [Vk];refine GY stepG_seq ?_;simp only [YZ,QM,I4,Jh,JJ,Kt,Li,Mi,Try.f8];refine Hu fun _ hkk=>?_;refine HY.Jm (S:=(S0 (X:=Wk G5 GU) (Sg:=List Int) Try.prog Fin GR)) (b:=base 8) 0 7 [] (by simp) (by kernel_rfl) nE (rest:=[7,8,9,10,11,12]) rfl (by kernel_rfl) fun Hl Ky=>?_;have hh3:Hl.heap=W.heap:=by obtain ⟨τ,d,rfl⟩:=Ky;rfl
  replace f1:Hl.cell? ⟨b,1,none⟩=some (.int .i64 d.a):=by simp only [World.cell?,hh3] at f1 ⊢;exact f1
  replace f2:Hl.cell? ⟨b,2,none⟩=some (.int .i64 d.b):=by simp only [World.cell?,hh3] at f2 ⊢;exact f2
  replace f3:Hl.cell? ⟨b,3,none⟩=some (.int .i64 d.c):=by simp only [World.cell?,hh3] at f3 ⊢;exact f3
  have H3:=Lib.hid hh3;clear hh3;dsimp only [List.drop,List.take];gi_wp2;try refine ⟨rfl,?_⟩
  obtain ⟨h,hJ,hw,ha⟩:=HH.out;clear HH f1 f2 f3 Ky;show JL (S0 (X:=Wk G5 GU) (Sg:=List Int) Try.prog Fin GR).L _ _ Hl;try dsimp only
  refine JL.enter rfl rfl nE rfl Try.func24 (by kernel_rfl) (by kernel_rfl) ?_;walk_nrm;have h3:=h.same H3.out;refine R7 (Mr He (KO ct cb n (fun g=>g=lb\/g=b\/Kp g) Hl h3.fx) (.Ii B nn) (S0 (X:=Wk G5 GU) (Sg:=List Int) Try.prog Fin GR)) h3.mem (s:={ own:=fun _=>False,f:=5,res:=(σ,({},false)) }) (σ:=σ) (c:=d) hk ⟨h3.inv,fun b hb=>hb.elim⟩ ?hS trivial ?_
  case hS=>
    show IL He 5 _ σ=some _;exact tY hk ha hkn h3.len hw hq
  intro s' σ' W' e hA' hO hE _;have hE':(σ',(e,false))=s'.res:=hE;have hr:s'.res=((σ,({},false)):List Int × (An × Bool)):=hO.le;rw [hr] at hE';cases hE'
  obtain ⟨h4,Nb⟩:=h3.step hA'.inv;have J7:∀ g,Kp g->W'.heap[g]?=W.heap[g]?:=fun g hg=>by rw [Nb g hg,H3.out]
  have s4:W.heap.size<=W'.heap.size:=by have:=hO.size;rw [H3.out] at this;exact this
  rw [Frame.finish_at];show JL (S0 (X:=Wk G5 GU) (Sg:=List Int) Try.prog Fin GR).L (.Ii B nn) _ W';have HH:=Lib.hid (And.intro h4 (And.intro J7 (And.intro s4 (And.intro hJ (And.intro hw ha)))));obtain ⟨f1,f2,f3⟩:=h4.field;clear h h4 hO hA' hE hr J7 Nb s4 hJ H3 s' hw h3 ha;walk_nrm;cases hkk;iterate 5 (refine Hf ?_;walk_nrm)
  refine GY stepG_region_end ?_;refine HY.Ht (S:=(S0 (X:=Wk G5 GU) (Sg:=List Int) Try.prog Fin GR)) (b:=base 8) [7,10] Jy (by kernel_rfl) nE (by kernel_rfl) fun GQ ha=>?_;have hh:GQ.heap=W'.heap:=by obtain ⟨τ,d,rfl⟩:=ha;rfl
  replace f2:GQ.cell? ⟨b,2,none⟩=some (.int .i64 d.b):=by simp only [World.cell?,hh] at f2 ⊢;exact f2
  replace f3:GQ.cell? ⟨b,3,none⟩=some (.int .i64 d.c):=by simp only [World.cell?,hh] at f3 ⊢;exact f3
  have H5:=Lib.hid hh;clear hh ha f1;simp only [YI,QM,I4,Jh,JJ,Kt,Li,Mi,Try.f8];gi_wp2;all_goals
    refine Hg ?_;refine GY stepG_inBlock ?_;obtain ⟨h4,J7,s4,hJ,hw,ha⟩:=HH.out;exact KN (h4.same H5.out) ha hkn (by rw [hw];exact (Na σ k).symm) (fun g hg=>by simp only [World.drew,H5.out];exact J7 g hg) (by simp only [World.drew,H5.out];exact s4) hJ
end
end
section
section
variable {Fin:Iw}{GR:Ig Try.prog Fin}
variable {B:Nat->Bool}{W:World}{nn:Nat}{c:Frame}{cs:List Frame}
variable {v0 v1 v2 v3 v4 v5 v6 v7 v8 v9 Aa Ab Ac Ae Af Ah Ai Aj Ak Al Am Ao Ap Aq Ar Au Av Aw Ay Az AA AB AJ AL AO AP AQ AU AV AX AY AZ A8 A9 Ba Bb Bc Bf Bh Bj Bl Bp Bq Br Bu Bv Bw Bz BD BF BG BH BI BJ BK BL BM BN BO BP BQ BR BS BU BX BZ Ca Cb Cc Ce Cg Ci Cj Ck Cm Co Cq Cr Ct Cu Cw Cx Cy Cz CB CF CG CJ CK CO CQ CS CU CV CW CX CY CZ C8 C9 Da Db Dc Df Dg Dh Di Dj Dk Dl Dm Dn Dp Dq Dt Du Dv Dw Dx Dy Dz DC DF DI DJ DL DN DR DT DU DV DX DY DZ D5 D7 D8 D9 Ea Eb Ec Ed Ee Ef Eh Ei Ej El Em Eo Ep Er Es Et Eu Ev Ew Ey Ez:Value}
theorem ZX {was:Int}{ct cb lb b n k:Nat}{σ:List Int}{d:G5}{ys:Value}{Kp:Nat->Prop}(h:Two ct cb lb b n σ σ d ys Kp W)(hk:d.kind=5)(ho:inn n d.a=false)(hJ:∀ W' σ',Two ct cb lb b n σ' σ' d ys Kp W'->(∀ g,Kp g->W'.heap[g]?=W.heap[g]?)->W.heap.size<=W'.heap.size->JW (S0 (X:=Wk G5 GU) (Sg:=List Int) Try.prog Fin GR).base (.Ii B nn) (G (c.finish (.bool true)) cs) W') :
    JL (S0 (X:=Wk G5 GU) (Sg:=List Int) Try.prog Fin GR).L (.Ii B nn) (G ((base 8).at ⟨#[.pointer (some ⟨ct,0,none⟩),.slice (some ⟨lb,0,none⟩) n n,v2,v3,v4,.pointer (some ⟨b,0,none⟩),v6,.bool false,.int .i64 0,.int .i64 0,.int .i64 0,.bool false,.int .i64 0,.int .i64 0,Af,Ah,Ai,Aj,Ak,Al,Am,Ao,Ap,Aq,Ar,Au,Av,Aw,Ay,Az,AA,AB,AJ,AL,AO,AP,AQ,AU,AV,AX,AY,AZ,A8,A9,Ba,Bb,Bc,Bf,Bh,Bj,Bl,Bp,Bq,Br,Bu,Bv,Bw,Bz,BD,BF,BG,BH,BI,BJ,BK,BL,BM,BN,BO,BP,BQ,BR,BS,BU,BX,BZ,Ca,Cb,Cc,Ce,Cg,Ci,Cj,Ck,Cm,Co,Cq,Cr,Ct,Cu,Cw,Cx,Cy,Cz,CB,CF,CG,CJ,CK,CO,CQ,CS,CU,CV,CW,CX,CY,CZ,C8,C9,Da,Db,Dc,Df,Dg,Dh,Di,Dj,Dk,Dl,Dm,Dn,Dp,Dq,Dt,Du,Dv,Dw,Dx,Dy,Dz,DC,DF,DI,DJ,DL,DN,DR,DT,DU,DV,DX,DY,DZ,D5,D7,D8,D9,Ea,Eb,Ec,Ed,Ee,Ef,Eh,Ei,Ej,El,Em,Eo,Ep,Er,Es,Et,Eu,Ev,Ew,Ey,Ez],[]⟩ (.code QM :: [.inBlock 0,.code Ow])) (c :: cs)) W:=by
  have HH:=Lib.hid (And.intro h (And.intro hJ True.intro));clear hJ;obtain ⟨f1,f2,f3⟩:=h.field;clear h;rw [Vk];refine GY stepG_seq ?_;simp only [YZ,QM,I4,Jh,JJ,Kt,Li,Mi,Try.f8];refine Hu fun _ hkk=>?_;refine HY.Jm (S:=(S0 (X:=Wk G5 GU) (Sg:=List Int) Try.prog Fin GR)) (b:=base 8) 0 7 [] (by simp) (by kernel_rfl) nE (rest:=[7,8,9,10,11,12]) rfl (by kernel_rfl) fun Hl Ky=>?_;have hh3:Hl.heap=W.heap:=by obtain ⟨τ,d,rfl⟩:=Ky;rfl
  replace f1:Hl.cell? ⟨b,1,none⟩=some (.int .i64 d.a):=by simp only [World.cell?,hh3] at f1 ⊢;exact f1
  replace f2:Hl.cell? ⟨b,2,none⟩=some (.int .i64 d.b):=by simp only [World.cell?,hh3] at f2 ⊢;exact f2
  replace f3:Hl.cell? ⟨b,3,none⟩=some (.int .i64 d.c):=by simp only [World.cell?,hh3] at f3 ⊢;exact f3
  have H3:=Lib.hid hh3;clear hh3;dsimp only [List.drop,List.take];gi_wp2;try refine ⟨rfl,?_⟩
  obtain ⟨h,hJ,hw⟩:=HH.out;clear HH f1 f2 f3 Ky;show JL (S0 (X:=Wk G5 GU) (Sg:=List Int) Try.prog Fin GR).L _ _ Hl;try dsimp only
  refine JL.enter rfl rfl nE rfl Try.func24 (by kernel_rfl) (by kernel_rfl) ?_;walk_nrm;have h3:=h.same H3.out;refine R7 (Mr He (KO ct cb n (fun g=>g=lb\/g=b\/Kp g) Hl h3.fx) (.Ii B nn) (S0 (X:=Wk G5 GU) (Sg:=List Int) Try.prog Fin GR)) h3.mem (s:={ own:=fun _=>False,f:=5,res:=(σ,({ err:=41 },false)) }) (σ:=σ) (c:=d) hk ⟨h3.inv,fun b hb=>hb.elim⟩ ?hS trivial ?_
  case hS=>
    show IL He 5 _ σ=some _;exact O9 (by rw [h3.len];exact ho)
  intro s' σ' W' e hA' hO hE _;have hE':(σ',(e,false))=s'.res:=hE;have hr:s'.res=((σ,({ err:=41 },false)):List Int × (An × Bool)):=hO.le;rw [hr] at hE';cases hE'
  obtain ⟨h4,Nb⟩:=h3.step hA'.inv;have J7:∀ g,Kp g->W'.heap[g]?=W.heap[g]?:=fun g hg=>by rw [Nb g hg,H3.out]
  have s4:W.heap.size<=W'.heap.size:=by have:=hO.size;rw [H3.out] at this;exact this
  rw [Frame.finish_at];show JL (S0 (X:=Wk G5 GU) (Sg:=List Int) Try.prog Fin GR).L (.Ii B nn) _ W';have HH:=Lib.hid (And.intro h4 (And.intro J7 (And.intro s4 (And.intro hJ hw))));obtain ⟨f1,f2,f3⟩:=h4.field;clear h h4 hO hA' hE hr J7 Nb s4 hJ H3 s' hw h3;walk_nrm;cases hkk;iterate 5 (refine Hf ?_;walk_nrm)
  refine GY stepG_region_end ?_;refine HY.Ht (S:=(S0 (X:=Wk G5 GU) (Sg:=List Int) Try.prog Fin GR)) (b:=base 8) [7,10] Jy (by kernel_rfl) nE (by kernel_rfl) fun GQ ha=>?_;have hh:GQ.heap=W'.heap:=by obtain ⟨τ,d,rfl⟩:=ha;rfl
  replace f2:GQ.cell? ⟨b,2,none⟩=some (.int .i64 d.b):=by simp only [World.cell?,hh] at f2 ⊢;exact f2
  replace f3:GQ.cell? ⟨b,3,none⟩=some (.int .i64 d.c):=by simp only [World.cell?,hh] at f3 ⊢;exact f3
  have H5:=Lib.hid hh;clear hh ha f1;simp only [YI,QM,I4,Jh,JJ,Kt,Li,Mi,Try.f8];gi_wp2;all_goals
    refine Hg ?_;refine GY stepG_inBlock ?_;obtain ⟨h4,J7,s4,hJ,hw⟩:=HH.out;exact Oj (k:=0) (h4.same H5.out) (fun g hg=>by simp only [World.drew,H5.out];exact J7 g hg) (by simp only [World.drew,H5.out];exact s4) hJ
end
end
end Go.Proofs.Ytkdhnbcdbnpmhaa
