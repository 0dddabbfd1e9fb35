/-
  Part 33 of the proof that CellMeets returns true, and leaves its arguments as they were, for every input whose reading is of bulk at most 1048576. No further condition.
-/
import Derived.Test.YticecinjcajmcaaR00
import Derived.Test.YticecinjcajmcaaR32
import Derived.Test.YticecinjcajmcaaRows
import Derived.Deep.Slices
import Derived.Lib.SmallJoins
import Derived.Conc.LeavingOf
import Derived.JoinedCond
set_option linter.unusedVariables false
set_option linter.unusedSectionVars false
set_option linter.unusedSimpArgs false
set_option maxHeartbeats 4000000
set_option maxRecDepth 100000
noncomputable section
namespace Go.Proofs.Yticecinjcajmcaa
open Go Go.Conc Go.LT Go.LC Go.LK Go.RowKit
open BA TU
section
def OP:Array Oper:=match zN with | .region _ o _=>o | _=>#[]
theorem U3 {main:Bool}{Γ:Type}{S:EL Try.prog main Γ}{γ:Γ}{b:Frame}{ds:List Deferred}{k:List Item}{cs:List Frame}{tm:Array Value}{W:World}(h:JL S.L γ (G (b.at ⟨tm,ds⟩ k) cs) W):aR S γ b ds k cs Exit.normal ⟨tm,[]⟩ W:=h
theorem Zt:∀ g∈[6],@Lets (Host.only 4) Try.prog g:=fun g hg=>by simp only [List.mem_cons,List.not_mem_nil,or_false] at hg;obtain rfl:=hg;exact ⟨by kernel_rfl,.inl ⟨_,_,Try.func6,by kernel_rfl,rfl,by kernel_rfl⟩⟩
section
variable {Fin:FE}{Ea:E5 Try.prog Fin}
variable {B:Nat->Bool}{W:World}{nn:Nat}{cs:List Frame}
variable {v0 v1 v2 v3 v4 v5 v6 v7 v8 v9 Aa Ab Ac Ae Af Ah Ai Aj Ak Al Am Ao Ap Ar Au Av Aw Ay Az AA AB AJ AL AO AP AQ AU AV AX AY AZ A8 A9 Ba Bb Bc Bf Bh Bj Bl Bp Bq Br Bu Bv Bw Bz BD BF BG BH BI BJ BK BL BM BN BO BP BQ BR BS BU BX BZ Ca Cb Cc Ce Cg Ci Cj Ck Cm Co Cq Cr Ct Cu Cw Cx Cy Cz CB CF CG CJ CK:Value}
variable {Kp:Nat->Prop}{wa ta ya fa:Option Addr}{plans:List (List Ef)}{turns hl:List Int}{Km tc yc fl fc cb:Nat}{u nv:Int}
theorem Aa1 (hcap:nn+8 < 1000000)(hB:∀ g,B g=true->g < W.heap.size)(Gi:∀ g,Kp g->(∃ c e f,W.heap[g]?=some (.cells c e f))/\B g=false)(hg:∀ B' W' (Df Dg:Value),(∀ g,B' g=true->B g=true\/W.heap.size<=g)->(∀ g,B' g=true->g < W'.heap.size)->(∀ g,Kp g->W'.heap[g]?=W.heap[g]?)->W.heap.size<=W'.heap.size->JL (S0 (X:=Wk Ef Ec) (Sg:=List Int) Try.prog Fin Ea).L (.Gp B' (nn+2)) (G ((base 4).at ⟨#[v0,v1,v2,v3,v4,.pointer (some ⟨cb,0,none⟩),v6,v7,v8,v9,Aa,Ab,Ac,Ae,Df,Dg,Ai,Aj,Ak,Al,Am,Ao,Ap,Ar,Au,Av,Aw,Ay,Az,AA,AB,AJ,AL,AO,AP,AQ,AU,AV,AX,AY,AZ,A8,A9,Ba,Bb,Bc,Bf,Bh,Bj,Bl,Bp,Bq,Br,Bu,Bv,Bw,Bz,BD,BF,BG,BH,BI,BJ,BK,BL,BM,BN,BO,BP,BQ,BR,BS,BU,BX,BZ,Ca,Cb,Cc,Ce,Cg,Ci,Cj,Ck,Cm,Co,Cq,Cr,Ct,Cu,Cw,Cx,Cy,Cz,CB,CF,CG,CJ,CK],[]⟩ (.code mk2 :: [])) cs) W') :
    JL (S0 (X:=Wk Ef Ec) (Sg:=List Int) Try.prog Fin Ea).L (.Gp B nn) (G ((base 4).at ⟨#[v0,v1,v2,v3,v4,.pointer (some ⟨cb,0,none⟩),v6,v7,v8,v9,Aa,Ab,Ac,Ae,Af,Ah,Ai,Aj,Ak,Al,Am,Ao,Ap,Ar,Au,Av,Aw,Ay,Az,AA,AB,AJ,AL,AO,AP,AQ,AU,AV,AX,AY,AZ,A8,A9,Ba,Bb,Bc,Bf,Bh,Bj,Bl,Bp,Bq,Br,Bu,Bv,Bw,Bz,BD,BF,BG,BH,BI,BJ,BK,BL,BM,BN,BO,BP,BQ,BR,BS,BU,BX,BZ,Ca,Cb,Cc,Ce,Cg,Ci,Cj,Ck,Cm,Co,Cq,Cr,Ct,Cu,Cw,Cx,Cy,Cz,CB,CF,CG,CJ,CK],[]⟩ (.code mk1 :: [])) cs) W:=by
  have HK:=Lib.hid hg;clear hg;rw [mq];refine Ei ?_;simp only [me1,Try.f4];refine Ei ?_;refine EH fun _ hkk=>?_;refine JL.enter rfl rfl nE rfl Try.func5 zKR zKR ?_;walk_nrm;refine Z5 (Kp:=Kp) hcap hB Gi fun B' W' k1 k2 k3 k4=>?_;rw [Frame.finish_at];show JL (S0 (X:=Wk Ef Ec) (Sg:=List Int) Try.prog Fin Ea).L _ _ W';have ze:=Lib.hid (zAI k1 (zAI k2 (zAI k3 k4)));clear k1 k2 k3 k4 hB Gi;walk_nrm
  (refine Eo ?_;walk_nrm)
  refine EB ?_;cases hkk;refine JL.Ey rfl ?_;refine Er stepG_skip ?_;exact HK.out B' W' _ _ ze.out.1 ze.out.2.1 ze.out.2.2.1 ze.out.2.2.2
theorem Adn (hC:FX Kp wa ta ya plans turns hl W)(hc:W.heap[cb]?=some (.cells #[.slice wa plans.length Km,.slice ta turns.length tc,.slice ya hl.length yc,.int .i64 u] 25 (0,0)))(hg:∀ W' (Dh Di Dj Dk Dl Dm Dn Dp:Value),plans.length<=16->turns.length<=20000->hl.length<=1000->fl<=1000->(∀ g,g < W.heap.size->W'.heap[g]?=W.heap[g]?)->W.heap.size<=W'.heap.size->JL (S0 (X:=Wk Ef Ec) (Sg:=List Int) Try.prog Fin Ea).L (.Gp B nn) (G ((base 4).at ⟨#[v0,.slice fa fl fc,v2,v3,v4,.pointer (some ⟨cb,0,none⟩),v6,v7,v8,v9,Aa,Ab,Ac,Ae,Af,Ah,Dh,Di,Dj,Dk,Dl,Dm,Dn,Dp,Au,Av,Aw,Ay,Az,AA,AB,AJ,AL,AO,AP,AQ,AU,AV,AX,AY,AZ,A8,A9,Ba,Bb,Bc,Bf,Bh,Bj,Bl,Bp,Bq,Br,Bu,Bv,Bw,Bz,BD,BF,BG,BH,BI,BJ,BK,BL,BM,BN,BO,BP,BQ,BR,BS,BU,BX,BZ,Ca,Cb,Cc,Ce,Cg,Ci,Cj,Ck,Cm,Co,Cq,Cr,Ct,Cu,Cw,Cx,Cy,Cz,CB,CF,CG,CJ,CK],[]⟩ (.code mk3 :: [])) cs) W')(hJ:∀ W' tm Y,MeR tm->(∀ g,g < W.heap.size->W'.heap[g]?=W.heap[g]?)->W.heap.size<=W'.heap.size->JL (S0 (X:=Wk Ef Ec) (Sg:=List Int) Try.prog Fin Ea).L (.Gp B nn) (G { (base 4).at ⟨tm,[]⟩ Y with mode:=.returning } cs) W') :
    JL (S0 (X:=Wk Ef Ec) (Sg:=List Int) Try.prog Fin Ea).L (.Gp B nn) (G ((base 4).at ⟨#[v0,.slice fa fl fc,v2,v3,v4,.pointer (some ⟨cb,0,none⟩),v6,v7,v8,v9,Aa,Ab,Ac,Ae,Af,Ah,Ai,Aj,Ak,Al,Am,Ao,Ap,Ar,Au,Av,Aw,Ay,Az,AA,AB,AJ,AL,AO,AP,AQ,AU,AV,AX,AY,AZ,A8,A9,Ba,Bb,Bc,Bf,Bh,Bj,Bl,Bp,Bq,Br,Bu,Bv,Bw,Bz,BD,BF,BG,BH,BI,BJ,BK,BL,BM,BN,BO,BP,BQ,BR,BS,BU,BX,BZ,Ca,Cb,Cc,Ce,Cg,Ci,Cj,Ck,Cm,Co,Cq,Cr,Ct,Cu,Cw,Cx,Cy,Cz,CB,CF,CG,CJ,CK],[]⟩ (.code mk2 :: [])) cs) W:=by
  rw [nR];refine Ei ?_;refine EL.EJ (S:=(S0 (X:=Wk Ef Ec) (Sg:=List Int) Try.prog Fin Ea)) (b:=base 4) [6] Zt zKR nE zKR fun W₁ ha=>?_;have hh:W₁.heap=W.heap:=by obtain ⟨τ,d,rfl⟩:=ha;rfl
  clear ha;replace hC:FX Kp wa ta ya plans turns hl W₁:=hC.old fun g _=>by rw [hh]
  rw [← hh] at hc;have c0:=EP hc 0;have c1:=EP hc 1;have c2:=EP hc 2;have c3:=EP hc 3;simp only [List.getElem?_toArray,List.getElem?_cons_zero,List.getElem?_cons_succ] at c0 c1 c2 c3;have HH:=Lib.hid (zAI hC (zAI @hg (zAI @hJ hh)));clear hC hg hJ hh hc;simp only [me2,Try.f4];by_cases hf:(1000:Int) < (fl:Int)
  . gi_wp2_with (gi_at_call 6;fail)
    refine (dL _ HH.out.1 Km tc yc u).mono ?_;rintro e w1 ⟨b,rfl,hb,hB⟩;have HB:=Lib.hid (zAI hb hB);clear hb hB c0 c1 c2 c3;cases b with
    | true=>
      gi_wp2;intro Y;obtain ⟨-,-,hJ,hh⟩:=HH.out;have hB:=HB.out.2;have hs:=congrArg Array.size hh;exact hJ _ _ Y (fun w=>by kernel_rfl) (fun g hg=>by rw [hB.block g (by rw [hs];exact hg),hh]) (by have:=hB.size;omega)
    | false=>
      gi_wp2;intro Y;obtain ⟨-,-,hJ,hh⟩:=HH.out;have hB:=HB.out.2;have hs:=congrArg Array.size hh;exact hJ _ _ Y (fun w=>by kernel_rfl) (fun g hg=>by rw [hB.block g (by rw [hs];exact hg),hh]) (by have:=hB.size;omega)
  . gi_wp2_with (gi_at_call 6;fail)
    refine (dL _ HH.out.1 Km tc yc u).mono ?_;rintro e w1 ⟨b,rfl,hb,hB⟩;have HB:=Lib.hid (zAI hb hB);clear hb hB c0 c1 c2 c3;cases b with
    | true=>
      gi_wp2;refine U3 ?_;obtain ⟨-,hg,-,hh⟩:=HH.out;obtain ⟨h1,hB⟩:=HB.out;obtain ⟨h1,h2,h3⟩:=h1 (by trivial);have hs:=congrArg Array.size hh;exact hg _ _ _ _ _ _ _ _ _ h1 h2 h3 zOM (fun g hg=>by rw [hB.block g (by rw [hs];exact hg),hh]) (by have:=hB.size;omega)
    | false=>
      gi_wp2;intro Y;obtain ⟨-,-,hJ,hh⟩:=HH.out;have hB:=HB.out.2;have hs:=congrArg Array.size hh;exact hJ _ _ Y (fun w=>by kernel_rfl) (fun g hg=>by rw [hB.block g (by rw [hs];exact hg),hh]) (by have:=hB.size;omega)
theorem tJ {ops:Array Oper}(hops:ops=OP){aa oa va:Option Addr}{an ac on oc vn vc:Nat}{st e:Int}{cut:Bool}(hg:∀ W' (rb:Nat) (w8 w9 Dq Dt Du Dv Dw Dx Dy Dz:Value),W'.heap[rb]?=some (.cells #[.slice aa an ac,.slice oa on oc,.int .i64 st,.bool cut] 31 (0,0))->(∀ g,g < W.heap.size->W'.heap[g]?=W.heap[g]?)->W.heap.size<=W'.heap.size->JL (S0 (X:=Wk Ef Ec) (Sg:=List Int) Try.prog Fin Ea).L (.Gp B nn) (G ((base 4).at ⟨#[v0,v1,v2,v3,v4,.pointer (some ⟨cb,0,none⟩),v6,.pointer (some ⟨rb,0,none⟩),w8,w9,Aa,Ab,Ac,Ae,Af,Ah,Ai,Aj,Ak,Al,Am,Ao,Ap,Ar,Dq,Dt,Du,Dv,Dw,Dx,Dy,Dz,AL,AO,AP,AQ,AU,AV,AX,AY,AZ,A8,A9,Ba,Bb,Bc,Bf,Bh,Bj,Bl,Bp,Bq,Br,Bu,Bv,Bw,Bz,BD,BF,BG,BH,BI,BJ,BK,BL,BM,BN,BO,BP,BQ,BR,BS,BU,BX,BZ,Ca,Cb,Cc,Ce,Cg,Ci,Cj,Ck,Cm,Co,Cq,Cr,Ct,Cu,Cw,Cx,Cy,Cz,CB,CF,CG,CJ,CK],[]⟩ (.code mk4 :: [])) cs) W') :
    JL (S0 (X:=Wk Ef Ec) (Sg:=List Int) Try.prog Fin Ea).L (.Gp B nn) (G ((base 4).at ⟨#[v0,v1,v2,v3,v4,.pointer (some ⟨cb,0,none⟩),v6,v7,v8,v9,Aa,Ab,Ac,Ae,Af,Ah,Ai,Aj,Ak,Al,Am,Ao,Ap,Ar,Au,Av,Aw,Ay,.tuple #[.agg #[.slice aa an ac,.slice oa on oc,.int .i64 st,.bool cut],.slice va vn vc,.int .i64 e],AA,AB,AJ,AL,AO,AP,AQ,AU,AV,AX,AY,AZ,A8,A9,Ba,Bb,Bc,Bf,Bh,Bj,Bl,Bp,Bq,Br,Bu,Bv,Bw,Bz,BD,BF,BG,BH,BI,BJ,BK,BL,BM,BN,BO,BP,BQ,BR,BS,BU,BX,BZ,Ca,Cb,Cc,Ce,Cg,Ci,Cj,Ck,Cm,Co,Cq,Cr,Ct,Cu,Cw,Cx,Cy,Cz,CB,CF,CG,CJ,CK],[]⟩ (.inRegion ops [4,5,6,7,8,9,10,11] :: .code mk4 :: [])) cs) W:=by
  subst hops;have HG:=Lib.hid @hg;clear hg;simp only [OP,zN,Try.f4];refine EL.GU (S:=(S0 (X:=Wk Ef Ec) (Sg:=List Int) Try.prog Fin Ea)) (b:=base 4) 4 [] (by simp) zKR nE rfl zKR fun W₅ TH=>?_;have H5:=Lib.hid (show W₅.heap=W.heap by obtain ⟨τ,d,rfl⟩:=TH;rfl);dsimp only [List.drop];gi_wp2;try refine ⟨rfl,?_⟩
  generalize Ro:World.alloc W₅ _=W6;have q6:W6.heap=W.heap.push (.cells #[.slice aa an ac,.slice oa on oc,.int .i64 st,.bool cut] 31 (0,0)):=by rw [← Ro,← H5.out];rfl
  clear Ro TH;show JL (S0 (X:=Wk Ef Ec) (Sg:=List Int) Try.prog Fin Ea).L _ _ W6;try dsimp only
  refine Er stepG_region_end ?_;have o1:∀ g,g < W.heap.size->W6.heap[g]?=W.heap[g]?:=fun g hg=>by rw [q6,Array.getElem?_push,if_neg zOM]
  have s1:W6.heap.size=W.heap.size+1:=by rw [q6];simp
  have hs5:W₅.heap.size=W.heap.size:=by rw [H5.out]
  have n1:W6.heap[W₅.heap.size]?=some (.cells #[.slice aa an ac,.slice oa on oc,.int .i64 st,.bool cut] 31 (0,0)):=by rw [q6,hs5,Array.getElem?_push,if_pos rfl]
  exact HG.out W6 _ _ _ _ _ _ _ _ _ _ _ n1 o1 zOM
theorem Aap (hc:W.heap[cb]?=some (.cells #[.slice wa plans.length Km,.slice ta turns.length tc,.slice ya hl.length yc,.int .i64 u] 25 (0,0)))(hg:∀ W' (Dt Du Dv:Value),W'.heap=W.heap->JL (S0 (X:=Wk Ef Ec) (Sg:=List Int) Try.prog Fin Ea).L (.Gp B nn) (G (Frame.enter Try.prog 7 #[.int .i64 nv,.slice fa fl fc,.agg #[.slice wa plans.length Km,.slice ta turns.length tc,.slice ya hl.length yc,.int .i64 u]] .normal) ((base 4).at ⟨#[.int .i64 nv,.slice fa fl fc,v2,v3,v4,.pointer (some ⟨cb,0,none⟩),v6,v7,v8,v9,Aa,Ab,Ac,Ae,Af,Ah,Ai,Aj,Ak,Al,Am,Ao,Ap,Ar,Au,Dt,Du,Dv,Az,AA,AB,AJ,AL,AO,AP,AQ,AU,AV,AX,AY,AZ,A8,A9,Ba,Bb,Bc,Bf,Bh,Bj,Bl,Bp,Bq,Br,Bu,Bv,Bw,Bz,BD,BF,BG,BH,BI,BJ,BK,BL,BM,BN,BO,BP,BQ,BR,BS,BU,BX,BZ,Ca,Cb,Cc,Ce,Cg,Ci,Cj,Ck,Cm,Co,Cq,Cr,Ct,Cu,Cw,Cx,Cy,Cz,CB,CF,CG,CJ,CK],[]⟩ (.inRegion OP [3,4,5,6,7,8,9,10,11] :: .code mk4 :: []) :: cs)) W') :
    JL (S0 (X:=Wk Ef Ec) (Sg:=List Int) Try.prog Fin Ea).L (.Gp B nn) (G ((base 4).at ⟨#[.int .i64 nv,.slice fa fl fc,v2,v3,v4,.pointer (some ⟨cb,0,none⟩),v6,v7,v8,v9,Aa,Ab,Ac,Ae,Af,Ah,Ai,Aj,Ak,Al,Am,Ao,Ap,Ar,Au,Av,Aw,Ay,Az,AA,AB,AJ,AL,AO,AP,AQ,AU,AV,AX,AY,AZ,A8,A9,Ba,Bb,Bc,Bf,Bh,Bj,Bl,Bp,Bq,Br,Bu,Bv,Bw,Bz,BD,BF,BG,BH,BI,BJ,BK,BL,BM,BN,BO,BP,BQ,BR,BS,BU,BX,BZ,Ca,Cb,Cc,Ce,Cg,Ci,Cj,Ck,Cm,Co,Cq,Cr,Ct,Cu,Cw,Cx,Cy,Cz,CB,CF,CG,CJ,CK],[]⟩ (.code mk3 :: [])) cs) W:=by
  have HG:=Lib.hid @hg;clear hg;rw [nL];refine Ei ?_;simp only [zN,Try.f4];refine EH fun _ hkk=>?_;refine EL.KU (S:=(S0 (X:=Wk Ef Ec) (Sg:=List Int) Try.prog Fin Ea)) (b:=base 4) 0 3 [] (by simp) zKR nE (rest:=[3,4,5,6,7,8,9,10,11]) rfl zKR fun W₃ LA=>?_;have hh3:W₃.heap=W.heap:=by obtain ⟨τ,d,rfl⟩:=LA;rfl
  rw [← hh3] at hc;have c0:=EP hc 0;have c1:=EP hc 1;have c2:=EP hc 2;have c3:=EP hc 3;simp only [List.getElem?_toArray,List.getElem?_cons_zero,List.getElem?_cons_succ] at c0 c1 c2 c3;have HH:=Lib.hid hh3;clear hh3 hc;dsimp only [List.drop,List.take];gi_wp2;try refine ⟨rfl,?_⟩
  have hh3:=HH.out;clear HH c0 c1 c2 c3 LA;show JL (S0 (X:=Wk Ef Ec) (Sg:=List Int) Try.prog Fin Ea).L _ _ W₃;try dsimp only
  cases hkk;refine JL.enter rfl rfl nE rfl Try.func7 zKR zKR ?_;walk_nrm;exact HG.out W₃ _ _ _ hh3
end
end
section
section
variable {Fin:FE}{Ea:E5 Try.prog Fin}
variable {B:Nat->Bool}{W:World}{nn:Nat}{cs:List Frame}
variable {Kp:Nat->Prop}{wa ta ya fa:Option Addr}{plans:List (List Ef)}{turns hl fs:List Int}{Km tc yc fl fc fb fo:Nat}{u nv:Int}
theorem ay {pg po:Nat}(hC:FX Kp (some ⟨pg,po,none⟩) ta ya plans turns hl W)(hpl:plans.length<=1000)(h64:∀ pl∈plans,pl.length<=64){Sg:Type}(m:Mem Sg)(hm:∀ σ W',m.Inv σ W'->∀ g,Kp g->W'.heap[g]?=W.heap[g]?) :
    Kh m pg po ((List.range plans.length).map fun i=>(W.cell? ⟨pg,po+i,none⟩).getD undef) plans:=by
  refine ⟨by simp,hpl,fun σ W' hI i cv hi=>?_,fun i cv pl hi hp σ W' hI=>?_⟩
  . have hil:i < plans.length:=by have:=(List.getElem?_eq_some_iff.1 hi).1;simpa using this
    obtain ⟨b,o,ca,cc,e,hb,hml,p1,p2⟩:=hC.work i _ (List.getElem?_eq_getElem hil);cases e
    have hv:cv=.slice ca plans[i].length cc:=by rw [List.getElem?_map,List.getElem?_range hil] at hi;have:=Option.some.inj hi;rw [← this];show (W.cell? ⟨pg,po+i,none⟩).getD undef=_;rw [p1];rfl
    rw [hv,← p1];simp only [World.cell?,hm σ W' hI pg hb]
  . obtain ⟨b,o,ca,cc,e,hb,hml,p1,p2⟩:=hC.work i pl hp;cases e
    have hil:i < plans.length:=(List.getElem?_eq_some_iff.1 hp).1;have hv:cv=.slice ca pl.length cc:=by rw [List.getElem?_map,List.getElem?_range hil] at hi;have:=Option.some.inj hi;rw [← this];show (W.cell? ⟨pg,po+i,none⟩).getD undef=_;rw [p1];rfl
    refine ⟨ca,cc,hv,by have:=h64 pl (List.mem_of_getElem? hp);omega,fun j c hc=>?_⟩;obtain ⟨g,o',pa,pn,pc,h1,h2,h3⟩:=p2 j c hc;obtain ⟨q0,q1,q2,q3,q4⟩:=h3.same (hm σ W' hI g h2);exact ⟨g,o',pa,pn,pc,h1,q0,q1,q2,q3,q4⟩
theorem Tp (hcap:nn+16 < 1000000)(hB:∀ g,B g=true->g < W.heap.size)(Gi:∀ g,Kp g->(∃ c e f,W.heap[g]?=some (.cells c e f))/\B g=false)(hC:FX Kp wa ta ya plans turns hl W)(hfl:fs.length=fl)(hfs:∀ (i:Nat) x,fs[i]?=some x->fa=some ⟨fb,fo,none⟩/\Kp fb/\W.cell? ⟨fb,fo+i,none⟩=some (.int .i64 x))(hR:Reads W (.slice ta turns.length tc) (turns.map (Value.int .i64)))(VP:0 < turns.length->∀ g,(Value.slice ta turns.length tc).ownBlock=some g->Kp g)(hbig:∀ pl∈plans,pl.length<=1000000000)(hJ:∀ B' nn' W' tm Y,MeR tm->(∀ g,B' g=true->B g=true\/W.heap.size<=g)->(∀ g,Kp g->W'.heap[g]?=W.heap[g]?)->W.heap.size<=W'.heap.size->JL (S0 (X:=Wk Ef Ec) (Sg:=List Int) Try.prog Fin Ea).L (.Gp B' nn') (G { (base 4).at ⟨tm,[]⟩ Y with mode:=.returning } cs) W') :
    JW (S0 (X:=Wk Ef Ec) (Sg:=List Int) Try.prog Fin Ea).base (.Gp B nn) (G (Frame.enter Try.prog 4 #[.int .i64 nv,.slice fa fl fc,.agg #[.slice wa plans.length Km,.slice ta turns.length tc,.slice ya hl.length yc,.int .i64 u]] .normal) cs) W:=by
  rw [enter_at _ Try.func4 gD,show Try.f4.ntmps=98 from by kernel_rfl];walk_nrm;show JL (S0 (X:=Wk Ef Ec) (Sg:=List Int) Try.prog Fin Ea).L _ _ W;refine Ei ?_;refine EL.EJ (S:=(S0 (X:=Wk Ef Ec) (Sg:=List Int) Try.prog Fin Ea)) (b:=base 4) [] (by simp) zKR nE zKR fun Wa ha=>?_;have hh:Wa.heap=W.heap:=by obtain ⟨τ,d,rfl⟩:=ha;rfl
  have HK:=Lib.hid (zAI hB (zAI Gi (zAI hC (zAI hfs (zAI hR (zAI VP (zAI hbig (zAI @hJ (zAI hh (zAI hcap hfl))))))))));clear ha hB Gi hC hfs hR VP hbig hJ hh hcap hfl;simp only [me0,Try.f4];gi_wp2;refine U3 ?_;obtain ⟨hB,Gi,hC,hfs,hR,VP,hbig,hJ,hh,hcap,hfl⟩:=HK.out;clear HK;have lt:∀ {W:World} {g:Nat} {o},W.heap[g]?=some o->g < W.heap.size:=fun h=>(zGE h).1;generalize hW1:World.alloc Wa _=W1;have q1:W1.heap=W.heap.push (.cells #[.slice wa plans.length Km,.slice ta turns.length tc,.slice ya hl.length yc,.int .i64 u] 25 (0,0)):=by rw [← hW1,← hh];rfl
  have hs0:Wa.heap.size=W.heap.size:=by rw [hh]
  rw [hs0];clear hW1 hs0 hh;have o1:∀ g,g < W.heap.size->W1.heap[g]?=W.heap[g]?:=fun g hg=>by rw [q1,Array.getElem?_push,if_neg zOM]
  have s1:W1.heap.size=W.heap.size+1:=by rw [q1];simp
  have c1:W1.heap[W.heap.size]?=some (.cells #[.slice wa plans.length Km,.slice ta turns.length tc,.slice ya hl.length yc,.int .i64 u] 25 (0,0)):=by rw [q1,Array.getElem?_push,if_pos rfl]
  have hkl:∀ g,Kp g->g < W.heap.size:=fun g hg=>by obtain ⟨⟨x,y,z,hx⟩,_⟩:=Gi g hg;exact lt hx
  have Acw:∀ g,(Kp g\/g=W.heap.size)->(∃ c e f,W1.heap[g]?=some (.cells c e f))/\B g=false:=fun g hg=>by
    rcases hg with hg|rfl
    . obtain ⟨⟨x,y,z,hx⟩,hb⟩:=Gi g hg;exact ⟨⟨x,y,z,(o1 g (lt hx)).trans hx⟩,hb⟩
    . refine ⟨⟨_,_,_,c1⟩,?_⟩;cases hb:B W.heap.size with
      | false=>rfl
      | true=>have:=hB _ hb;omega
  refine Aa1 (Kp:=fun g=>Kp g\/g=W.heap.size) zOM (fun g hg=>by have:=hB g hg;omega) Acw fun B' Wb Df Dg k0 k0' k1 k2=>?_;have ob:∀ g,Kp g->Wb.heap[g]?=W.heap[g]?:=fun g hg=>(k1 g (.inl hg)).trans (o1 g (hkl g hg));have hCb:=hC.same ob;have cb:=(k1 _ (.inr rfl)).trans c1;refine Adn hCb cb (fun Wc Dh Di Dj Dk Dl Dm Dn Dp h1 h2 h3 h4 oc sc=>?_) fun W' tm Y ht e1 e2=>hJ B' _ W' tm Y ht (fun g hg=>(k0 g hg).imp id zOM) (fun g hg=>(e1 g (by have:=hkl g hg;omega)).trans (ob g hg)) zOM;have hlb:∀ g,Kp g->g < Wb.heap.size:=fun g hg=>by have:=hkl g hg;omega
  have hCc:=hCb.same (W':=Wc) fun g hg=>oc g (hlb g hg);have cc:Wc.heap[W.heap.size]?=some (.cells #[.slice wa plans.length Km,.slice ta turns.length tc,.slice ya hl.length yc,.int .i64 u] 25 (0,0)):=(oc _ (lt cb)).trans cb;refine Aap cc fun Wd Dt Du Dv hd=>?_;have od:∀ g,Kp g->Wd.heap[g]?=W.heap[g]?:=fun g hg=>by rw [hd,oc g (hlb g hg)];exact ob g hg
  have sJ:=hC.same od;have cd:Wd.heap[W.heap.size]?=some (.cells #[.slice wa plans.length Km,.slice ta turns.length tc,.slice ya hl.length yc,.int .i64 u] 25 (0,0)):=by rw [hd];exact cc
  have sd:W1.heap.size<=Wd.heap.size:=by rw [hd];omega
  have hBd:∀ g,B' g=true->g < Wd.heap.size:=fun g hg=>by rw [hd];have:=k0' g hg;omega
  have ZU:∀ g,Kp g->B' g=false:=fun g hg=>by
    cases hb:B' g with
    | false=>rfl
    | true=>
      have:=hkl g hg;rcases k0 g hb with h|h
      . rw [(Gi g hg).2] at h;cases h
      . omega
  have hcb0:B' W.heap.size=false:=by
    cases hb:B' W.heap.size with
    | false=>rfl
    | true=>
      rcases k0 _ hb with h|h
      . have:=hB _ h;omega
      . omega
  have tail:∀ (B2:Nat->Bool) (n2:Nat) (We:World) (aa oa va:Option Addr) (an ac on oc vn vc:Nat) (st e:Int) (cut:Bool) (outs:List (List Gq)),an=outs.length->LW aa outs We->(∀ g,B2 g=true->B' g=true\/Wd.heap.size<=g)->(∀ g,Kp g->We.heap[g]?=Wd.heap[g]?)->We.heap[W.heap.size]?=Wd.heap[W.heap.size]?->Wd.heap.size<=We.heap.size->
      outs.length<=plans.length->(0 < outs.length->outs.length=plans.length/\∀ j,(plans.getD j []).length<=64)->(∀ k,(outs.getD k []).length<=(plans.getD k []).length)->(∀ (j i:Nat) (a:Gq),(outs.getD j [])[i]?=some a->a.st<=1000000/\a.bg<=1000000/\a.ow<=1000000)->(∀ (k i:Nat) c a,(plans.getD k [])[i]?=some c->(outs.getD k [])[i]?=some a->Tq (fun p lo=>OD plans outs k p lo a.st plans.length) c a)->
      JW (S0 (X:=Wk Ef Ec) (Sg:=List Int) Try.prog Fin Ea).base (.Gp B2 n2) (G (((base 4).at ⟨#[.int .i64 nv,.slice fa fl fc,.agg #[.slice wa plans.length Km,.slice ta turns.length tc,.slice ya hl.length yc,.int .i64 u],undef,undef,.pointer (some ⟨W.heap.size,0,none⟩),.bool false,undef,undef,undef,undef,undef,undef,undef,Df,Dg,Dh,Di,Dj,Dk,Dl,Dm,Dn,Dp,undef,Dt,Du,Dv,undef,undef,undef,undef,undef,undef,undef,undef,undef,undef,undef,undef,undef,undef,undef,undef,undef,undef,undef,undef,undef,undef,undef,undef,undef,undef,undef,undef,undef,undef,undef,undef,undef,undef,undef,undef,undef,undef,undef,undef,undef,undef,undef,undef,undef,undef,undef,undef,undef,undef,undef,undef,undef,undef,undef,undef,undef,undef,undef,undef,undef,undef,undef,undef,undef,undef,undef,undef,undef,undef],[]⟩ (.inRegion OP [3,4,5,6,7,8,9,10,11] :: .code mk4 :: [])).finish (.tuple #[.agg #[.slice aa an ac,.slice oa on oc,.int .i64 st,.bool cut],.slice va vn vc,.int .i64 e])) cs) We:=by
    intro B2 n2 We aa oa va an ac on oc' vn vc st e cut outs han hA hB2 e1 e2 e3 t1 t2 t3 t4 t5;subst han;rw [Frame.finish_at];show JL (S0 (X:=Wk Ef Ec) (Sg:=List Int) Try.prog Fin Ea).L (.Gp B2 n2) _ We;walk_nrm;refine tJ (show OP=OP from rfl) fun Wf rb w8 w9 Dq Dt Du Dv Dw Dx Dy Dz hr ef sf=>?_;have hle:∀ g,Kp g->g < We.heap.size:=fun g hg=>by have:=hkl g hg;omega
    have oe:∀ g,Kp g->Wf.heap[g]?=W.heap[g]?:=fun g hg=>(ef g (hle g hg)).trans ((e1 g hg).trans (od g hg));refine iY (hC.same oe) (hA.old ef) ((ef _ zOM).trans (e2.trans cd)) hr h1 t1 t2 t3 t4 t5 fun W' tm Y ht f1 f2=>?_;refine hJ B2 n2 W' tm Y ht (fun g hg=>?_) (fun g hg=>(f1 g (by have:=hle g hg;omega)).trans (oe g hg)) zOM;rcases hB2 g hg with h|h
    . exact (k0 g h).imp id zOM
    . exact .inr zOM
  have none_:∀ (We:World) (e:Int),(∀ g,Kp g->We.heap[g]?=Wd.heap[g]?)->We.heap[W.heap.size]?=Wd.heap[W.heap.size]?->Wd.heap.size<=We.heap.size->
      JW (S0 (X:=Wk Ef Ec) (Sg:=List Int) Try.prog Fin Ea).base (.Gp B' (nn+2)) (G (((base 4).at ⟨#[.int .i64 nv,.slice fa fl fc,.agg #[.slice wa plans.length Km,.slice ta turns.length tc,.slice ya hl.length yc,.int .i64 u],undef,undef,.pointer (some ⟨W.heap.size,0,none⟩),.bool false,undef,undef,undef,undef,undef,undef,undef,Df,Dg,Dh,Di,Dj,Dk,Dl,Dm,Dn,Dp,undef,Dt,Du,Dv,undef,undef,undef,undef,undef,undef,undef,undef,undef,undef,undef,undef,undef,undef,undef,undef,undef,undef,undef,undef,undef,undef,undef,undef,undef,undef,undef,undef,undef,undef,undef,undef,undef,undef,undef,undef,undef,undef,undef,undef,undef,undef,undef,undef,undef,undef,undef,undef,undef,undef,undef,undef,undef,undef,undef,undef,undef,undef,undef,undef,undef,undef,undef,undef,undef,undef,undef,undef,undef,undef],[]⟩ (.inRegion OP [3,4,5,6,7,8,9,10,11] :: .code mk4 :: [])).finish (.tuple #[.agg #[.slice none 0 0,.slice none 0 0,.int .i64 0,.bool false],.slice none 0 0,.int .i64 e])) cs) We:=fun We e e1 e2 e3=>
    tail B' (nn+2) We none none none 0 0 0 0 0 0 0 e false [] rfl (fun k out hk=>by cases hk) (fun g hg=>.inl hg) e1 e2 e3 (Nat.zero_le _) (fun h=>by cases h) (fun k=>Nat.zero_le _) (fun j i a ha=>by simp at ha) (fun k i c a _ ha=>by simp at ha)
  by_cases hnv:nv < 1\/256 < nv
  . exact YF hnv fun We e1 e2=>none_ We 42 (fun g hg=>e1 g (by have:=hkl g hg;omega)) (e1 _ zOM) e2
  obtain ⟨n,rfl⟩:∃ n:Nat,nv=n:=⟨nv.toNat,by omega⟩
  have n1:1<=n:=by omega
  have n2:n<=256:=by omega
  by_cases hfn:n < fl
  . exact Yv n1 n2 hfn fun We e1 e2=>none_ We 42 (fun g hg=>e1 g (by have:=hkl g hg;omega)) (e1 _ zOM) e2
  have yA:∀ (i:Nat) x,fs[i]?=some x->fa=some ⟨fb,fo,none⟩/\Kp fb/\Wd.cell? ⟨fb,fo+i,none⟩=some (.int .i64 x):=fun i x hx=>by obtain ⟨a1,a2,a3⟩:=hfs i x hx;exact ⟨a1,a2,by rw [← a3];simp only [World.cell?,od fb a2]⟩
  have hrow:∀ g,Kp g->∃ c e f,Wd.heap[g]?=some (.cells c e f):=fun g hg=>by obtain ⟨⟨x,y,z,hx⟩,_⟩:=Gi g hg;exact ⟨x,y,z,(od g hg).trans hx⟩
  by_cases hbad:plans.length=0\/8 < plans.length\/u < 0\/20000 < u\/∃ (j:Nat) (pl:List Ef),plans[j]?=some pl/\64 < pl.length
  . obtain ⟨pg,po,hwo⟩:∃ pg po,0 < plans.length->wa=some ⟨pg,po,none⟩/\Kp pg:=by
      by_cases h0:0 < plans.length
      . obtain ⟨b,o,ca,cc',e,hb,_⟩:=sJ.work 0 _ (List.getElem?_eq_getElem h0);exact ⟨b,o,fun _=>⟨e,hb⟩⟩
      . exact ⟨0,0,fun h=>absurd h h0⟩
    have kP:∀ i pl,plans[i]?=some pl->∃ a c,Wd.cell? ⟨pg,po+i,none⟩=some (.slice a pl.length c):=fun i pl hp=>by
      obtain ⟨b,o,ca,cc',e,hb,_,p1,_⟩:=sJ.work i pl hp;have:=(hwo (by have:=(List.getElem?_eq_some_iff.1 hp).1;omega)).1;rw [this] at e;cases e
      exact ⟨_,_,p1⟩
    refine X0 (pg:=pg) (po:=po) (fb:=fb) (fo:=fo) (fs:=fs) (Kp:=fun g=>Kp g\/g=W.heap.size) n1 n2 hfl zOM (fun g hg=>?_) (fun i x hx=>?_) zOM (fun h=>⟨(hwo h).1,.inl (hwo h).2⟩) ⟨fun i hi=>?_,?_⟩ fun We e1 e2=>none_ We 30 (fun g hg=>e1 g (.inl hg) (by have:=hkl g hg;omega)) (e1 _ (.inr rfl) zOM) e2
    . rcases hg with hg | rfl
      . exact hrow g hg
      . exact ⟨_,_,_,cd⟩
    . obtain ⟨a1,a2,a3⟩:=yA i x hx;exact ⟨a1,.inl a2,a3⟩
    . obtain ⟨a,c,h⟩:=kP i _ (List.getElem?_eq_getElem hi);exact ⟨a,_,c,hbig _ (List.getElem_mem hi),h⟩
    . rcases hbad with h | h | h | h | ⟨j,pl,h,h'⟩
      . exact .inl h
      . exact .inr (.inl h)
      . exact .inr (.inr (.inl h))
      . exact .inr (.inr (.inr (.inl h)))
      . obtain ⟨a,c,hx⟩:=kP j pl h;exact .inr (.inr (.inr (.inr ⟨j,(List.getElem?_eq_some_iff.1 h).1,a,_,c,h',hx⟩)))
  obtain ⟨g0,hbad⟩:=not_or.1 hbad;obtain ⟨g8,hbad⟩:=not_or.1 hbad;obtain ⟨gu0,hbad⟩:=not_or.1 hbad;obtain ⟨gu1,hbad⟩:=not_or.1 hbad;have h64:∀ pl∈plans,pl.length<=64:=fun pl hp=>by obtain ⟨j,hj,rfl⟩:=List.getElem_of_mem hp;refine Classical.byContradiction fun h=>hbad ⟨j,_,List.getElem?_eq_getElem hj,by omega⟩
  obtain ⟨pg,po,ca0,cc0,rfl,hpg,_⟩:=sJ.work 0 _ (List.getElem?_eq_getElem (show 0 < plans.length by omega));obtain ⟨hg,ho,NJ⟩:∃ hg ho,∀ (i:Nat) (x:Int),hl[i]?=some x->-9223372036854775808<=x/\x<=9223372036854775807/\ya=some ⟨hg,ho,none⟩/\Kp hg/\Wd.cell? ⟨hg,ho+i,none⟩=some (.int .i64 x):=by
    by_cases h0:0 < hl.length
    . obtain ⟨_,_,b,o,e,hb,_⟩:=sJ.U8 0 _ (List.getElem?_eq_getElem h0);refine ⟨b,o,fun i x hx=>?_⟩;obtain ⟨x1,x2,b',o',e',hb',hc'⟩:=sJ.U8 i x hx;rw [e] at e';cases e'
      exact ⟨x1,x2,e,hb,hc'⟩
    . exact ⟨0,0,fun i x hx=>by have:=(List.getElem?_eq_some_iff.1 hx).1;omega⟩
  have hcl:((List.range plans.length).map fun i=>(Wd.cell? ⟨pg,po+i,none⟩).getD undef).length=plans.length:=by simp
  have lD:MI plans (Rs.go Em (Fv u) (Fv u) (Rs.new plans (fs ++ (List.replicate n 0).drop fl) turns hl)):=MI.go _ _ (MI.new _ _ _ _);have hzs:(Rs.go Em (Fv u) (Fv u) (Rs.new plans (fs ++ (List.replicate n 0).drop fl) turns hl)).s<=Fv u:=Rs.tC _ _ _ _ (Nat.zero_le _);have hun:Fv u<=20000:=by unfold Fv;split <;> omega
  generalize hz:Rs.go Em (Fv u) (Fv u) (Rs.new plans (fs ++ (List.replicate n 0).drop fl) turns hl)=z at lD hzs
  have key:=Rc (Fin:=Fin) (Ea:=Ea) (W:=Wd) (B:=B') (nn:=nn+2) (n:=n) (plans:=plans) (turns:=turns) (pg:=pg) (po:=po) (Fw:=Km) (Ju:=(List.range plans.length).map fun i=>(Wd.cell? ⟨pg,po+i,none⟩).getD undef) (Kp:=fun g=>g=W.heap.size) (Fx:=Kp) (fs:=fs) (fl:=fl) (fa:=fa) (fc:=fc) (fb:=fb) (fo:=fo) (hl:=hl) (hg:=hg) (ho:=ho) (u:=u) (ta:=ta) (tn:=turns.length) (tc:=tc) (ya:=ya) (yc:=yc) (c:=(base 4).at ⟨#[.int .i64 n,.slice fa fl fc,.agg #[.slice (some ⟨pg,po,none⟩) plans.length Km,.slice ta turns.length tc,.slice ya hl.length yc,.int .i64 u],undef,undef,.pointer (some ⟨W.heap.size,0,none⟩),.bool false,undef,undef,undef,undef,undef,undef,undef,Df,Dg,Dh,Di,Dj,Dk,Dl,Dm,Dn,Dp,undef,Dt,Du,Dv,undef,undef,undef,undef,undef,undef,undef,undef,undef,undef,undef,undef,undef,undef,undef,undef,undef,undef,undef,undef,undef,undef,undef,undef,undef,undef,undef,undef,undef,undef,undef,undef,undef,undef,undef,undef,undef,undef,undef,undef,undef,undef,undef,undef,undef,undef,undef,undef,undef,undef,undef,undef,undef,undef,undef,undef,undef,undef,undef,undef,undef,undef,undef,undef,undef,undef,undef,undef,undef,undef],[]⟩ (.inRegion OP [3,4,5,6,7,8,9,10,11] :: .code mk4 :: [])) (cs:=cs) hfl zOM yA zOM NJ n1 n2 hrow ZU (fun m hm=>ay sJ zOM h64 m hm) h64 zOM zOM zOM zOM (by
      rcases hR with h1|h1
      . exact .inl h1
      . exact Reads.same (.inr h1) fun k hk _=>od k (VP (List.length_pos_iff.2 fun e=>h1.1 (by rw [e];rfl)) k hk)) zOM zOM hBd VP (fun g hg'=>by
    subst hg';exact ⟨⟨_,_,_,cd⟩,hcb0,fun h=>by have:=hkl _ h;omega⟩) z hz.symm (fun x hx=>by
    obtain ⟨k,hk,rfl⟩:=List.getElem_of_mem hx;have hx:=List.getElem?_eq_getElem hk;have a1:=lD.uj hx;have hkp:k < plans.length:=by rw [← lD.len];exact hk
    have a2:=h64 plans[k] (List.getElem_mem hkp);rw [List.getD_eq_getElem?_getD,List.getElem?_eq_getElem hkp] at a1;have a1:z.xs[k].out.length<=plans[k].length:=a1;omega) (fun B2 We N1 a1 a2 a3 y1 y2 y3 vv b1 b2 b3 NM hov hkeep=>by
    obtain ⟨han,hA⟩:=lS NM;obtain ⟨vp,vc,rfl⟩:=Oe hov;have hlen:(FZ z).length=plans.length:=by rw [← lD.len];simp [FZ]
    have dB:∀ k x,z.xs[k]?=some x->(FZ z).getD k []=x.out:=fun k x hx=>Py hx;have Z9:∀ k,¬ k < z.xs.length->(FZ z).getD k []=[]:=fun k hk=>by have:(FZ z)[k]?=none:=List.getElem?_eq_none (by rw [hlen,← lD.len];omega);rw [List.getD_eq_getElem?_getD,this];rfl
    refine tail B2 _ We a1 y1 vp a2 a3 y2 y3 n vc z.s 0 (z.rd.any id) (FZ z) han hA (fun g hg=>(b1 g hg).imp id fun h=>h.1) (fun g hg=>hkeep g (.inr hg)) (hkeep _ (.inl rfl)) zOM zOM (fun _=>⟨hlen,fun j=>?_⟩) (fun k=>?_) (fun j i a ha=>?_) (fun k i c a hc ha=>?_)
    . by_cases hj:j < plans.length
      . rw [List.getD_eq_getElem?_getD,List.getElem?_eq_getElem hj];exact h64 _ (List.getElem_mem hj)
      . rw [List.getD_eq_getElem?_getD,List.getElem?_eq_none zOM];simp
    . by_cases hk:k < z.xs.length
      . have hx:=List.getElem?_eq_getElem hk;rw [dB k _ hx];exact lD.uj hx
      . rw [Z9 k hk];simp
    . by_cases hk:j < z.xs.length
      . have hx:=List.getElem?_eq_getElem hk;rw [dB j _ hx] at ha;obtain ⟨⟨a1,a2,a3⟩,_⟩:=(lD.each j _ hx).ans i a ha;omega
      . rw [Z9 j hk] at ha;simp at ha
    . by_cases hk:k < z.xs.length
      . have hx:=List.getElem?_eq_getElem hk;rw [dB k _ hx] at ha;obtain ⟨_,c',hc',hm⟩:=(lD.each k _ hx).ans i a ha;rw [hc] at hc';obtain rfl:=Option.some.inj hc';exact hm
      . rw [Z9 k hk] at ha;simp at ha)
  rw [hcl] at key;exact key
end
end
end Go.Proofs.Yticecinjcajmcaa
namespace Go.Proofs.Yticecinjcajmcaa
open Go Go.Conc Go.LT Go.LC Go.LK Go.RowKit Go.Deep Go.ChangeShapes Go.WideShapes
open BA TU
section
variable {H:Type}{enc:TypeId × Value->H}{w:World}{base:Nat}{spare:Nat->Bool}{held:Bool}
theorem PW:Try.prog.cellsOf 44=5:=by kernel_rfl
theorem K4:Try.prog.cellsOf 3=1:=by kernel_rfl
theorem U4:Try.prog.cellsOf 40=1:=by kernel_rfl
theorem OC:Try.prog.cellsOf 54=1:=by kernel_rfl
theorem Vx:Try.prog.cellsOf 23=1:=by kernel_rfl
theorem WR:Try.prog.cellsOf 22=1:=by kernel_rfl
theorem V6:Try.prog.cellsOf 25=4:=by kernel_rfl
def Row (w:World)(g:Nat):Prop:=∃ c e f,w.heap[g]?=some (Obj.cells c e f)
theorem LM {w:World}{a:Addr}{v:Value}(h:w.cell? a=some v):Row w a.block:=by
  simp only [World.cell?] at h;cases ho:w.heap[a.block]? with
  | none=>rw [ho] at h;cases h
  | some o=>
    rw [ho] at h;cases o with
    | cells c e f=>exact ⟨c,e,f,ho⟩
    | _=>simp at h
theorem TS (d:DataW H):1<=Rows.uptoBulk d:=by
  cases d with
  | lit l=>cases l <;> simp [Rows.uptoBulk]
  | _=>simp [Rows.uptoBulk] <;> omega
theorem Vk:∀ l:List (DataW H),l.length<=Rows.uptoBulkAll l
  | []=>by simp [Rows.uptoBulkAll]
  | d :: r=>by have:=Vk r;have:=TS d;simp only [Rows.uptoBulkAll,List.length_cons];omega
theorem Ra {d:DataW H}:∀ {l:List (DataW H)},d∈l->Rows.uptoBulk d<=Rows.uptoBulkAll l
  | x :: r,h=>by
    rcases List.mem_cons.1 h with rfl|h
    . simp only [Rows.uptoBulkAll];omega
    . have:=Ra h;simp only [Rows.uptoBulkAll];omega
theorem UY {v:Value}{d:DataW H}{pl:List MemPlace}{fuel:Nat}(h:DataW.trod enc Try.prog w base spare held fuel 54 [v]=some (d,pl)) :
    ∃ (ca:Option Addr) (cs:List Ef) (cc:Nat),v=.slice ca cs.length cc/\cs.length<=maxLen/\cs.length<=Rows.uptoBulk d/\∀ (i:Nat) c,cs[i]?=some c->∃ g o' pa pn pc,ca=some ⟨g,o',none⟩/\Row w g/\Kl w g (o'+i * 5) c pa pn pc:=by
  rcases open_slice Try.underlying54 h with ⟨hv,_⟩|⟨a,len,cap,m,n,D,Pl,hv,hb,hl,hm,hmm,hx,hcell⟩
  . obtain rfl:v=.slice none 0 0:=by simpa using hv
    exact ⟨none,[],0,rfl,by simp,by simp,fun i c hc=>by simp at hc⟩
  . obtain rfl:v=.slice (some a) len cap:=by simpa using hv
    obtain ⟨rfl,_⟩:=Prod.mk.inj hx;have hlm:len<=m:=by rw [hmm];split <;> omega
    have bA:∀ j,j < len->j=0->a.spot=none:=fun j h0 hj=>by
      obtain ⟨cs0,z1,_⟩:=hcell j zOM;rw [PW] at z1;obtain ⟨_,zl,zc⟩:=World.cells?_some z1;have zz:=zc 0 zOM;rw [add_add,List.getElem?_eq_getElem zOM] at zz;subst hj
      simpa [Addr.add] using World.cell?_spot zz
    have hsp:0 < len->a.spot=none:=fun h=>bA 0 h rfl;have each:∀ i,∃ c:Ef,i < len->∃ g o' pa pn pc,some a=some ⟨g,o',none⟩/\Row w g/\Kl w g (o'+i * 5) c pa pn pc:=fun i=>by
      by_cases hi:i < len
      . obtain ⟨cs',h1,h2⟩:=hcell i zOM;rw [PW] at h1;obtain ⟨_,hcl,hc⟩:=World.cells?_some h1;obtain ⟨xs,k,_,_,_,hlen,hf⟩:=DataW.trod_struct Try.underlying44 h2;obtain ⟨u0,u1,u2,u3,u4,rfl⟩:∃ u0 u1 u2 u3 u4,cs'=[u0,u1,u2,u3,u4]:=by
          clear hf hc h1 h2
          match cs',hcl with
          | [u0,u1,u2,u3,u4],_=>exact ⟨u0,u1,u2,u3,u4,rfl⟩
        obtain ⟨y0,y1,y2,y3,y4,rfl⟩:∃ y0 y1 y2 y3 y4,xs=[y0,y1,y2,y3,y4]:=by
          clear hf hc h1 h2
          match xs,hlen with
          | [y0,y1,y2,y3,y4],_=>exact ⟨y0,y1,y2,y3,y4,rfl⟩
        have g0:=hf 0 _ rfl;have g1:=hf 1 _ rfl;have g2:=hf 2 _ rfl;have g3:=hf 3 _ rfl;have g4:=hf 4 _ rfl;simp [K4,U4] at g0 g1 g2 g3 g4;obtain ⟨n0,e0,_⟩:=DataW.trod_int Try.underlying3 g0;obtain ⟨n1,e1,_⟩:=DataW.trod_int Try.underlying3 g1;obtain ⟨n2,e2,_⟩:=DataW.trod_int Try.underlying3 g2;obtain ⟨n3,e3,_⟩:=DataW.trod_int Try.underlying3 g3;obtain ⟨pa,pn,pc,e4⟩:∃ pa pn pc,u4=.slice pa pn pc:=by
          rcases open_slice Try.underlying40 g4 with ⟨hv,_⟩|⟨a,len,cap,m,n,D,Pl,hv,_⟩
          . exact ⟨_,_,_,by simpa using hv⟩
          . exact ⟨_,_,_,by simpa using hv⟩
        simp only [List.cons.injEq,and_true] at e0 e1 e2 e3;subst e0 e1 e2 e3 e4;have c0:=hc 0 zOM;have c1:=hc 1 zOM;have c2:=hc 2 zOM;have c3:=hc 3 zOM;have c4:=hc 4 zOM;rw [add_add] at c0 c1 c2 c3 c4;obtain ⟨b,o,spot⟩:=a;obtain rfl:spot=none:=hsp zOM;rw [Addr.add_lit] at c0 c1 c2 c3 c4;refine ⟨⟨n0,n1,n2,n3⟩,fun _=>⟨b,o,pa,pn,pc,rfl,LM c0,?_,?_,?_,?_,?_⟩⟩
        . simpa using c0
        . simpa [Nat.add_assoc] using c1
        . simpa [Nat.add_assoc] using c2
        . simpa [Nat.add_assoc] using c3
        . simpa [Nat.add_assoc] using c4
      . exact ⟨⟨0,0,0,0⟩,fun h=>absurd h hi⟩
    obtain ⟨q,hq⟩:=Classical.skolem.1 each;have oI:((List.range len).map q).length=len:=by simp
    refine ⟨some a,(List.range len).map q,cap,by rw [oI],by rw [oI];omega,?_,fun i c hc=>?_⟩
    . rw [oI];have:=Vk ((List.range len).map D);simp only [List.length_map,List.length_range] at this;simp only [Rows.uptoBulk];omega
    . have hi:i < len:=by have:=(List.getElem?_eq_some_iff.1 hc).1;omega
      rw [List.getElem?_map,List.getElem?_range hi] at hc;obtain rfl:=Option.some.inj hc;exact hq i hi
theorem M4 {v:Value}{d:DataW H}{pl:List MemPlace}{fuel:Nat}(h:DataW.trod enc Try.prog w base spare held fuel 22 [v]=some (d,pl)) :
    ∃ (ao:Option Addr) (xs:List Int) (mc:Nat),v=.slice ao xs.length mc/\Reads w v (xs.map (Value.int .i64))/\∀ (i:Nat) x,xs[i]?=some x->-9223372036854775808<=x/\x<=9223372036854775807/\∃ b o,ao=some ⟨b,o,none⟩/\Row w b/\w.cell? ⟨b,o+i,none⟩=some (.int .i64 x):=by
  rcases open_slice Try.underlying22 h with ⟨hv,_⟩|⟨a,len,cap,m,n,D,Pl,hv,hb,hl,hm,hmm,hx,hcell⟩
  . obtain rfl:v=.slice none 0 0:=by simpa using hv
    exact ⟨none,[],0,rfl,.inl ⟨rfl,none,0,rfl,Nat.zero_le _,fun _=>rfl⟩,fun i c hc=>by simp at hc⟩
  . obtain rfl:v=.slice (some a) len cap:=by simpa using hv
    have hlm:len<=m:=by rw [hmm];split <;> omega
    have bA:∀ j,j < len->j=0->a.spot=none:=fun j h0 hj=>by
      obtain ⟨cs0,z1,_⟩:=hcell j zOM;rw [K4] at z1;obtain ⟨_,zl,zc⟩:=World.cells?_some z1;have zz:=zc 0 zOM;rw [add_add,List.getElem?_eq_getElem zOM] at zz;subst hj
      simpa [Addr.add] using World.cell?_spot zz
    have hsp:0 < len->a.spot=none:=fun h=>bA 0 h rfl;have each:∀ i,∃ x:Int,i < len->-9223372036854775808<=x/\x<=9223372036854775807/\∃ b o,some a=some ⟨b,o,none⟩/\Row w b/\w.cell? ⟨b,o+i,none⟩=some (.int .i64 x):=fun i=>by
      by_cases hi:i < len
      . obtain ⟨cs',h1,h2⟩:=hcell i zOM;rw [K4] at h1;obtain ⟨_,hcl,hc⟩:=World.cells?_some h1;obtain ⟨x,e,_,hwf⟩:=DataW.trod_int Try.underlying3 h2;subst e;have c0:=hc 0 zOM;rw [add_add] at c0;obtain ⟨b,o,spot⟩:=a;obtain rfl:spot=none:=hsp zOM;rw [Addr.add_lit] at c0;have hx:-9223372036854775808<=x/\x<=9223372036854775807:=by simpa [Lit.wf,IntKind.min,IntKind.max,IntKind.signed,IntKind.bits] using hwf
        exact ⟨x,fun _=>⟨hx.1,hx.2,b,o,rfl,LM c0,by simpa using c0⟩⟩
      . exact ⟨0,fun h=>absurd h hi⟩
    obtain ⟨q,hq⟩:=Classical.skolem.1 each;have oI:((List.range len).map q).length=len:=by simp
    have hget:∀ i,i < len->((List.range len).map q)[i]?=some (q i):=fun i hi=>by rw [List.getElem?_map,List.getElem?_range hi];rfl
    refine ⟨some a,(List.range len).map q,cap,by rw [oI],?_,fun i x hc=>?_⟩
    . by_cases h0:len=0
      . subst h0;exact .inl ⟨rfl,some a,cap,rfl,hm,fun h=>by cases h⟩
      . obtain ⟨_,_,b,o,e,_⟩:=hq 0 zOM;cases e
        refine .inr ⟨by simp [h0],b,o,cap,by simp,by simpa using hl,hm,fun i u hu=>?_⟩;have hi:i < len:=by have:=(List.getElem?_eq_some_iff.1 hu).1;simpa using this
        rw [List.getElem?_map,hget i hi] at hu;obtain rfl:=Option.some.inj hu;obtain ⟨_,_,b',o',e',_,hc⟩:=hq i hi;cases e'
        exact hc
    . have hi:i < len:=by have:=(List.getElem?_eq_some_iff.1 hc).1;omega
      rw [hget i hi] at hc;obtain rfl:=Option.some.inj hc;exact hq i hi
theorem YH {cs:Array Value}{d:DataW H}{ps:List MemPlace}(h:DataW.Trod enc Try.prog w base spare held 25 (.agg cs) d ps) :
    ∃ (wa ta ya:Option Addr) (plans:List (List Ef)) (turns hl:List Int) (wc tc yc:Nat) (u:Int),cs=#[.slice wa plans.length wc,.slice ta turns.length tc,.slice ya hl.length yc,.int .i64 u]/\FX (Row w) wa ta ya plans turns hl w/\
      Reads w (.slice ta turns.length tc) (turns.map (Value.int .i64))/\(∀ pl∈plans,pl.length<=Rows.uptoBulk d)/\0 < Rows.uptoBulk d:=by
  obtain ⟨fuel,hf⟩:=h;obtain ⟨xs,k,_,hx,hl,hlen,hf⟩:=DataW.trod_struct Try.underlying25 hf;rw [V6] at hl;obtain ⟨cl⟩:=cs;have hcl:cl.length=4:=hl;obtain ⟨u0,u1,u2,u3,rfl⟩:∃ u0 u1 u2 u3,cl=[u0,u1,u2,u3]:=by
    clear hf hl
    match cl,hcl with
    | [u0,u1,u2,u3],_=>exact ⟨u0,u1,u2,u3,rfl⟩
  obtain ⟨y0,y1,y2,y3,rfl⟩:∃ y0 y1 y2 y3,xs=[y0,y1,y2,y3]:=by
    clear hf hx
    match xs,hlen with
    | [y0,y1,y2,y3],_=>exact ⟨y0,y1,y2,y3,rfl⟩
  have g0:=hf 0 _ rfl;have g1:=hf 1 _ rfl;have g2:=hf 2 _ rfl;have g3:=hf 3 _ rfl;simp [Value.cells,K4,WR,Vx] at g0 g1 g2 g3;obtain ⟨n3,e3,_⟩:=DataW.trod_int Try.underlying3 g3;obtain rfl:u3=.int .i64 n3:=by simpa using e3
  obtain ⟨d0,p0⟩:=y0;obtain ⟨d1,p1⟩:=y1;obtain ⟨d2,p2⟩:=y2;obtain ⟨ta,turns,tc,rfl,hR,Ik⟩:=M4 g1;obtain ⟨ya,hl2,yc,rfl,_,oh⟩:=M4 g2;obtain ⟨rfl,_⟩:=Prod.mk.inj hx;obtain ⟨wa,plans,wc,rfl,hw,ZX⟩:∃ (wa:Option Addr) (plans:List (List Ef)) (wc:Nat),u0=.slice wa plans.length wc/\(∀ (k:Nat) pl,plans[k]?=some pl->∃ b o ca cc,wa=some ⟨b,o,none⟩/\Row w b/\pl.length<=maxLen/\w.cell? ⟨b,o+k,none⟩=some (.slice ca pl.length cc)/\∀ (i:Nat) c,pl[i]?=some c->∃ g o' pa pn pc,ca=some ⟨g,o',none⟩/\Row w g/\Kl w g (o'+i * 5) c pa pn pc)/\∀ pl∈plans,pl.length<=Rows.uptoBulk d0:=by
    rcases open_slice Try.underlying23 g0 with ⟨hv,_⟩|⟨a,len,cap,m,n,D,Pl,hv,hb,hl,hm,hmm,hx,hcell⟩
    . obtain rfl:u0=.slice none 0 0:=by simpa using hv
      exact ⟨none,[],0,rfl,fun k pl hp=>by simp at hp,fun pl hp=>by simp at hp⟩
    . obtain rfl:u0=.slice (some a) len cap:=by simpa using hv
      obtain ⟨rfl,_⟩:=Prod.mk.inj hx;have hlm:len<=m:=by rw [hmm];split <;> omega
      have bA:∀ j,j < len->j=0->a.spot=none:=fun j h0 hj=>by
        obtain ⟨cs0,z1,_⟩:=hcell j zOM;rw [OC] at z1;obtain ⟨_,zl,zc⟩:=World.cells?_some z1;have zz:=zc 0 zOM;rw [add_add,List.getElem?_eq_getElem zOM] at zz;subst hj
        simpa [Addr.add] using World.cell?_spot zz
      have hsp:0 < len->a.spot=none:=fun h=>bA 0 h rfl;have each:∀ i,∃ pl:List Ef,i < len->pl.length<=Rows.uptoBulk (D i)/\∃ b o ca cc,some a=some ⟨b,o,none⟩/\Row w b/\pl.length<=maxLen/\w.cell? ⟨b,o+i,none⟩=some (.slice ca pl.length cc)/\∀ (i:Nat) c,pl[i]?=some c->∃ g o' pa pn pc,ca=some ⟨g,o',none⟩/\Row w g/\Kl w g (o'+i * 5) c pa pn pc:=fun i=>by
        by_cases hi:i < len
        . obtain ⟨cs',h1,h2⟩:=hcell i zOM;rw [OC] at h1;obtain ⟨_,hcl,hc⟩:=World.cells?_some h1;obtain ⟨v,rfl⟩:∃ v,cs'=[v]:=by
            clear hc h1 h2
            match cs',hcl with
            | [v],_=>exact ⟨v,rfl⟩
          obtain ⟨ca,cl,cc,rfl,q1,q2,q3⟩:=UY h2;have c0:=hc 0 zOM;rw [add_add] at c0;obtain ⟨b,o,spot⟩:=a;obtain rfl:spot=none:=hsp zOM;rw [Addr.add_lit] at c0;exact ⟨cl,fun _=>⟨q2,b,o,ca,cc,rfl,LM c0,q1,by simpa using c0,q3⟩⟩
        . exact ⟨[],fun h=>absurd h hi⟩
      obtain ⟨q,hq⟩:=Classical.skolem.1 each;have oI:((List.range len).map q).length=len:=by simp
      refine ⟨some a,(List.range len).map q,cap,by rw [oI],fun i pl hc=>?_,fun pl hp=>?_⟩
      . have hi:i < len:=by have:=(List.getElem?_eq_some_iff.1 hc).1;omega
        rw [List.getElem?_map,List.getElem?_range hi] at hc;obtain rfl:=Option.some.inj hc;exact (hq i hi).2
      . obtain ⟨i,hi,rfl⟩:=List.mem_map.1 hp;have hi:=List.mem_range.1 hi;have h1:=(hq i hi).1;have h2:Rows.uptoBulk (D i)<=Rows.uptoBulkAll ((List.range len).map D):=Ra (List.mem_map.2 ⟨i,List.mem_range.2 hi,rfl⟩);simp only [Rows.uptoBulk];omega
  refine ⟨wa,ta,ya,plans,turns,hl2,wc,tc,yc,n3,rfl,⟨hw,fun i x hx=>?_,oh⟩,hR,fun pl hp=>?_,TS _⟩
  . obtain ⟨_,_,b,o,h1,h2,h3⟩:=Ik i x hx;exact ⟨b,o,h1,h2,h3⟩
  . have:=ZX pl hp;simp only [List.map_cons,List.map_nil,Rows.uptoBulk,Rows.uptoBulkAll];omega
end
end Go.Proofs.Yticecinjcajmcaa
namespace Go.LT
open Go Go.Conc
section
section
variable {H:Type}{enc:TypeId × Value->H}
theorem O4 {a:Assume}{C:Checked}{os:Os}{f:FuncId}{fn:Func}{s:OpenSpec}{k:(H:Type)->List (DataW H)->Bool}(hk:s.cond=some k){F:Stop.Interp}{conds:List PathCond}{apart fresh handsOn again:Bool}(own:ownKnob C.prog.godebug=none)(started:os.Started)(hfn:C.prog.funcs[f]?=some fn)(witness:∃ (w:World) (tape:Tape) (i:Input),w.os=os/\(w.forCall tape i).Shaped C.prog/\i.vars=[]/\Input.okWide C.prog (w.forCall tape i) .any w.heap.size f i/\
      s.pre6 enc C.prog fn conds apart (w.forCall tape i).memory i.args/\a.holds C.prog (lone (Frame.enter C.prog f i.args .normal) [] (w.forCall tape i)))(runs:∀ (W:World) (base:Nat) (args:Array Value) (ds gs:List (DataW H)) (before:List MemPlace),
      (∀ (j:Nat) t v,fn.params[j]?=some t->args[j]?=some v->Value.okWide C.prog W .any base t v)->DataW.Whole enc C.prog fn.params.toList s.vars apart W args.toList ds gs before->k H (ds ++ gs)=true->
      (DataW.weightsEach C.prog (fn.params.toList ++ s.bare.plain.varTypes C.prog) (ds ++ gs)).all (·<=reachBytes)=true->
      ∃ M last o w' t',runNT C.prog (M+1) (solo (G (Frame.enter C.prog f args .normal) []) W) #[]=(.ended o w',t')/\runN C.prog M (solo (G (Frame.enter C.prog f args .normal) []) W)=.next last/\
        step C.prog last=.ended o w'/\Conc.Good C.prog (fun v W'=>(s.at F).post enc C.prog fn apart fresh handsOn again W args v W') last o w' t') :
    ReturnsInLeavingWide a C os f .any (s.pre6 enc C.prog fn conds apart) ((s.at F).post enc C.prog fn apart fresh handsOn again):=
  returnsInLeavingWide_of_good own started witness fun w tape i _ _ _ hok hpre _=>by obtain ⟨_,_,_,fn',hfn',_,_,_,_,hval⟩:=hok;obtain rfl:fn'=fn:=Option.some.inj (hfn'.symm.trans hfn);obtain ⟨ds,gs,before,hw,_,hkk⟩:=(OpenSpec.pre_some hk conds apart _ _).1 hpre.1;obtain ⟨M,last,o,w',t',h1,h2,h3,h4⟩:=runs (w.forCall tape i) w.heap.size i.args ds gs before hval (DataW.Whole.of_heap (w':=w.forCall tape i) (by rfl) hw) hkk (hpre.2.weights hw);exact ⟨M,last,o,w',t',h1,h2,h3,h4.mono fun v hp=>ChangeSpec.post_blind hp⟩
end
theorem Ls {p:Pinned}{s:OpenSpec}{c:OpenClaim}(f:FuncId)(fn:Func)(hn:c.program=p.name/\c.sum=p.sum/\c.spec=s.name)(hstart:c.start=.entering)(hout:c.outside=[])(hin:c.inits=[]/\c.under=none/\c.initsInPlace=[]/\c.initsUnfollowed=false/\c.initsRecurse=false/\c.initsNamed=[]/\c.initsPassed=[])(hnb:c.noBlocks=false)(hlv:c.leaving=true)(hfo:c.followed=none)(hnar:c.narrowed=s.cond.isSome)(hstill:c.still=false)(hfn:p.checked.prog.funcNamed c.func=some f)(hf:p.checked.prog.funcs[f]?=some fn)(closed:joinedFacts p.checked.prog f fn s.bare c=true)(hinst:fn.isInstance p.checked.prog c.origin c.targs)(hwrap:fn.isWrapper p.checked.prog c.wrapper c.mainSum)(h:∀ os:Os,os.Started->∀ (H:Type) (enc:TypeId × Value->H),∀ F:Stop.Interp,ReturnsInLeavingWide c.assume p.checked os f .any (c.pre enc p.checked.prog fn s) ((s.at F).post enc p.checked.prog fn c.apart c.fresh c.handsOn c.again)):c.holds p s:=by
  simp only [joinedFacts,Bool.and_eq_true,beq_iff_eq,Array.all_eq_true_iff_forall_mem,List.all_eq_true,decide_eq_true_eq] at closed;obtain ⟨⟨⟨⟨⟨⟨⟨⟨⟨⟨⟨⟨⟨⟨⟨⟨⟨⟨⟨⟨⟨⟨⟨⟨⟨⟨⟨⟨⟨⟨⟨a1,a2⟩,a3⟩,a4⟩,a5⟩,a6⟩,a7⟩,a8⟩,a9⟩,b0⟩,b1⟩,b2⟩,b3⟩,b4⟩,b5⟩,b6⟩,b7⟩,b8⟩,b9⟩,d0⟩,d1⟩,d2⟩,d3⟩,d4⟩,d5⟩,d6⟩,d7⟩,d8⟩,d9⟩,e0⟩,e1⟩,e2⟩:=closed;refine ⟨a1,hn.1,hn.2.1,hn.2.2,a2,a3,by unfold OpenClaim.startFits;rw [hstart];exact d6,by unfold OpenClaim.startTold;rw [hstart];exact hin,f,fn,hfn,hf,⟨a4,d0⟩,(fun hb=>by rw [hnb] at hb;cases hb),by unfold OpenClaim.namedList;rw [hfo];exact a5,hinst,hwrap,
    a6.trans a7.symm,⟨a8.trans a9.symm,by unfold Program.envWorded;rw [a9];rfl,d5⟩,b0,b1,b2,b3,b4,⟨b5,e1,e2⟩,⟨b6,d1⟩,⟨b7,d2,d9,e0⟩,⟨d3,d7,d8,b8⟩,(by rw [hout,hnar];cases hsh:c.shortTexts with | none=>simp | some _=>rw [hsh] at d4;cases d4),fun n hn'=>varReadable_some (b9 n hn'),
    ⟨_,by unfold OpenClaim.world;rw [hout,hstart];exact WideRow.started_initial,fun k hk=>by rw [a9] at hk;cases hk⟩,[],by unfold OpenClaim.lists;rw [hfo],fun os st _ H enc inj=>?_⟩
  have st':os.Started:=by unfold OpenClaim.world at st;rw [hout,hstart] at st;exact st
  rw [OpenClaim.post_not_still hstill];unfold OpenClaim.form;rw [hstart,a6];intro F;rw [show c.okInput=Input.okWide by unfold OpenClaim.okInput;rw [hnb],show c.atReturn p.checked.prog=leavingAtReturn p.checked.prog by unfold OpenClaim.atReturn;rw [hlv],show c.always p.checked.prog []=nothingAlways by unfold OpenClaim.always;rw [hfo]];show ReturnsInOpen _ _ _ _ _ _ _ _ (s.post enc p.checked.prog fn F c.outside c.apart c.fresh c.handsOn c.again) _ _;rw [show s.post enc p.checked.prog fn F c.outside c.apart c.fresh c.handsOn c.again=(s.at F).post enc p.checked.prog fn c.apart c.fresh c.handsOn c.again by rw [hout];rfl];exact h os st' H enc F d6
end
end Go.LT
end
