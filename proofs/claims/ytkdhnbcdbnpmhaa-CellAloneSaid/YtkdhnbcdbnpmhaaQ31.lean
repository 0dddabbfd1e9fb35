/-
  Part 31 of the proof that CellAlone returns true for every input and leaves its arguments as they were. No further condition.
-/
import Derived.Test.YtkdhnbcdbnpmhaaQ30
import Derived.Deep.Slices
import Derived.Lib.SmallJoins
import Derived.Test.YtkdhnbcdbnpmhaaRows
import Derived.WalkKit
import Derived.ProofKit
import Derived.OpenShut
import Derived.ChangeOld
import Derived.Below
import Derived.SizedLaws
import Derived.Conc.LeavingOf
set_option linter.unusedVariables false
set_option linter.unusedSectionVars false
set_option maxHeartbeats 4000000
set_option maxRecDepth 100000
namespace Go.Proofs.Ytkdhnbcdbnpmhaa
open Go Go.Conc Go.LT Go.LC Go.LK Go.RowKit
open BA TU
section
theorem pJ {ct cb n MI Np n2 lb MX:Nat}{Kp:Nat->Prop}{W W2:World}(n1:1<=n)(n12:1<=n2)(hn:n<=256)(hn2:n2<=256)(hct:W.heap[ct]?=some (.cells #[.slice (some ⟨cb,0,none⟩) n n] 71 (0,0)))(hcb:W.heap[cb]?=some (.cells (List.replicate n (Value.int .i64 0)).toArray 80 (0,0)))(Py:W.heap[MI]?=some (.cells #[.slice (some ⟨Np,0,none⟩) n2 n2] 71 (0,0)))(Pv:W.heap[Np]?=some (.cells (List.replicate n2 (Value.int .i64 0)).toArray 80 (0,0)))(hne:[ct,cb,MI,Np].Nodup)(hkp:∀ g,Kp g->(∃ c e f,W.heap[g]?=some (.cells c e f))/\g∉[ct,cb,MI,Np])(hold:∀ g,g < W.heap.size->W2.heap[g]?=W.heap[g]?)(l1:W.heap.size<=lb)(l2:W.heap.size<=MX)(l3:lb≠MX)(hlb:W2.heap[lb]?=some (.cells (madeCells #[.int .i64 0] n) 3 (0,0)))(U8:W2.heap[MX]?=some (.cells (madeCells #[.int .i64 0] n2) 3 (0,0))) :
    CA ct cb lb n MI Np MX n2 (List.replicate n 0) (List.replicate n2 0) Kp W2:=by
  have lt:∀ {g:Nat} {o},W.heap[g]?=some o->g < W.heap.size:=fun h=>(Array.getElem?_eq_some_iff.1 h).1;have t1:=lt hct;have t2:=lt hcb;have t3:=lt Py;have t4:=lt Pv;simp only [List.nodup_cons,List.mem_cons,List.not_mem_nil,or_false,not_or,List.nodup_nil,and_true] at hne;obtain ⟨⟨e01,e02,e03⟩,⟨e12,e13⟩,e23,_⟩:=hne;have m1:madeCells #[Value.int .i64 0] n=((List.replicate n (0:Int)).map (Value.int .i64)).toArray:=by rw [List.map_replicate];exact QW _ _
  have m2:madeCells #[Value.int .i64 0] n2=((List.replicate n2 (0:Int)).map (Value.int .i64)).toArray:=by rw [List.map_replicate];exact QW _ _
  refine ⟨n1,n12,hn,hn2,by simp,by simp,(hold _ t1).trans hct,by rw [List.map_replicate];exact (hold _ t2).trans hcb,by rw [← m1];exact hlb,(hold _ t3).trans Py,by rw [List.map_replicate];exact (hold _ t4).trans Pv,by rw [← m2];exact U8,?_,fun g hg=>?_⟩
  . simp only [List.nodup_cons,List.mem_cons,List.not_mem_nil,or_false,not_or,List.nodup_nil,and_true,not_false_eq_true];exact ⟨⟨e01,by omega,e02,e03,by omega⟩,⟨by omega,e12,e13,by omega⟩,⟨by omega,by omega,l3⟩,⟨e23,by omega⟩,by omega⟩
  . obtain ⟨⟨x,y,z,hx⟩,hnot⟩:=hkp g hg;have t5:=lt hx;refine ⟨⟨x,y,z,(hold _ t5).trans hx⟩,?_⟩;simp only [List.mem_cons,List.not_mem_nil,or_false,not_or] at hnot ⊢;obtain ⟨q1,q2,q3,q4⟩:=hnot;exact ⟨q1,q2,by omega,q3,q4,by omega⟩
theorem aH:(Try.prog.info? 3).map (fun i=>(i.zero,i.size,i.bytes))=some (some (.int .i64 0),1,8):=by kernel_rfl
theorem Us {n:Nat}(h1:1<=n)(h2:n<=256)(wx:World):(Instr.makeSlice 29 (.int .i64 n) (.int .i64 n)).run Try.prog wx=.ok (.slice (some ⟨wx.heap.size,0,none⟩) n n) (wx.alloc (.cells (madeCells #[.int .i64 0] n) 3)):=by
  obtain ⟨i0,hi,hz0,hz1,hz2⟩:=info_parts aH;have:=run_makeSlice (P:=Try.prog) (w:=wx) 29 3 i0 (.int .i64 0) Try.underlying29 hi hz0 .i64 .i64 n n (by omega) (Int.le_refl _) (by rw [hz1];simp;omega) (by rw [hz2];omega) (by omega);rw [hz1,show (Value.int .i64 0).cells=#[.int .i64 0] from rfl] at this
  simpa using this
section
variable {Fin:Iw}{GR:Ig Try.prog Fin}
variable {B:Nat->Bool}{W:World}{nn:Nat}{cs:List Frame}
variable {v0 v1 v2 v3 v4 v5 v6 v7 v8 v9 Aa Ab Ac Ae Af Ah Ai Aj Ak Al Am Ao Ap Aq Ar Au Av Aw Ay Az AA AB AJ AL AO AP AQ AU AV AX AY AZ A8 A9 Ba Bb Bc Bf Bh Bj Bl Bp Bq Br Bu Bv Bw Bz BD BF BG BH BI BJ BK BL BM BN BO BP BQ BR BS BU BX BZ Ca Cb Cc Ce Cg Ci Cj Ck Cm Co Cq Cr Ct Cu Cw Cx Cy Cz CB CF CG CJ CK CO CQ CS CU CV CW CX CY CZ C8 C9 Da Db Dc Df Dg Dh Di Dj Dk Dl Dm Dn Dp Dq Dt Du Dv Dw Dx Dy Dz DC DF DI DJ DL DN DR DT DU DV DX DY:Value}
theorem yG {ct cb lb n MI Np MX n2:Nat}{σ τ:List Int}{Kp:Nat->Prop}{ao:Option Addr}{m mc:Nat}(hm:m<=300)(h:CA ct cb lb n MI Np MX n2 σ τ Kp W)(hC:Calls ao m Kp W)(hJ:∀ W' tm Y,kC tm->(∀ g,Kp g->W'.heap[g]?=W.heap[g]?)->W.heap.size<=W'.heap.size->JL (S0 (X:=Wk G5 GU) (Sg:=List Int) Try.prog Fin GR).L (.Ii B nn) (G { (base 3).at ⟨tm,[]⟩ Y with mode:=.returning } cs) W') :
    JL (S0 (X:=Wk G5 GU) (Sg:=List Int) Try.prog Fin GR).L (.Ii B nn) (G ((base 3).at ⟨#[.int .i64 n,v1,.slice ao m mc,v3,v4,v5,v6,.pointer (some ⟨ct,0,none⟩),v8,.pointer (some ⟨MI,0,none⟩),Aa,.slice (some ⟨lb,0,none⟩) n n,.slice (some ⟨MX,0,none⟩) n2 n2,Ae,Af,Ah,Ai,Aj,Ak,Al,Am,Ao,Ap,Aq,Ar,Au,Av,Aw,Ay,Az,AA,AB,AJ,AL,AO,AP,AQ,AU,AV,AX,AY,AZ,A8,A9,Ba,Bb,Bc,Bf,Bh,Bj,Bl,Bp,Bq,Br,Bu,Bv,Bw,Bz,BD,BF,BG,BH,BI,BJ,BK,BL,BM,BN,BO,BP,BQ,BR,BS,BU,BX,BZ,Ca,Cb,Cc,Ce,Cg,Ci,Cj,Ck,Cm,Co,Cq,Cr,Ct,Cu,Cw,Cx,Cy,Cz,CB,CF,CG,CJ,CK,CO,CQ,CS,CU,CV,CW,CX,CY,CZ,C8,C9,Da,Db,Dc,Df,Dg,Dh,Di,Dj,Dk,Dl,Dm,Dn,Dp,Dq,Dt,Du,Dv,Dw,Dx,Dy,Dz,DC,DF,DI,DJ,DL,DN,DR,DT,DU,DV,DX,DY],[]⟩ (.code ak8 :: [])) cs) W:=by
  rw [sU,sH];refine GY stepG_seq ?_;refine GY stepG_seq ?_;refine HY.Ht (S:=(S0 (X:=Wk G5 GU) (Sg:=List Int) Try.prog Fin GR)) (b:=base 3) [] (by simp) (by kernel_rfl) nE (by kernel_rfl) fun Wa ha=>?_;have hh:Wa.heap=W.heap:=by obtain ⟨τ,d,rfl⟩:=ha;rfl
  have HK:=Lib.hid (And.intro h (And.intro hC (And.intro hJ hh)));clear ha h hC hJ hh;simp only [xW,cu,Try.f3];gi_wp2;refine Hg ?_;refine GY stepG_block ?_;refine GY stepG_loop ?_;obtain ⟨h,hC,hJ,hh⟩:=HK.out;exact mR hm m 0 Wa σ τ _ _ _ _ _ _ _ _ _ _ _ _ _ _ _ _ _ _ _ _ _ _ _ _ _ _ (by omega) (by omega) (h.same hh) (hC.same fun g _=>by rw [hh]) fun W' tm Y ht k1 k2=>hJ W' tm Y ht (fun g hg=>by rw [k1 g hg,hh]) (by rw [← hh];exact k2)
theorem Ada {ct cb n MI Np n2:Nat}{Kp:Nat->Prop}{ao:Option Addr}{m mc:Nat}(hm:m<=300)(n1:1<=n)(n12:1<=n2)(hn:n<=256)(hn2:n2<=256)(hct:W.heap[ct]?=some (.cells #[.slice (some ⟨cb,0,none⟩) n n] 71 (0,0)))(hcb:W.heap[cb]?=some (.cells (List.replicate n (Value.int .i64 0)).toArray 80 (0,0)))(Py:W.heap[MI]?=some (.cells #[.slice (some ⟨Np,0,none⟩) n2 n2] 71 (0,0)))(Pv:W.heap[Np]?=some (.cells (List.replicate n2 (Value.int .i64 0)).toArray 80 (0,0)))(hne:[ct,cb,MI,Np].Nodup)(hkp:∀ g,Kp g->(∃ c e f,W.heap[g]?=some (.cells c e f))/\g∉[ct,cb,MI,Np])(hC:Calls ao m Kp W)(hJ:∀ W' tm Y,kC tm->(∀ g,Kp g->W'.heap[g]?=W.heap[g]?)->W.heap.size<=W'.heap.size->JL (S0 (X:=Wk G5 GU) (Sg:=List Int) Try.prog Fin GR).L (.Ii B nn) (G { (base 3).at ⟨tm,[]⟩ Y with mode:=.returning } cs) W') :
    JL (S0 (X:=Wk G5 GU) (Sg:=List Int) Try.prog Fin GR).L (.Ii B nn) (G ((base 3).at ⟨#[.int .i64 n,.int .i64 n2,.slice ao m mc,v3,v4,v5,v6,.pointer (some ⟨ct,0,none⟩),v8,.pointer (some ⟨MI,0,none⟩),Aa,Ab,Ac,Ae,Af,Ah,Ai,Aj,Ak,Al,Am,Ao,Ap,Aq,Ar,Au,Av,Aw,Ay,Az,AA,AB,AJ,AL,AO,AP,AQ,AU,AV,AX,AY,AZ,A8,A9,Ba,Bb,Bc,Bf,Bh,Bj,Bl,Bp,Bq,Br,Bu,Bv,Bw,Bz,BD,BF,BG,BH,BI,BJ,BK,BL,BM,BN,BO,BP,BQ,BR,BS,BU,BX,BZ,Ca,Cb,Cc,Ce,Cg,Ci,Cj,Ck,Cm,Co,Cq,Cr,Ct,Cu,Cw,Cx,Cy,Cz,CB,CF,CG,CJ,CK,CO,CQ,CS,CU,CV,CW,CX,CY,CZ,C8,C9,Da,Db,Dc,Df,Dg,Dh,Di,Dj,Dk,Dl,Dm,Dn,Dp,Dq,Dt,Du,Dv,Dw,Dx,Dy,Dz,DC,DF,DI,DJ,DL,DN,DR,DT,DU,DV,DX,DY],[]⟩ (.code ak7 :: [])) cs) W:=by
  have hm1:=Us n1 hn;have hm2:=Us n12 hn2;rw [uE];refine GY stepG_seq ?_;refine HY.Ht (S:=(S0 (X:=Wk G5 GU) (Sg:=List Int) Try.prog Fin GR)) (b:=base 3) [] (by simp) (by kernel_rfl) nE (by kernel_rfl) fun Wa ha=>?_;have hh:Wa.heap=W.heap:=by obtain ⟨τ,d,rfl⟩:=ha;rfl
  have HK:=Lib.hid (And.intro n1 (And.intro n12 (And.intro hn (And.intro hn2 (And.intro hct (And.intro hcb (And.intro Py (And.intro Pv (And.intro hne (And.intro hkp (And.intro hC (And.intro hJ (And.intro hh hm)))))))))))));clear ha n1 n12 hn hn2 hct hcb Py Pv hne hkp hC hJ hh hm;simp only [al7,Try.f3];gi_region
  all_goals
    refine Hg ?_;generalize hW2:World.drew _=W2;obtain ⟨n1,n12,hn,hn2,hct,hcb,Py,Pv,hne,hkp,hC,hJ,hh,hm⟩:=HK.out;have hs:=congrArg Array.size hh;have o2:∀ g,g < W.heap.size->W2.heap[g]?=W.heap[g]?:=fun g hg=>by rw [← hh,← hW2];show ((Wa.heap.push _).push _)[g]?=_;rw [Array.getElem?_push,Array.getElem?_push,Array.size_push,if_neg (by omega),if_neg (by omega)]
    have z2:W2.heap.size=W.heap.size+2:=by
      rw [← hh,← hW2];show ((Wa.heap.push _).push _).size=_
      simp
    have lt:∀ {g:Nat} {o},W.heap[g]?=some o->g < W.heap.size:=fun h=>(Array.getElem?_eq_some_iff.1 h).1;have kk:∀ g,Kp g->W2.heap[g]?=W.heap[g]?:=fun g hg=>by obtain ⟨⟨x,y,z,hx⟩,_⟩:=hkp g hg;exact o2 g (lt hx)
  . refine yG hm (pJ n1 n12 hn hn2 hct hcb Py Pv hne hkp o2 (lb:=Wa.heap.size) (MX:=Wa.heap.size+1) (by omega) (by omega) (by omega) ?_ ?_) (hC.same kk) fun W' tm Y ht k1 k2=>hJ W' tm Y ht (fun g hg=>(k1 g hg).trans (kk g hg)) (by omega)
    . rw [← hW2];exact Om _ _ _
    . rw [← hW2];exact Oe _ _ _
  . refine yG hm (pJ n1 n12 hn hn2 hct hcb Py Pv hne hkp o2 (lb:=Wa.heap.size+1) (MX:=Wa.heap.size) (by omega) (by omega) (by omega) ?_ ?_) (hC.same kk) fun W' tm Y ht k1 k2=>hJ W' tm Y ht (fun g hg=>(k1 g hg).trans (kk g hg)) (by omega)
    . rw [← hW2];exact Oe _ _ _
    . rw [← hW2];exact Om _ _ _
end
end
section
section
variable {Fin:Iw}{GR:Ig Try.prog Fin}
variable {B:Nat->Bool}{W:World}{nn:Nat}{cs:List Frame}
variable {v0 v1 v2 v3 v4 v5 v6 v7 v8 v9 Aa Ab Ac Ae Af Ah Ai Aj Ak Al Am Ao Ap Aq Ar Au Av Aw Ay Az AA AB AJ AL AO AP AQ AU AV AX AY AZ A8 A9 Ba Bb Bc Bf Bh Bj Bl Bp Bq Br Bu Bv Bw Bz BD BF BG BH BI BJ BK BL BM BN BO BP BQ BR BS BU BX BZ Ca Cb Cc Ce Cg Ci Cj Ck Cm Co Cq Cr Ct Cu Cw Cx Cy Cz CB CF CG CJ CK CO CQ CS CU CV CW CX CY CZ C8 C9 Da Db Dc Df Dg Dh Di Dj Dk Dl Dm Dn Dp Dq Dt Du Dv Dw Dx Dy Dz DC DF DI DJ DL DN DR DT DU DV DX DY:Value}
theorem zn (hJ:∀ W' (F6 F7 F8 F9 Ga Gb Gc Gd:Value),W'.heap=W.heap->JL (S0 (X:=Wk G5 GU) (Sg:=List Int) Try.prog Fin GR).L (.Ii B nn) (G ((base 3).at ⟨#[v0,v1,v2,v3,v4,v5,v6,v7,.int .i64 0,v9,.int .i64 0,Ab,Ac,Ae,Af,Ah,Ai,Aj,Ak,Al,Am,Ao,Ap,Aq,Ar,Au,Av,Aw,Ay,Az,AA,AB,AJ,AL,AO,AP,AQ,AU,AV,AX,AY,AZ,A8,A9,Ba,Bb,Bc,Bf,Bh,Bj,Bl,Bp,Bq,Br,Bu,Bv,Bw,Bz,BD,BF,BG,BH,BI,BJ,BK,BL,BM,BN,BO,BP,BQ,BR,BS,BU,BX,F6,F7,F8,F9,Ga,Gb,Gc,Gd,Ck,Cm,Co,Cq,Cr,Ct,Cu,Cw,Cx,Cy,Cz,CB,CF,CG,CJ,CK,CO,CQ,CS,CU,CV,CW,CX,CY,CZ,C8,C9,Da,Db,Dc,Df,Dg,Dh,Di,Dj,Dk,Dl,Dm,Dn,Dp,Dq,Dt,Du,Dv,Dw,Dx,Dy,Dz,DC,DF,DI,DJ,DL,DN,DR,DT,DU,DV,DX,DY],[]⟩ (.code ak7 :: [])) cs) W') :
    JL (S0 (X:=Wk G5 GU) (Sg:=List Int) Try.prog Fin GR).L (.Ii B nn) (G ((base 3).at ⟨#[v0,v1,v2,v3,v4,v5,v6,v7,.int .i64 0,v9,.int .i64 0,Ab,Ac,Ae,Af,Ah,Ai,Aj,Ak,Al,Am,Ao,Ap,Aq,Ar,Au,Av,Aw,Ay,Az,AA,AB,AJ,AL,AO,AP,AQ,AU,AV,AX,AY,AZ,A8,A9,Ba,Bb,Bc,Bf,Bh,Bj,Bl,Bp,Bq,Br,Bu,Bv,Bw,Bz,BD,BF,BG,BH,BI,BJ,BK,BL,BM,BN,BO,BP,BQ,BR,BS,BU,BX,BZ,Ca,Cb,Cc,Ce,Cg,Ci,Cj,Ck,Cm,Co,Cq,Cr,Ct,Cu,Cw,Cx,Cy,Cz,CB,CF,CG,CJ,CK,CO,CQ,CS,CU,CV,CW,CX,CY,CZ,C8,C9,Da,Db,Dc,Df,Dg,Dh,Di,Dj,Dk,Dl,Dm,Dn,Dp,Dq,Dt,Du,Dv,Dw,Dx,Dy,Dz,DC,DF,DI,DJ,DL,DN,DR,DT,DU,DV,DX,DY],[]⟩ (.code ak6 :: [])) cs) W:=by
  rw [gW];refine GY stepG_seq ?_;refine HY.Ht (S:=(S0 (X:=Wk G5 GU) (Sg:=List Int) Try.prog Fin GR)) (b:=base 3) [7,10] Sk (by kernel_rfl) nE (by kernel_rfl) fun Wa ha=>?_;have hh:Wa.heap=W.heap:=by obtain ⟨τ,d,rfl⟩:=ha;rfl
  have HK:=Lib.hid (And.intro hJ hh);clear ha hJ hh;simp only [al6,Try.f3];gi_wp2_with (gi_at_call 7;refine (QS _ _ _ (by decide)).mono ?_;rintro e w2 ⟨rfl,rfl⟩)
  refine Hg ?_;exact HK.out.1 Wa _ _ _ _ _ _ _ _ HK.out.2
theorem fZ {e f:Int}(h:e=42/\f=0\/e=0/\f=42\/e=42/\f=42)(hJ:∀ W' tm Y,kC tm->W'.heap=W.heap->JL (S0 (X:=Wk G5 GU) (Sg:=List Int) Try.prog Fin GR).L (.Ii B nn) (G { (base 3).at ⟨tm,[]⟩ Y with mode:=.returning } cs) W') :
    JL (S0 (X:=Wk G5 GU) (Sg:=List Int) Try.prog Fin GR).L (.Ii B nn) (G ((base 3).at ⟨#[v0,v1,v2,v3,v4,v5,v6,v7,.int .i64 e,v9,.int .i64 f,Ab,Ac,Ae,Af,Ah,Ai,Aj,Ak,Al,Am,Ao,Ap,Aq,Ar,Au,Av,Aw,Ay,Az,AA,AB,AJ,AL,AO,AP,AQ,AU,AV,AX,AY,AZ,A8,A9,Ba,Bb,Bc,Bf,Bh,Bj,Bl,Bp,Bq,Br,Bu,Bv,Bw,Bz,BD,BF,BG,BH,BI,BJ,BK,BL,BM,BN,BO,BP,BQ,BR,BS,BU,BX,BZ,Ca,Cb,Cc,Ce,Cg,Ci,Cj,Ck,Cm,Co,Cq,Cr,Ct,Cu,Cw,Cx,Cy,Cz,CB,CF,CG,CJ,CK,CO,CQ,CS,CU,CV,CW,CX,CY,CZ,C8,C9,Da,Db,Dc,Df,Dg,Dh,Di,Dj,Dk,Dl,Dm,Dn,Dp,Dq,Dt,Du,Dv,Dw,Dx,Dy,Dz,DC,DF,DI,DJ,DL,DN,DR,DT,DU,DV,DX,DY],[]⟩ (.code ak6 :: [])) cs) W:=by
  rw [gW];refine GY stepG_seq ?_;refine HY.Ht (S:=(S0 (X:=Wk G5 GU) (Sg:=List Int) Try.prog Fin GR)) (b:=base 3) [7,10] Sk (by kernel_rfl) nE (by kernel_rfl) fun Wa ha=>?_;have hh:Wa.heap=W.heap:=by obtain ⟨τ,d,rfl⟩:=ha;rfl
  have HK:=Lib.hid (And.intro hJ hh);clear ha hJ hh;rcases h with ⟨rfl,rfl⟩|⟨rfl,rfl⟩|⟨rfl,rfl⟩
  all_goals
    simp only [al6,Try.f3];gi_wp2_with (gi_at_call 7;refine (QS _ _ _ (by decide)).mono ?_;rintro e w2 ⟨rfl,rfl⟩)
    intro Y;exact HK.out.1 _ _ Y (fun w=>by kernel_rfl) HK.out.2
def xA (nv e:Int):Prop:=(e=0/\decide (1<=nv)=true/\decide (nv<=256)=true)\/(e=42/\decide (1<=nv)=true/\decide (nv<=256)=false)\/(e=42/\decide (1<=nv)=false)
theorem mE {nv ov e f:Int}(hn:xA nv e)(hf:xA ov f)(hJ:∀ W' (EX EY EZ E5 E8 E9 Fa Fe Fg Fh Fj Fp Fq Fu Fv Fw Fy Fz FB FC FD FE FH FI FJ FK FL FM FN FP FQ FR FT FU FV FW FX FY FZ F3 F4 F5:Value),W'.heap=W.heap->JL (S0 (X:=Wk G5 GU) (Sg:=List Int) Try.prog Fin GR).L (.Ii B nn) (G ((base 3).at ⟨#[.int .i64 nv,.int .i64 ov,v2,v3,v4,v5,v6,v7,.int .i64 e,v9,.int .i64 f,Ab,Ac,Ae,Af,Ah,Ai,Aj,Ak,Al,Am,Ao,Ap,Aq,Ar,Au,Av,Aw,Ay,Az,AA,AB,AJ,EX,EY,EZ,E5,E8,E9,Fa,Fe,Fg,Fh,Fj,Fp,Fq,Fu,Fv,Fw,Fy,Fz,FB,FC,FD,FE,FH,FI,FJ,FK,FL,FM,FN,FP,FQ,FR,FT,FU,FV,FW,FX,FY,FZ,F3,F4,F5,BZ,Ca,Cb,Cc,Ce,Cg,Ci,Cj,Ck,Cm,Co,Cq,Cr,Ct,Cu,Cw,Cx,Cy,Cz,CB,CF,CG,CJ,CK,CO,CQ,CS,CU,CV,CW,CX,CY,CZ,C8,C9,Da,Db,Dc,Df,Dg,Dh,Di,Dj,Dk,Dl,Dm,Dn,Dp,Dq,Dt,Du,Dv,Dw,Dx,Dy,Dz,DC,DF,DI,DJ,DL,DN,DR,DT,DU,DV,DX,DY],[]⟩ (.code ak6 :: [])) cs) W') :
    JL (S0 (X:=Wk G5 GU) (Sg:=List Int) Try.prog Fin GR).L (.Ii B nn) (G ((base 3).at ⟨#[.int .i64 nv,.int .i64 ov,v2,v3,v4,v5,v6,v7,.int .i64 e,v9,.int .i64 f,Ab,Ac,Ae,Af,Ah,Ai,Aj,Ak,Al,Am,Ao,Ap,Aq,Ar,Au,Av,Aw,Ay,Az,AA,AB,AJ,AL,AO,AP,AQ,AU,AV,AX,AY,AZ,A8,A9,Ba,Bb,Bc,Bf,Bh,Bj,Bl,Bp,Bq,Br,Bu,Bv,Bw,Bz,BD,BF,BG,BH,BI,BJ,BK,BL,BM,BN,BO,BP,BQ,BR,BS,BU,BX,BZ,Ca,Cb,Cc,Ce,Cg,Ci,Cj,Ck,Cm,Co,Cq,Cr,Ct,Cu,Cw,Cx,Cy,Cz,CB,CF,CG,CJ,CK,CO,CQ,CS,CU,CV,CW,CX,CY,CZ,C8,C9,Da,Db,Dc,Df,Dg,Dh,Di,Dj,Dk,Dl,Dm,Dn,Dp,Dq,Dt,Du,Dv,Dw,Dx,Dy,Dz,DC,DF,DI,DJ,DL,DN,DR,DT,DU,DV,DX,DY],[]⟩ (.code wL :: [])) cs) W:=by
  rw [sF];refine GY stepG_seq ?_;refine HY.Ht (S:=(S0 (X:=Wk G5 GU) (Sg:=List Int) Try.prog Fin GR)) (b:=base 3) [7,10] Sk (by kernel_rfl) nE (by kernel_rfl) fun Wa ha=>?_;have hh:Wa.heap=W.heap:=by obtain ⟨τ,d,rfl⟩:=ha;rfl
  have HK:=Lib.hid (And.intro hJ hh);clear ha hJ hh;rcases hn with ⟨rfl,a1,a2⟩|⟨rfl,a1,a2⟩|⟨rfl,a1⟩ <;> rcases hf with ⟨rfl,b1,b2⟩|⟨rfl,b1,b2⟩|⟨rfl,b1⟩
  all_goals
    simp only [al5,Try.f3];gi_wp2_with (gi_at_call 7;refine (QS _ _ _ (by decide)).mono ?_;rintro e w2 ⟨rfl,rfl⟩)
    refine Hg ?_;exact HK.out.1 Wa _ _ _ _ _ _ _ _ _ _ _ _ _ _ _ _ _ _ _ _ _ _ _ _ _ _ _ _ _ _ _ _ _ _ _ _ _ _ _ _ _ _ HK.out.2
end
end
section
section
variable {Fin:Iw}{GR:Ig Try.prog Fin}
variable {B:Nat->Bool}{W:World}{nn:Nat}{cs:List Frame}
variable {v0 v1 v2 v3 v4 v5 v6 v7 v8 v9 Aa Ab Ac Ae Af Ah Ai Aj Ak Al Am Ao Ap Aq Ar Au Av Aw Ay Az AA AB AJ AL AO AP AQ AU AV AX AY AZ A8 A9 Ba Bb Bc Bf Bh Bj Bl Bp Bq Br Bu Bv Bw Bz BD BF BG BH BI BJ BK BL BM BN BO BP BQ BR BS BU BX BZ Ca Cb Cc Ce Cg Ci Cj Ck Cm Co Cq Cr Ct Cu Cw Cx Cy Cz CB CF CG CJ CK CO CQ CS CU CV CW CX CY CZ C8 C9 Da Db Dc Df Dg Dh Di Dj Dk Dl Dm Dn Dp Dq Dt Du Dv Dw Dx Dy Dz DC DF DI DJ DL DN DR DT DU DV DX DY:Value}
theorem Abq {nv:Int}(hg:∀ (n:Nat) W' (EL EM EN EO EP:Value),nv=n->1<=n->n<=256->W'.heap=(W.heap.push (.cells (List.replicate n (Value.int .i64 0)).toArray 80 (0,0))).push (.cells #[.slice (some ⟨W.heap.size,0,none⟩) n n] 71 (0,0))->JL (S0 (X:=Wk G5 GU) (Sg:=List Int) Try.prog Fin GR).L (.Ii B nn) (G ((base 3).at ⟨#[.int .i64 nv,v1,v2,v3,v4,v5,v6,.pointer (some ⟨W.heap.size+1,0,none⟩),.int .i64 0,v9,Aa,Ab,Ac,Ae,Af,Ah,Ai,Aj,Ak,Al,Am,Ao,Ap,EL,EM,EN,EO,EP,Ay,Az,AA,AB,AJ,AL,AO,AP,AQ,AU,AV,AX,AY,AZ,A8,A9,Ba,Bb,Bc,Bf,Bh,Bj,Bl,Bp,Bq,Br,Bu,Bv,Bw,Bz,BD,BF,BG,BH,BI,BJ,BK,BL,BM,BN,BO,BP,BQ,BR,BS,BU,BX,BZ,Ca,Cb,Cc,Ce,Cg,Ci,Cj,Ck,Cm,Co,Cq,Cr,Ct,Cu,Cw,Cx,Cy,Cz,CB,CF,CG,CJ,CK,CO,CQ,CS,CU,CV,CW,CX,CY,CZ,C8,C9,Da,Db,Dc,Df,Dg,Dh,Di,Dj,Dk,Dl,Dm,Dn,Dp,Dq,Dt,Du,Dv,Dw,Dx,Dy,Dz,DC,DF,DI,DJ,DL,DN,DR,DT,DU,DV,DX,DY],[]⟩ (.code ak4 :: [])) cs) W')(hb:∀ W' (EL EM EN EO EP:Value),nv < 1\/256 < nv->W'.heap=W.heap->JL (S0 (X:=Wk G5 GU) (Sg:=List Int) Try.prog Fin GR).L (.Ii B nn) (G ((base 3).at ⟨#[.int .i64 nv,v1,v2,v3,v4,v5,v6,.pointer none,.int .i64 42,v9,Aa,Ab,Ac,Ae,Af,Ah,Ai,Aj,Ak,Al,Am,Ao,Ap,EL,EM,EN,EO,EP,Ay,Az,AA,AB,AJ,AL,AO,AP,AQ,AU,AV,AX,AY,AZ,A8,A9,Ba,Bb,Bc,Bf,Bh,Bj,Bl,Bp,Bq,Br,Bu,Bv,Bw,Bz,BD,BF,BG,BH,BI,BJ,BK,BL,BM,BN,BO,BP,BQ,BR,BS,BU,BX,BZ,Ca,Cb,Cc,Ce,Cg,Ci,Cj,Ck,Cm,Co,Cq,Cr,Ct,Cu,Cw,Cx,Cy,Cz,CB,CF,CG,CJ,CK,CO,CQ,CS,CU,CV,CW,CX,CY,CZ,C8,C9,Da,Db,Dc,Df,Dg,Dh,Di,Dj,Dk,Dl,Dm,Dn,Dp,Dq,Dt,Du,Dv,Dw,Dx,Dy,Dz,DC,DF,DI,DJ,DL,DN,DR,DT,DU,DV,DX,DY],[]⟩ (.code ak4 :: [])) cs) W') :
    JL (S0 (X:=Wk G5 GU) (Sg:=List Int) Try.prog Fin GR).L (.Ii B nn) (G ((base 3).at ⟨#[.int .i64 nv,v1,v2,v3,v4,v5,v6,v7,v8,v9,Aa,Ab,Ac,Ae,Af,Ah,Ai,Aj,Ak,Al,Am,Ao,Ap,Aq,Ar,Au,Av,Aw,Ay,Az,AA,AB,AJ,AL,AO,AP,AQ,AU,AV,AX,AY,AZ,A8,A9,Ba,Bb,Bc,Bf,Bh,Bj,Bl,Bp,Bq,Br,Bu,Bv,Bw,Bz,BD,BF,BG,BH,BI,BJ,BK,BL,BM,BN,BO,BP,BQ,BR,BS,BU,BX,BZ,Ca,Cb,Cc,Ce,Cg,Ci,Cj,Ck,Cm,Co,Cq,Cr,Ct,Cu,Cw,Cx,Cy,Cz,CB,CF,CG,CJ,CK,CO,CQ,CS,CU,CV,CW,CX,CY,CZ,C8,C9,Da,Db,Dc,Df,Dg,Dh,Di,Dj,Dk,Dl,Dm,Dn,Dp,Dq,Dt,Du,Dv,Dw,Dx,Dy,Dz,DC,DF,DI,DJ,DL,DN,DR,DT,DU,DV,DX,DY],[]⟩ (.code ak3 :: [])) cs) W:=by
  have HK:=Lib.hid (And.intro hg hb);clear hg hb;rw [tH];refine GY stepG_seq ?_;simp only [al3,Try.f3];refine Hu fun _ hkk=>?_
  (refine Hf ?_;walk_nrm)
  refine JL.enter rfl rfl nE rfl Try.func6 (by kernel_rfl) (by kernel_rfl) ?_;walk_nrm;by_cases hbad:nv < 1\/256 < nv
  . refine Rj (S:=(S0 (X:=Wk G5 GU) (Sg:=List Int) Try.prog Fin GR)) hbad fun W2 q2=>?_;rw [Frame.finish_at];show JL (S0 (X:=Wk G5 GU) (Sg:=List Int) Try.prog Fin GR).L _ _ W2;walk_nrm;iterate 5 (refine Hf ?_;walk_nrm)
    refine Hw ?_;cases hkk;exact HK.out.2 W2 _ _ _ _ _ hbad q2
  . obtain ⟨n,rfl⟩:∃ n:Nat,nv=n:=⟨nv.toNat,by omega⟩
    refine Od (S:=(S0 (X:=Wk G5 GU) (Sg:=List Int) Try.prog Fin GR)) (n:=n) (by omega) (by omega) fun W2 q2=>?_;rw [Frame.finish_at];show JL (S0 (X:=Wk G5 GU) (Sg:=List Int) Try.prog Fin GR).L _ _ W2;walk_nrm;iterate 5 (refine Hf ?_;walk_nrm)
    refine Hw ?_;cases hkk;exact HK.out.1 n W2 _ _ _ _ _ rfl (by omega) (by omega) q2
theorem o7 {nv:Int}(hg:∀ (n:Nat) W' (ER ES ET EU EW:Value),nv=n->1<=n->n<=256->W'.heap=(W.heap.push (.cells (List.replicate n (Value.int .i64 0)).toArray 80 (0,0))).push (.cells #[.slice (some ⟨W.heap.size,0,none⟩) n n] 71 (0,0))->JL (S0 (X:=Wk G5 GU) (Sg:=List Int) Try.prog Fin GR).L (.Ii B nn) (G ((base 3).at ⟨#[v0,.int .i64 nv,v2,v3,v4,v5,v6,v7,v8,.pointer (some ⟨W.heap.size+1,0,none⟩),.int .i64 0,Ab,Ac,Ae,Af,Ah,Ai,Aj,Ak,Al,Am,Ao,Ap,Aq,Ar,Au,Av,Aw,ER,ES,ET,EU,EW,AL,AO,AP,AQ,AU,AV,AX,AY,AZ,A8,A9,Ba,Bb,Bc,Bf,Bh,Bj,Bl,Bp,Bq,Br,Bu,Bv,Bw,Bz,BD,BF,BG,BH,BI,BJ,BK,BL,BM,BN,BO,BP,BQ,BR,BS,BU,BX,BZ,Ca,Cb,Cc,Ce,Cg,Ci,Cj,Ck,Cm,Co,Cq,Cr,Ct,Cu,Cw,Cx,Cy,Cz,CB,CF,CG,CJ,CK,CO,CQ,CS,CU,CV,CW,CX,CY,CZ,C8,C9,Da,Db,Dc,Df,Dg,Dh,Di,Dj,Dk,Dl,Dm,Dn,Dp,Dq,Dt,Du,Dv,Dw,Dx,Dy,Dz,DC,DF,DI,DJ,DL,DN,DR,DT,DU,DV,DX,DY],[]⟩ (.code wL :: [])) cs) W')(hb:∀ W' (ER ES ET EU EW:Value),nv < 1\/256 < nv->W'.heap=W.heap->JL (S0 (X:=Wk G5 GU) (Sg:=List Int) Try.prog Fin GR).L (.Ii B nn) (G ((base 3).at ⟨#[v0,.int .i64 nv,v2,v3,v4,v5,v6,v7,v8,.pointer none,.int .i64 42,Ab,Ac,Ae,Af,Ah,Ai,Aj,Ak,Al,Am,Ao,Ap,Aq,Ar,Au,Av,Aw,ER,ES,ET,EU,EW,AL,AO,AP,AQ,AU,AV,AX,AY,AZ,A8,A9,Ba,Bb,Bc,Bf,Bh,Bj,Bl,Bp,Bq,Br,Bu,Bv,Bw,Bz,BD,BF,BG,BH,BI,BJ,BK,BL,BM,BN,BO,BP,BQ,BR,BS,BU,BX,BZ,Ca,Cb,Cc,Ce,Cg,Ci,Cj,Ck,Cm,Co,Cq,Cr,Ct,Cu,Cw,Cx,Cy,Cz,CB,CF,CG,CJ,CK,CO,CQ,CS,CU,CV,CW,CX,CY,CZ,C8,C9,Da,Db,Dc,Df,Dg,Dh,Di,Dj,Dk,Dl,Dm,Dn,Dp,Dq,Dt,Du,Dv,Dw,Dx,Dy,Dz,DC,DF,DI,DJ,DL,DN,DR,DT,DU,DV,DX,DY],[]⟩ (.code wL :: [])) cs) W') :
    JL (S0 (X:=Wk G5 GU) (Sg:=List Int) Try.prog Fin GR).L (.Ii B nn) (G ((base 3).at ⟨#[v0,.int .i64 nv,v2,v3,v4,v5,v6,v7,v8,v9,Aa,Ab,Ac,Ae,Af,Ah,Ai,Aj,Ak,Al,Am,Ao,Ap,Aq,Ar,Au,Av,Aw,Ay,Az,AA,AB,AJ,AL,AO,AP,AQ,AU,AV,AX,AY,AZ,A8,A9,Ba,Bb,Bc,Bf,Bh,Bj,Bl,Bp,Bq,Br,Bu,Bv,Bw,Bz,BD,BF,BG,BH,BI,BJ,BK,BL,BM,BN,BO,BP,BQ,BR,BS,BU,BX,BZ,Ca,Cb,Cc,Ce,Cg,Ci,Cj,Ck,Cm,Co,Cq,Cr,Ct,Cu,Cw,Cx,Cy,Cz,CB,CF,CG,CJ,CK,CO,CQ,CS,CU,CV,CW,CX,CY,CZ,C8,C9,Da,Db,Dc,Df,Dg,Dh,Di,Dj,Dk,Dl,Dm,Dn,Dp,Dq,Dt,Du,Dv,Dw,Dx,Dy,Dz,DC,DF,DI,DJ,DL,DN,DR,DT,DU,DV,DX,DY],[]⟩ (.code ak4 :: [])) cs) W:=by
  have HK:=Lib.hid (And.intro hg hb);clear hg hb;rw [sO];refine GY stepG_seq ?_;simp only [al4,Try.f3];refine Hu fun _ hkk=>?_
  (refine Hf ?_;walk_nrm)
  refine JL.enter rfl rfl nE rfl Try.func6 (by kernel_rfl) (by kernel_rfl) ?_;walk_nrm;by_cases hbad:nv < 1\/256 < nv
  . refine Rj (S:=(S0 (X:=Wk G5 GU) (Sg:=List Int) Try.prog Fin GR)) hbad fun W2 q2=>?_;rw [Frame.finish_at];show JL (S0 (X:=Wk G5 GU) (Sg:=List Int) Try.prog Fin GR).L _ _ W2;walk_nrm;iterate 5 (refine Hf ?_;walk_nrm)
    refine Hw ?_;cases hkk;exact HK.out.2 W2 _ _ _ _ _ hbad q2
  . obtain ⟨n,rfl⟩:∃ n:Nat,nv=n:=⟨nv.toNat,by omega⟩
    refine Od (S:=(S0 (X:=Wk G5 GU) (Sg:=List Int) Try.prog Fin GR)) (n:=n) (by omega) (by omega) fun W2 q2=>?_;rw [Frame.finish_at];show JL (S0 (X:=Wk G5 GU) (Sg:=List Int) Try.prog Fin GR).L _ _ W2;walk_nrm;iterate 5 (refine Hf ?_;walk_nrm)
    refine Hw ?_;cases hkk;exact HK.out.1 n W2 _ _ _ _ _ rfl (by omega) (by omega) q2
end
end
section
section
variable {Fin:Iw}{GR:Ig Try.prog Fin}
variable {B:Nat->Bool}{W:World}{nn:Nat}{cs:List Frame}
variable {v0 v1 v2 v3 v4 v5 v6 v7 v8 v9 Aa Ab Ac Ae Af Ah Ai Aj Ak Al Am Ao Ap Aq Ar Au Av Aw Ay Az AA AB AJ AL AO AP AQ AU AV AX AY AZ A8 A9 Ba Bb Bc Bf Bh Bj Bl Bp Bq Br Bu Bv Bw Bz BD BF BG BH BI BJ BK BL BM BN BO BP BQ BR BS BU BX BZ Ca Cb Cc Ce Cg Ci Cj Ck Cm Co Cq Cr Ct Cu Cw Cx Cy Cz CB CF CG CJ CK CO CQ CS CU CV CW CX CY CZ C8 C9 Da Db Dc Df Dg Dh Di Dj Dk Dl Dm Dn Dp Dq Dt Du Dv Dw Dx Dy Dz DC DF DI DJ DL DN DR DT DU DV DX DY:Value}
theorem yC {ao:Option Addr}{m mc:Nat}(hg:∀ W' (EI EJ EK:Value),m<=300->W'.heap=W.heap->JL (S0 (X:=Wk G5 GU) (Sg:=List Int) Try.prog Fin GR).L (.Ii B nn) (G ((base 3).at ⟨#[v0,v1,.slice ao m mc,v3,v4,v5,v6,v7,v8,v9,Aa,Ab,Ac,Ae,Af,Ah,Ai,Aj,Ak,Al,EI,EJ,EK,Aq,Ar,Au,Av,Aw,Ay,Az,AA,AB,AJ,AL,AO,AP,AQ,AU,AV,AX,AY,AZ,A8,A9,Ba,Bb,Bc,Bf,Bh,Bj,Bl,Bp,Bq,Br,Bu,Bv,Bw,Bz,BD,BF,BG,BH,BI,BJ,BK,BL,BM,BN,BO,BP,BQ,BR,BS,BU,BX,BZ,Ca,Cb,Cc,Ce,Cg,Ci,Cj,Ck,Cm,Co,Cq,Cr,Ct,Cu,Cw,Cx,Cy,Cz,CB,CF,CG,CJ,CK,CO,CQ,CS,CU,CV,CW,CX,CY,CZ,C8,C9,Da,Db,Dc,Df,Dg,Dh,Di,Dj,Dk,Dl,Dm,Dn,Dp,Dq,Dt,Du,Dv,Dw,Dx,Dy,Dz,DC,DF,DI,DJ,DL,DN,DR,DT,DU,DV,DX,DY],[]⟩ (.code ak3 :: [])) cs) W')(hJ:∀ W' tm Y,kC tm->W'.heap=W.heap->JL (S0 (X:=Wk G5 GU) (Sg:=List Int) Try.prog Fin GR).L (.Ii B nn) (G { (base 3).at ⟨tm,[]⟩ Y with mode:=.returning } cs) W') :
    JL (S0 (X:=Wk G5 GU) (Sg:=List Int) Try.prog Fin GR).L (.Ii B nn) (G ((base 3).at ⟨#[v0,v1,.slice ao m mc,v3,v4,v5,v6,v7,v8,v9,Aa,Ab,Ac,Ae,Af,Ah,Ai,Aj,Ak,Al,Am,Ao,Ap,Aq,Ar,Au,Av,Aw,Ay,Az,AA,AB,AJ,AL,AO,AP,AQ,AU,AV,AX,AY,AZ,A8,A9,Ba,Bb,Bc,Bf,Bh,Bj,Bl,Bp,Bq,Br,Bu,Bv,Bw,Bz,BD,BF,BG,BH,BI,BJ,BK,BL,BM,BN,BO,BP,BQ,BR,BS,BU,BX,BZ,Ca,Cb,Cc,Ce,Cg,Ci,Cj,Ck,Cm,Co,Cq,Cr,Ct,Cu,Cw,Cx,Cy,Cz,CB,CF,CG,CJ,CK,CO,CQ,CS,CU,CV,CW,CX,CY,CZ,C8,C9,Da,Db,Dc,Df,Dg,Dh,Di,Dj,Dk,Dl,Dm,Dn,Dp,Dq,Dt,Du,Dv,Dw,Dx,Dy,Dz,DC,DF,DI,DJ,DL,DN,DR,DT,DU,DV,DX,DY],[]⟩ (.code ak2 :: [])) cs) W:=by
  rw [vB];refine GY stepG_seq ?_;refine HY.Ht (S:=(S0 (X:=Wk G5 GU) (Sg:=List Int) Try.prog Fin GR)) (b:=base 3) [] (by simp) (by kernel_rfl) nE (by kernel_rfl) fun Wa ha=>?_;have hh:Wa.heap=W.heap:=by obtain ⟨τ,d,rfl⟩:=ha;rfl
  have HK:=Lib.hid (And.intro hg (And.intro hJ hh));clear ha hg hJ hh;by_cases hm:m<=300
  . have g1:decide (300 < (m:Int))=false:=by simp;omega
    have HM:=Lib.hid hm;clear hm;simp only [al2,Try.f3];gi_wp2;refine Hg ?_;exact HK.out.1 Wa _ _ _ HM.out HK.out.2.2
  . have g1:decide (300 < (m:Int))=true:=by simp;omega
    clear hm;simp only [al2,Try.f3];gi_wp2;intro Y;exact HK.out.2.1 _ _ Y (fun w=>by kernel_rfl) HK.out.2.2
theorem zC {Kp:Nat->Prop}(hcap:nn+8 < 1000000)(hB:∀ g,B g=true->g < W.heap.size)(Kr:∀ g,Kp g->(∃ c e f,W.heap[g]?=some (.cells c e f))/\B g=false)(hg:∀ B' W' (EG EH:Value),(∀ g,B' g=true->B g=true\/W.heap.size<=g)->(∀ g,Kp g->W'.heap[g]?=W.heap[g]?)->W.heap.size<=W'.heap.size->JL (S0 (X:=Wk G5 GU) (Sg:=List Int) Try.prog Fin GR).L (.Ii B' (nn+2)) (G ((base 3).at ⟨#[v0,v1,v2,v3,v4,v5,v6,v7,v8,v9,Aa,Ab,Ac,Ae,Af,Ah,Ai,Aj,EG,EH,Am,Ao,Ap,Aq,Ar,Au,Av,Aw,Ay,Az,AA,AB,AJ,AL,AO,AP,AQ,AU,AV,AX,AY,AZ,A8,A9,Ba,Bb,Bc,Bf,Bh,Bj,Bl,Bp,Bq,Br,Bu,Bv,Bw,Bz,BD,BF,BG,BH,BI,BJ,BK,BL,BM,BN,BO,BP,BQ,BR,BS,BU,BX,BZ,Ca,Cb,Cc,Ce,Cg,Ci,Cj,Ck,Cm,Co,Cq,Cr,Ct,Cu,Cw,Cx,Cy,Cz,CB,CF,CG,CJ,CK,CO,CQ,CS,CU,CV,CW,CX,CY,CZ,C8,C9,Da,Db,Dc,Df,Dg,Dh,Di,Dj,Dk,Dl,Dm,Dn,Dp,Dq,Dt,Du,Dv,Dw,Dx,Dy,Dz,DC,DF,DI,DJ,DL,DN,DR,DT,DU,DV,DX,DY],[]⟩ (.code ak2 :: [])) cs) W') :
    JL (S0 (X:=Wk G5 GU) (Sg:=List Int) Try.prog Fin GR).L (.Ii B nn) (G ((base 3).at ⟨#[v0,v1,v2,v3,v4,v5,v6,v7,v8,v9,Aa,Ab,Ac,Ae,Af,Ah,Ai,Aj,Ak,Al,Am,Ao,Ap,Aq,Ar,Au,Av,Aw,Ay,Az,AA,AB,AJ,AL,AO,AP,AQ,AU,AV,AX,AY,AZ,A8,A9,Ba,Bb,Bc,Bf,Bh,Bj,Bl,Bp,Bq,Br,Bu,Bv,Bw,Bz,BD,BF,BG,BH,BI,BJ,BK,BL,BM,BN,BO,BP,BQ,BR,BS,BU,BX,BZ,Ca,Cb,Cc,Ce,Cg,Ci,Cj,Ck,Cm,Co,Cq,Cr,Ct,Cu,Cw,Cx,Cy,Cz,CB,CF,CG,CJ,CK,CO,CQ,CS,CU,CV,CW,CX,CY,CZ,C8,C9,Da,Db,Dc,Df,Dg,Dh,Di,Dj,Dk,Dl,Dm,Dn,Dp,Dq,Dt,Du,Dv,Dw,Dx,Dy,Dz,DC,DF,DI,DJ,DL,DN,DR,DT,DU,DV,DX,DY],[]⟩ (.code ak1 :: [])) cs) W:=by
  have HK:=Lib.hid hg;clear hg;rw [vF];refine GY stepG_seq ?_;simp only [al1,Try.f3];refine GY stepG_seq ?_;refine Hu fun _ hkk=>?_;refine JL.enter rfl rfl nE rfl Try.func5 (by kernel_rfl) (by kernel_rfl) ?_;walk_nrm;refine kr (Kp:=Kp) hcap hB Kr fun B' W' k1 k2 k3 k4=>?_;rw [Frame.finish_at];show JL (S0 (X:=Wk G5 GU) (Sg:=List Int) Try.prog Fin GR).L _ _ W';have HK2:=Lib.hid (And.intro k1 (And.intro k3 k4));clear k1 k2 k3 k4 hB Kr;walk_nrm
  (refine Hf ?_;walk_nrm)
  refine Hw ?_;cases hkk;refine JL.Ho rfl ?_;refine GY stepG_skip ?_;exact HK.out B' W' _ _ HK2.out.1 HK2.out.2.1 HK2.out.2.2
theorem U4 {nv ov:Int}{ao:Option Addr}{m mc:Nat}{Kp:Nat->Prop}(hcap:nn+8 < 1000000)(hB:∀ g,B g=true->g < W.heap.size)(Kr:∀ g,Kp g->(∃ c e f,W.heap[g]?=some (.cells c e f))/\B g=false)(hC:Calls ao m Kp W)(hJ:∀ B' nn' W' tm Y,kC tm->(∀ g,B' g=true->B g=true\/W.heap.size<=g)->(∀ g,Kp g->W'.heap[g]?=W.heap[g]?)->W.heap.size<=W'.heap.size->JL (S0 (X:=Wk G5 GU) (Sg:=List Int) Try.prog Fin GR).L (.Ii B' nn') (G { (base 3).at ⟨tm,[]⟩ Y with mode:=.returning } cs) W') :
    JW (S0 (X:=Wk G5 GU) (Sg:=List Int) Try.prog Fin GR).base (.Ii B nn) (G (Frame.enter Try.prog 3 #[.int .i64 nv,.int .i64 ov,.slice ao m mc] .normal) cs) W:=by
  have ht:#[.int .i64 nv,.int .i64 ov,.slice ao m mc] ++ Array.replicate (Try.f3.ntmps - (#[.int .i64 nv,.int .i64 ov,.slice ao m mc]:Array Value).size) undef=#[.int .i64 nv,.int .i64 ov,.slice ao m mc,undef,undef,undef,undef,undef,undef,undef,undef,undef,undef,undef,undef,undef,undef,undef,undef,undef,undef,undef,undef,undef,undef,undef,undef,undef,undef,undef,undef,undef,undef,undef,undef,undef,undef,undef,undef,undef,undef,undef,undef,undef,undef,undef,undef,undef,undef,undef,undef,undef,undef,undef,undef,undef,undef,undef,undef,undef,undef,undef,undef,undef,undef,undef,undef,undef,undef,undef,undef,undef,undef,undef,undef,undef,undef,undef,undef,undef,undef,undef,undef,undef,undef,undef,undef,undef,undef,undef,undef,undef,undef,undef,undef,undef,undef,undef,undef,undef,undef,undef,undef,undef,undef,undef,undef,undef,undef,undef,undef,undef,undef,undef,undef,undef,undef,undef,undef,undef,undef,undef,undef,undef,undef,undef,undef,undef,undef,undef,undef,undef,undef,undef,undef,undef,undef,undef,undef,undef,undef,undef,undef]:=by
    have:Try.f3.ntmps=143:=by kernel_rfl
    rw [this];walk_nrm
  rw [enter_at _ Try.func3 mg,ht];clear ht;show JL (S0 (X:=Wk G5 GU) (Sg:=List Int) Try.prog Fin GR).L _ _ W;refine GY stepG_seq ?_;refine HY.Ht (S:=(S0 (X:=Wk G5 GU) (Sg:=List Int) Try.prog Fin GR)) (b:=base 3) [] (by simp) (by kernel_rfl) nE (by kernel_rfl) fun Wa ha=>?_;have hh:Wa.heap=W.heap:=by obtain ⟨τ,d,rfl⟩:=ha;rfl
  have HK:=Lib.hid (And.intro hB (And.intro Kr (And.intro hC (And.intro hJ (And.intro hh hcap)))));clear ha hB Kr hC hJ hh hcap;simp only [al0,Try.f3];gi_wp2;refine Hg ?_;obtain ⟨hB,Kr,hC,hJ,hh,hcap⟩:=HK.out;rw [← hh] at hB Kr hJ;replace hC:Calls ao m Kp Wa:=hC.same fun g _=>by rw [hh]
  clear HK hh;have lt:∀ {W:World} {g:Nat} {o},W.heap[g]?=some o->g < W.heap.size:=fun h=>(Array.getElem?_eq_some_iff.1 h).1;refine zC hcap hB Kr fun B' Wb EG EH k0 k1 k2=>?_;have fin:∀ W',(∀ g,Kp g->W'.heap[g]?=Wb.heap[g]?)->Wb.heap.size<=W'.heap.size->∀ tm Y,kC tm->JL (S0 (X:=Wk G5 GU) (Sg:=List Int) Try.prog Fin GR).L (.Ii B' (nn+2)) (G { (base 3).at ⟨tm,[]⟩ Y with mode:=.returning } cs) W':=fun W' e1 e2 tm Y ht=>hJ B' (nn+2) W' tm Y ht k0 (fun g hg=>(e1 g hg).trans (k1 g hg)) (by omega);have row:∀ g,Kp g->∃ c e f,Wb.heap[g]?=some (.cells c e f):=fun g hg=>by obtain ⟨⟨x,y,z,hx⟩,_⟩:=Kr g hg;exact ⟨x,y,z,(k1 g hg).trans hx⟩
  have hCb:=hC.same k1;clear hJ hB Kr hC;refine yC (fun Wc EI EJ EK hm hc=>?_) fun W' tm Y ht e=>fin W' (fun g _=>by rw [e]) (by rw [e];exact Nat.le_refl _) tm Y ht;refine Abq (fun n Wd EL EM EN EO EP hn n1 n2 hd=>?_) fun Wd EL EM EN EO EP hbad hd=>?_
  . subst hn;have zc:=congrArg Array.size hc;have zd:Wd.heap.size=Wc.heap.size+2:=by rw [hd];simp
    have od:∀ g,g < Wc.heap.size->Wd.heap[g]?=Wc.heap[g]?:=fun g hg=>by rw [hd,Array.getElem?_push,Array.getElem?_push,Array.size_push,if_neg (by omega),if_neg (by omega)]
    have d0:=Om Wc.heap (.cells (List.replicate n (Value.int .i64 0)).toArray 80 (0,0)) (.cells #[.slice (some ⟨Wc.heap.size,0,none⟩) n n] 71 (0,0));have d1:=Oe Wc.heap (.cells (List.replicate n (Value.int .i64 0)).toArray 80 (0,0)) (.cells #[.slice (some ⟨Wc.heap.size,0,none⟩) n n] 71 (0,0));rw [← hd] at d0 d1;clear hd;refine o7 (fun n' We ER ES ET EU EW hn' n1' n2' he=>?_) fun We ER ES ET EU EW hbad he=>?_
    . subst hn';have ze:We.heap.size=Wd.heap.size+2:=by rw [he];simp
      have oe:∀ g,g < Wd.heap.size->We.heap[g]?=Wd.heap[g]?:=fun g hg=>by rw [he,Array.getElem?_push,Array.getElem?_push,Array.size_push,if_neg (by omega),if_neg (by omega)]
      have e0:=Om Wd.heap (.cells (List.replicate n' (Value.int .i64 0)).toArray 80 (0,0)) (.cells #[.slice (some ⟨Wd.heap.size,0,none⟩) n' n'] 71 (0,0));have e1:=Oe Wd.heap (.cells (List.replicate n' (Value.int .i64 0)).toArray 80 (0,0)) (.cells #[.slice (some ⟨Wd.heap.size,0,none⟩) n' n'] 71 (0,0));rw [← he] at e0 e1;clear he;refine mE (nv:=n) (ov:=n') (e:=0) (f:=0) (.inl ⟨rfl,by simp;omega,by simp;omega⟩) (.inl ⟨rfl,by simp;omega,by simp;omega⟩) fun Wf EX EY EZ E5 E8 E9 Fa Fe Fg Fh Fj Fp Fq Fu Fv Fw Fy Fz FB FC FD FE FH FI FJ FK FL FM FN FP FQ FR FT FU FV FW FX FY FZ F3 F4 F5 hf=>?_;refine zn fun Wg F6 F7 F8 F9 Ga Gb Gc Gd hg=>?_;have hgf:Wg.heap=We.heap:=hg.trans hf;have old:∀ g,g < Wb.heap.size->Wg.heap[g]?=Wb.heap[g]?:=fun g hg=>by rw [hgf,oe g (by omega),od g (by omega),hc]
      refine Ada (ct:=Wc.heap.size+1) (cb:=Wc.heap.size) (MI:=Wd.heap.size+1) (Np:=Wd.heap.size) (Kp:=Kp) hm n1 n1' n2 n2' ?_ ?_ ?_ ?_ ?_ (fun g hg=>?_) (hCb.same fun g hg=>?_) fun W' tm Y ht j1 j2=>fin W' (fun g hg=>?_) ?_ tm Y ht
      . rw [hgf,oe _ (by omega)];exact d1
      . rw [hgf,oe _ (by omega)];exact d0
      . rw [hgf];exact e1
      . rw [hgf];exact e0
      . simp only [List.nodup_cons,List.mem_cons,List.not_mem_nil,or_false,not_or,List.nodup_nil,and_true,not_false_eq_true];omega
      . obtain ⟨x,y,z,hx⟩:=row g hg;have:=lt hx;refine ⟨⟨x,y,z,(old g this).trans hx⟩,?_⟩;simp only [List.mem_cons,List.not_mem_nil,or_false,not_or];omega
      . obtain ⟨x,y,z,hx⟩:=row g hg;exact old g (lt hx)
      . obtain ⟨x,y,z,hx⟩:=row g hg;exact (j1 g hg).trans (old g (lt hx))
      . have:=congrArg Array.size hgf;omega
    . have gB:xA ov 42:=by
        by_cases hx:1<=ov
        . exact .inr (.inl ⟨rfl,by simp [hx],by simp;omega⟩)
        . exact .inr (.inr ⟨rfl,by simp;omega⟩)
      refine mE (nv:=n) (ov:=ov) (e:=0) (f:=42) (.inl ⟨rfl,by simp;omega,by simp;omega⟩) gB fun Wf EX EY EZ E5 E8 E9 Fa Fe Fg Fh Fj Fp Fq Fu Fv Fw Fy Fz FB FC FD FE FH FI FJ FK FL FM FN FP FQ FR FT FU FV FW FX FY FZ F3 F4 F5 hf=>?_;refine fZ (e:=0) (f:=42) (by simp) fun W' tm Y ht hg=>fin W' (fun g hkg=>?_) ?_ tm Y ht
      . obtain ⟨x,y,z,hx⟩:=row g hkg;have:=lt hx;rw [hg,hf,he,od g (by omega),hc]
      . rw [hg,hf,he];omega
  . have pI:xA nv 42:=by
      by_cases hx:1<=nv
      . exact .inr (.inl ⟨rfl,by simp [hx],by simp;omega⟩)
      . exact .inr (.inr ⟨rfl,by simp;omega⟩)
    have zc:=congrArg Array.size hc;refine o7 (fun n' We ER ES ET EU EW hn' n1' n2' he=>?_) fun We ER ES ET EU EW hbad he=>?_
    . subst hn';refine mE (nv:=nv) (ov:=n') (e:=42) (f:=0) pI (.inl ⟨rfl,by simp;omega,by simp;omega⟩) fun Wf EX EY EZ E5 E8 E9 Fa Fe Fg Fh Fj Fp Fq Fu Fv Fw Fy Fz FB FC FD FE FH FI FJ FK FL FM FN FP FQ FR FT FU FV FW FX FY FZ F3 F4 F5 hf=>?_;refine fZ (e:=42) (f:=0) (by simp) fun W' tm Y ht hg=>fin W' (fun g hkg=>?_) ?_ tm Y ht
      . obtain ⟨x,y,z,hx⟩:=row g hkg;have:=lt hx;have zd:=congrArg Array.size hd;rw [hg,hf,he,Array.getElem?_push,Array.getElem?_push,Array.size_push,if_neg (by omega),if_neg (by omega),hd,hc]
      . have zd:=congrArg Array.size hd;rw [hg,hf,he];simp
        omega
    . have gB:xA ov 42:=by
        by_cases hx:1<=ov
        . exact .inr (.inl ⟨rfl,by simp [hx],by simp;omega⟩)
        . exact .inr (.inr ⟨rfl,by simp;omega⟩)
      refine mE (nv:=nv) (ov:=ov) (e:=42) (f:=42) pI gB fun Wf EX EY EZ E5 E8 E9 Fa Fe Fg Fh Fj Fp Fq Fu Fv Fw Fy Fz FB FC FD FE FH FI FJ FK FL FM FN FP FQ FR FT FU FV FW FX FY FZ F3 F4 F5 hf=>?_;refine fZ (e:=42) (f:=42) (by simp) fun W' tm Y ht hg=>fin W' (fun g hkg=>?_) ?_ tm Y ht
      . rw [hg,hf,he,hd,hc]
      . rw [hg,hf,he,hd,hc];exact Nat.le_refl _
end
end
end Go.Proofs.Ytkdhnbcdbnpmhaa
namespace Go.Proofs.Ytkdhnbcdbnpmhaa
open Go Go.Conc Go.LT Go.LC Go.LK Go.RowKit Go.Deep Go.ChangeShapes Go.WideShapes
open BA TU
section
variable {H:Type}{enc:TypeId × Value->H}{w:World}{base:Nat}{spare:Nat->Bool}{held:Bool}
theorem Tv:Try.prog.cellsOf 32=5:=by kernel_rfl
theorem X9:Try.prog.cellsOf 3=1:=by kernel_rfl
theorem Wo:Try.prog.cellsOf 30=1:=by kernel_rfl
def Row (w:World)(g:Nat):Prop:=∃ c e f,w.heap[g]?=some (Obj.cells c e f)
theorem WC {w:World}{a:Addr}{v:Value}(h:w.cell? a=some v):Row w a.block:=by
  simp only [World.cell?] at h;cases ho:w.heap[a.block]? with
  | none=>rw [ho] at h;cases h
  | some o=>
    rw [ho] at h;cases o with
    | cells c e f=>exact ⟨c,e,f,ho⟩
    | _=>simp at h
theorem YA {v:Value}{d:DataW H}{pl:List MemPlace}{fuel:Nat}(h:DataW.trod enc Try.prog w base spare held fuel 22 [v]=some (d,pl)) :
    ∃ ao m mc,v=.slice ao m mc/\Calls ao m (Row w) w:=by
  rcases open_slice Try.underlying22 h with ⟨hv,_⟩|⟨a,len,cap,m,n,D,Pl,hv,hb,hl,hm,hmm,hx,hcell⟩
  . obtain rfl:v=.slice none 0 0:=by simpa using hv
    exact ⟨none,0,0,rfl,fun i hi=>by omega⟩
  . obtain rfl:v=.slice (some a) len cap:=by simpa using hv
    have hlm:len<=m:=by rw [hmm];split <;> omega
    have hsp:∀ j,j < len->j=0->a.spot=none:=fun j h0 hj=>by
      obtain ⟨cs0,z1,_⟩:=hcell j (by omega);rw [Tv] at z1;obtain ⟨_,zl,zc⟩:=World.cells?_some z1;have zz:=zc 0 (by omega);rw [add_add,List.getElem?_eq_getElem (by omega)] at zz;subst hj
      simpa [Addr.add] using World.cell?_spot zz
    refine ⟨some a,len,cap,rfl,fun i hi=>?_⟩;obtain ⟨cs',h1,h2⟩:=hcell i (by omega);rw [Tv] at h1;obtain ⟨_,hcl,hc⟩:=World.cells?_some h1;obtain ⟨xs,k,_,_,_,hlen,hf⟩:=DataW.trod_struct Try.underlying32 h2;obtain ⟨u0,u1,u2,u3,u4,rfl⟩:∃ u0 u1 u2 u3 u4,cs'=[u0,u1,u2,u3,u4]:=by
      clear hf hc h1 h2
      match cs',hcl with
      | [u0,u1,u2,u3,u4],_=>exact ⟨u0,u1,u2,u3,u4,rfl⟩
    obtain ⟨y0,y1,y2,y3,y4,rfl⟩:∃ y0 y1 y2 y3 y4,xs=[y0,y1,y2,y3,y4]:=by
      clear hf hc h1 h2
      match xs,hlen with
      | [y0,y1,y2,y3,y4],_=>exact ⟨y0,y1,y2,y3,y4,rfl⟩
    have g0:=hf 0 _ rfl;have g1:=hf 1 _ rfl;have g2:=hf 2 _ rfl;have g3:=hf 3 _ rfl;have g4:=hf 4 _ rfl;simp [X9,Wo] at g0 g1 g2 g3 g4;obtain ⟨n0,e0,_⟩:=DataW.trod_int Try.underlying3 g0;obtain ⟨n1,e1,_⟩:=DataW.trod_int Try.underlying3 g1;obtain ⟨n2,e2,_⟩:=DataW.trod_int Try.underlying3 g2;obtain ⟨n3,e3,_⟩:=DataW.trod_int Try.underlying3 g3;obtain ⟨pa,pn,pc,e4⟩:∃ pa pn pc,u4=.slice pa pn pc:=by
      rcases open_slice Try.underlying30 g4 with ⟨hv,_⟩|⟨a,len,cap,m,n,D,Pl,hv,_⟩
      . exact ⟨_,_,_,by simpa using hv⟩
      . exact ⟨_,_,_,by simpa using hv⟩
    simp only [List.cons.injEq,and_true] at e0 e1 e2 e3;subst e0 e1 e2 e3 e4;have c0:=hc 0 (by omega);have c1:=hc 1 (by omega);have c2:=hc 2 (by omega);have c3:=hc 3 (by omega);have c4:=hc 4 (by omega);rw [add_add] at c0 c1 c2 c3 c4;obtain ⟨b,o,spot⟩:=a;obtain rfl:spot=none:=hsp 0 (by omega) rfl;rw [Addr.add_lit] at c0 c1 c2 c3 c4;refine ⟨b,o,⟨n0,n1,n2,n3⟩,pa,pn,pc,rfl,WC c0,?_,?_,?_,?_,?_⟩
    . simpa using c0
    . simpa [Nat.add_assoc] using c1
    . simpa [Nat.add_assoc] using c2
    . simpa [Nat.add_assoc] using c3
    . simpa [Nat.add_assoc] using c4
end
end Go.Proofs.Ytkdhnbcdbnpmhaa
namespace Go.Proofs.Ytkdhnbcdbnpmhaa.cellAlone
open Go.ChangeShapes Go.WideShapes Go.ChangeAt Go.RowKit Go.Conc Go.LT Go.LC Go.LK
theorem Ye {P:Program}{b:Frame}{a:Act}{todo:List Item}{w:World}{fn:Func}{v:Value}(hn:b.kind=.normal)(hd:a.defers=[])(hf:P.funcs[b.fn]?=some fn)(hr:(results fn a.tmps).run P w=.ok v w)(he:(results fn a.tmps).events P w #[]=#[])(hi:P.inits.idxOf? b.fn=none) :
    stepG P true (G { b.at a todo with mode:=.returning } []) w=.ended (.done v) w #[]:=by
  simp [G,stepG,unwind,doReturn,Frame.at,hn,hd,hf,hr,he,hi,seen,GStep.after]
def Post (W:World)(v:Value)(w:World):Prop:=v=.bool true/\Below W.heap.size W { w with tape:=W.tape }
def fin (W:World):Iw where
  F:=fun m T=>QD W.heap.size W m.world->∃ N last o w' t',runNT Try.prog (N+1) m T=(.ended o w',t')/\runN Try.prog N m=.next last/\step Try.prog last=.ended o w'/\Conc.Good Try.prog (Post W) last o w' t'
  b0:=W.heap.size
theorem tJ (W:World):Ig Try.prog (fin W):=by
  intro N m m' T T' h fr hF hm;obtain ⟨N',last,o,w',t',r1,r2,r3,r4⟩:=hF (hm.trans fr);refine ⟨N+N',last,o,w',t',?_,?_,r3,r4⟩
  . rw [Nat.add_assoc,runNT_add,h];exact r1
  . rw [← runNT_fst _ _ _ T,runNT_add,h];show (runNT Try.prog N' m' T').1=_;rw [runNT_fst];exact r2
def Bn:LT.Hid:={ hol:=fun _=>false }
theorem jP (W:World)(g:Nat):(GN Bn W).heap[g]?=(W.heap[g]?).map depend:=by rw [Ib (B:=Bn) rfl];show (W.heap[g]?).map (dep false)=_;rw [LD]
theorem Yt {W:World}{g:Nat}{c:Array Value}{e:TypeId}{f:Nat × Nat}(h:W.heap[g]?=some (.cells c e f)):(GN Bn W).heap[g]?=some (.cells c e f):=by rw [jP,h];rfl
theorem runs (W:World){nv ov:Int}{ao:Option Addr}{m mc:Nat}(hC:Calls ao m (Row W) W) :
    ∃ M last o w' t',runNT Try.prog (M+1) (solo (G (Frame.enter Try.prog 3 #[.int .i64 nv,.int .i64 ov,.slice ao m mc] .normal) []) W) #[]=(.ended o w',t')/\
      runN Try.prog M (solo (G (Frame.enter Try.prog 3 #[.int .i64 nv,.int .i64 ov,.slice ao m mc] .normal) []) W)=.next last/\step Try.prog last=.ended o w'/\Conc.Good Try.prog (Post W) last o w' t':=by
  have hC2:Calls ao m (Row (GN Bn W)) (GN Bn W):=fun i hi=>by obtain ⟨ga,go,d,pa,pn,pc,h1,⟨c,e,f,h2⟩,h3⟩:=hC i hi;exact ⟨ga,go,d,pa,pn,pc,h1,⟨c,e,f,Yt h2⟩,h3.same (by rw [Yt h2,h2])⟩
  have h:=U4 (Fin:=fin W) (GR:=tJ W) (B:=fun _=>false) (W:=GN Bn W) (nn:=1) (cs:=[]) (nv:=nv) (ov:=ov) (ao:=ao) (m:=m) (mc:=mc) (Kp:=Row (GN Bn W)) (by omega) (fun g hg=>by cases hg) (fun g hg=>⟨hg,rfl⟩) hC2
    (fun B' nn' W' tm Y ht kB k1 k2 w hw gs T sl q hg hn C hlow hfr=>by
      refine C.ends (D:=fun _ _ _=>False) (Post:=Post W) hg fun w₁ ha=>?_;obtain ⟨d,rfl⟩:=ha;refine ⟨rfl,.bool true,#[],Ye rfl rfl Try.func3 ?_ ?_ (by kernel_rfl),by simp,rfl,hfr.os,rfl,hfr.output,hfr.size,fun g hlt=>?_⟩
      . rw [← Sem.runT_fst (es:=#[]),ht]
      . show ((results _ tm).runT _ _ #[]).2=#[];rw [ht]
      . show w.heap[g]?=W.heap[g]?;cases ho:W.heap[g]? with
        | none=>have:=Array.getElem?_eq_none_iff.1 ho;omega
        | some o=>
          cases o with
          | cells c e f=>
            have h1:=k1 g ⟨c,e,f,Yt ho⟩;have hB:B' g=false:=by
              cases hb:B' g with
              | false=>rfl
              | true=>
                rcases kB g hb with h|h
                . cases h
                . rw [Je] at h;omega
            rw [IV hw,Ib hB,jP] at h1;have h2:NY W w g:=by show (w.heap[g]?).map depend=_;rw [← h1];show _=(w.heap[g]?).map (dep false);rw [LD]
            exact h2.cells ho
          | _=>exact hfr.objs g _ hlt ho (by simp))
  have hs:J2 Bn W (GN Bn W):=⟨.refl _,⟨fun b hb=>(by cases hb),fun b hb=>(by cases hb)⟩⟩
  exact h W hs #[G (Frame.enter Try.prog 3 #[.int .i64 nv,.int .i64 ov,.slice ao m mc] .normal) []] #[] none (fun _=>0) rfl rfl (lS _ _ _ _) (Nat.le_refl _) (.refl _ _)
theorem ZU {W w':World}{may:MemPlace->Prop}(h:Below W.heap.size W { w' with tape:=W.tape }):W.keptBut w' may:=by have hk:=h.frame may;exact ⟨hk.1,hk.2.1,hk.2.2⟩
theorem own:ownKnob Try.prog.godebug=none:=by kernel_rfl
theorem laidOut:laidOutB Try.prog=true:=by kernel_rfl
theorem lifted (os:Os)(started:os.Started)(H:Type)(enc:TypeId × Value->H) :
    ReturnsInLeavingWide {} Try.checked os 3 .any (Rows.cellAloneSpec.pre6 enc Try.prog Try.f3 Rows.cellAloneRow.domain false) (Rows.cellAloneSpec.post enc Try.prog Try.f3 false true false false):=by
  refine returnsInLeavingWide_of_change_sized (C:=Try.checked) own started Try.func3
    (ChangeSpec.witness6 (enc:=enc) (C:=Try.checked) false ⟨#[],#[.int .i64 0,.int .i64 0,.slice none 0 0],[]⟩ 8 (by kernel_rfl) (by kernel_rfl) (by kernel_rfl) (by kernel_rfl)) ?_
  intro W base args ds gs before hval0 hW _ _ _;have hval:∀ (j:Nat) t v,Try.f3.params[j]?=some t->args[j]?=some v->Value.okWide Try.prog W .any base t v:=hval0;have hW':=hW;obtain ⟨p,q,jK,hV,rfl,_,_⟩:=hW;have hA:DataW.TrodAll enc Try.prog W 0 (fun _=>true) true Try.f3.params.toList args.toList ds p:=jK;rw [Try.params3] at hA hval;obtain ⟨v0,vs0,d0,ds0,p0,q0,hargs,rfl,rfl,h0,r0⟩:=trodAll_cons hA;obtain ⟨v1,vs1,d1,ds1,p1,q1,rfl,rfl,rfl,h1,r1⟩:=trodAll_cons r0;obtain ⟨v2,vs2,d2,ds2,p2,q2,rfl,rfl,rfl,h2,r2⟩:=trodAll_cons r1;obtain ⟨rfl,rfl,rfl⟩:=trodAll_nil r2;obtain rfl:args=#[v0,v1,v2]:=by cases args;simp_all
  obtain ⟨rfl,rfl⟩:=trodVars_none hV;obtain ⟨a0,rfl,rfl,rfl,w0⟩:=open_int Try.underlying3 (hval 0 3 v0 rfl rfl) h0;obtain ⟨a1,rfl,rfl,rfl,w1⟩:=open_int Try.underlying3 (hval 1 3 v1 rfl rfl) h1;obtain ⟨b2,l2,c2,rfl⟩:=okWide_slice Try.underlying22 (hval 2 22 _ rfl rfl);have k2:=h2;have lt2:∀ x∈p2,x.block < W.heap.size:=by obtain ⟨m,hm⟩:=k2;exact DataW.trod_lt m _ _ _ hm
  obtain ⟨fuel,hf⟩:=h2;obtain ⟨ao,m,mc,hv,hC⟩:=YA hf;obtain ⟨rfl,rfl,rfl⟩:=Value.slice.inj hv;clear jK hval0;obtain ⟨M,last,o,w',t',e1,e2,e3,e4⟩:=runs W (nv:=a0) (ov:=a1) (mc:=c2) hC;refine ⟨M,last,o,w',t',e1,e2,e3,e4.mono fun v hF=>?_⟩;obtain ⟨rfl,bel⟩:=hF;have hh:({ w' with tape:=W.tape }:World).heap=w'.heap:=rfl;refine ⟨_,_,_,[],_,[],hW',trodAll_mk1 (shut_bool Try.underlying4 _),DataW.TrodAll.of_heap hh (trodAll_cons_mk (shut_int Try.underlying3 w0) (trodAll_cons_mk (shut_int Try.underlying3 w1) (trodAll_cons_mk (Below.trod laidOut (by kernel_rfl) (of_decide_eq_true (by kernel_rfl)) k2 bel lt2) trodAll_mk0))),rfl,?_,fun h=>by cases h⟩;exact ZU bel
theorem over:Rows.cellAloneRow.holds Try.pinned (OpenSpec.ofChange Rows.cellAloneSpec):=
  OpenClaim.holds_of_wide_leaving 3 Try.f3 rfl rfl rfl rfl rfl rfl rfl ⟨rfl,rfl,rfl,rfl,rfl⟩ rfl rfl rfl rfl rfl (by kernel_rfl) Try.func3 (by kernel_rfl)
    (of_decide_eq_true (by kernel_rfl)) (by unfold Func.isWrapper;first | (rw [if_pos (by decide +kernel)];kernel_rfl) | (rw [if_neg (by decide +kernel)];exact ⟨rfl,rfl⟩))
    (fun os started H enc _=>lifted os started H enc)
theorem proved:Rows.CellAloneSaid:=over
end Go.Proofs.Ytkdhnbcdbnpmhaa.cellAlone
#print axioms Go.Proofs.Ytkdhnbcdbnpmhaa.cellAlone.proved
