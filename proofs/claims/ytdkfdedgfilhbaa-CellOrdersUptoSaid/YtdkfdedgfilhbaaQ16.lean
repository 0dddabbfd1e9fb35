/-
  Part 16 of the proof that CellOrders is true of every input of bulk at most 1048576.
-/
import Derived.Test.YtdkfdedgfilhbaaQ15
import Derived.Deep.RegionHeld3
import Derived.BigFrameIn
import Derived.Sort.CutIn
set_option linter.unusedVariables false
set_option linter.unusedSectionVars false
set_option linter.unusedSimpArgs false
set_option maxHeartbeats 4000000
set_option maxRecDepth 100000
noncomputable section
namespace Go.Proofs.Ytdkfdedgfilhbaa
open Go Go.Conc Go.LT Go.LC Go.LK Go.RowKit
open BA TU
def Oo(a:List Int)(i:Nat):Int:=a.getD i 0
def Vl(a b:List Int)(i:Nat):Prop:=∀j,j<i->Oo a j=Oo b j
theorem Tm{a b:List Int}(hl:a.length=b.length)(h:Vl a b a.length):a=b:=by
 apply List.ext_getElem hl;intro i h1 h2;have:=h i h1
 simpa [Oo,List.getD_eq_getElem?_getD,h1,h2]using this
theorem Me{w:World}{u:Value}{a:List Int}(h:Reads w u (a.map (Value.int .i64))):∃ua uc,u=.slice ua a.length uc/\∀i,i<a.length->∃b o,ua=some ⟨b,o,none⟩/\w.cell? ⟨b,o+i,none⟩=some (.int .i64 (Oo a i)):=by
 rcases h with⟨h0,ao,c,rfl,_⟩|⟨h0,b,o,c,rfl,_,_,h3⟩
 . have ha:a=[]:=by simpa using h0
   subst ha;exact⟨ao,c,rfl,fun i hi=>absurd hi (Nat.not_lt_zero i)⟩
 . rw[List.length_map];refine⟨_,c,rfl,fun i hi=>⟨b,o,rfl,h3 i _ ?_⟩⟩;have:a[i]?=some (Oo a i):=by simp[Oo,List.getD,hi]
   rw[List.getElem?_map,this];rfl
theorem nH(h:FuncId)(u v:Value)(a b:List Int)(w:World)(hu:Reads w u (a.map (Value.int .i64)))(hv:Reads w v (b.map (Value.int .i64)))(h1:a.length<=1000000) :
   CallsIn (Fence.list [h,7,13] none) 0 Try.prog 13 #[u,v] w fun e w'=>e=.returned (.bool (decide (a=b)))/\Below w.heap.size w w':=by
 obtain⟨ua,uc,rfl,hua⟩:=Me hu;obtain⟨va,vc,rfl,hva⟩:=Me hv;have HU:=Lib.hid hua;have HV:=Lib.hid hva;clear hu hv hua hva;gi_enter Try.func13,Try.ntmps13
 by_cases hl:a.length=b.length
 . gi_wp2;gi_loopw [5] (fun iv wr=>∃i:Nat,i<=a.length/\iv=.int .i64 i/\Below w.heap.size w wr/\Vl a b i) (fun iv _=>a.length-(intOf iv).toNat)
   case atStart=>exact⟨0,by omega,rfl,Below.refl _ _,fun j hj=>by omega⟩
   case round=>
    obtain⟨i,hi,rfl,hB,hE⟩:=hrel;by_cases hlt:i<a.length
    . have hlt':i<b.length:=by omega
      obtain⟨b1,o1,rfl,d1⟩:=HU.out i hlt;obtain⟨b2,o2,rfl,d2⟩:=HV.out i hlt';have q1:wr.cell? ⟨b1,o1+i,none⟩=some (.int .i64 (Oo a i)):=(hB.cell (p:=⟨b1,o1+i,none⟩) (World.block_lt_of_cell? w _ d1)).trans d1;have q2:wr.cell? ⟨b2,o2+i,none⟩=some (.int .i64 (Oo b i)):=(hB.cell (p:=⟨b2,o2+i,none⟩) (World.block_lt_of_cell? w _ d2)).trans d2;have Af7:(i:Int)<(b.length:Int):=by omega
      clear d1 d2;by_cases he:Oo a i=Oo b i
      . have hE':Vl a b (i+1):=fun j hj=>by
         by_cases hji:j=i
         . subst hji;exact he
         . exact hE j zOM
        have he':(Oo a i != Oo b i)=false:=by simpa using he
        have HE':=Lib.hid hE';clear he hE hE';generalize Oo a i=x at q1 he';generalize Oo b i=y at q2 he';gi_wp2;gi_region
        gi_wp2;go_roundw
        case rel=>exact⟨i+1,by omega,by go_num,hB.drew,HE'.out⟩
        case measure=>simp[intOf];omega
      . have he':(Oo a i != Oo b i)=true:=by simpa using he
        have hne:decide (a=b)=false:=decide_eq_false (fun e=>he (by rw[e]));have HN:=Lib.hid hne;clear he hE hne;generalize Oo a i=x at q1 he';generalize Oo b i=y at q2 he';gi_wp2;gi_region
        gi_wp2;go_ret
        exact⟨by rw[HN.out];rfl,hB.drew⟩
    . obtain rfl:i=a.length:=by omega
      have hh:decide (a=b)=true:=decide_eq_true (Tm hl hE);have HH:=Lib.hid hh;clear hh;gi_wp2;go_ret
      exact⟨by rw[HH.out];rfl,hB⟩
 . have hne:decide (a=b)=false:=decide_eq_false (fun e=>hl (by rw[e]));have HN:=Lib.hid hne;have hli:¬ ((a.length:Int)=(b.length:Int)):=by omega
   clear hne;gi_wp2;go_ret
   exact⟨by rw[HN.out];rfl,Below.refl _ _⟩
def bL:List (List EP):=[[⟨6,0,5,0⟩],[⟨6,0,9,0⟩]]
def WX:List Int:=[0,1,1,0,0]
def kz:Rs EP Fw (List Int):=Rs.go EK (F5 0) (F5 0) (Rs.new bL ([]++(List.replicate 1 0).drop 0) WX [])
theorem Ag8:kz.s=5:=by kernel_rfl
theorem Abt:kz.σ=[9]:=by kernel_rfl
theorem wQ:kz.xs.length=2:=by kernel_rfl
theorem jL:kz.xs.all (fun x=>x.over&&decide (x.out.length<=1000000))=true:=by kernel_rfl
theorem qx:∀x∈kz.xs,x.out.length<=1000000:=fun x hx=>by have:=List.all_eq_true.1 jL x hx;simp at this;exact this.2
theorem sJ:kz.rd.any id=false:=by kernel_rfl
theorem yw:kz.xs[0]?.map (·.out)=some [⟨⟨false,9,0,0,[]⟩,1,5,3⟩]:=by kernel_rfl
theorem Aai:kz.xs[1]?.map (·.out)=some [⟨⟨false,9,0,0,[]⟩,2,3,2⟩]:=by kernel_rfl
section
def kn0:Code:=match Try.f4.body with | some (.seq c _)=>c | _=>.skip
def kn1:Code:=match Try.f4.body with | some (.seq _ (.seq c _))=>c | _=>.skip
def kk1:Code:=match Try.f4.body with | some (.seq _ (c))=>c | _=>.skip
def kn2:Code:=match Try.f4.body with | some (.seq _ (.seq _ (.seq c _)))=>c | _=>.skip
def kk2:Code:=match Try.f4.body with | some (.seq _ (.seq _ (c)))=>c | _=>.skip
def kn3:Code:=match Try.f4.body with | some (.seq _ (.seq _ (.seq _ (.seq c _))))=>c | _=>.skip
def kk3:Code:=match Try.f4.body with | some (.seq _ (.seq _ (.seq _ (c))))=>c | _=>.skip
def kn4:Code:=match Try.f4.body with | some (.seq _ (.seq _ (.seq _ (.seq _ (.seq c _)))))=>c | _=>.skip
def kk4:Code:=match Try.f4.body with | some (.seq _ (.seq _ (.seq _ (.seq _ (c)))))=>c | _=>.skip
def kn5:Code:=match Try.f4.body with | some (.seq _ (.seq _ (.seq _ (.seq _ (.seq _ (.seq c _))))))=>c | _=>.skip
def kk5:Code:=match Try.f4.body with | some (.seq _ (.seq _ (.seq _ (.seq _ (.seq _ (c))))))=>c | _=>.skip
def kn6:Code:=match Try.f4.body with | some (.seq _ (.seq _ (.seq _ (.seq _ (.seq _ (.seq _ (.seq c _)))))))=>c | _=>.skip
def kk6:Code:=match Try.f4.body with | some (.seq _ (.seq _ (.seq _ (.seq _ (.seq _ (.seq _ (c)))))))=>c | _=>.skip
def kn7:Code:=match Try.f4.body with | some (.seq _ (.seq _ (.seq _ (.seq _ (.seq _ (.seq _ (.seq _ (c))))))))=>c | _=>.skip
def kk7:Code:=match Try.f4.body with | some (.seq _ (.seq _ (.seq _ (.seq _ (.seq _ (.seq _ (.seq _ (c))))))))=>c | _=>.skip
theorem mF:Try.f4.body=some (.seq kn0 kk1):=rfl
theorem uL:kk1=.seq kn1 kk2:=rfl
theorem qC:kk2=.seq kn2 kk3:=rfl
theorem qO:kk3=.seq kn3 kk4:=rfl
theorem tZ:kk4=.seq kn4 kk5:=rfl
theorem tq:kk5=.seq kn5 kk6:=rfl
theorem uR:kk6=.seq kn6 kk7:=rfl
theorem UK:∀g∈[7,13],@Lets (Host.only 4) Try.prog g:=fun g hg=>by
 simp only[List.mem_cons,List.not_mem_nil,or_false]at hg;rcases hg with rfl|rfl
 . exact⟨by kernel_rfl,.inl ⟨_,_,Try.func7,by kernel_rfl,rfl,by kernel_rfl⟩⟩
 . exact⟨by kernel_rfl,.inl ⟨_,_,Try.func13,by kernel_rfl,rfl,by kernel_rfl⟩⟩
section
variable {Fin:Gb}{EH:FM Try.prog Fin}
variable {B:Nat->Bool}{W:World}{nn:Nat}{c:Frame}{cs:List Frame}
variable {v0 v1 v2 v3 v4 v5 v6 v7 v8 v9 Aa Ab Ac Ae Af Ah Ai Aj Ak Al Am Ao Ap Ar Au Av Aw Ay Az AA AB AJ AL AO AP AQ AU AV AX AY AZ A8 A9 Ba Bb Bc Bf Bh Bj Bl Bp Bq Br Bu Bv Bw Bz BD BF BG BH BI BJ BK BL BM BN BO BP BQ BR BS BU BX BZ Ca Cb Cc Ce Cg Ci Cj Ck Cm Co Cq Cr Ct Cu Cw Cx Cy Cz CB CF CG CJ CK CO CQ CS CU CV CW CX CY CZ C8 C9:Value}
theorem Abu{r7 r8:Nat}(h1:W.cell? ⟨r7,2,none⟩=some (.int .i64 3))(h2:W.cell? ⟨r7,4,none⟩=some (.int .i64 9))(h3:W.cell? ⟨r8,2,none⟩=some (.int .i64 2))(h4:W.cell? ⟨r8,4,none⟩=some (.int .i64 9))(hJ:∀W',W'.heap=W.heap->JW (FU EH).base (.Gj B nn) (G (c.finish (.bool true)) cs) W') :
  JL (FU EH).L (.Gj B nn) (G ((base 4).at ⟨#[v0,v1,v2,v3,v4,v5,v6,.pointer (some ⟨r7,0,none⟩),.pointer (some ⟨r8,0,none⟩),v9,.int .i64 41,Ab,Ac,Ae,Af,Ah,Ai,Aj,Ak,Al,Am,Ao,Ap,Ar,Au,Av,Aw,Ay,Az,AA,AB,AJ,AL,AO,AP,AQ,AU,AV,AX,AY,AZ,A8,A9,Ba,Bb,Bc,Bf,Bh,Bj,Bl,Bp,Bq,Br,Bu,Bv,Bw,Bz,BD,BF,BG,BH,BI,BJ,BK,BL,BM,BN,BO,BP,BQ,BR,BS,BU,BX,BZ,Ca,Cb,Cc,Ce,Cg,Ci,Cj,Ck,Cm,Co,Cq,Cr,Ct,Cu,Cw,Cx,Cy,Cz,CB,CF,CG,CJ,CK,CO,CQ,CS,CU,CV,CW,CX,CY,CZ,C8,C9],[]⟩ (.code kn7 :: [])) (c :: cs)) W:=by
 refine Fp.Fz (S:=(FU EH)) (b:=base 4) [7,13] UK zKR nE zKR fun EG ha=>?_;have hh:EG.heap=W.heap:=by obtain⟨τ,d,rfl⟩:=ha;rfl
 have e1:EG.cell? ⟨r7,2,none⟩=some (.int .i64 3):=by simp only[World.cell?,hh]at h1 ⊢;exact h1
 have e2:EG.cell? ⟨r7,4,none⟩=some (.int .i64 9):=by simp only[World.cell?,hh]at h2 ⊢;exact h2
 have e3:EG.cell? ⟨r8,2,none⟩=some (.int .i64 2):=by simp only[World.cell?,hh]at h3 ⊢;exact h3
 have e4:EG.cell? ⟨r8,4,none⟩=some (.int .i64 9):=by simp only[World.cell?,hh]at h4 ⊢;exact h4
 have HH:=Lib.hid (zAI hJ hh);clear hJ hh h1 h2 h3 h4;simp only[kn7,Try.f4];gi_wp2;intro Y;obtain⟨hJ,hh⟩:=HH.out;exact JL.back rfl Try.func4 (v:=.bool true) (fun w=>by kernel_rfl) (hJ _ hh)
theorem yZ{r7 r8 ct cb:Nat}{Kp:Nat->Prop}(h1:W.cell? ⟨r7,2,none⟩=some (.int .i64 3))(h2:W.cell? ⟨r7,4,none⟩=some (.int .i64 9))(h3:W.cell? ⟨r8,2,none⟩=some (.int .i64 2))(h4:W.cell? ⟨r8,4,none⟩=some (.int .i64 9))(He:∀g,Kp g->∃c e f,W.heap[g]?=some (.cells c e f))(k7:Kp r7)(k8:Kp r8)(hne:ct≠cb)(hkc:∀g,Kp g->g≠cb)(hc1:W.heap[ct]?=some (.cells #[.slice (some ⟨cb,0,none⟩) 3 3] 62 (0,0)))(hc2:W.heap[cb]?=some (.cells #[.int .i64 0,.int .i64 0,.int .i64 0] 76 (0,0)))(hJ:∀W',(∀g,Kp g->W'.heap[g]?=W.heap[g]?)->W.heap.size<=W'.heap.size->JW (FU EH).base (.Gj B nn) (G (c.finish (.bool true)) cs) W') :
   JL (FU EH).L (.Gj B nn) (G ((base 4).at ⟨#[v0,v1,v2,v3,v4,.pointer (some ⟨ct,0,none⟩),v6,.pointer (some ⟨r7,0,none⟩),.pointer (some ⟨r8,0,none⟩),v9,Aa,Ab,Ac,Ae,Af,Ah,Ai,Aj,Ak,Al,Am,Ao,Ap,Ar,Au,Av,Aw,Ay,Az,AA,AB,AJ,AL,AO,AP,AQ,AU,AV,AX,AY,AZ,A8,A9,Ba,Bb,Bc,Bf,Bh,Bj,Bl,Bp,Bq,Br,Bu,Bv,Bw,Bz,BD,BF,BG,BH,BI,BJ,BK,BL,BM,BN,BO,BP,BQ,BR,BS,BU,BX,BZ,Ca,Cb,Cc,Ce,Cg,Ci,Cj,Ck,Cm,Co,Cq,Cr,Ct,Cu,Cw,Cx,Cy,Cz,CB,CF,CG,CJ,CK,CO,CQ,CS,CU,CV,CW,CX,CY,CZ,C8,C9],[]⟩ (.code kk6 :: [])) (c :: cs)) W:=by
 have HH:=Lib.hid (zAI h1 (zAI h2 (zAI h3 (zAI h4 (zAI He (zAI k7 (zAI k8 (zAI hne (zAI hkc (zAI hc1 (zAI hc2 hJ)))))))))));clear h1 h2 h3 h4 He k7 k8 hne hkc hc1 hc2 hJ;rw[uR];refine EO ?_;simp only[kn6,Try.f4];refine E9 fun _ hkk=>?_
 (refine ET ?_;walk_nrm)
 refine JL.enter rfl rfl nE rfl Try.func15 zKR zKR ?_;walk_nrm;obtain⟨h1,h2,h3,h4,He,k7,k8,hne,hkc,hc1,hc2,hJ⟩:=HH.out;clear HH;obtain⟨M0,hM0⟩:∃M0,M0=NT ct cb 3 Kp W He:=⟨_,rfl⟩
 have hCM:FI M0 ct cb 3:=by rw[hM0];exact Mr (by decide) hne hkc
 refine UQ (YA EK M0 (.Gj B nn) (FU EH)) hCM (s:={ own:=fun _=>False,f:=5,res:=([0,0,0],({ err:=41 },false)) }) (σ:=[0,0,0]) (c:=⟨1,9,0,0⟩) rfl ⟨?_,fun b hb=>hb.elim⟩ (by show Jl EK 5 _ _=_;kernel_rfl) trivial ?_
 . rw[hM0];exact⟨rfl,hc1,hc2,fun g hg=>rfl⟩
 . intro s' σ' W' e hA' hO hE _;have hE':(σ',(e,false))=s'.res:=hE;have hr:s'.res=(([0,0,0],({ err:=41 },false)):List Int × (An × Bool)):=hO.le;rw[hr]at hE';cases hE'
   have hI:=hA'.inv;rw[hM0]at hI;obtain⟨_,_,_,hfx⟩:=hI;have f7:=hfx r7 k7;have f8:=hfx r8 k8;rw[Frame.finish_at];show JL (FU EH).L (.Gj B nn) _ W';have HH:=Lib.hid (zAI h1 (zAI h2 (zAI h3 (zAI h4 (zAI hfx (zAI f7 (zAI f8 hJ)))))));have hsz:W.heap.size<=W'.heap.size:=hO.size;clear h1 h2 h3 h4 He k7 k8 hne hkc hc1 hc2 hJ hfx f7 f8 hO hA' hCM hM0 hr hE;walk_nrm;iterate 5(refine ET ?_;walk_nrm)
   refine E5 ?_;cases hkk;obtain⟨h1,h2,h3,h4,hfx,f7,f8,hJ⟩:=HH.out;exact Abu (by rw[cell_of (w:=W) (a:=⟨r7,2,none⟩) f7];exact h1) (by rw[cell_of (w:=W) (a:=⟨r7,4,none⟩) f7];exact h2) (by rw[cell_of (w:=W) (a:=⟨r8,2,none⟩) f8];exact h3) (by rw[cell_of (w:=W) (a:=⟨r8,4,none⟩) f8];exact h4) fun W2 hw=>hJ W2 (fun g hg=>by rw[hw];exact hfx g hg) (by rw[hw];exact hsz)
end
end
section
theorem Ug(H:Array Obj)(a b:Obj):((H.push a).push b)[H.size]?=some a:=by rw[Array.getElem?_push,if_neg (by simp),Array.getElem?_push,if_pos rfl]
theorem UG(H:Array Obj)(a b:Obj):((H.push a).push b)[H.size+1]?=some b:=by rw[Array.getElem?_push,if_pos (by simp)]
theorem Acd{EG W2:World}{a b:Array Value}{t t':TypeId}{f f':Nat × Nat}(h:((EG.alloc (.cells a t f)).alloc (.cells b t' f')).drew=W2){i:Nat}{v:Value}(hv:a[i]?=some v):W2.cell? ⟨EG.heap.size,i,none⟩=some v:=by
 have:W2.heap[EG.heap.size]?=some (.cells a t f):=by rw[← h];exact Ug _ _ _
 simp only[World.cell?,this];exact hv
theorem zP{EG W2:World}{a b:Array Value}{t t':TypeId}{f f':Nat × Nat}(h:((EG.alloc (.cells a t f)).alloc (.cells b t' f')).drew=W2){i:Nat}{v:Value}(hv:b[i]?=some v):W2.cell? ⟨EG.heap.size+1,i,none⟩=some v:=by
 have:W2.heap[EG.heap.size+1]?=some (.cells b t' f'):=by rw[← h];exact UG _ _ _
 simp only[World.cell?,this];exact hv
section
variable {Fin:Gb}{EH:FM Try.prog Fin}
variable {B:Nat->Bool}{W:World}{nn:Nat}{c:Frame}{cs:List Frame}
variable {v0 v1 v2 v3 v4 v5 v6 v7 v8 v9 Aa Ab Ac Ae Af Ah Ai Aj Ak Al Am Ao Ap Ar Au Av Aw Ay Az AA AB AJ AL AO AP AQ AU AV AX AY AZ A8 A9 Ba Bb Bc Bf Bh Bj Bl Bp Bq Br Bu Bv Bw Bz BD BF BG BH BI BJ BK BL BM BN BO BP BQ BR BS BU BX BZ Ca Cb Cc Ce Cg Ci Cj Ck Cm Co Cq Cr Ct Cu Cw Cx Cy Cz CB CF CG CJ CK CO CQ CS CU CV CW CX CY CZ C8 C9:Value}
theorem xJ{rb ab ao ac g0 o0 c0 g1 o1 c1 ct:Nat}(p0:W.cell? ⟨rb,0,none⟩=some (.slice (some ⟨ab,ao,none⟩) 2 ac))(p1:W.cell? ⟨ab,ao,none⟩=some (.slice (some ⟨g0,o0,none⟩) 1 c0))(p2:W.cell? ⟨ab,ao+1,none⟩=some (.slice (some ⟨g1,o1,none⟩) 1 c1))(x0:W.cell? ⟨g0,o0,none⟩=some (.int .i64 1))(x1:W.cell? ⟨g0,o0+1,none⟩=some (.int .i64 5))(x2:W.cell? ⟨g0,o0+2,none⟩=some (.int .i64 3))(x3:W.cell? ⟨g0,o0+3,none⟩=some (.bool false))(x4:W.cell? ⟨g0,o0+4,none⟩=some (.int .i64 9))(x5:W.cell? ⟨g0,o0+5,none⟩=some (.int .i64 0))(x6:W.cell? ⟨g0,o0+6,none⟩=some (.int .i64 0))(x7:W.cell? ⟨g0,o0+7,none⟩=some (.slice none 0 0))(x8:W.cell? ⟨g0,o0+8,none⟩=some (.slice none 0 0))(y0:W.cell? ⟨g1,o1,none⟩=some (.int .i64 2))(y1:W.cell? ⟨g1,o1+1,none⟩=some (.int .i64 3))(y2:W.cell? ⟨g1,o1+2,none⟩=some (.int .i64 2))(y3:W.cell? ⟨g1,o1+3,none⟩=some (.bool false))(y4:W.cell? ⟨g1,o1+4,none⟩=some (.int .i64 9))(y5:W.cell? ⟨g1,o1+5,none⟩=some (.int .i64 0))(y6:W.cell? ⟨g1,o1+6,none⟩=some (.int .i64 0))(y7:W.cell? ⟨g1,o1+7,none⟩=some (.slice none 0 0))(y8:W.cell? ⟨g1,o1+8,none⟩=some (.slice none 0 0)){cb:Nat}{Kp:Nat->Prop}(He:∀g,Kp g->∃c e f,W.heap[g]?=some (.cells c e f))(hne:ct≠cb)(hkc:∀g,Kp g->g≠cb)(hc1:W.heap[ct]?=some (.cells #[.slice (some ⟨cb,0,none⟩) 3 3] 62 (0,0)))(hc2:W.heap[cb]?=some (.cells #[.int .i64 0,.int .i64 0,.int .i64 0] 76 (0,0)))(hJ:∀W',(∀g,Kp g->W'.heap[g]?=W.heap[g]?)->W.heap.size<=W'.heap.size->JW (FU EH).base (.Gj B nn) (G (c.finish (.bool true)) cs) W') :
  JL (FU EH).L (.Gj B nn) (G ((base 4).at ⟨#[v0,v1,.pointer (some ⟨rb,0,none⟩),v3,v4,.pointer (some ⟨ct,0,none⟩),v6,v7,v8,v9,Aa,Ab,Ac,Ae,Af,Ah,Ai,Aj,Ak,Al,Am,Ao,Ap,Ar,Au,Av,Aw,Ay,Az,AA,AB,AJ,AL,AO,AP,AQ,AU,AV,AX,AY,AZ,A8,A9,Ba,Bb,Bc,Bf,Bh,Bj,Bl,Bp,Bq,Br,Bu,Bv,Bw,Bz,BD,BF,BG,BH,BI,BJ,BK,BL,BM,BN,BO,BP,BQ,BR,BS,BU,BX,BZ,Ca,Cb,Cc,Ce,Cg,Ci,Cj,Ck,Cm,Co,Cq,Cr,Ct,Cu,Cw,Cx,Cy,Cz,CB,CF,CG,CJ,CK,CO,CQ,CS,CU,CV,CW,CX,CY,CZ,C8,C9],[]⟩ (.code kk5 :: [])) (c :: cs)) W:=by
 rw[tq];refine EO ?_;refine Fp.Fz (S:=(FU EH)) (b:=base 4) [7,13] UK zKR nE zKR fun EG ha=>?_;have hh:EG.heap=W.heap:=by obtain⟨τ,d,rfl⟩:=ha;rfl
 have HJ:=Lib.hid (zAI He (zAI hne (zAI hkc (zAI hc1 (zAI hc2 (zAI hJ hh))))));clear He hne hkc hc1 hc2 hJ;replace p0:EG.cell? ⟨rb,0,none⟩=some (.slice (some ⟨ab,ao,none⟩) 2 ac):=by simp only[World.cell?,hh]at p0 ⊢;exact p0
 replace p1:EG.cell? ⟨ab,ao,none⟩=some (.slice (some ⟨g0,o0,none⟩) 1 c0):=by simp only[World.cell?,hh]at p1 ⊢;exact p1
 replace p2:EG.cell? ⟨ab,ao+1,none⟩=some (.slice (some ⟨g1,o1,none⟩) 1 c1):=by simp only[World.cell?,hh]at p2 ⊢;exact p2
 replace x0:EG.cell? ⟨g0,o0,none⟩=some (.int .i64 1):=by simp only[World.cell?,hh]at x0 ⊢;exact x0
 replace x1:EG.cell? ⟨g0,o0+1,none⟩=some (.int .i64 5):=by simp only[World.cell?,hh]at x1 ⊢;exact x1
 replace x2:EG.cell? ⟨g0,o0+2,none⟩=some (.int .i64 3):=by simp only[World.cell?,hh]at x2 ⊢;exact x2
 replace x3:EG.cell? ⟨g0,o0+3,none⟩=some (.bool false):=by simp only[World.cell?,hh]at x3 ⊢;exact x3
 replace x4:EG.cell? ⟨g0,o0+4,none⟩=some (.int .i64 9):=by simp only[World.cell?,hh]at x4 ⊢;exact x4
 replace x5:EG.cell? ⟨g0,o0+5,none⟩=some (.int .i64 0):=by simp only[World.cell?,hh]at x5 ⊢;exact x5
 replace x6:EG.cell? ⟨g0,o0+6,none⟩=some (.int .i64 0):=by simp only[World.cell?,hh]at x6 ⊢;exact x6
 replace x7:EG.cell? ⟨g0,o0+7,none⟩=some (.slice none 0 0):=by simp only[World.cell?,hh]at x7 ⊢;exact x7
 replace x8:EG.cell? ⟨g0,o0+8,none⟩=some (.slice none 0 0):=by simp only[World.cell?,hh]at x8 ⊢;exact x8
 replace y0:EG.cell? ⟨g1,o1,none⟩=some (.int .i64 2):=by simp only[World.cell?,hh]at y0 ⊢;exact y0
 replace y1:EG.cell? ⟨g1,o1+1,none⟩=some (.int .i64 3):=by simp only[World.cell?,hh]at y1 ⊢;exact y1
 replace y2:EG.cell? ⟨g1,o1+2,none⟩=some (.int .i64 2):=by simp only[World.cell?,hh]at y2 ⊢;exact y2
 replace y3:EG.cell? ⟨g1,o1+3,none⟩=some (.bool false):=by simp only[World.cell?,hh]at y3 ⊢;exact y3
 replace y4:EG.cell? ⟨g1,o1+4,none⟩=some (.int .i64 9):=by simp only[World.cell?,hh]at y4 ⊢;exact y4
 replace y5:EG.cell? ⟨g1,o1+5,none⟩=some (.int .i64 0):=by simp only[World.cell?,hh]at y5 ⊢;exact y5
 replace y6:EG.cell? ⟨g1,o1+6,none⟩=some (.int .i64 0):=by simp only[World.cell?,hh]at y6 ⊢;exact y6
 replace y7:EG.cell? ⟨g1,o1+7,none⟩=some (.slice none 0 0):=by simp only[World.cell?,hh]at y7 ⊢;exact y7
 replace y8:EG.cell? ⟨g1,o1+8,none⟩=some (.slice none 0 0):=by simp only[World.cell?,hh]at y8 ⊢;exact y8
 have Pk:∀g (oa ob:Obj),g<EG.heap.size->((EG.alloc oa).alloc ob).drew.heap[g]?=EG.heap[g]?:=fun g oa ob hg=>by show((EG.heap.push oa).push ob)[g]?=_;rw[Array.getElem?_push,Array.getElem?_push,Array.size_push,if_neg zOM,if_neg zOM]
 have KZ:∀g (oa:Obj),g<EG.heap.size->(EG.alloc oa).drew.heap[g]?=EG.heap[g]?:=fun g oa hg=>by show(EG.heap.push oa)[g]?=_;rw[Array.getElem?_push,if_neg zOM]
 have zp0:∀oa ob:Obj,((EG.alloc oa).alloc ob).drew.cell? ⟨rb,0,none⟩=some (.slice (some ⟨ab,ao,none⟩) 2 ac):=fun oa ob=>(cell_of (Pk _ oa ob (Fa p0))).trans p0;have zp1:∀oa ob:Obj,((EG.alloc oa).alloc ob).drew.cell? ⟨ab,ao,none⟩=some (.slice (some ⟨g0,o0,none⟩) 1 c0):=fun oa ob=>(cell_of (Pk _ oa ob (Fa p1))).trans p1;have zp2:∀oa ob:Obj,((EG.alloc oa).alloc ob).drew.cell? ⟨ab,ao+1,none⟩=some (.slice (some ⟨g1,o1,none⟩) 1 c1):=fun oa ob=>(cell_of (Pk _ oa ob (Fa p2))).trans p2;have zx0:∀oa ob:Obj,((EG.alloc oa).alloc ob).drew.cell? ⟨g0,o0,none⟩=some (.int .i64 1):=fun oa ob=>(cell_of (Pk _ oa ob (Fa x0))).trans x0;have zx1:∀oa ob:Obj,((EG.alloc oa).alloc ob).drew.cell? ⟨g0,o0+1,none⟩=some (.int .i64 5):=fun oa ob=>(cell_of (Pk _ oa ob (Fa x1))).trans x1
 have zx2:∀oa ob:Obj,((EG.alloc oa).alloc ob).drew.cell? ⟨g0,o0+2,none⟩=some (.int .i64 3):=fun oa ob=>(cell_of (Pk _ oa ob (Fa x2))).trans x2;have zx3:∀oa ob:Obj,((EG.alloc oa).alloc ob).drew.cell? ⟨g0,o0+3,none⟩=some (.bool false):=fun oa ob=>(cell_of (Pk _ oa ob (Fa x3))).trans x3;have zx4:∀oa ob:Obj,((EG.alloc oa).alloc ob).drew.cell? ⟨g0,o0+4,none⟩=some (.int .i64 9):=fun oa ob=>(cell_of (Pk _ oa ob (Fa x4))).trans x4;have zx5:∀oa ob:Obj,((EG.alloc oa).alloc ob).drew.cell? ⟨g0,o0+5,none⟩=some (.int .i64 0):=fun oa ob=>(cell_of (Pk _ oa ob (Fa x5))).trans x5;have zx6:∀oa ob:Obj,((EG.alloc oa).alloc ob).drew.cell? ⟨g0,o0+6,none⟩=some (.int .i64 0):=fun oa ob=>(cell_of (Pk _ oa ob (Fa x6))).trans x6;have zx7:∀oa ob:Obj,((EG.alloc oa).alloc ob).drew.cell? ⟨g0,o0+7,none⟩=some (.slice none 0 0):=fun oa ob=>(cell_of (Pk _ oa ob (Fa x7))).trans x7
 have zx8:∀oa ob:Obj,((EG.alloc oa).alloc ob).drew.cell? ⟨g0,o0+8,none⟩=some (.slice none 0 0):=fun oa ob=>(cell_of (Pk _ oa ob (Fa x8))).trans x8;have zy0:∀oa ob:Obj,((EG.alloc oa).alloc ob).drew.cell? ⟨g1,o1,none⟩=some (.int .i64 2):=fun oa ob=>(cell_of (Pk _ oa ob (Fa y0))).trans y0;have zy1:∀oa ob:Obj,((EG.alloc oa).alloc ob).drew.cell? ⟨g1,o1+1,none⟩=some (.int .i64 3):=fun oa ob=>(cell_of (Pk _ oa ob (Fa y1))).trans y1;have zy2:∀oa ob:Obj,((EG.alloc oa).alloc ob).drew.cell? ⟨g1,o1+2,none⟩=some (.int .i64 2):=fun oa ob=>(cell_of (Pk _ oa ob (Fa y2))).trans y2;have zy3:∀oa ob:Obj,((EG.alloc oa).alloc ob).drew.cell? ⟨g1,o1+3,none⟩=some (.bool false):=fun oa ob=>(cell_of (Pk _ oa ob (Fa y3))).trans y3;have zy4:∀oa ob:Obj,((EG.alloc oa).alloc ob).drew.cell? ⟨g1,o1+4,none⟩=some (.int .i64 9):=fun oa ob=>(cell_of (Pk _ oa ob (Fa y4))).trans y4
 have zy5:∀oa ob:Obj,((EG.alloc oa).alloc ob).drew.cell? ⟨g1,o1+5,none⟩=some (.int .i64 0):=fun oa ob=>(cell_of (Pk _ oa ob (Fa y5))).trans y5;have zy6:∀oa ob:Obj,((EG.alloc oa).alloc ob).drew.cell? ⟨g1,o1+6,none⟩=some (.int .i64 0):=fun oa ob=>(cell_of (Pk _ oa ob (Fa y6))).trans y6;have zy7:∀oa ob:Obj,((EG.alloc oa).alloc ob).drew.cell? ⟨g1,o1+7,none⟩=some (.slice none 0 0):=fun oa ob=>(cell_of (Pk _ oa ob (Fa y7))).trans y7;have zy8:∀oa ob:Obj,((EG.alloc oa).alloc ob).drew.cell? ⟨g1,o1+8,none⟩=some (.slice none 0 0):=fun oa ob=>(cell_of (Pk _ oa ob (Fa y8))).trans y8;have wp0:∀oa:Obj,(EG.alloc oa).drew.cell? ⟨rb,0,none⟩=some (.slice (some ⟨ab,ao,none⟩) 2 ac):=fun oa=>(cell_of (KZ _ oa (Fa p0))).trans p0;have wp1:∀oa:Obj,(EG.alloc oa).drew.cell? ⟨ab,ao,none⟩=some (.slice (some ⟨g0,o0,none⟩) 1 c0):=fun oa=>(cell_of (KZ _ oa (Fa p1))).trans p1
 have wp2:∀oa:Obj,(EG.alloc oa).drew.cell? ⟨ab,ao+1,none⟩=some (.slice (some ⟨g1,o1,none⟩) 1 c1):=fun oa=>(cell_of (KZ _ oa (Fa p2))).trans p2;have wx0:∀oa:Obj,(EG.alloc oa).drew.cell? ⟨g0,o0,none⟩=some (.int .i64 1):=fun oa=>(cell_of (KZ _ oa (Fa x0))).trans x0;have wx1:∀oa:Obj,(EG.alloc oa).drew.cell? ⟨g0,o0+1,none⟩=some (.int .i64 5):=fun oa=>(cell_of (KZ _ oa (Fa x1))).trans x1;have wx2:∀oa:Obj,(EG.alloc oa).drew.cell? ⟨g0,o0+2,none⟩=some (.int .i64 3):=fun oa=>(cell_of (KZ _ oa (Fa x2))).trans x2;have wx3:∀oa:Obj,(EG.alloc oa).drew.cell? ⟨g0,o0+3,none⟩=some (.bool false):=fun oa=>(cell_of (KZ _ oa (Fa x3))).trans x3;have wx4:∀oa:Obj,(EG.alloc oa).drew.cell? ⟨g0,o0+4,none⟩=some (.int .i64 9):=fun oa=>(cell_of (KZ _ oa (Fa x4))).trans x4
 have wx5:∀oa:Obj,(EG.alloc oa).drew.cell? ⟨g0,o0+5,none⟩=some (.int .i64 0):=fun oa=>(cell_of (KZ _ oa (Fa x5))).trans x5;have wx6:∀oa:Obj,(EG.alloc oa).drew.cell? ⟨g0,o0+6,none⟩=some (.int .i64 0):=fun oa=>(cell_of (KZ _ oa (Fa x6))).trans x6;have wx7:∀oa:Obj,(EG.alloc oa).drew.cell? ⟨g0,o0+7,none⟩=some (.slice none 0 0):=fun oa=>(cell_of (KZ _ oa (Fa x7))).trans x7;have wx8:∀oa:Obj,(EG.alloc oa).drew.cell? ⟨g0,o0+8,none⟩=some (.slice none 0 0):=fun oa=>(cell_of (KZ _ oa (Fa x8))).trans x8;have wy0:∀oa:Obj,(EG.alloc oa).drew.cell? ⟨g1,o1,none⟩=some (.int .i64 2):=fun oa=>(cell_of (KZ _ oa (Fa y0))).trans y0;have wy1:∀oa:Obj,(EG.alloc oa).drew.cell? ⟨g1,o1+1,none⟩=some (.int .i64 3):=fun oa=>(cell_of (KZ _ oa (Fa y1))).trans y1
 have wy2:∀oa:Obj,(EG.alloc oa).drew.cell? ⟨g1,o1+2,none⟩=some (.int .i64 2):=fun oa=>(cell_of (KZ _ oa (Fa y2))).trans y2;have wy3:∀oa:Obj,(EG.alloc oa).drew.cell? ⟨g1,o1+3,none⟩=some (.bool false):=fun oa=>(cell_of (KZ _ oa (Fa y3))).trans y3;have wy4:∀oa:Obj,(EG.alloc oa).drew.cell? ⟨g1,o1+4,none⟩=some (.int .i64 9):=fun oa=>(cell_of (KZ _ oa (Fa y4))).trans y4;have wy5:∀oa:Obj,(EG.alloc oa).drew.cell? ⟨g1,o1+5,none⟩=some (.int .i64 0):=fun oa=>(cell_of (KZ _ oa (Fa y5))).trans y5;have wy6:∀oa:Obj,(EG.alloc oa).drew.cell? ⟨g1,o1+6,none⟩=some (.int .i64 0):=fun oa=>(cell_of (KZ _ oa (Fa y6))).trans y6;have wy7:∀oa:Obj,(EG.alloc oa).drew.cell? ⟨g1,o1+7,none⟩=some (.slice none 0 0):=fun oa=>(cell_of (KZ _ oa (Fa y7))).trans y7
 have wy8:∀oa:Obj,(EG.alloc oa).drew.cell? ⟨g1,o1+8,none⟩=some (.slice none 0 0):=fun oa=>(cell_of (KZ _ oa (Fa y8))).trans y8;clear Pk KZ hh;simp only[kn5,Try.f4];gi_region
 all_goals
  clear p0 p1 p2 x0 x1 x2 x3 x4 x5 x6 x7 x8 y0 y1 y2 y3 y4 y5 y6 y7 y8 zp0 zp1 zp2 zx0 zx1 zx2 zx3 zx4 zx5 zx6 zx7 zx8 zy0 zy1 zy2 zy3 zy4 zy5 zy6 zy7 zy8 wp0 wp1 wp2 wx0 wx1 wx2 wx3 wx4 wx5 wx6 wx7 wx8 wy0 wy1 wy2 wy3 wy4 wy5 wy6 wy7 wy8;obtain⟨He,hne,hkc,hc1,hc2,hJ,hh⟩:=HJ.out;generalize hW2:World.drew _=W2;have o2:∀g,g<W.heap.size->W2.heap[g]?=W.heap[g]?:=fun g hg=>by
   rw[← hh,← hW2];show((EG.heap.push _).push _)[g]?=_;have:g<EG.heap.size:=by rw[hh];exact hg
   rw[Array.getElem?_push,Array.getElem?_push,Array.size_push,if_neg zOM,if_neg zOM]
  have z2:W2.heap.size=W.heap.size+2:=by
   rw[← hh,← hW2];show((EG.heap.push _).push _).size=_
   simp
  have lt:∀{g:Nat} {o},W.heap[g]?=some o->g<W.heap.size:=fun h=>(zGE h).1;have n0:∃c e f,W2.heap[W.heap.size]?=some (.cells c e f):=by rw[← hh,← hW2];exact⟨_,_,_,Ug _ _ _⟩
  have n1:∃c e f,W2.heap[W.heap.size+1]?=some (.cells c e f):=by rw[← hh,← hW2];exact⟨_,_,_,UG _ _ _⟩
  show JL (FU EH).L (.Gj B nn) (G ((base 4).at ⟨_,[]⟩ (.code kk6 :: [])) (c :: cs)) W2;have hk2:∀g,(g=W.heap.size\/g=W.heap.size+1\/Kp g)->∃c e f,W2.heap[g]?=some (.cells c e f):=fun g hg=>by
   rcases hg with rfl|rfl|hg
   . exact n0
   . exact n1
   . obtain⟨x,y,z,hx⟩:=He g hg;exact⟨x,y,z,(o2 g (lt hx)).trans hx⟩
  have xZ:∀g,(g=W.heap.size\/g=W.heap.size+1\/Kp g)->g≠cb:=fun g hg=>by
   have:=lt hc2;rcases hg with rfl|rfl|hg
   . omega
   . omega
   . exact hkc g hg
  rw[← hh]at hk2 xZ;refine yZ (Kp:=fun g=>g=EG.heap.size\/g=EG.heap.size+1\/Kp g) ?_ ?_ ?_ ?_ hk2 (by simp) (by simp) hne xZ (by rw[o2 _ (lt hc1)];exact hc1) (by rw[o2 _ (lt hc2)];exact hc2) (fun W' hk hs=>hJ W' (fun g hg=>?_) zOM);any_goals first | exact Acd hW2 rfl | exact zP hW2 rfl
  obtain⟨x,y,z,hx⟩:=He g hg;exact(hk g (.inr (.inr hg))).trans (o2 g (lt hx))
end
end
section
theorem Zt(W:World)(v:Value)(t:TypeId)(f:Nat × Nat):Reads (W.alloc (.cells #[v] t f)) (.slice (some ⟨W.heap.size,0,none⟩) 1 1) [v]:=by
 refine .inr ⟨by simp,_,_,_,rfl,by simp,by unfold maxLen;omega,fun i u hu=>?_⟩;have hi:i=0:=by
  have:=(List.getElem?_eq_some_iff.1 hu).1
  simpa using this
 subst hi;have hu9:v=u:=by simpa using hu
 have h:(W.alloc (.cells #[v] t f)).heap[W.heap.size]?=some (.cells #[v] t f):=by show(W.heap.push _)[_]?=_;rw[Array.getElem?_push,if_pos rfl]
 simp only[World.cell?,h];rw[← hu9];rfl
theorem UE(h:FuncId)(x:Int)(w:World)(hx:0<=x/\x<=1000):CallsIn (Fence.list [h,7,13] none) 0 Try.prog 7 #[.int .i64 x] w fun e w'=>e=.returned (.int .i64 x)/\w=w':=by
 gi_enter Try.func7,Try.ntmps7
 gi_wp2;go_ret
 exact⟨rfl,rfl⟩
section
variable {Fin:Gb}{EH:FM Try.prog Fin}
variable {B:Nat->Bool}{W:World}{nn:Nat}{c:Frame}{cs:List Frame}
variable {v0 v1 v2 v3 v4 v5 v6 v7 v8 v9 Aa Ab Ac Ae Af Ah Ai Aj Ak Al Am Ao Ap Ar Au Av Aw Ay Az AA AB AJ AL AO AP AQ AU AV AX AY AZ A8 A9 Ba Bb Bc Bf Bh Bj Bl Bp Bq Br Bu Bv Bw Bz BD BF BG BH BI BJ BK BL BM BN BO BP BQ BR BS BU BX BZ Ca Cb Cc Ce Cg Ci Cj Ck Cm Co Cq Cr Ct Cu Cw Cx Cy Cz CB CF CG CJ CK CO CQ CS CU CV CW CX CY CZ C8 C9:Value}
theorem zu{rb ab ao ac g0 o0 c0 g1 o1 c1 ct:Nat}{vv:Value}(p5:W.cell? ⟨rb,2,none⟩=some (.int .i64 5))(hvv:Reads W vv [.int .i64 9])(p0:W.cell? ⟨rb,0,none⟩=some (.slice (some ⟨ab,ao,none⟩) 2 ac))(p1:W.cell? ⟨ab,ao,none⟩=some (.slice (some ⟨g0,o0,none⟩) 1 c0))(p2:W.cell? ⟨ab,ao+1,none⟩=some (.slice (some ⟨g1,o1,none⟩) 1 c1))(x0:W.cell? ⟨g0,o0,none⟩=some (.int .i64 1))(x1:W.cell? ⟨g0,o0+1,none⟩=some (.int .i64 5))(x2:W.cell? ⟨g0,o0+2,none⟩=some (.int .i64 3))(x3:W.cell? ⟨g0,o0+3,none⟩=some (.bool false))(x4:W.cell? ⟨g0,o0+4,none⟩=some (.int .i64 9))(x5:W.cell? ⟨g0,o0+5,none⟩=some (.int .i64 0))(x6:W.cell? ⟨g0,o0+6,none⟩=some (.int .i64 0))(x7:W.cell? ⟨g0,o0+7,none⟩=some (.slice none 0 0))(x8:W.cell? ⟨g0,o0+8,none⟩=some (.slice none 0 0))(y0:W.cell? ⟨g1,o1,none⟩=some (.int .i64 2))(y1:W.cell? ⟨g1,o1+1,none⟩=some (.int .i64 3))(y2:W.cell? ⟨g1,o1+2,none⟩=some (.int .i64 2))(y3:W.cell? ⟨g1,o1+3,none⟩=some (.bool false))(y4:W.cell? ⟨g1,o1+4,none⟩=some (.int .i64 9))(y5:W.cell? ⟨g1,o1+5,none⟩=some (.int .i64 0))(y6:W.cell? ⟨g1,o1+6,none⟩=some (.int .i64 0))(y7:W.cell? ⟨g1,o1+7,none⟩=some (.slice none 0 0))(y8:W.cell? ⟨g1,o1+8,none⟩=some (.slice none 0 0)){cb:Nat}{Kp:Nat->Prop}(He:∀g,Kp g->∃c e f,W.heap[g]?=some (.cells c e f))(hne:ct≠cb)(hkc:∀g,Kp g->g≠cb)(hc1:W.heap[ct]?=some (.cells #[.slice (some ⟨cb,0,none⟩) 3 3] 62 (0,0)))(hc2:W.heap[cb]?=some (.cells #[.int .i64 0,.int .i64 0,.int .i64 0] 76 (0,0)))(hJ:∀W',(∀g,Kp g->W'.heap[g]?=W.heap[g]?)->W.heap.size<=W'.heap.size->JW (FU EH).base (.Gj B nn) (G (c.finish (.bool true)) cs) W') :
   JL (FU EH).L (.Gj B nn) (G ((base 4).at ⟨#[v0,v1,.pointer (some ⟨rb,0,none⟩),vv,.int .i64 0,.pointer (some ⟨ct,0,none⟩),.int .i64 0,v7,v8,v9,Aa,Ab,Ac,Ae,Af,Ah,Ai,Aj,Ak,Al,Am,Ao,Ap,Ar,Au,Av,Aw,Ay,Az,AA,AB,AJ,AL,AO,AP,AQ,AU,AV,AX,AY,AZ,A8,A9,Ba,Bb,Bc,Bf,Bh,Bj,Bl,Bp,Bq,Br,Bu,Bv,Bw,Bz,BD,BF,BG,BH,BI,BJ,BK,BL,BM,BN,BO,BP,BQ,BR,BS,BU,BX,BZ,Ca,Cb,Cc,Ce,Cg,Ci,Cj,Ck,Cm,Co,Cq,Cr,Ct,Cu,Cw,Cx,Cy,Cz,CB,CF,CG,CJ,CK,CO,CQ,CS,CU,CV,CW,CX,CY,CZ,C8,C9],[]⟩ (.code kk4 :: [])) (c :: cs)) W:=by
 rw[tZ];refine EO ?_;refine Fp.Fz (S:=(FU EH)) (b:=base 4) [7,13] UK zKR nE zKR fun EG ha=>?_;have hh:EG.heap=W.heap:=by obtain⟨τ,d,rfl⟩:=ha;rfl
 have hv1:Reads EG vv (([9]:List Int).map (Value.int .i64)):=hvv.same fun k _ _=>by rw[hh]
 have q0:EG.cell? ⟨rb,0,none⟩=some (.slice (some ⟨ab,ao,none⟩) 2 ac):=by simp only[World.cell?,hh]at p0 ⊢;exact p0
 have q1:EG.cell? ⟨ab,ao,none⟩=some (.slice (some ⟨g0,o0,none⟩) 1 c0):=by simp only[World.cell?,hh]at p1 ⊢;exact p1
 have q2:EG.cell? ⟨ab,ao+1,none⟩=some (.slice (some ⟨g1,o1,none⟩) 1 c1):=by simp only[World.cell?,hh]at p2 ⊢;exact p2
 have q5:EG.cell? ⟨rb,2,none⟩=some (.int .i64 5):=by simp only[World.cell?,hh]at p5 ⊢;exact p5
 have HJ:=Lib.hid (zAI He (zAI hne (zAI hkc (zAI hc1 (zAI hc2 (zAI hJ hh))))));have HP:=Lib.hid (zAI p0 (zAI p1 (zAI p2 (zAI x0 (zAI x1 (zAI x2 (zAI x3 (zAI x4 (zAI x5 (zAI x6 (zAI x7 (zAI x8 (zAI y0 (zAI y1 (zAI y2 (zAI y3 (zAI y4 (zAI y5 (zAI y6 (zAI y7 y8))))))))))))))))))));clear He hne hkc hc1 hc2 hJ p5 p0 p1 p2 x0 x1 x2 x3 x4 x5 x6 x7 x8 y0 y1 y2 y3 y4 y5 y6 y7 y8 hvv hh;simp only[kn4,Try.f4];gi_wp2_with (first | (gi_at_call 7;refine(UE 4 _ _ (by decide)).mono ?_;rintro e w2 ⟨rfl,rfl⟩))
 refine(nH _ vv _ [9] [9] _ (hv1.same fun k hk hl=>?_) ?_ (by decide)).mono ?_
 . show(EG.heap.push _)[k]?=_;rw[Array.getElem?_push,if_neg zOM]
 . exact Zt EG _ _ _
 rintro e w1 ⟨rfl,hB⟩;have HB:=Lib.hid hB;clear hB;gi_wp2;obtain⟨He,hne,hkc,hc1,hc2,hJ,hh⟩:=HJ.out;obtain⟨p0,p1,p2,x0,x1,x2,x3,x4,x5,x6,x7,x8,y0,y1,y2,y3,y4,y5,y6,y7,y8⟩:=HP.out;have hB:Below EG.heap.size EG w1:=(Below.refl _ _ |>.alloc (Nat.le_refl _) _).trans (HB.out.mono (by show _<=(EG.heap.push _).size;simp));clear HB HP HJ;have o1:∀g,g<W.heap.size->w1.heap[g]?=W.heap[g]?:=fun g hg=>by rw[hB.block g (by rw[hh];exact hg),hh]
 have s1:W.heap.size<=w1.heap.size:=by have:=hB.size;rw[hh]at this;exact this
 have cc:∀{a:Addr} {v:Value},W.cell? a=some v->w1.cell? a=some v:=fun h=>(cell_of (o1 _ (Fa h))).trans h;have lt:∀{g:Nat} {o},W.heap[g]?=some o->g<W.heap.size:=fun h=>(zGE h).1;show JL (FU EH).L (.Gj B nn) (G ((base 4).at ⟨_,[]⟩ (.code kk5 :: [])) (c :: cs)) w1;exact xJ (cc p0) (cc p1) (cc p2) (cc x0) (cc x1) (cc x2) (cc x3) (cc x4) (cc x5) (cc x6) (cc x7) (cc x8) (cc y0) (cc y1) (cc y2) (cc y3) (cc y4) (cc y5) (cc y6) (cc y7) (cc y8) (Kp:=Kp) (fun g hg=>by
   obtain⟨x,y,z,hx⟩:=He g hg;exact⟨x,y,z,(o1 g (lt hx)).trans hx⟩) hne hkc ((o1 _ (lt hc1)).trans hc1) ((o1 _ (lt hc2)).trans hc2) fun W' hk hs=>hJ W' (fun g hg=>by
   obtain⟨x,y,z,hx⟩:=He g hg;exact(hk g hg).trans (o1 g (lt hx))) zOM
end
end
section
section
variable {Fin:Gb}{EH:FM Try.prog Fin}
variable {B:Nat->Bool}{W:World}{nn:Nat}{c:Frame}{cs:List Frame}
variable {v0 v1 v2 v3 v4 v5 v6 v7 v8 v9 Aa Ab Ac Ae Af Ah Ai Aj Ak Al Am Ao Ap Ar Au Av Aw Ay Az AA AB AJ AL AO AP AQ AU AV AX AY AZ A8 A9 Ba Bb Bc Bf Bh Bj Bl Bp Bq Br Bu Bv Bw Bz BD BF BG BH BI BJ BK BL BM BN BO BP BQ BR BS BU BX BZ Ca Cb Cc Ce Cg Ci Cj Ck Cm Co Cq Cr Ct Cu Cw Cx Cy Cz CB CF CG CJ CK CO CQ CS CU CV CW CX CY CZ C8 C9:Value}
theorem Aa0{rb ab ao ac g0 o0 c0 g1 o1 c1:Nat}{vv:Value}(p5:W.cell? ⟨rb,2,none⟩=some (.int .i64 5))(hvv:Reads W vv [.int .i64 9])(p0:W.cell? ⟨rb,0,none⟩=some (.slice (some ⟨ab,ao,none⟩) 2 ac))(p1:W.cell? ⟨ab,ao,none⟩=some (.slice (some ⟨g0,o0,none⟩) 1 c0))(p2:W.cell? ⟨ab,ao+1,none⟩=some (.slice (some ⟨g1,o1,none⟩) 1 c1))(x0:W.cell? ⟨g0,o0,none⟩=some (.int .i64 1))(x1:W.cell? ⟨g0,o0+1,none⟩=some (.int .i64 5))(x2:W.cell? ⟨g0,o0+2,none⟩=some (.int .i64 3))(x3:W.cell? ⟨g0,o0+3,none⟩=some (.bool false))(x4:W.cell? ⟨g0,o0+4,none⟩=some (.int .i64 9))(x5:W.cell? ⟨g0,o0+5,none⟩=some (.int .i64 0))(x6:W.cell? ⟨g0,o0+6,none⟩=some (.int .i64 0))(x7:W.cell? ⟨g0,o0+7,none⟩=some (.slice none 0 0))(x8:W.cell? ⟨g0,o0+8,none⟩=some (.slice none 0 0))(y0:W.cell? ⟨g1,o1,none⟩=some (.int .i64 2))(y1:W.cell? ⟨g1,o1+1,none⟩=some (.int .i64 3))(y2:W.cell? ⟨g1,o1+2,none⟩=some (.int .i64 2))(y3:W.cell? ⟨g1,o1+3,none⟩=some (.bool false))(y4:W.cell? ⟨g1,o1+4,none⟩=some (.int .i64 9))(y5:W.cell? ⟨g1,o1+5,none⟩=some (.int .i64 0))(y6:W.cell? ⟨g1,o1+6,none⟩=some (.int .i64 0))(y7:W.cell? ⟨g1,o1+7,none⟩=some (.slice none 0 0))(y8:W.cell? ⟨g1,o1+8,none⟩=some (.slice none 0 0)){Kp:Nat->Prop}(He:∀g,Kp g->∃c e f,W.heap[g]?=some (.cells c e f))(hJ:∀W',(∀g,Kp g->W'.heap[g]?=W.heap[g]?)->W.heap.size<=W'.heap.size->JW (FU EH).base (.Gj B nn) (G (c.finish (.bool true)) cs) W') :
  JL (FU EH).L (.Gj B nn) (G ((base 4).at ⟨#[v0,v1,.pointer (some ⟨rb,0,none⟩),vv,.int .i64 0,v5,v6,v7,v8,v9,Aa,Ab,Ac,Ae,Af,Ah,Ai,Aj,Ak,Al,Am,Ao,Ap,Ar,Au,Av,Aw,Ay,Az,AA,AB,AJ,AL,AO,AP,AQ,AU,AV,AX,AY,AZ,A8,A9,Ba,Bb,Bc,Bf,Bh,Bj,Bl,Bp,Bq,Br,Bu,Bv,Bw,Bz,BD,BF,BG,BH,BI,BJ,BK,BL,BM,BN,BO,BP,BQ,BR,BS,BU,BX,BZ,Ca,Cb,Cc,Ce,Cg,Ci,Cj,Ck,Cm,Co,Cq,Cr,Ct,Cu,Cw,Cx,Cy,Cz,CB,CF,CG,CJ,CK,CO,CQ,CS,CU,CV,CW,CX,CY,CZ,C8,C9],[]⟩ (.code kk3 :: [])) (c :: cs)) W:=by
 have HJ:=Lib.hid (zAI He hJ);have HP:=Lib.hid (zAI p5 (zAI hvv (zAI p0 (zAI p1 (zAI p2 (zAI x0 (zAI x1 (zAI x2 (zAI x3 (zAI x4 (zAI x5 (zAI x6 (zAI x7 (zAI x8 (zAI y0 (zAI y1 (zAI y2 (zAI y3 (zAI y4 (zAI y5 (zAI y6 (zAI y7 y8))))))))))))))))))))));clear He hJ p5 p0 p1 p2 x0 x1 x2 x3 x4 x5 x6 x7 x8 y0 y1 y2 y3 y4 y5 y6 y7 y8 hvv;rw[qO];refine EO ?_;simp only[kn3,Try.f4];refine E9 fun _ hkk=>?_;refine JL.enter rfl rfl nE rfl Try.func8 zKR zKR ?_;walk_nrm;refine KN (S:=(FU EH)) (n:=3) (by decide) (by decide) fun W2 q2=>?_;rw[Frame.finish_at];show JL (FU EH).L _ _ W2;walk_nrm;iterate 5(refine ET ?_;walk_nrm)
 refine E5 ?_;cases hkk;obtain⟨He,hJ⟩:=HJ.out;obtain⟨p5,hvv,p0,p1,p2,x0,x1,x2,x3,x4,x5,x6,x7,x8,y0,y1,y2,y3,y4,y5,y6,y7,y8⟩:=HP.out;clear HJ HP;have o1:∀g,g<W.heap.size->W2.heap[g]?=W.heap[g]?:=fun g hg=>by rw[q2,Array.getElem?_push,Array.getElem?_push,Array.size_push,if_neg zOM,if_neg zOM]
 have s1:W2.heap.size=W.heap.size+2:=by rw[q2];simp
 have n0:=Ug W.heap (.cells (List.replicate 3 (Value.int .i64 0)).toArray 76 (0,0)) (.cells #[.slice (some ⟨W.heap.size,0,none⟩) 3 3] 62 (0,0));have n1:=UG W.heap (.cells (List.replicate 3 (Value.int .i64 0)).toArray 76 (0,0)) (.cells #[.slice (some ⟨W.heap.size,0,none⟩) 3 3] 62 (0,0));rw[← q2]at n0 n1;have cc:∀{a:Addr} {v:Value},W.cell? a=some v->W2.cell? a=some v:=fun h=>(cell_of (o1 _ (Fa h))).trans h;have lt:∀{g:Nat} {o},W.heap[g]?=some o->g<W.heap.size:=fun h=>(zGE h).1;exact zu (cc p5) (hvv.same fun k _ hk=>o1 k hk) (cc p0) (cc p1) (cc p2) (cc x0) (cc x1) (cc x2) (cc x3) (cc x4) (cc x5) (cc x6) (cc x7) (cc x8) (cc y0) (cc y1) (cc y2) (cc y3) (cc y4) (cc y5) (cc y6) (cc y7) (cc y8) (Kp:=Kp) (fun g hg=>by
  obtain⟨x,y,z,hx⟩:=He g hg;exact⟨x,y,z,(o1 g (lt hx)).trans hx⟩) zOM (fun g hg=>by
  obtain⟨x,y,z,hx⟩:=He g hg;have:=lt hx;omega) n1 n0 fun W' hk hs=>hJ W' (fun g hg=>by
  obtain⟨x,y,z,hx⟩:=He g hg;exact(hk g hg).trans (o1 g (lt hx))) zOM
end
end
theorem Nu{w:World}{base size n:Nat}{v:Value}{xs:List Value}(h:FY w base size v n xs)(hn:0<n)(hs:0<size):∃g cap,v=.slice (some ⟨g,0,none⟩) n cap/\∀(i:Nat) (u:Value),xs[i]?=some u->w.cell? ⟨g,0+i,none⟩=some u:=by
 obtain⟨te,h⟩:=h;rcases h.2 with⟨rfl,h0⟩|⟨g,cap,cur,rfl,_,hg,h1,h2,_,_⟩
 . omega
 . refine⟨g,cap,rfl,fun i u hu=>?_⟩;have:=h.cells (g:=g) rfl i u hu;rw[Addr.add_lit]at this;exact this
theorem SN{W:World}{N1:Nat}{v:Value}{a:Gg}(ha:a.a.ints=[])(h:∃JH:List Value,JH.length=[a].length/\FY W N1 9 v [a].length (List.zipWith FZ [a] JH).flatten/\∀(i:Nat) (b:Gg) (iv:Value),[a][i]?=some b->JH[i]?=some iv->GQ W (fun _=>True) iv b.a.ints) :
  ∃g cap,v=.slice (some ⟨g,0,none⟩) 1 cap/\∀(i:Nat) (u:Value),(FZ a (.slice none 0 0))[i]?=some u->W.cell? ⟨g,0+i,none⟩=some u:=by
 obtain⟨JH,h1,h2,h3⟩:=h
 match JH,h1 with
 | [iv],_=>
  have hi:=h3 0 a iv rfl rfl;rw[ha]at hi;rcases hi with⟨_,rfl⟩|⟨h,_⟩
  . obtain⟨g,cap,hv,hc⟩:=Nu h2 (Nat.zero_lt_succ _) (by decide);exact⟨g,cap,hv,fun i u hu=>hc i u (by simpa using hu)⟩
  . exact absurd rfl h
theorem aJ{W:World}{N1:Nat}{av RL:Value}(h:Ran N1 kz av RL W):∃ab ac g0 c0 g1 c1,av=.slice (some ⟨ab,0,none⟩) 2 ac/\W.cell? ⟨ab,0,none⟩=some (.slice (some ⟨g0,0,none⟩) 1 c0)/\W.cell? ⟨ab,0+1,none⟩=some (.slice (some ⟨g1,0,none⟩) 1 c1)/\
  (∀(i:Nat) (u:Value),([.int .i64 1,.int .i64 5,.int .i64 3,.bool false,.int .i64 9,.int .i64 0,.int .i64 0,.slice none 0 0,.slice none 0 0]:List Value)[i]?=some u->W.cell? ⟨g0,0+i,none⟩=some u)/\
  ∀(i:Nat) (u:Value),([.int .i64 2,.int .i64 3,.int .i64 2,.bool false,.int .i64 9,.int .i64 0,.int .i64 0,.slice none 0 0,.slice none 0 0]:List Value)[i]?=some u->W.cell? ⟨g1,0+i,none⟩=some u:=by
 obtain⟨vs,h1,h2⟩:=h.ex;rw[wQ]at h1;have hl:=h1.len
 match vs,hl with
 | [u0,u1],_=>
  obtain⟨ab,ac,hv,hc⟩:=Nu h1 (by decide) (by decide);have k0:=yw;have k1:=Aai;cases e0:kz.xs[0]? with
  | none=>rw[e0]at k0;cases k0
  | some x0=>
   cases e1:kz.xs[1]? with
   | none=>rw[e1]at k1;cases k1
   | some x1=>
    rw[e0]at k0;rw[e1]at k1;have j0:=(h2 0 u0 x0 rfl e0).1;have j1:=(h2 1 u1 x1 rfl e1).1;rw[show x0.out=_ from Option.some.inj k0]at j0;rw[show x1.out=_ from Option.some.inj k1]at j1;obtain⟨g0,c0,rfl,q0⟩:=SN rfl j0;obtain⟨g1,c1,rfl,q1⟩:=SN rfl j1;exact⟨ab,ac,g0,c0,g1,c1,hv,hc 0 _ rfl,hc 1 _ rfl,q0,q1⟩
theorem jO{W:World}{N1:Nat}{vv:Value}(h:FY W N1 1 vv 1 (kz.σ.map (Value.int .i64))):Reads W vv [.int .i64 9]:=by rw[Abt]at h;exact h.reads
section
def iI:Array Oper:=match kn2 with | .region _ o _=>o | _=>#[]
section
variable {Fin:Gb}{EH:FM Try.prog Fin}
variable {B:Nat->Bool}{W:World}{nn:Nat}{c:Frame}{cs:List Frame}
variable {v0 v1 v2 v3 v4 v5 v6 v7 v8 v9 Aa Ab Ac Ae Af Ah Ai Aj Ak Al Am Ao Ap Ar Au Av Aw Ay Az AA AB AJ AL AO AP AQ AU AV AX AY AZ A8 A9 Ba Bb Bc Bf Bh Bj Bl Bp Bq Br Bu Bv Bw Bz BD BF BG BH BI BJ BK BL BM BN BO BP BQ BR BS BU BX BZ Ca Cb Cc Ce Cg Ci Cj Ck Cm Co Cq Cr Ct Cu Cw Cx Cy Cz CB CF CG CJ CK CO CQ CS CU CV CW CX CY CZ C8 C9:Value}
theorem qK{ops:Array Oper}(hops:ops=iI){av vv RL:Value}{y1:Option Addr}{y2 y3 N1:Nat}(OO:Ran N1 kz av RL W)(hvv:Reads W vv [.int .i64 9]){Kp:Nat->Prop}(He:∀g,Kp g->∃c e f,W.heap[g]?=some (.cells c e f))(hJ:∀W',(∀g,Kp g->W'.heap[g]?=W.heap[g]?)->W.heap.size<=W'.heap.size->JW (FU EH).base (.Gj B nn) (G (c.finish (.bool true)) cs) W') :
  JL (FU EH).L (.Gj B nn) (G ((base 4).at ⟨#[v0,v1,v2,v3,v4,v5,v6,v7,v8,v9,Aa,Ab,Ac,Ae,Af,Ah,Ai,Aj,Ak,Al,.tuple #[.agg #[av,.slice y1 y2 y3,.int .i64 5,.bool false],vv,.int .i64 0],Ao,Ap,Ar,Au,Av,Aw,Ay,Az,AA,AB,AJ,AL,AO,AP,AQ,AU,AV,AX,AY,AZ,A8,A9,Ba,Bb,Bc,Bf,Bh,Bj,Bl,Bp,Bq,Br,Bu,Bv,Bw,Bz,BD,BF,BG,BH,BI,BJ,BK,BL,BM,BN,BO,BP,BQ,BR,BS,BU,BX,BZ,Ca,Cb,Cc,Ce,Cg,Ci,Cj,Ck,Cm,Co,Cq,Cr,Ct,Cu,Cw,Cx,Cy,Cz,CB,CF,CG,CJ,CK,CO,CQ,CS,CU,CV,CW,CX,CY,CZ,C8,C9],[]⟩ (.inRegion ops [2,3,4,5,6,7,8,9] :: .code kk3 :: [])) (c :: cs)) W:=by
 obtain⟨ab,ac,g0,c0,g1,c1,rfl,p1,p2,hx,hy⟩:=aJ OO;have HJ:=Lib.hid (zAI He (zAI hJ (zAI hvv (zAI p1 (zAI p2 (zAI hx hy))))));clear He hJ OO hvv p1 p2 hx hy;subst hops;simp only[iI,kn2,Try.f4];refine Fp.Gs (S:=(FU EH)) (b:=base 4) 2 [] (by simp) zKR nE rfl zKR fun GZ RP=>?_;have H5:=Lib.hid (show GZ.heap=W.heap by obtain⟨τ,d,rfl⟩:=RP;rfl);dsimp only[List.drop];gi_wp2;try refine⟨rfl,?_⟩
 generalize Rq:World.alloc GZ _=W6;have q6:W6.heap=W.heap.push (.cells #[.slice (some ⟨ab,0,none⟩) 2 ac,.slice y1 y2 y3,.int .i64 5,.bool false] 31 (0,0)):=by rw[← Rq,← H5.out];rfl
 have hs5:GZ.heap.size=W.heap.size:=by rw[H5.out]
 rw[hs5];clear Rq hs5 H5 RP;show JL (FU EH).L _ _ W6;try dsimp only
 refine EU stepG_region_end ?_;obtain⟨He,hJ,hvv,p1,p2,hx,hy⟩:=HJ.out;clear HJ;have o1:∀g,g<W.heap.size->W6.heap[g]?=W.heap[g]?:=fun g hg=>by rw[q6,Array.getElem?_push,if_neg zOM]
 have s1:W6.heap.size=W.heap.size+1:=by rw[q6];simp
 have n1:W6.heap[W.heap.size]?=some (.cells #[.slice (some ⟨ab,0,none⟩) 2 ac,.slice y1 y2 y3,.int .i64 5,.bool false] 31 (0,0)):=by rw[q6,Array.getElem?_push,if_pos rfl]
 have cc:∀{a:Addr} {v:Value},W.cell? a=some v->W6.cell? a=some v:=fun h=>(cell_of (o1 _ (Fa h))).trans h;have lt:∀{g:Nat} {o},W.heap[g]?=some o->g<W.heap.size:=fun h=>(zGE h).1;exact Aa0 (rb:=W.heap.size) (ab:=ab) (ao:=0) (ac:=ac) (g0:=g0) (o0:=0) (c0:=c0) (g1:=g1) (o1:=0) (c1:=c1) (by simp[World.cell?,n1]) (hvv.same fun k _ hk=>o1 k hk) (by simp[World.cell?,n1]) (cc p1) (cc p2) (cc (hx 0 _ rfl)) (cc (hx 1 _ rfl)) (cc (hx 2 _ rfl)) (cc (hx 3 _ rfl)) (cc (hx 4 _ rfl)) (cc (hx 5 _ rfl)) (cc (hx 6 _ rfl)) (cc (hx 7 _ rfl)) (cc (hx 8 _ rfl)) (cc (hy 0 _ rfl)) (cc (hy 1 _ rfl)) (cc (hy 2 _ rfl)) (cc (hy 3 _ rfl)) (cc (hy 4 _ rfl)) (cc (hy 5 _ rfl)) (cc (hy 6 _ rfl)) (cc (hy 7 _ rfl)) (cc (hy 8 _ rfl)) (Kp:=Kp) (fun g hg=>by
  obtain⟨x,y,z,hx⟩:=He g hg;exact⟨x,y,z,(o1 g (lt hx)).trans hx⟩) fun W' hk hs=>hJ W' (fun g hg=>by
  obtain⟨x,y,z,hx⟩:=He g hg;exact(hk g hg).trans (o1 g (lt hx))) zOM
end
end
section
section
variable {Fin:Gb}{EH:FM Try.prog Fin}
variable {B:Nat->Bool}{W:World}{nn:Nat}{c:Frame}{cs:List Frame}
variable {v0 v1 v2 v3 v4 v5 v6 v7 v8 v9 Aa Ab Ac Ae Af Ah Ai Aj Ak Al Am Ao Ap Ar Au Av Aw Ay Az AA AB AJ AL AO AP AQ AU AV AX AY AZ A8 A9 Ba Bb Bc Bf Bh Bj Bl Bp Bq Br Bu Bv Bw Bz BD BF BG BH BI BJ BK BL BM BN BO BP BQ BR BS BU BX BZ Ca Cb Cc Ce Cg Ci Cj Ck Cm Co Cq Cr Ct Cu Cw Cx Cy Cz CB CF CG CJ CK CO CQ CS CU CV CW CX CY CZ C8 C9:Value}
theorem SH{W:World}{g:Nat}{k a b d:Int}{t:TypeId}{f:Nat × Nat}(h:W.heap[g]?=some (.cells #[.int .i64 k,.int .i64 a,.int .i64 b,.int .i64 d,.slice none 0 0] t f)):Lg W (.slice (some ⟨g,0,none⟩) 1 1) [⟨k,a,b,d⟩]:=by
 refine⟨_,1,rfl,by simp,fun i c hc=>?_⟩;have hi:i=0:=by
  have:=(List.getElem?_eq_some_iff.1 hc).1
  simpa using this
 subst hi;have:(⟨k,a,b,d⟩:EP)=c:=by simpa using hc
 rw[← this];exact⟨g,0,none,0,0,rfl,by simp[World.cell?,h],by simp[World.cell?,h],by simp[World.cell?,h],by simp[World.cell?,h],by simp[World.cell?,h]⟩
theorem Abc(H:Array Obj)(a b c d e:Obj)(X:Array Obj)(h:X=((((H.push a).push b).push c).push d).push e):X[H.size]?=some a/\X[H.size+1]?=some b/\X[H.size+2]?=some c/\X[H.size+3]?=some d/\X[H.size+4]?=some e:=by subst h;refine⟨?_,?_,?_,?_,?_⟩<;>(simp only[Array.getElem?_push,Array.size_push];(repeat rw[if_neg zOM]);first | rw[if_pos rfl] | simp)
theorem Aal{W:World}{T n:Nat}{l:List Value}{t:TypeId}{f:Nat × Nat}(h:W.heap[T]?=some (.cells l.toArray t f))(hn:l.length=n)(h0:l≠[])(hm:n<=1000):Reads W (.slice (some ⟨T,0,none⟩) n n) l:=by subst hn;refine .inr ⟨h0,T,0,_,rfl,Nat.le_refl _,by unfold maxLen;omega,fun i u hu=>?_⟩;rw[Nat.zero_add];simp[World.cell?,h,hu]
theorem zW{A0 A1 R T Q:Nat}{t0 t1 tr tt:TypeId}{Kp:Nat->Prop}(hQ:W.heap[Q]?=some (.cells #[.slice (some ⟨R,0,none⟩) 2 2,.slice (some ⟨T,0,none⟩) 5 5,.slice none 0 0,.int .i64 0] 25 (0,0)))(hR:W.heap[R]?=some (.cells #[.slice (some ⟨A0,0,none⟩) 1 1,.slice (some ⟨A1,0,none⟩) 1 1] tr (0,0)))(hT:W.heap[T]?=some (.cells #[.int .i64 0,.int .i64 1,.int .i64 1,.int .i64 0,.int .i64 0] tt (0,0)))(fH:W.heap[A0]?=some (.cells #[.int .i64 6,.int .i64 0,.int .i64 5,.int .i64 0,.slice none 0 0] t0 (0,0)))(hA1:W.heap[A1]?=some (.cells #[.int .i64 6,.int .i64 0,.int .i64 9,.int .i64 0,.slice none 0 0] t1 (0,0)))(hcap:nn+8<1000000)(hB:∀g,B g=true->g<W.heap.size)(bR:B R=false)(bT:B T=false)(b0:B A0=false)(b1:B A1=false)(hTF:T≠R/\T≠A0/\T≠A1)(He:∀g,Kp g->(∃c e f,W.heap[g]?=some (.cells c e f))/\B g=false/\g≠R/\g≠A0/\g≠A1/\g≠T)(hJ:∀B' W',(∀g,B' g=true->B g=true\/W.heap.size<=g)->(∀g,B' g=true->g<W'.heap.size)->(∀g,Kp g->W'.heap[g]?=W.heap[g]?)->W.heap.size<=W'.heap.size->JW (FU EH).base (.Gj B' (nn+2)) (G (c.finish (.bool true)) cs) W') :
   JL (FU EH).L (.Gj B nn) (G ((base 4).at ⟨#[v0,.pointer (some ⟨Q,0,none⟩),v2,v3,v4,v5,v6,v7,v8,v9,Aa,Ab,Ac,Ae,Af,Ah,Ai,Aj,Ak,Al,Am,Ao,Ap,Ar,Au,Av,Aw,Ay,Az,AA,AB,AJ,AL,AO,AP,AQ,AU,AV,AX,AY,AZ,A8,A9,Ba,Bb,Bc,Bf,Bh,Bj,Bl,Bp,Bq,Br,Bu,Bv,Bw,Bz,BD,BF,BG,BH,BI,BJ,BK,BL,BM,BN,BO,BP,BQ,BR,BS,BU,BX,BZ,Ca,Cb,Cc,Ce,Cg,Ci,Cj,Ck,Cm,Co,Cq,Cr,Ct,Cu,Cw,Cx,Cy,Cz,CB,CF,CG,CJ,CK,CO,CQ,CS,CU,CV,CW,CX,CY,CZ,C8,C9],[]⟩ (.code kk2 :: [])) (c :: cs)) W:=by
 have HA:=Lib.hid (zAI hQ (zAI hR (zAI hT (zAI fH (zAI hA1 (zAI hB (zAI bR (zAI bT (zAI b0 (zAI b1 (zAI hTF (zAI He hJ))))))))))));clear hQ hR hT fH hA1 hB bR bT b0 b1 hTF He hJ;rw[qC];refine EO ?_;simp only[kn2,Try.f4];refine E9 fun _ hkk=>?_;refine Fp.Kk (S:=(FU EH)) (b:=base 4) 0 1 [] (by simp) zKR nE (rest:=[1,2,3,4,5,6,7,8,9]) rfl zKR fun Fh Lm=>?_;have hh3:Fh.heap=W.heap:=by obtain⟨τ,d,rfl⟩:=Lm;rfl
 have c0:Fh.cell? ⟨Q,0,none⟩=some (.slice (some ⟨R,0,none⟩) 2 2):=by simp[World.cell?,hh3,HA.out.1]
 have c1:Fh.cell? ⟨Q,1,none⟩=some (.slice (some ⟨T,0,none⟩) 5 5):=by simp[World.cell?,hh3,HA.out.1]
 have c2:Fh.cell? ⟨Q,2,none⟩=some (.slice none 0 0):=by simp[World.cell?,hh3,HA.out.1]
 have c3:Fh.cell? ⟨Q,3,none⟩=some (.int .i64 0):=by simp[World.cell?,hh3,HA.out.1]
 have HH:=Lib.hid hh3;clear hh3;dsimp only[List.drop,List.take];gi_wp2;try refine⟨rfl,?_⟩
 have hh3:=HH.out;clear HH c0 c1 c2 c3 Lm;show JL (FU EH).L _ _ Fh;try dsimp only
 refine JL.enter rfl rfl nE rfl Try.func6 zKR zKR ?_;walk_nrm;obtain⟨hQ,hR,hT,fH,hA1,hB,bR,bT,b0,b1,hTF,He,hJ⟩:=HA.out;clear HA;rw[← hh3]at hQ hR hT fH hA1 hB He hJ;have UC:∀g,(g=R\/g=A0\/g=A1\/g=T)->∃c e f,Fh.heap[g]?=some (.cells c e f):=fun g hg=>by
   rcases hg with rfl|rfl|rfl|rfl
   . exact⟨_,_,_,hR⟩
   . exact⟨_,_,_,fH⟩
   . exact⟨_,_,_,hA1⟩
   . exact⟨_,_,_,hT⟩
 have HJ:=Lib.hid (zAI He hJ);refine Ti (n:=1) (plans:=bL) (turns:=WX) (pg:=R) (po:=0) (Km:=[.slice (some ⟨A0,0,none⟩) 1 1,.slice (some ⟨A1,0,none⟩) 1 1]) (Kp:=Kp) (Fx:=fun g=>g=R\/g=A0\/g=A1\/g=T) (fs:=[]) (fl:=0) (fa:=none) (fc:=0) (fb:=0) (fo:=0) (hl:=[]) (hg:=0) (ho:=0) rfl (by decide) (fun i x hx=>(by simp at hx)) (by decide) (fun i x hx=>(by simp at hx)) (by decide) (by decide) UC (fun g hg=>?_) (fun m hm=>?_) (by decide) (by decide) (by decide) (by decide) (by decide) ?_ (by decide) hcap hB (fun _ g hg=>?_) (fun g hg=>?_) kz rfl qx ?_
 . rcases hg with rfl | rfl | rfl | rfl<;>assumption
 . refine⟨rfl,by decide,fun σ W' hI i cv hi=>?_,fun i cv pl hi hp σ W' hI=>?_⟩
   . have e:=(hm σ W' hI R (.inl rfl)).trans hR;rcases i with _|_|i
     . cases hi;simp[World.cell?,e]
     . cases hi;simp[World.cell?,e]
     . simp at hi
   . have e0:=(hm σ W' hI A0 (.inr (.inl rfl))).trans fH;have e1:=(hm σ W' hI A1 (.inr (.inr (.inl rfl)))).trans hA1;rcases i with _|_|i
     . cases hi;cases hp;exact SH e0
     . cases hi;cases hp;exact SH e1
     . simp at hi
 . exact Aal hT rfl (by simp[WX]) (by decide)
 . right;right;right
   simpa [Value.ownBlock]using hg.symm
 . obtain⟨h1,h2,h3,h4,h5,h6⟩:=He g hg;exact⟨h1,h2,fun h=>h.elim h3 fun h=>h.elim h4 fun h=>h.elim h5 h6⟩
 . intro B' W4 N1 a1 a2 a3 y1 y2 y3 vv hB' hN1 hN2 OO hov Z5;rw[Frame.finish_at];show JL (FU EH).L (.Gj B' (nn+2)) _ W4;rw[show((kz.s:Nat):Int)=5 from by rw[Ag8];rfl,sJ];walk_nrm;have lt:∀{g:Nat} {o},Fh.heap[g]?=some o->g<Fh.heap.size:=fun h=>(zGE h).1;cases hkk;refine qK ?hops OO (jO hov) (Kp:=Kp) (fun g hg=>by rw[Z5 g (.inl hg)];exact(He g hg).1) fun W' hk hs=>hJ B' W' (fun g hg=>by
     rcases hB' g hg with h|h
     . exact .inl h
     . exact .inr h.1) (fun g hg=>by
     rcases hB' g hg with h|h
     . have:=hB g h;omega
     . omega) (fun g hg=>(hk g hg).trans (Z5 g (.inl hg))) zOM
   rfl
theorem dx{Kp:Nat->Prop}(hcap:nn+8<1000000)(hB:∀g,B g=true->g<W.heap.size)(He:∀g,Kp g->(∃c e f,W.heap[g]?=some (.cells c e f))/\B g=false)(hJ:∀B' W',(∀g,B' g=true->B g=true\/W.heap.size<=g)->(∀g,B' g=true->g<W'.heap.size)->(∀g,Kp g->W'.heap[g]?=W.heap[g]?)->W.heap.size<=W'.heap.size->JW (FU EH).base (.Gj B' (nn+2)) (G (c.finish (.bool true)) cs) W') :
  JW (FU EH).base (.Gj B nn) (G (Frame.enter Try.prog 4 #[] .normal) (c :: cs)) W:=by
 rw[enter_at _ Try.func4 mF,show Try.f4.ntmps=109 from by kernel_rfl];walk_nrm;have HA:=Lib.hid (zAI hB (zAI He hJ));clear hB He hJ;show JL (FU EH).L _ _ W;refine EO ?_;simp only[kn0,Try.f4];refine E9 fun _ hkk=>?_
 (refine ET ?_;walk_nrm)
 refine E5 ?_;cases hkk;rw[uL];refine EO ?_;refine Fp.Fz (S:=(FU EH)) (b:=base 4) [] (by simp) zKR nE zKR fun EG ha=>?_;have hh:EG.heap=W.heap:=by obtain⟨τ,d,rfl⟩:=ha;rfl
 have HH:=Lib.hid hh;clear hh;simp only[kn1,Try.f4];gi_wp2;generalize hW1:World.alloc _ _=W1;have q1:W1.heap=((((W.heap.push (.cells #[.int .i64 6,.int .i64 0,.int .i64 5,.int .i64 0,.slice none 0 0] 44 (0,0))).push (.cells #[.int .i64 6,.int .i64 0,.int .i64 9,.int .i64 0,.slice none 0 0] 44 (0,0))).push (.cells #[.slice (some ⟨W.heap.size,0,none⟩) 1 1,.slice (some ⟨W.heap.size+1,0,none⟩) 1 1] 52 (0,0))).push (.cells #[.int .i64 0,.int .i64 1,.int .i64 1,.int .i64 0,.int .i64 0] 3 (0,0))).push (.cells #[.slice (some ⟨W.heap.size+2,0,none⟩) 2 2,.slice (some ⟨W.heap.size+3,0,none⟩) 5 5,.slice none 0 0,.int .i64 0] 25 (0,0)):=by rw[← hW1,← HH.out];rfl
 have hs:EG.heap.size=W.heap.size:=by rw[HH.out]
 rw[hs];clear hs hW1 HH ha;obtain⟨hB,He,hJ⟩:=HA.out;clear HA;have hbf:∀g,W.heap.size<=g->B g=false:=fun g hg=>by
  cases h:B g with
  | false=>rfl
  | true=>have:=hB g h;omega
 have o1:∀g,g<W.heap.size->W1.heap[g]?=W.heap[g]?:=fun g hg=>by rw[q1];simp only[Array.getElem?_push,Array.size_push];rw[if_neg zOM,if_neg zOM,if_neg zOM,if_neg zOM,if_neg zOM]
 have s1:W1.heap.size=W.heap.size+5:=by rw[q1];simp
 have lt:∀{g:Nat} {o},W.heap[g]?=some o->g<W.heap.size:=fun h=>(zGE h).1;obtain⟨n0,n1,n2,n3,n4⟩:=Abc W.heap _ _ _ _ _ _ q1;show JL (FU EH).L (.Gj B nn) (G ((base 4).at ⟨_,[]⟩ (.code kk2 :: [])) (c :: cs)) W1;exact zW n4 n2 n3 n0 n1 hcap (fun g hg=>by have:=hB g hg;omega) (hbf _ zOM) (hbf _ zOM) (hbf _ zOM) (hbf _ zOM) ⟨by omega,by omega,by omega⟩ (Kp:=Kp) (fun g hg=>by
  obtain⟨⟨x,y,z,hx⟩,hb⟩:=He g hg;have hl:=lt hx;exact⟨⟨x,y,z,(o1 g hl).trans hx⟩,hb,by omega,by omega,by omega⟩) fun B' W' h1 h2 h3 h4=>hJ B' W' (fun g hg=>(h1 g hg).imp id zOM) h2 (fun g hg=>by
  obtain⟨⟨x,y,z,hx⟩,hb⟩:=He g hg;exact(h3 g hg).trans (o1 g (lt hx))) zOM
end
end
section
def or0:Code:=match Try.f3.body with | some (.seq c _)=>c | _=>.skip
def ok1:Code:=match Try.f3.body with | some (.seq _ c)=>c | _=>.skip
def or1:Code:=match Try.f3.body with | some (.seq _ (.seq c _))=>c | _=>.skip
def ok2:Code:=match Try.f3.body with | some (.seq _ (.seq _ c))=>c | _=>.skip
def or2:Code:=match Try.f3.body with | some (.seq _ (.seq _ (.seq c _)))=>c | _=>.skip
def ok3:Code:=match Try.f3.body with | some (.seq _ (.seq _ (.seq _ c)))=>c | _=>.skip
def or3:Code:=match Try.f3.body with | some (.seq _ (.seq _ (.seq _ (.seq c _))))=>c | _=>.skip
def nP:Code:=match Try.f3.body with | some (.seq _ (.seq _ (.seq _ (.seq _ c))))=>c | _=>.skip
def or4:Code:=match Try.f3.body with | some (.seq _ (.seq _ (.seq _ (.seq _ (.seq c _)))))=>c | _=>.skip
def ok5:Code:=match Try.f3.body with | some (.seq _ (.seq _ (.seq _ (.seq _ (.seq _ c)))))=>c | _=>.skip
def or5:Code:=match Try.f3.body with | some (.seq _ (.seq _ (.seq _ (.seq _ (.seq _ (.seq c _))))))=>c | _=>.skip
def ok6:Code:=match Try.f3.body with | some (.seq _ (.seq _ (.seq _ (.seq _ (.seq _ (.seq _ c))))))=>c | _=>.skip
def or6:Code:=match Try.f3.body with | some (.seq _ (.seq _ (.seq _ (.seq _ (.seq _ (.seq _ (.seq c _)))))))=>c | _=>.skip
def ok7:Code:=match Try.f3.body with | some (.seq _ (.seq _ (.seq _ (.seq _ (.seq _ (.seq _ (.seq _ c)))))))=>c | _=>.skip
def or7:Code:=match Try.f3.body with | some (.seq _ (.seq _ (.seq _ (.seq _ (.seq _ (.seq _ (.seq _ (.seq c _))))))))=>c | _=>.skip
def ok8:Code:=match Try.f3.body with | some (.seq _ (.seq _ (.seq _ (.seq _ (.seq _ (.seq _ (.seq _ (.seq _ c))))))))=>c | _=>.skip
def or8:Code:=match Try.f3.body with | some (.seq _ (.seq _ (.seq _ (.seq _ (.seq _ (.seq _ (.seq _ (.seq _ (.seq c _)))))))))=>c | _=>.skip
def ok9:Code:=match Try.f3.body with | some (.seq _ (.seq _ (.seq _ (.seq _ (.seq _ (.seq _ (.seq _ (.seq _ (.seq _ c)))))))))=>c | _=>.skip
theorem jK:Try.f3.body=some (.seq or0 ok1):=rfl
theorem qw:ok1=.seq or1 ok2:=rfl
theorem sM:ok2=.seq or2 ok3:=rfl
theorem uF:ok3=.seq or3 nP:=rfl
theorem dL:nP=.seq or4 ok5:=rfl
theorem wG:ok5=.seq or5 ok6:=rfl
theorem rF:ok6=.seq or6 ok7:=rfl
theorem rR:ok7=.seq or7 ok8:=rfl
theorem rH:ok8=.seq or8 ok9:=rfl
def OrR(tm:Array Value):Prop:=∀w,(results Try.f3 tm).runT Try.prog w #[]=(.ok (.bool true) w,#[])
theorem EZ{W:World}{g:Nat}{cs:Array Value}{t:TypeId}{f:Nat × Nat}(h:W.heap[g]?=some (.cells cs t f))(j:Nat):W.cell? ⟨g,j,none⟩=cs[j]?:=by simp[World.cell?,h]
def OU:Array Oper:=match or3 with | .region _ o _=>o | _=>#[]
theorem KY{main:Bool}{Γ:Type}{S:Fp Try.prog main Γ}{γ:Γ}{b:Frame}{ds:List Deferred}{k:List Item}{cs:List Frame}{tm:Array Value}{W:World}(h:JL S.L γ (G (b.at ⟨tm,ds⟩ k) cs) W):aC S γ b ds k cs Exit.normal ⟨tm,[]⟩ W:=h
theorem gH:∀g∈[5],@Lets (Host.only 3) Try.prog g:=fun g hg=>by simp only[List.mem_cons,List.not_mem_nil,or_false]at hg;obtain rfl:=hg;exact⟨by kernel_rfl,.inl ⟨_,_,Try.func5,by kernel_rfl,rfl,by kernel_rfl⟩⟩
section
variable {Fin:Gb}{EH:FM Try.prog Fin}
variable {B:Nat->Bool}{W:World}{nn:Nat}{cs:List Frame}
variable {v0 v1 v2 v3 v4 v5 v6 v7 v8 v9 Aa Ab Ac Ae Af Ah Ai Aj Ak Al Am Ao Ap Ar Au Av Aw Ay Az AA AB AJ AL AO AP AQ AU AV AX AY AZ A8 A9 Ba Bb Bc Bf Bh Bj Bl Bp Bq Br Bu Bv Bw Bz BD BF BG BH BI BJ BK BL BM BN BO BP BQ BR BS BU BX BZ Ca Cb Cc Ce Cg Ci Cj Ck Cm Co Cq Cr Ct Cu Cw Cx Cy Cz CB CF CG CJ CK CO CQ CS:Value}
variable {Kp:Nat->Prop}{wa ta ya fa:Option Addr}{plans:List (List EP)}{turns hl:List Int}{J5 tc yc fl fc cb:Nat}{u nv:Int}
theorem Ae0(hcap:nn+8<1000000)(hB:∀g,B g=true->g<W.heap.size)(He:∀g,Kp g->(∃c e f,W.heap[g]?=some (.cells c e f))/\B g=false)(hg:∀B' W' (Dj Dk:Value),(∀g,B' g=true->B g=true\/W.heap.size<=g)->(∀g,B' g=true->g<W'.heap.size)->(∀g,Kp g->W'.heap[g]?=W.heap[g]?)->W.heap.size<=W'.heap.size->JL (FU EH).L (.Gj B' (nn+2)) (G ((base 3).at ⟨#[v0,v1,v2,v3,v4,.pointer (some ⟨cb,0,none⟩),v6,v7,v8,v9,Aa,Ab,Ac,Ae,Af,Ah,Ai,Aj,Dj,Dk,Am,Ao,Ap,Ar,Au,Av,Aw,Ay,Az,AA,AB,AJ,AL,AO,AP,AQ,AU,AV,AX,AY,AZ,A8,A9,Ba,Bb,Bc,Bf,Bh,Bj,Bl,Bp,Bq,Br,Bu,Bv,Bw,Bz,BD,BF,BG,BH,BI,BJ,BK,BL,BM,BN,BO,BP,BQ,BR,BS,BU,BX,BZ,Ca,Cb,Cc,Ce,Cg,Ci,Cj,Ck,Cm,Co,Cq,Cr,Ct,Cu,Cw,Cx,Cy,Cz,CB,CF,CG,CJ,CK,CO,CQ,CS],[]⟩ (.code ok2 :: [])) cs) W') :
  JL (FU EH).L (.Gj B nn) (G ((base 3).at ⟨#[v0,v1,v2,v3,v4,.pointer (some ⟨cb,0,none⟩),v6,v7,v8,v9,Aa,Ab,Ac,Ae,Af,Ah,Ai,Aj,Ak,Al,Am,Ao,Ap,Ar,Au,Av,Aw,Ay,Az,AA,AB,AJ,AL,AO,AP,AQ,AU,AV,AX,AY,AZ,A8,A9,Ba,Bb,Bc,Bf,Bh,Bj,Bl,Bp,Bq,Br,Bu,Bv,Bw,Bz,BD,BF,BG,BH,BI,BJ,BK,BL,BM,BN,BO,BP,BQ,BR,BS,BU,BX,BZ,Ca,Cb,Cc,Ce,Cg,Ci,Cj,Ck,Cm,Co,Cq,Cr,Ct,Cu,Cw,Cx,Cy,Cz,CB,CF,CG,CJ,CK,CO,CQ,CS],[]⟩ (.code ok1 :: [])) cs) W:=by
 have HK:=Lib.hid hg;clear hg;rw[qw];refine EO ?_;simp only[or1,Try.f3];refine EO ?_;refine E9 fun _ hkk=>?_;refine JL.enter rfl rfl nE rfl Try.func4 zKR zKR ?_;walk_nrm;refine dx (Kp:=Kp) hcap hB He fun B' W' k1 k2 k3 k4=>?_;rw[Frame.finish_at];show JL (FU EH).L _ _ W';have HK2:=Lib.hid (zAI k1 (zAI k2 (zAI k3 k4)));clear k1 k2 k3 k4 hB He;walk_nrm
 (refine ET ?_;walk_nrm)
 refine E5 ?_;cases hkk;refine JL.EX rfl ?_;refine EU stepG_skip ?_;exact HK.out B' W' _ _ HK2.out.1 HK2.out.2.1 HK2.out.2.2.1 HK2.out.2.2.2
theorem Ag7(hC:GL Kp wa ta ya plans turns hl W)(hc:W.heap[cb]?=some (.cells #[.slice wa plans.length J5,.slice ta turns.length tc,.slice ya hl.length yc,.int .i64 u] 25 (0,0)))(hg:∀W' (Dl Dm Dn Dp Dq Dt Du Dv:Value),plans.length<=16->turns.length<=20000->hl.length<=1000->fl<=1000->(∀g,g<W.heap.size->W'.heap[g]?=W.heap[g]?)->W.heap.size<=W'.heap.size->JL (FU EH).L (.Gj B nn) (G ((base 3).at ⟨#[v0,.slice fa fl fc,v2,v3,v4,.pointer (some ⟨cb,0,none⟩),v6,v7,v8,v9,Aa,Ab,Ac,Ae,Af,Ah,Ai,Aj,Ak,Al,Dl,Dm,Dn,Dp,Dq,Dt,Du,Dv,Az,AA,AB,AJ,AL,AO,AP,AQ,AU,AV,AX,AY,AZ,A8,A9,Ba,Bb,Bc,Bf,Bh,Bj,Bl,Bp,Bq,Br,Bu,Bv,Bw,Bz,BD,BF,BG,BH,BI,BJ,BK,BL,BM,BN,BO,BP,BQ,BR,BS,BU,BX,BZ,Ca,Cb,Cc,Ce,Cg,Ci,Cj,Ck,Cm,Co,Cq,Cr,Ct,Cu,Cw,Cx,Cy,Cz,CB,CF,CG,CJ,CK,CO,CQ,CS],[]⟩ (.code ok3 :: [])) cs) W')(hJ:∀W' tm Y,OrR tm->(∀g,g<W.heap.size->W'.heap[g]?=W.heap[g]?)->W.heap.size<=W'.heap.size->JL (FU EH).L (.Gj B nn) (G { (base 3).at ⟨tm,[]⟩ Y with mode:=.returning } cs) W') :
   JL (FU EH).L (.Gj B nn) (G ((base 3).at ⟨#[v0,.slice fa fl fc,v2,v3,v4,.pointer (some ⟨cb,0,none⟩),v6,v7,v8,v9,Aa,Ab,Ac,Ae,Af,Ah,Ai,Aj,Ak,Al,Am,Ao,Ap,Ar,Au,Av,Aw,Ay,Az,AA,AB,AJ,AL,AO,AP,AQ,AU,AV,AX,AY,AZ,A8,A9,Ba,Bb,Bc,Bf,Bh,Bj,Bl,Bp,Bq,Br,Bu,Bv,Bw,Bz,BD,BF,BG,BH,BI,BJ,BK,BL,BM,BN,BO,BP,BQ,BR,BS,BU,BX,BZ,Ca,Cb,Cc,Ce,Cg,Ci,Cj,Ck,Cm,Co,Cq,Cr,Ct,Cu,Cw,Cx,Cy,Cz,CB,CF,CG,CJ,CK,CO,CQ,CS],[]⟩ (.code ok2 :: [])) cs) W:=by
 rw[sM];refine EO ?_;refine Fp.Fz (S:=(FU EH)) (b:=base 3) [5] gH zKR nE zKR fun EG ha=>?_;have hh:EG.heap=W.heap:=by obtain⟨τ,d,rfl⟩:=ha;rfl
 clear ha;replace hC:GL Kp wa ta ya plans turns hl EG:=hC.old fun g _=>by rw[hh]
 rw[← hh]at hc;have c0:=EZ hc 0;have c1:=EZ hc 1;have c2:=EZ hc 2;have c3:=EZ hc 3;simp only[List.getElem?_toArray,List.getElem?_cons_zero,List.getElem?_cons_succ]at c0 c1 c2 c3;have HH:=Lib.hid (zAI hC (zAI @hg (zAI @hJ hh)));clear hC hg hJ hh hc;simp only[or2,Try.f3];by_cases hf:(1000:Int)<(fl:Int)
 . gi_wp2_with (gi_at_call 5;fail)
   refine(iq _ HH.out.1 J5 tc yc u).mono ?_;rintro e w1 ⟨b,rfl,hb,hB⟩;have HB:=Lib.hid (zAI hb hB);clear hb hB c0 c1 c2 c3;cases b with
   | true=>
    gi_wp2;intro Y;obtain⟨-,-,hJ,hh⟩:=HH.out;have hB:=HB.out.2;have hs:=congrArg Array.size hh;exact hJ _ _ Y (fun w=>by kernel_rfl) (fun g hg=>by rw[hB.block g (by rw[hs];exact hg),hh]) (by have:=hB.size;omega)
   | false=>
    gi_wp2;intro Y;obtain⟨-,-,hJ,hh⟩:=HH.out;have hB:=HB.out.2;have hs:=congrArg Array.size hh;exact hJ _ _ Y (fun w=>by kernel_rfl) (fun g hg=>by rw[hB.block g (by rw[hs];exact hg),hh]) (by have:=hB.size;omega)
 . gi_wp2_with (gi_at_call 5;fail)
   refine(iq _ HH.out.1 J5 tc yc u).mono ?_;rintro e w1 ⟨b,rfl,hb,hB⟩;have HB:=Lib.hid (zAI hb hB);clear hb hB c0 c1 c2 c3;cases b with
   | true=>
    gi_wp2;refine KY ?_;obtain⟨-,hg,-,hh⟩:=HH.out;obtain⟨h1,hB⟩:=HB.out;obtain⟨h1,h2,h3⟩:=h1 (by trivial);have hs:=congrArg Array.size hh;exact hg _ _ _ _ _ _ _ _ _ h1 h2 h3 zOM (fun g hg=>by rw[hB.block g (by rw[hs];exact hg),hh]) (by have:=hB.size;omega)
   | false=>
    gi_wp2;intro Y;obtain⟨-,-,hJ,hh⟩:=HH.out;have hB:=HB.out.2;have hs:=congrArg Array.size hh;exact hJ _ _ Y (fun w=>by kernel_rfl) (fun g hg=>by rw[hB.block g (by rw[hs];exact hg),hh]) (by have:=hB.size;omega)
theorem oN{ops:Array Oper}(hops:ops=OU){aa oa va:Option Addr}{an ac on oc vn vc:Nat}{st e:Int}{cut:Bool}(hg:∀W' (rb:Nat) (Dw Dx Dy Dz DC DF DI DJ:Value),W'.heap[rb]?=some (.cells #[.slice aa an ac,.slice oa on oc,.int .i64 st,.bool cut] 31 (0,0))->(∀g,g<W.heap.size->W'.heap[g]?=W.heap[g]?)->W.heap.size<=W'.heap.size->JL (FU EH).L (.Gj B nn) (G ((base 3).at ⟨#[v0,v1,v2,v3,v4,.pointer (some ⟨cb,0,none⟩),v6,.pointer (some ⟨rb,0,none⟩),.slice va vn vc,.int .i64 e,Aa,Ab,Ac,Ae,Af,Ah,Ai,Aj,Ak,Al,Am,Ao,Ap,Ar,Au,Av,Aw,Ay,Dw,Dx,Dy,Dz,DC,DF,DI,DJ,AU,AV,AX,AY,AZ,A8,A9,Ba,Bb,Bc,Bf,Bh,Bj,Bl,Bp,Bq,Br,Bu,Bv,Bw,Bz,BD,BF,BG,BH,BI,BJ,BK,BL,BM,BN,BO,BP,BQ,BR,BS,BU,BX,BZ,Ca,Cb,Cc,Ce,Cg,Ci,Cj,Ck,Cm,Co,Cq,Cr,Ct,Cu,Cw,Cx,Cy,Cz,CB,CF,CG,CJ,CK,CO,CQ,CS],[]⟩ (.code nP :: [])) cs) W') :
  JL (FU EH).L (.Gj B nn) (G ((base 3).at ⟨#[v0,v1,v2,v3,v4,.pointer (some ⟨cb,0,none⟩),v6,v7,v8,v9,Aa,Ab,Ac,Ae,Af,Ah,Ai,Aj,Ak,Al,Am,Ao,Ap,Ar,Au,Av,Aw,Ay,Az,AA,AB,AJ,.tuple #[.agg #[.slice aa an ac,.slice oa on oc,.int .i64 st,.bool cut],.slice va vn vc,.int .i64 e],AO,AP,AQ,AU,AV,AX,AY,AZ,A8,A9,Ba,Bb,Bc,Bf,Bh,Bj,Bl,Bp,Bq,Br,Bu,Bv,Bw,Bz,BD,BF,BG,BH,BI,BJ,BK,BL,BM,BN,BO,BP,BQ,BR,BS,BU,BX,BZ,Ca,Cb,Cc,Ce,Cg,Ci,Cj,Ck,Cm,Co,Cq,Cr,Ct,Cu,Cw,Cx,Cy,Cz,CB,CF,CG,CJ,CK,CO,CQ,CS],[]⟩ (.inRegion ops [4,5,6,7,8,9,10,11] :: .code nP :: [])) cs) W:=by
 subst hops;have HG:=Lib.hid @hg;clear hg;simp only[OU,or3,Try.f3];refine Fp.Gs (S:=(FU EH)) (b:=base 3) 4 [] (by simp) zKR nE rfl zKR fun GZ RP=>?_;have H5:=Lib.hid (show GZ.heap=W.heap by obtain⟨τ,d,rfl⟩:=RP;rfl);dsimp only[List.drop];gi_wp2;try refine⟨rfl,?_⟩
 generalize Rq:World.alloc GZ _=W6;have q6:W6.heap=W.heap.push (.cells #[.slice aa an ac,.slice oa on oc,.int .i64 st,.bool cut] 31 (0,0)):=by rw[← Rq,← H5.out];rfl
 clear Rq RP;show JL (FU EH).L _ _ W6;try dsimp only
 refine EU stepG_region_end ?_;have o1:∀g,g<W.heap.size->W6.heap[g]?=W.heap[g]?:=fun g hg=>by rw[q6,Array.getElem?_push,if_neg zOM]
 have s1:W6.heap.size=W.heap.size+1:=by rw[q6];simp
 have hs5:GZ.heap.size=W.heap.size:=by rw[H5.out]
 have n1:W6.heap[GZ.heap.size]?=some (.cells #[.slice aa an ac,.slice oa on oc,.int .i64 st,.bool cut] 31 (0,0)):=by rw[q6,hs5,Array.getElem?_push,if_pos rfl]
 exact HG.out W6 _ _ _ _ _ _ _ _ _ n1 o1 zOM
theorem Afu(hc:W.heap[cb]?=some (.cells #[.slice wa plans.length J5,.slice ta turns.length tc,.slice ya hl.length yc,.int .i64 u] 25 (0,0)))(hg:∀W' (Dx Dy Dz:Value),W'.heap=W.heap->JL (FU EH).L (.Gj B nn) (G (Frame.enter Try.prog 6 #[.int .i64 nv,.slice fa fl fc,.agg #[.slice wa plans.length J5,.slice ta turns.length tc,.slice ya hl.length yc,.int .i64 u]] .normal) ((base 3).at ⟨#[.int .i64 nv,.slice fa fl fc,v2,v3,v4,.pointer (some ⟨cb,0,none⟩),v6,v7,v8,v9,Aa,Ab,Ac,Ae,Af,Ah,Ai,Aj,Ak,Al,Am,Ao,Ap,Ar,Au,Av,Aw,Ay,Az,Dx,Dy,Dz,AL,AO,AP,AQ,AU,AV,AX,AY,AZ,A8,A9,Ba,Bb,Bc,Bf,Bh,Bj,Bl,Bp,Bq,Br,Bu,Bv,Bw,Bz,BD,BF,BG,BH,BI,BJ,BK,BL,BM,BN,BO,BP,BQ,BR,BS,BU,BX,BZ,Ca,Cb,Cc,Ce,Cg,Ci,Cj,Ck,Cm,Co,Cq,Cr,Ct,Cu,Cw,Cx,Cy,Cz,CB,CF,CG,CJ,CK,CO,CQ,CS],[]⟩ (.inRegion OU [3,4,5,6,7,8,9,10,11] :: .code nP :: []) :: cs)) W') :
  JL (FU EH).L (.Gj B nn) (G ((base 3).at ⟨#[.int .i64 nv,.slice fa fl fc,v2,v3,v4,.pointer (some ⟨cb,0,none⟩),v6,v7,v8,v9,Aa,Ab,Ac,Ae,Af,Ah,Ai,Aj,Ak,Al,Am,Ao,Ap,Ar,Au,Av,Aw,Ay,Az,AA,AB,AJ,AL,AO,AP,AQ,AU,AV,AX,AY,AZ,A8,A9,Ba,Bb,Bc,Bf,Bh,Bj,Bl,Bp,Bq,Br,Bu,Bv,Bw,Bz,BD,BF,BG,BH,BI,BJ,BK,BL,BM,BN,BO,BP,BQ,BR,BS,BU,BX,BZ,Ca,Cb,Cc,Ce,Cg,Ci,Cj,Ck,Cm,Co,Cq,Cr,Ct,Cu,Cw,Cx,Cy,Cz,CB,CF,CG,CJ,CK,CO,CQ,CS],[]⟩ (.code ok3 :: [])) cs) W:=by
 have HG:=Lib.hid @hg;clear hg;rw[uF];refine EO ?_;simp only[or3,Try.f3];refine E9 fun _ hkk=>?_;refine Fp.Kk (S:=(FU EH)) (b:=base 3) 0 3 [] (by simp) zKR nE (rest:=[3,4,5,6,7,8,9,10,11]) rfl zKR fun Fh Lm=>?_;have hh3:Fh.heap=W.heap:=by obtain⟨τ,d,rfl⟩:=Lm;rfl
 rw[← hh3]at hc;have c0:=EZ hc 0;have c1:=EZ hc 1;have c2:=EZ hc 2;have c3:=EZ hc 3;simp only[List.getElem?_toArray,List.getElem?_cons_zero,List.getElem?_cons_succ]at c0 c1 c2 c3;have HH:=Lib.hid hh3;clear hh3 hc;dsimp only[List.drop,List.take];gi_wp2;try refine⟨rfl,?_⟩
 have hh3:=HH.out;clear HH c0 c1 c2 c3 Lm;show JL (FU EH).L _ _ Fh;try dsimp only
 cases hkk;refine JL.enter rfl rfl nE rfl Try.func6 zKR zKR ?_;walk_nrm;exact HG.out Fh _ _ _ hh3
end
end
section
theorem QG:∀g∈[7,13],@Lets (Host.only 3) Try.prog g:=fun g hg=>by
 simp only[List.mem_cons,List.not_mem_nil,or_false]at hg;rcases hg with rfl|rfl
 . exact⟨by kernel_rfl,.inl ⟨_,_,Try.func7,by kernel_rfl,rfl,by kernel_rfl⟩⟩
 . exact⟨by kernel_rfl,.inl ⟨_,_,Try.func13,by kernel_rfl,rfl,by kernel_rfl⟩⟩
section
variable {Fin:Gb}{EH:FM Try.prog Fin}
variable {B:Nat->Bool}{W:World}{nn:Nat}{cs:List Frame}
variable {v0 v1 v2 v3 v4 v5 v6 v7 v8 v9 Aa Ab Ac Ae Af Ah Ai Aj Ak Al Am Ao Ap Ar Au Av Aw Ay Az AA AB AJ AL AO AP AQ AU AV AX AY AZ A8 A9 Ba Bb Bc Bf Bh Bj Bl Bp Bq Br Bu Bv Bw Bz BD BF BG BH BI BJ BK BL BM BN BO BP BQ BR BS BU BX BZ Ca Cb Cc Ce Cg Ci Cj Ck Cm Co Cq Cr Ct Cu Cw Cx Cy Cz CB CF CG CJ CK CO CQ CS:Value}
variable {va aa oa:Option Addr}{cb rb vn vc an ac on oc:Nat}{cut:Bool}
theorem Abq(hg:∀W' (DL DN DR:Value),W'.heap=W.heap->JL (FU EH).L (.Gj B nn) (G ((base 3).at ⟨#[v0,v1,v2,v3,v4,v5,v6,v7,v8,.int .i64 0,Aa,Ab,Ac,Ae,Af,Ah,Ai,Aj,Ak,Al,Am,Ao,Ap,Ar,Au,Av,Aw,Ay,Az,AA,AB,AJ,AL,AO,AP,AQ,DL,DN,DR,AY,AZ,A8,A9,Ba,Bb,Bc,Bf,Bh,Bj,Bl,Bp,Bq,Br,Bu,Bv,Bw,Bz,BD,BF,BG,BH,BI,BJ,BK,BL,BM,BN,BO,BP,BQ,BR,BS,BU,BX,BZ,Ca,Cb,Cc,Ce,Cg,Ci,Cj,Ck,Cm,Co,Cq,Cr,Ct,Cu,Cw,Cx,Cy,Cz,CB,CF,CG,CJ,CK,CO,CQ,CS],[]⟩ (.code ok5 :: [])) cs) W') :
  JL (FU EH).L (.Gj B nn) (G ((base 3).at ⟨#[v0,v1,v2,v3,v4,v5,v6,v7,v8,.int .i64 0,Aa,Ab,Ac,Ae,Af,Ah,Ai,Aj,Ak,Al,Am,Ao,Ap,Ar,Au,Av,Aw,Ay,Az,AA,AB,AJ,AL,AO,AP,AQ,AU,AV,AX,AY,AZ,A8,A9,Ba,Bb,Bc,Bf,Bh,Bj,Bl,Bp,Bq,Br,Bu,Bv,Bw,Bz,BD,BF,BG,BH,BI,BJ,BK,BL,BM,BN,BO,BP,BQ,BR,BS,BU,BX,BZ,Ca,Cb,Cc,Ce,Cg,Ci,Cj,Ck,Cm,Co,Cq,Cr,Ct,Cu,Cw,Cx,Cy,Cz,CB,CF,CG,CJ,CK,CO,CQ,CS],[]⟩ (.code nP :: [])) cs) W:=by
 rw[dL];refine EO ?_;refine Fp.Fz (S:=(FU EH)) (b:=base 3) [7,13] QG zKR nE zKR fun Wa ha=>?_;have hh:Wa.heap=W.heap:=by obtain⟨τ,d,rfl⟩:=ha;rfl
 have HK:=Lib.hid (zAI @hg hh);clear ha hg hh;simp only[or4,Try.f3];gi_wp2_with (gi_at_call 7;refine(UE _ _ _ (by decide)).mono ?_;rintro e w2 ⟨rfl,rfl⟩)
 refine KY ?_;exact HK.out.1 Wa _ _ _ HK.out.2
theorem Adc{e:Int}(he:e=42\/e=30)(hr:W.heap[rb]?=some (.cells #[.slice aa 0 ac,.slice oa on oc,.int .i64 0,.bool cut] 31 (0,0)))(hJ:∀W' tm Y,OrR tm->W'.heap=W.heap->JL (FU EH).L (.Gj B nn) (G { (base 3).at ⟨tm,[]⟩ Y with mode:=.returning } cs) W') :
  JL (FU EH).L (.Gj B nn) (G ((base 3).at ⟨#[v0,v1,v2,v3,v4,v5,v6,.pointer (some ⟨rb,0,none⟩),.slice va 0 vc,.int .i64 e,Aa,Ab,Ac,Ae,Af,Ah,Ai,Aj,Ak,Al,Am,Ao,Ap,Ar,Au,Av,Aw,Ay,Az,AA,AB,AJ,AL,AO,AP,AQ,AU,AV,AX,AY,AZ,A8,A9,Ba,Bb,Bc,Bf,Bh,Bj,Bl,Bp,Bq,Br,Bu,Bv,Bw,Bz,BD,BF,BG,BH,BI,BJ,BK,BL,BM,BN,BO,BP,BQ,BR,BS,BU,BX,BZ,Ca,Cb,Cc,Ce,Cg,Ci,Cj,Ck,Cm,Co,Cq,Cr,Ct,Cu,Cw,Cx,Cy,Cz,CB,CF,CG,CJ,CK,CO,CQ,CS],[]⟩ (.code nP :: [])) cs) W:=by
 rw[dL];refine EO ?_;refine Fp.Fz (S:=(FU EH)) (b:=base 3) [7,13] QG zKR nE zKR fun Wa ha=>?_;have hh:Wa.heap=W.heap:=by obtain⟨τ,d,rfl⟩:=ha;rfl
 rw[← hh]at hr;have r0:=EZ hr 0;have r2:=EZ hr 2;simp only[List.getElem?_toArray,List.getElem?_cons_zero,List.getElem?_cons_succ]at r0 r2;have HK:=Lib.hid (zAI @hJ hh);clear ha hJ hh hr;rcases he with rfl|rfl;all_goals
  simp only[or4,Try.f3];gi_wp2_with (gi_at_call 7;refine(UE _ _ _ (by decide)).mono ?_;rintro e w2 ⟨rfl,rfl⟩)
  intro Y;exact HK.out.1 _ _ Y (fun w=>by kernel_rfl) HK.out.2
theorem Aeu{n:Nat}(h1:1<=n)(h2:n<=256)(hg:∀W' (D9 Ea Eb Ec Ed:Value),W'.heap=(W.heap.push (.cells (List.replicate n (Value.int .i64 0)).toArray 76 (0,0))).push (.cells #[.slice (some ⟨W.heap.size,0,none⟩) n n] 62 (0,0))->JL (FU EH).L (.Gj B nn) (G ((base 3).at ⟨#[.int .i64 n,v1,v2,v3,v4,v5,v6,v7,v8,v9,.pointer (some ⟨W.heap.size+1,0,none⟩),.int .i64 0,Ac,Ae,Af,Ah,Ai,Aj,Ak,Al,Am,Ao,Ap,Ar,Au,Av,Aw,Ay,Az,AA,AB,AJ,AL,AO,AP,AQ,AU,AV,AX,AY,AZ,A8,A9,Ba,Bb,Bc,Bf,Bh,Bj,Bl,Bp,Bq,Br,D9,Ea,Eb,Ec,Ed,BF,BG,BH,BI,BJ,BK,BL,BM,BN,BO,BP,BQ,BR,BS,BU,BX,BZ,Ca,Cb,Cc,Ce,Cg,Ci,Cj,Ck,Cm,Co,Cq,Cr,Ct,Cu,Cw,Cx,Cy,Cz,CB,CF,CG,CJ,CK,CO,CQ,CS],[]⟩ (.code ok6 :: [])) cs) W') :
  JL (FU EH).L (.Gj B nn) (G ((base 3).at ⟨#[.int .i64 n,v1,v2,v3,v4,v5,v6,v7,v8,v9,Aa,Ab,Ac,Ae,Af,Ah,Ai,Aj,Ak,Al,Am,Ao,Ap,Ar,Au,Av,Aw,Ay,Az,AA,AB,AJ,AL,AO,AP,AQ,AU,AV,AX,AY,AZ,A8,A9,Ba,Bb,Bc,Bf,Bh,Bj,Bl,Bp,Bq,Br,Bu,Bv,Bw,Bz,BD,BF,BG,BH,BI,BJ,BK,BL,BM,BN,BO,BP,BQ,BR,BS,BU,BX,BZ,Ca,Cb,Cc,Ce,Cg,Ci,Cj,Ck,Cm,Co,Cq,Cr,Ct,Cu,Cw,Cx,Cy,Cz,CB,CF,CG,CJ,CK,CO,CQ,CS],[]⟩ (.code ok5 :: [])) cs) W:=by
 rw[wG];refine EO ?_;simp only[or5,Try.f3];refine E9 fun _ hkk=>?_
 (refine ET ?_;walk_nrm)
 refine JL.enter rfl rfl nE rfl Try.func8 zKR zKR ?_;walk_nrm;refine KN h1 h2 fun W' hW=>?_;rw[Frame.finish_at];show JL (FU EH).L (.Gj B nn) _ W';walk_nrm;iterate 5(refine ET ?_;walk_nrm)
 refine E5 ?_;cases hkk;exact hg W' _ _ _ _ _ hW
theorem Ag0(hg:∀W' (Ee Ef Eh:Value),W'.heap=W.heap->JL (FU EH).L (.Gj B nn) (G ((base 3).at ⟨#[v0,v1,v2,v3,v4,v5,v6,v7,v8,v9,Aa,.int .i64 0,Ac,Ae,Af,Ah,Ai,Aj,Ak,Al,Am,Ao,Ap,Ar,Au,Av,Aw,Ay,Az,AA,AB,AJ,AL,AO,AP,AQ,AU,AV,AX,AY,AZ,A8,A9,Ba,Bb,Bc,Bf,Bh,Bj,Bl,Bp,Bq,Br,Bu,Bv,Bw,Bz,BD,Ee,Ef,Eh,BI,BJ,BK,BL,BM,BN,BO,BP,BQ,BR,BS,BU,BX,BZ,Ca,Cb,Cc,Ce,Cg,Ci,Cj,Ck,Cm,Co,Cq,Cr,Ct,Cu,Cw,Cx,Cy,Cz,CB,CF,CG,CJ,CK,CO,CQ,CS],[]⟩ (.code ok7 :: [])) cs) W') :
  JL (FU EH).L (.Gj B nn) (G ((base 3).at ⟨#[v0,v1,v2,v3,v4,v5,v6,v7,v8,v9,Aa,.int .i64 0,Ac,Ae,Af,Ah,Ai,Aj,Ak,Al,Am,Ao,Ap,Ar,Au,Av,Aw,Ay,Az,AA,AB,AJ,AL,AO,AP,AQ,AU,AV,AX,AY,AZ,A8,A9,Ba,Bb,Bc,Bf,Bh,Bj,Bl,Bp,Bq,Br,Bu,Bv,Bw,Bz,BD,BF,BG,BH,BI,BJ,BK,BL,BM,BN,BO,BP,BQ,BR,BS,BU,BX,BZ,Ca,Cb,Cc,Ce,Cg,Ci,Cj,Ck,Cm,Co,Cq,Cr,Ct,Cu,Cw,Cx,Cy,Cz,CB,CF,CG,CJ,CK,CO,CQ,CS],[]⟩ (.code ok6 :: [])) cs) W:=by
 rw[rF];refine EO ?_;refine Fp.Fz (S:=(FU EH)) (b:=base 3) [7,13] QG zKR nE zKR fun Wa ha=>?_;have hh:Wa.heap=W.heap:=by obtain⟨τ,d,rfl⟩:=ha;rfl
 have HK:=Lib.hid (zAI @hg hh);clear ha hg hh;simp only[or6,Try.f3];gi_wp2_with (gi_at_call 7;refine(UE _ _ _ (by decide)).mono ?_;rintro e w2 ⟨rfl,rfl⟩)
 refine KY ?_;exact HK.out.1 Wa _ _ _ HK.out.2
end
end
end Go.Proofs.Ytdkfdedgfilhbaa
end
