/-
  Part 18 of the proof that CellOrders is true of every input of bulk at most 1048576.
-/
import Derived.Test.YtdkfdedgfilhbaaQ17
set_option linter.unusedVariables false
set_option linter.unusedSectionVars false
set_option linter.unusedSimpArgs false
set_option maxHeartbeats 4000000
set_option maxRecDepth 100000
noncomputable section
namespace Go.Proofs.Ytdkfdedgfilhbaa
open Go Go.Conc Go.LT Go.LC Go.LK Go.RowKit
open BA TU
section
def xH:Code:=match Try.f3.body with
 | some (.seq _ (.seq _ (.seq _ (.seq _ (.seq _ (.seq _ (.seq _ (.seq _ (.seq (.seq _ (.block _ (.loop c))) _)))))))))=>c | _=>.skip
def wh:Code:=match Try.f3.body with
 | some (.seq _ (.seq _ (.seq _ (.seq _ (.seq _ (.seq _ (.seq _ (.seq _ (.seq (.seq _ (.block _ (.loop (.seq (.seq c _) _)))) _)))))))))=>c | _=>.skip
def fK:Code:=match Try.f3.body with
 | some (.seq _ (.seq _ (.seq _ (.seq _ (.seq _ (.seq _ (.seq _ (.seq _ (.seq (.seq _ (.block _ (.loop (.seq _ (.seq _ c))))) _)))))))))=>c | _=>.skip
def vZ:Code:=match Try.f3.body with
 | some (.seq _ (.seq _ (.seq _ (.seq _ (.seq _ (.seq _ (.seq _ (.seq _ (.seq (.seq _ (.block _ (.loop (.seq _ (.seq (.block _ (.seq c _)) _))))) _)))))))))=>c | _=>.skip
def qo:Code:=match Try.f3.body with
 | some (.seq _ (.seq _ (.seq _ (.seq _ (.seq _ (.seq _ (.seq _ (.seq _ (.seq (.seq _ (.block _ (.loop (.seq _ (.seq (.block _ (.seq _ (.seq (.seq c _) _))) _))))) _)))))))))=>c | _=>.skip
def sI:Code:=match Try.f3.body with
 | some (.seq _ (.seq _ (.seq _ (.seq _ (.seq _ (.seq _ (.seq _ (.seq _ (.seq (.seq _ (.block _ (.loop (.seq _ (.seq (.block _ (.seq _ (.seq _ (.seq c _)))) _))))) _)))))))))=>c | _=>.skip
def uS:Code:=match Try.f3.body with
 | some (.seq _ (.seq _ (.seq _ (.seq _ (.seq _ (.seq _ (.seq _ (.seq _ (.seq (.seq _ (.block _ (.loop (.seq _ (.seq (.block _ (.seq _ (.seq _ (.seq _ c)))) _))))) _)))))))))=>c | _=>.skip
def qd:Code:=match Try.f3.body with
 | some (.seq _ (.seq _ (.seq _ (.seq _ (.seq _ (.seq _ (.seq _ (.seq _ (.seq (.seq _ (.block _ (.loop (.seq _ (.seq (.block _ (.seq _ (.seq _ (.seq _ (.seq c _))))) _))))) _)))))))))=>c | _=>.skip
def zm:Code:=match Try.f3.body with
 | some (.seq _ (.seq _ (.seq _ (.seq _ (.seq _ (.seq _ (.seq _ (.seq _ (.seq (.seq _ (.block _ (.loop (.seq _ (.seq (.block _ (.seq _ (.seq _ (.seq _ (.seq _ (.cond _ c _)))))) _))))) _)))))))))=>c | _=>.skip
theorem eP:xH=.seq (.seq wh (.cond (.tmp 77) .skip (.exit 2))) (.seq (.block 3 (.seq vZ (.seq (.seq qo (.cond (.tmp 89) (.exit 3) .skip)) (.seq sI uS)))) fK):=rfl
theorem lu:uS=.seq qd (.cond (.tmp 96) zm .skip):=rfl
theorem eu:∀g∈[10],@Lets (Host.only 3) Try.prog g:=fun g hg=>by simp only[List.mem_cons,List.not_mem_nil,or_false]at hg;obtain rfl:=hg;exact⟨by kernel_rfl,.inl ⟨_,_,Try.func10,by kernel_rfl,rfl,by kernel_rfl⟩⟩
section
variable {Fin:Gb}{EH:FM Try.prog Fin}
variable {B:Nat->Bool}{W:World}{nn:Nat}{cs:List Frame}{K:List Item}
variable {v0 v1 v2 v3 v4 v5 v6 v7 v8 v9 Aa Ab Ac Ae Af Ah Ai Aj Ak Al Am Ao Ap Ar Au Av Aw Ay Az AA AB AJ AL AO AP AQ AU AV AX AY AZ A8 A9 Ba Bb Bc Bf Bh Bj Bl Bp Bq Br Bu Bv Bw Bz BD BF BG BH BI BJ BK BL BM BN BO BP BQ BR BS BU BX BZ Ca Cb Cc Ce Cg Ci Cj Ck Cm Co Cq Cr Ct Cu Cw Cx Cy Cz CB CF CG CJ CK CO CQ CS:Value}
variable {wa ta ya aa oa:Option Addr}{plans:List (List EP)}{turns hl:List Int}{outs:List (List Gg)}{J5 tc yc ac on oc kb rb:Nat}{u st:Int}{cut:Bool}
theorem dV{step:Nat}(hr:W.heap[rb]?=some (.cells #[.slice aa outs.length ac,.slice oa on oc,.int .i64 st,.bool cut] 31 (0,0)))(hg:∀W' (Ei Ej El:Value),W'.heap=W.heap->JL (FU EH).L (.Gj B nn) (G ((base 3).at ⟨#[v0,v1,v2,v3,v4,v5,v6,.pointer (some ⟨rb,0,none⟩),v8,v9,Aa,Ab,Ac,.int .i64 step,Af,Ah,Ai,Aj,Ak,Al,Am,Ao,Ap,Ar,Au,Av,Aw,Ay,Az,AA,AB,AJ,AL,AO,AP,AQ,AU,AV,AX,AY,AZ,A8,A9,Ba,Bb,Bc,Bf,Bh,Bj,Bl,Bp,Bq,Br,Bu,Bv,Bw,Bz,BD,BF,BG,BH,BI,BJ,BK,BL,BM,BN,BO,BP,BQ,BR,BS,BU,BX,Ei,Ej,El,.bool (decide ((step:Int)<=st)),Ce,Cg,Ci,Cj,Ck,Cm,Co,Cq,Cr,Ct,Cu,Cw,Cx,Cy,Cz,CB,CF,CG,CJ,CK,CO,CQ,CS],[]⟩ (K)) cs) W') :
  JL (FU EH).L (.Gj B nn) (G ((base 3).at ⟨#[v0,v1,v2,v3,v4,v5,v6,.pointer (some ⟨rb,0,none⟩),v8,v9,Aa,Ab,Ac,.int .i64 step,Af,Ah,Ai,Aj,Ak,Al,Am,Ao,Ap,Ar,Au,Av,Aw,Ay,Az,AA,AB,AJ,AL,AO,AP,AQ,AU,AV,AX,AY,AZ,A8,A9,Ba,Bb,Bc,Bf,Bh,Bj,Bl,Bp,Bq,Br,Bu,Bv,Bw,Bz,BD,BF,BG,BH,BI,BJ,BK,BL,BM,BN,BO,BP,BQ,BR,BS,BU,BX,BZ,Ca,Cb,Cc,Ce,Cg,Ci,Cj,Ck,Cm,Co,Cq,Cr,Ct,Cu,Cw,Cx,Cy,Cz,CB,CF,CG,CJ,CK,CO,CQ,CS],[]⟩ (.code wh :: K)) cs) W:=by
 refine Fp.Fz (S:=(FU EH)) (b:=base 3) [] (by simp) zKR nE zKR fun Wa ha=>?_;have hh:Wa.heap=W.heap:=by obtain⟨τ,d,rfl⟩:=ha;rfl
 rw[← hh]at hr;have r2:=EZ hr 2;simp only[List.getElem?_toArray,List.getElem?_cons_zero,List.getElem?_cons_succ]at r2;have HK:=Lib.hid (zAI @hg hh);clear ha hg hh hr;simp only[wh,Try.f3];gi_wp2;refine KY ?_;exact HK.out.1 Wa _ _ _ HK.out.2
theorem qA {Fx:Nat->Prop}{step:Nat}(hC:GL Fx wa ta ya plans turns hl W)(hA:Pm aa outs W)(hk:W.heap[kb]?=some (.cells #[.slice wa plans.length J5,.slice ta turns.length tc,.slice ya hl.length yc,.int .i64 u] 25 (0,0)))(hr:W.heap[rb]?=some (.cells #[.slice aa outs.length ac,.slice oa on oc,.int .i64 st,.bool cut] 31 (0,0)))(hlen:outs.length=plans.length)(hpl:plans.length<=16)(hfit:∀ k,(outs.getD k []).length<=(plans.getD k []).length)(h64:∀ j,(plans.getD j []).length<=64)(hstep:step<=1000000)(hg:∀ W' (bA bC:Nat) (Em Eo Ep Er Es Et Eu Ev:Value) (k i:Nat) (out:List Gg) (pl:List EP) (a:Gg) (c:EP) (pa:Option Addr) (pn pc:Nat),outs[k]?=some out->out[i]?=some a->plans[k]?=some pl->pl[i]?=some c->a.st=step->(∀ g,g < W.heap.size->W'.heap[g]?=W.heap[g]?)->W.heap.size<=bA->bA < bC->bC < W'.heap.size->
      W'.heap[bA]?=some (.cells #[.int .i64 a.bg,.int .i64 a.st,.int .i64 a.ow,.bool a.a.ok,.int .i64 a.a.n,.int .i64 a.a.m,.int .i64 a.a.err,.slice none 0 0,.slice none 0 0] 42 (0,0))->W'.heap[bC]?=some (.cells #[.int .i64 c.kind,.int .i64 c.a,.int .i64 c.b,.int .i64 c.c,.slice pa pn pc] 44 (0,0))->JL (FU EH).L (.Gj B nn) (G ((base 3).at ⟨#[v0,v1,v2,v3,v4,.pointer (some ⟨kb,0,none⟩),v6,.pointer (some ⟨rb,0,none⟩),v8,v9,Aa,Ab,Ac,.int .i64 step,.pointer (some ⟨bA,0,none⟩),.pointer (some ⟨bC,0,none⟩),.bool true,Aj,Ak,Al,Am,Ao,Ap,Ar,Au,Av,Aw,Ay,Az,AA,AB,AJ,AL,AO,AP,AQ,AU,AV,AX,AY,AZ,A8,A9,Ba,Bb,Bc,Bf,Bh,Bj,Bl,Bp,Bq,Br,Bu,Bv,Bw,Bz,BD,BF,BG,BH,BI,BJ,BK,BL,BM,BN,BO,BP,BQ,BR,BS,BU,BX,BZ,Ca,Cb,Cc,Ce,Cg,Em,Eo,Ep,Er,Es,Et,Eu,Ev,Cu,Cw,Cx,Cy,Cz,CB,CF,CG,CJ,CK,CO,CQ,CS],[]⟩ (K)) cs) W')(hn:∀W' (Df Dg Em Eo Ep Er Es Et Eu Ev:Value),(∀(k i:Nat) (out:List Gg) (a:Gg),outs[k]?=some out->out[i]?=some a->a.st≠step)->(∀g,g<W.heap.size->W'.heap[g]?=W.heap[g]?)->W.heap.size<=W'.heap.size->JL (FU EH).L (.Gj B nn) (G ((base 3).at ⟨#[v0,v1,v2,v3,v4,.pointer (some ⟨kb,0,none⟩),v6,.pointer (some ⟨rb,0,none⟩),v8,v9,Aa,Ab,Ac,.int .i64 step,Df,Dg,.bool false,Aj,Ak,Al,Am,Ao,Ap,Ar,Au,Av,Aw,Ay,Az,AA,AB,AJ,AL,AO,AP,AQ,AU,AV,AX,AY,AZ,A8,A9,Ba,Bb,Bc,Bf,Bh,Bj,Bl,Bp,Bq,Br,Bu,Bv,Bw,Bz,BD,BF,BG,BH,BI,BJ,BK,BL,BM,BN,BO,BP,BQ,BR,BS,BU,BX,BZ,Ca,Cb,Cc,Ce,Cg,Em,Eo,Ep,Er,Es,Et,Eu,Ev,Cu,Cw,Cx,Cy,Cz,CB,CF,CG,CJ,CK,CO,CQ,CS],[]⟩ (K)) cs) W') :
    JL (FU EH).L (.Gj B nn) (G ((base 3).at ⟨#[v0,v1,v2,v3,v4,.pointer (some ⟨kb,0,none⟩),v6,.pointer (some ⟨rb,0,none⟩),v8,v9,Aa,Ab,Ac,.int .i64 step,Af,Ah,Ai,Aj,Ak,Al,Am,Ao,Ap,Ar,Au,Av,Aw,Ay,Az,AA,AB,AJ,AL,AO,AP,AQ,AU,AV,AX,AY,AZ,A8,A9,Ba,Bb,Bc,Bf,Bh,Bj,Bl,Bp,Bq,Br,Bu,Bv,Bw,Bz,BD,BF,BG,BH,BI,BJ,BK,BL,BM,BN,BO,BP,BQ,BR,BS,BU,BX,BZ,Ca,Cb,Cc,Ce,Cg,Ci,Cj,Ck,Cm,Co,Cq,Cr,Ct,Cu,Cw,Cx,Cy,Cz,CB,CF,CG,CJ,CK,CO,CQ,CS],[]⟩ (.code vZ :: K)) cs) W:=by
  refine Fp.Fz (S:=(FU EH)) (b:=base 3) [10] eu zKR nE zKR fun Wa ha=>?_;have hh:Wa.heap=W.heap:=by obtain⟨τ,d,rfl⟩:=ha;rfl
  clear ha;replace hC:GL Fx wa ta ya plans turns hl Wa:=hC.old fun g _=>by rw[hh]
  replace hA:Pm aa outs Wa:=hA.old fun g _=>by rw[hh]
  rw[← hh]at hr hk;have c0:=EZ hk 0;have c1:=EZ hk 1;have c2:=EZ hk 2;have c3:=EZ hk 3;have r0:=EZ hr 0;have r1:=EZ hr 1;have r2:=EZ hr 2;have r3:=EZ hr 3;simp only[List.getElem?_toArray,List.getElem?_cons_zero,List.getElem?_cons_succ]at c0 c1 c2 c3 r0 r1 r2 r3;have HH:=Lib.hid (zAI hC (zAI hA (zAI hfit (zAI h64 (zAI @hg (zAI @hn (zAI hh (zAI hlen (zAI hpl hstep)))))))));clear hC hA hfit h64 hg hn hh hk hr hlen hpl hstep;simp only[vZ,Try.f3];gi_wp2_with (gi_at_call 10;fail)
  refine(zV _ _ HH.out.1 HH.out.2.1 J5 turns.length tc hl.length yc ac u oa on oc st cut HH.out.2.2.2.2.2.2.2.1 HH.out.2.2.2.2.2.2.2.2.1 HH.out.2.2.1 HH.out.2.2.2.1 step HH.out.2.2.2.2.2.2.2.2.2).mono ?_;rintro e w1 ⟨hB,⟨k,i,out,pl,a,c,pa,pn,pc,h1,h2,h3,h4,h5,rfl⟩|⟨h1,rfl⟩⟩
  . have HB:=Lib.hid (zAI hB (zAI h1 (zAI h2 (zAI h3 (zAI h4 h5)))));clear hB h1 h2 h3 h4 h5 c0 c1 c2 c3 r0 r1 r2 r3;simp only[fq,Yr];gi_wp2;refine KY ?_;obtain⟨-,-,-,-,hg,-,hh,-⟩:=HH.out;obtain⟨hB,h1,h2,h3,h4,h5⟩:=HB.out;have hs:=congrArg Array.size hh;have z:=hB.size;have n2:=heap_alloc_new (World.alloc w1 (.cells #[.int .i64 a.bg,.int .i64 a.st,.int .i64 a.ow,.bool a.a.ok,.int .i64 a.a.n,.int .i64 a.a.m,.int .i64 a.a.err,.slice none 0 0,.slice none 0 0] 42 (0,0))) (.cells #[.int .i64 c.kind,.int .i64 c.a,.int .i64 c.b,.int .i64 c.c,.slice pa pn pc] 44 (0,0));rw[show(World.alloc w1 (.cells #[.int .i64 a.bg,.int .i64 a.st,.int .i64 a.ow,.bool a.a.ok,.int .i64 a.a.n,.int .i64 a.a.m,.int .i64 a.a.err,.slice none 0 0,.slice none 0 0] 42 (0,0))).heap.size=w1.heap.size+1 by simp]at n2
    exact hg _ _ _ _ _ _ _ _ _ _ _ k i out pl a c pa pn pc h1 h2 h3 h4 h5 (fun g hg'=>by rw[heap_alloc_old _ _ (by simp;omega),heap_alloc_old _ _ zOM,hB.block g (by rw[hs];exact hg'),hh]) zOM (Nat.lt_succ_self _) (by simp) (by rw[heap_alloc_old _ _ (by simp),heap_alloc_new]) n2
  . have HB:=Lib.hid (zAI hB h1);clear hB h1 c0 c1 c2 c3 r0 r1 r2 r3;gi_wp2;refine KY ?_;obtain⟨-,-,-,-,-,hn,hh,-⟩:=HH.out;obtain⟨hB,h1⟩:=HB.out;have hs:=congrArg Array.size hh;have z:=hB.size;exact hn _ _ _ _ _ _ _ _ _ _ _ h1 (fun g hg'=>by rw[heap_alloc_old _ _ (by simp;omega),heap_alloc_old _ _ zOM,hB.block g (by rw[hs];exact hg'),hh]) (by simp;omega)
end
end
section
section
variable {main:Bool}{Γ:Type}{S:Fp Try.prog main Γ}{γ:Γ}{W:World}{cf:Frame}{cs:List Frame}
theorem VP{n:Int}(hn:n<1\/256<n)(hJ:∀W',W'.heap=W.heap->JW S.base γ (G (cf.finish (.tuple #[.pointer none,.int .i64 42])) cs) W') :
   JW S.base γ (G (Frame.enter Try.prog 8 #[.int .i64 n] .normal) (cf :: cs)) W:=by
 have ht:#[.int .i64 n]++Array.replicate (Try.f8.ntmps-(#[.int .i64 n]:Array Value).size) undef=#[.int .i64 n,undef,undef,undef,undef,undef,undef,undef,undef,undef,undef,undef,undef,undef]:=by
   have:Try.f8.ntmps=14:=by kernel_rfl
   rw[this];walk_nrm
 rw[enter_at (c:=(Try.f8.body).get rfl) _ Try.func8 rfl,ht];show JL S.L γ _ W;refine Fp.Fz (S:=S) (b:=base 8) [] (by simp) zKR nE zKR fun EG ha=>?_;have hh:EG.heap=W.heap:=by obtain⟨τ,d,rfl⟩:=ha;rfl
 have HH:=Lib.hid (zAI hJ hh);clear hJ hh;by_cases h1:n<1
 . have g1:decide (n<1)=true:=by simp[h1]
   clear hn;simp only[Try.f8,Option.get_some];gi_wp2;intro Y;obtain⟨hJ,hh⟩:=HH.out;exact JL.back rfl Try.func8 (v:=.tuple #[.pointer none,.int .i64 42]) (fun w=>by kernel_rfl) (hJ _ hh)
 . have h2:256<n:=by omega
   have g1:decide (n<1)=false:=by simp;omega
   have g2:decide (256<n)=true:=by simp[h2]
   clear hn;simp only[Try.f8,Option.get_some];gi_wp2;intro Y;obtain⟨hJ,hh⟩:=HH.out;exact JL.back rfl Try.func8 (v:=.tuple #[.pointer none,.int .i64 42]) (fun w=>by kernel_rfl) (hJ _ hh)
end
end
theorem X3(h:FuncId){g o:Nat}{y:Int}(w:World)(hc:w.cell? ⟨g,o,none⟩=some (.int .i64 y)) :
  CallsIn (Fence.list [h,14,25,41,13] none) 0 Try.prog 25 #[.pointer (some ⟨g,o,none⟩)] w fun e w'=>e=.returned (.int .i64 y)/\w=w':=by
 have hl:=run_call_load (P:=Try.prog) Try.func41 zKR zKR zKR .i64 zKR hc;gi_enter Try.func25,Try.ntmps25
 gi_wp2;go_ret
 exact⟨rfl,rfl⟩
theorem Xf(h:FuncId){ct cb n:Nat}{σ:List Int}(w:World)(hn:n<=256)(hl:σ.length=n)(h1:w.heap[ct]?=some (.cells #[.slice (some ⟨cb,0,none⟩) n n] 62 (0,0)))(h2:w.heap[cb]?=some (.cells (σ.map (Value.int .i64)).toArray 76 (0,0))) :
  CallsIn (Fence.list [h,14,25,41,13] none) 0 Try.prog 14 #[.pointer (some ⟨ct,0,none⟩)] w fun e w'=>∃v,e=.returned v/\FY w' w.heap.size 1 v n (σ.map (Value.int .i64))/\Below w.heap.size w w':=by
 obtain⟨i0,hi,hz0,hz1,hz2⟩:=info_parts OX;have c0:w.cell? ⟨ct,0,none⟩=some (.slice (some ⟨cb,0,none⟩) n n):=by simp[World.cell?,h1]
 have hlt1:ct<w.heap.size:=(zGE h1).1;have hlt2:cb<w.heap.size:=(zGE h2).1;have hcell:∀i,i<n->w.cell? ⟨cb,i,none⟩=some (.int .i64 (σ.getD i 0)):=fun i hi=>by simp[World.cell?,h2,hl,hi]
 have HC:=Lib.hid (zAI hcell (zAI hl (zAI hlt1 hlt2)));clear hcell hl h1 h2 hlt1 hlt2;gi_enter Try.func14,Try.ntmps14
 gi_wp2;gi_loopw [3,10] (fun v i wr=>∃k:Nat,k<=n/\i=.int .i64 k/\RowKit.Hid (FY wr w.heap.size 1 v k ((σ.take k).map (Value.int .i64))/\Below w.heap.size w wr)) (fun _ i _=>n-(intOf i).toNat)
 case atStart=>exact⟨0,Nat.zero_le _,rfl,Lib.hid ⟨by simpa using FY.nil w w.heap.size 1,Below.refl _ _⟩⟩
 case round=>
  obtain⟨k,hk,rfl,hinv⟩:=hrel;by_cases hlt:k<n
  . obtain⟨hcell,hl,hlt1,hlt2⟩:=HC.out;obtain⟨ho,hb⟩:=hinv.out;have d0:wr.cell? ⟨ct,0,none⟩=some (.slice (some ⟨cb,0,none⟩) n n):=(hb.cell (p:=⟨ct,0,none⟩) hlt1).trans c0;have dk:wr.cell? ⟨cb,k,none⟩=some (.int .i64 (σ.getD k 0)):=(hb.cell (p:=⟨cb,k,none⟩) hlt2).trans (hcell k hlt);have htk:(σ.take (k+1)).map (Value.int .i64)=(σ.take k).map (Value.int .i64)++[.int .i64 (σ.getD k 0)]:=by
     have:σ[k]?=some (σ.getD k 0):=by simp[List.getD,hl,hlt]
     rw[List.take_add_one,this]
     simp
    have HT:=Lib.hid htk;generalize σ.getD k 0=y at dk htk;have HT2:=Lib.hid htk;clear htk hcell hl hlt1 hlt2 c0 hinv;gi_wp2_with (first | (gi_at_call 25;refine(X3 h _ dk).mono ?_;rintro e w2 ⟨rfl,rfl⟩) | (gi_at_builtin;refine G8 _ rfl _ _ 22 rfl w.heap.size 3 i0 (.int .i64 0) 1 8 Try.underlying22 hi hz0 hz1 hz2 rfl (by decide) _ _ _ rfl (ho.alloc _) ⟨wr.heap.size,0,none⟩ 1 1 [.int .i64 y] rfl rfl ?c1 ?c2 ?c3 ?c4 ?c5 ?_))
    case c1=>exact cell_one_new _ _ _
    case c2=>intro u hu;simp at hu;subst hu;rfl
    case c3=>unfold maxLen;omega
    case c4=>omega
    case c5=>have:=hb.size;simp;omega
    intro v' w1 g1 g2 g3;have hb1:Below w.heap.size w w1:=(hb.alloc hb.size _).grown g2 (by have:=hb.size;simp;omega) (fun j hj=>(ho.blk j hj).1);have HI:=Lib.hid (zAI g1 hb1);clear g1 g2 g3 hb1 ho hb;gi_wp2;go_roundw
    case rel=>exact⟨k+1,by omega,by go_num,Lib.hid ⟨by rw[HT2.out,List.map_take];exact HI.out.1,HI.out.2⟩⟩
    case measure=>simp[intOf];omega
  . obtain rfl:k=n:=by omega
    gi_wp2;go_ret
    obtain⟨ho,hb⟩:=hinv.out;have:σ.take k=σ:=List.take_of_length_le (by have:=HC.out.2.1;omega);rw[this]at ho;exact⟨_,rfl,ho,hb⟩
theorem bH(h:FuncId)(u v:Value)(a b:List Int)(w:World)(hu:Reads w u (a.map (Value.int .i64)))(hv:Reads w v (b.map (Value.int .i64)))(h1:a.length<=1000000) :
   CallsIn (Fence.list [h,14,25,41,13] none) 0 Try.prog 13 #[u,v] w fun e w'=>e=.returned (.bool (decide (a=b)))/\Below w.heap.size w w':=by
 obtain⟨ua,uc,rfl,hua⟩:=Me hu;obtain⟨va,vc,rfl,hva⟩:=Me hv;have HU:=Lib.hid hua;have HV:=Lib.hid hva;clear hu hv hua hva;gi_enter Try.func13,Try.ntmps13
 by_cases hl:a.length=b.length
 . gi_wp2;gi_loopw [5] (fun iv wr=>∃i:Nat,i<=a.length/\iv=.int .i64 i/\Below w.heap.size w wr/\Vl a b i) (fun iv _=>a.length-(intOf iv).toNat)
   case atStart=>exact⟨0,by omega,rfl,Below.refl _ _,fun j hj=>by omega⟩
   case round=>
    obtain⟨i,hi,rfl,hB,hE⟩:=hrel;by_cases hlt:i<a.length
    . have hlt':i<b.length:=by omega
      obtain⟨b1,o1,rfl,d1⟩:=HU.out i hlt;obtain⟨b2,o2,rfl,d2⟩:=HV.out i hlt';have q1:wr.cell? ⟨b1,o1+i,none⟩=some (.int .i64 (Oo a i)):=(hB.cell (p:=⟨b1,o1+i,none⟩) (World.block_lt_of_cell? w _ d1)).trans d1;have q2:wr.cell? ⟨b2,o2+i,none⟩=some (.int .i64 (Oo b i)):=(hB.cell (p:=⟨b2,o2+i,none⟩) (World.block_lt_of_cell? w _ d2)).trans d2;have Af7:(i:Int)<(b.length:Int):=by omega
      clear d1 d2;by_cases he:Oo a i=Oo b i
      . have hE':Vl a b (i+1):=fun j hj=>by
         by_cases hji:j=i
         . subst hji;exact he
         . exact hE j zOM
        have he':(Oo a i != Oo b i)=false:=by simpa using he
        have HE':=Lib.hid hE';clear he hE hE';generalize Oo a i=x at q1 he';generalize Oo b i=y at q2 he';gi_wp2;gi_region
        gi_wp2;go_roundw
        case rel=>exact⟨i+1,by omega,by go_num,hB.drew,HE'.out⟩
        case measure=>simp[intOf];omega
      . have he':(Oo a i != Oo b i)=true:=by simpa using he
        have hne:decide (a=b)=false:=decide_eq_false (fun e=>he (by rw[e]));have HN:=Lib.hid hne;clear he hE hne;generalize Oo a i=x at q1 he';generalize Oo b i=y at q2 he';gi_wp2;gi_region
        gi_wp2;go_ret
        exact⟨by rw[HN.out];rfl,hB.drew⟩
    . obtain rfl:i=a.length:=by omega
      have hh:decide (a=b)=true:=decide_eq_true (Tm hl hE);have HH:=Lib.hid hh;clear hh;gi_wp2;go_ret
      exact⟨by rw[HH.out];rfl,hB⟩
 . have hne:decide (a=b)=false:=decide_eq_false (fun e=>hl (by rw[e]));have HN:=Lib.hid hne;have hli:¬ ((a.length:Int)=(b.length:Int)):=by omega
   clear hne;gi_wp2;go_ret
   exact⟨by rw[HN.out];rfl,Below.refl _ _⟩
section
theorem eB:∀g∈[14,25,41,13],@Lets (Host.only 3) Try.prog g:=fun g hg=>by
 simp only[List.mem_cons,List.not_mem_nil,or_false]at hg;rcases hg with rfl|rfl|rfl|rfl
 . exact ND zKR zKR _ (by simp)
 . exact ND zKR zKR _ (by simp)
 . exact ND zKR zKR _ (by simp)
 . exact⟨by kernel_rfl,.inl ⟨_,_,Try.func13,by kernel_rfl,rfl,by kernel_rfl⟩⟩
section
variable {Fin:Gb}{EH:FM Try.prog Fin}
variable {B:Nat->Bool}{W:World}{nn:Nat}{cs:List Frame}{K:List Item}
variable {v0 v1 v2 v3 v4 v5 v6 v7 v8 v9 Aa Ab Ac Ae Af Ah Ai Aj Ak Al Am Ao Ap Ar Au Av Aw Ay Az AA AB AJ AL AO AP AQ AU AV AX AY AZ A8 A9 Ba Bb Bc Bf Bh Bj Bl Bp Bq Br Bu Bv Bw Bz BD BF BG BH BI BJ BK BL BM BN BO BP BQ BR BS BU BX BZ Ca Cb Cc Ce Cg Ci Cj Ck Cm Co Cq Cr Ct Cu Cw Cx Cy Cz CB CF CG CJ CK CO CQ CS:Value}
variable {m:Mem (List Int)}{cb ct n bA bC bB:Nat}{σ:List Int}{c:EP}{pa:Option Addr}{pn pc:Nat}
theorem tN(hm:FI m ct cb n)(hI:m.Inv σ W)(yR:¬ m.Sh bA){a:Gg}(hA:W.heap[bA]?=some (.cells #[.int .i64 a.bg,.int .i64 a.st,.int .i64 a.ow,.bool a.a.ok,.int .i64 a.a.n,.int .i64 a.a.m,.int .i64 a.a.err,.slice none 0 0,.slice none 0 0] 42 (0,0)))(hC:W.heap[bC]?=some (.cells #[.int .i64 c.kind,.int .i64 c.a,.int .i64 c.b,.int .i64 c.c,.slice pa pn pc] 44 (0,0)))(hmk:∀σ W W',(∀g,g<W.heap.size->W'.heap[g]?=W.heap[g]?)->m.Inv σ W->m.Inv σ W')(hg:∀W' bB e (Ew Ey Ez:Value),(JF c σ).2=e->m.Inv (JF c σ).1 W'->W'.heap[bA]?=some (.cells #[.int .i64 a.bg,.int .i64 a.st,.int .i64 a.ow,.bool a.a.ok,.int .i64 a.a.n,.int .i64 a.a.m,.int .i64 a.a.err,.slice none 0 0,.slice none 0 0] 42 (0,0))->W'.heap[bB]?=some (.cells #[.int .i64 0,.int .i64 0,.int .i64 0,.bool e.ok,.int .i64 e.n,.int .i64 e.m,.int .i64 e.err,.slice none 0 0,.slice none 0 0] 42 (0,0))->W.heap.size<=W'.heap.size->JL (FU EH).L (.Gj B nn) (G ((base 3).at ⟨#[v0,v1,v2,v3,v4,v5,v6,v7,v8,v9,.pointer (some ⟨ct,0,none⟩),Ab,Ac,Ae,.pointer (some ⟨bA,0,none⟩),.pointer (some ⟨bC,0,none⟩),Ai,.pointer (some ⟨bB,0,none⟩),Ak,Al,Am,Ao,Ap,Ar,Au,Av,Aw,Ay,Az,AA,AB,AJ,AL,AO,AP,AQ,AU,AV,AX,AY,AZ,A8,A9,Ba,Bb,Bc,Bf,Bh,Bj,Bl,Bp,Bq,Br,Bu,Bv,Bw,Bz,BD,BF,BG,BH,BI,BJ,BK,BL,BM,BN,BO,BP,BQ,BR,BS,BU,BX,BZ,Ca,Cb,Cc,Ce,Cg,Ci,Cj,Ck,Cm,Co,Cq,Cr,Ct,Cu,Cw,Ew,Ey,Ez,CB,CF,CG,CJ,CK,CO,CQ,CS],[]⟩ (K)) cs) W') :
  JL (FU EH).L (.Gj B nn) (G ((base 3).at ⟨#[v0,v1,v2,v3,v4,v5,v6,v7,v8,v9,.pointer (some ⟨ct,0,none⟩),Ab,Ac,Ae,.pointer (some ⟨bA,0,none⟩),.pointer (some ⟨bC,0,none⟩),Ai,Aj,Ak,Al,Am,Ao,Ap,Ar,Au,Av,Aw,Ay,Az,AA,AB,AJ,AL,AO,AP,AQ,AU,AV,AX,AY,AZ,A8,A9,Ba,Bb,Bc,Bf,Bh,Bj,Bl,Bp,Bq,Br,Bu,Bv,Bw,Bz,BD,BF,BG,BH,BI,BJ,BK,BL,BM,BN,BO,BP,BQ,BR,BS,BU,BX,BZ,Ca,Cb,Cc,Ce,Cg,Ci,Cj,Ck,Cm,Co,Cq,Cr,Ct,Cu,Cw,Cx,Cy,Cz,CB,CF,CG,CJ,CK,CO,CQ,CS],[]⟩ (.code sI :: K)) cs) W:=by
 have HG:=Lib.hid (zAI @hg (zAI hI (zAI hA (zAI @hmk (zAI yR hm)))));clear hg hI hA hmk yR hm;simp only[sI,Try.f3];refine E9 fun _ hkk=>?_;refine Fp.Kk (S:=(FU EH)) (b:=base 3) 0 2 [] (by simp) zKR nE (rest:=[2,3,4]) rfl zKR fun Fh Lm=>?_;have hh3:Fh.heap=W.heap:=by obtain⟨τ,d,rfl⟩:=Lm;rfl
 rw[← hh3]at hC;have c0:=EZ hC 0;have c1:=EZ hC 1;have c2:=EZ hC 2;have c3:=EZ hC 3;have c4:=EZ hC 4;simp only[List.getElem?_toArray,List.getElem?_cons_zero,List.getElem?_cons_succ]at c0 c1 c2 c3 c4;have HH:=Lib.hid hh3;clear hh3 hC;dsimp only[List.drop,List.take];gi_wp2;try refine⟨rfl,?_⟩
 have hh3:=HH.out;clear HH c0 c1 c2 c3 c4 Lm;show JL (FU EH).L (.Gj B nn) _ Fh;try dsimp only
 refine JL.enter rfl rfl nE rfl Try.func11 zKR zKR ?_;walk_nrm;obtain⟨hg,hI,hA,hmk,yR,hm⟩:=HG.out;refine iU (FU EH) hm (c:=c) (pv:=.slice pa pn pc) (hmk _ _ Fh (fun g _=>by rw[hh3]) hI) (own:=fun g=>g=bA) (fun b hb=>by subst hb;exact⟨yR,_,_,_,by rw[hh3];exact hA⟩) fun W' hI' hk' hs'=>?_;generalize he:(JF c σ).2=e;rw[Frame.finish_at];show JL (FU EH).L (.Gj B nn) _ W';walk_nrm;refine Fp.Gs (S:=(FU EH)) (b:=base 3) 3 [] (by simp) zKR nE rfl zKR fun GZ RP=>?_;have h5:GZ.heap=W'.heap:=by obtain⟨τ,d,rfl⟩:=RP;rfl
 have HX:=Lib.hid (zAI @hg (zAI hI' (zAI hk' (zAI hs' (zAI hh3 (zAI hA (zAI @hmk (zAI he h5))))))));clear hg hI' hk' hs' hh3 hI hA hmk yR hm he h5 RP HG;dsimp only[List.drop,MN];gi_wp2;try refine⟨rfl,?_⟩
 obtain⟨hg,hI',hk',hs',hh3,hA,hmk,he,h5⟩:=HX.out;clear HX;generalize Rq:World.alloc GZ _=W6;have q6:W6.heap=W'.heap.push (.cells #[.int .i64 0,.int .i64 0,.int .i64 0,.bool e.ok,.int .i64 e.n,.int .i64 e.m,.int .i64 e.err,.slice none 0 0,.slice none 0 0] 42 (0,0)):=by rw[← Rq,← h5];rfl
 clear Rq;show JL (FU EH).L (.Gj B nn) _ W6;try dsimp only
 cases hkk;refine EU stepG_region_end ?_;have o1:∀g,g<W'.heap.size->W6.heap[g]?=W'.heap[g]?:=fun g hg=>by rw[q6,Array.getElem?_push,if_neg zOM]
 have s1:W6.heap.size=W'.heap.size+1:=by rw[q6];simp
 have hs5:GZ.heap.size=W'.heap.size:=by rw[h5]
 have n1:W6.heap[GZ.heap.size]?=some (.cells #[.int .i64 0,.int .i64 0,.int .i64 0,.bool e.ok,.int .i64 e.n,.int .i64 e.m,.int .i64 e.err,.slice none 0 0,.slice none 0 0] 42 (0,0)):=by rw[q6,hs5,Array.getElem?_push,if_pos rfl]
 have a1:W'.heap[bA]?=some (.cells #[.int .i64 a.bg,.int .i64 a.st,.int .i64 a.ow,.bool a.a.ok,.int .i64 a.a.n,.int .i64 a.a.m,.int .i64 a.a.err,.slice none 0 0,.slice none 0 0] 42 (0,0)):=by rw[hk' bA rfl,hh3];exact hA
 have hsz:W.heap.size=Fh.heap.size:=by rw[hh3]
 exact hg W6 _ e _ _ _ he (hmk _ W' W6 o1 hI') ((o1 bA (zGE a1).1).trans a1) n1 zOM
theorem vM{a:Gg}{e:An}(he:a.a=e)(hA:W.heap[bA]?=some (.cells #[.int .i64 a.bg,.int .i64 a.st,.int .i64 a.ow,.bool a.a.ok,.int .i64 a.a.n,.int .i64 a.a.m,.int .i64 a.a.err,.slice none 0 0,.slice none 0 0] 42 (0,0)))(hB:W.heap[bB]?=some (.cells #[.int .i64 0,.int .i64 0,.int .i64 0,.bool e.ok,.int .i64 e.n,.int .i64 e.m,.int .i64 e.err,.slice none 0 0,.slice none 0 0] 42 (0,0)))(hg:∀W' (EA EB EC ED:Value),(∀g,g<W.heap.size->W'.heap[g]?=W.heap[g]?)->W.heap.size<=W'.heap.size->JL (FU EH).L (.Gj B nn) (G ((base 3).at ⟨#[v0,v1,v2,v3,v4,v5,v6,v7,v8,v9,Aa,Ab,Ac,Ae,.pointer (some ⟨bA,0,none⟩),Ah,Ai,.pointer (some ⟨bB,0,none⟩),Ak,Al,Am,Ao,Ap,Ar,Au,Av,Aw,Ay,Az,AA,AB,AJ,AL,AO,AP,AQ,AU,AV,AX,AY,AZ,A8,A9,Ba,Bb,Bc,Bf,Bh,Bj,Bl,Bp,Bq,Br,Bu,Bv,Bw,Bz,BD,BF,BG,BH,BI,BJ,BK,BL,BM,BN,BO,BP,BQ,BR,BS,BU,BX,BZ,Ca,Cb,Cc,Ce,Cg,Ci,Cj,Ck,Cm,Co,Cq,Cr,Ct,Cu,Cw,Cx,Cy,Cz,EA,EB,EC,ED,CK,CO,CQ,CS],[]⟩ (K)) cs) W') :
  JL (FU EH).L (.Gj B nn) (G ((base 3).at ⟨#[v0,v1,v2,v3,v4,v5,v6,v7,v8,v9,Aa,Ab,Ac,Ae,.pointer (some ⟨bA,0,none⟩),Ah,Ai,.pointer (some ⟨bB,0,none⟩),Ak,Al,Am,Ao,Ap,Ar,Au,Av,Aw,Ay,Az,AA,AB,AJ,AL,AO,AP,AQ,AU,AV,AX,AY,AZ,A8,A9,Ba,Bb,Bc,Bf,Bh,Bj,Bl,Bp,Bq,Br,Bu,Bv,Bw,Bz,BD,BF,BG,BH,BI,BJ,BK,BL,BM,BN,BO,BP,BQ,BR,BS,BU,BX,BZ,Ca,Cb,Cc,Ce,Cg,Ci,Cj,Ck,Cm,Co,Cq,Cr,Ct,Cu,Cw,Cx,Cy,Cz,CB,CF,CG,CJ,CK,CO,CQ,CS],[]⟩ (.code uS :: K)) cs) W:=by
 subst he;rw[lu];refine EO ?_;simp only[qd,Try.f3];refine E9 fun _ hkk=>?_;refine Fp.Kk (S:=(FU EH)) (b:=base 3) 0 2 [] (by simp) zKR nE (rest:=[2,3]) rfl zKR fun Wa ha=>?_;have hh:Wa.heap=W.heap:=by obtain⟨τ,d,rfl⟩:=ha;rfl
 clear ha;rw[← hh]at hA hB;have a0:=EZ hA 0;have b0:=EZ hB 0;have a1:=EZ hA 1;have b1:=EZ hB 1;have a2:=EZ hA 2;have b2:=EZ hB 2;have a3:=EZ hA 3;have b3:=EZ hB 3;have a4:=EZ hA 4;have b4:=EZ hB 4;have a5:=EZ hA 5;have b5:=EZ hB 5;have a6:=EZ hA 6;have b6:=EZ hB 6;have a7:=EZ hA 7;have b7:=EZ hB 7;have a8:=EZ hA 8;have b8:=EZ hB 8;simp only[List.getElem?_toArray,List.getElem?_cons_zero,List.getElem?_cons_succ]at a0 b0 a1 b1 a2 b2 a3 b3 a4 b4 a5 b5 a6 b6 a7 b7 a8 b8;have HH:=Lib.hid (zAI @hg hh);clear hg hh hA hB;dsimp only[List.drop,List.take];gi_wp2;try refine⟨rfl,?_⟩
 clear a0 b0 a1 b1 a2 b2 a3 b3 a4 b4 a5 b5 a6 b6 a7 b7 a8 b8;obtain⟨hg,hh⟩:=HH.out;clear HH;show JL (FU EH).L (.Gj B nn) _ Wa;try dsimp only
 refine JL.enter rfl rfl nE rfl Try.func12 zKR zKR ?_;walk_nrm;refine om fun W' k1 k2=>?_;rw[Frame.finish_at];show JL (FU EH).L (.Gj B nn) _ W';walk_nrm;cases hkk
 (refine ET ?_;walk_nrm)
 refine EU stepG_region_end ?_;refine JL.EX rfl ?_;refine EU stepG_skip ?_;exact hg W' _ _ _ _ (fun g hg'=>by rw[k1 g (by rw[hh];exact hg'),hh]) (by rw[← hh];exact k2)
theorem Agp{va:Option Addr}{vc:Nat}(hn:n<=256)(hl:σ.length=n)(h1:W.heap[ct]?=some (.cells #[.slice (some ⟨cb,0,none⟩) n n] 62 (0,0)))(h2:W.heap[cb]?=some (.cells (σ.map (Value.int .i64)).toArray 76 (0,0)))(hv:∀W',(∀g,g<W.heap.size->W'.heap[g]?=W.heap[g]?)->Reads W' (.slice va n vc) (σ.map (Value.int .i64)))(hJ:∀W' tm Y,OrR tm->(∀g,g<W.heap.size->W'.heap[g]?=W.heap[g]?)->W.heap.size<=W'.heap.size->JL (FU EH).L (.Gj B nn) (G { (base 3).at ⟨tm,[]⟩ Y with mode:=.returning } cs) W') :
  JL (FU EH).L (.Gj B nn) (G ((base 3).at ⟨#[v0,v1,v2,v3,v4,v5,v6,v7,.slice va n vc,v9,.pointer (some ⟨ct,0,none⟩),Ab,Ac,Ae,Af,Ah,Ai,Aj,Ak,Al,Am,Ao,Ap,Ar,Au,Av,Aw,Ay,Az,AA,AB,AJ,AL,AO,AP,AQ,AU,AV,AX,AY,AZ,A8,A9,Ba,Bb,Bc,Bf,Bh,Bj,Bl,Bp,Bq,Br,Bu,Bv,Bw,Bz,BD,BF,BG,BH,BI,BJ,BK,BL,BM,BN,BO,BP,BQ,BR,BS,BU,BX,BZ,Ca,Cb,Cc,Ce,Cg,Ci,Cj,Ck,Cm,Co,Cq,Cr,Ct,Cu,Cw,Cx,Cy,Cz,CB,CF,CG,CJ,CK,CO,CQ,CS],[]⟩ (.code ok9 :: [])) cs) W:=by
 refine Fp.Fz (S:=(FU EH)) (b:=base 3) [14,25,41,13] eB zKR nE zKR fun EG ha=>?_;have hh:EG.heap=W.heap:=by obtain⟨τ,d,rfl⟩:=ha;rfl
 rw[← hh]at h1 h2;have HH:=Lib.hid (zAI @hJ (zAI hh (zAI h1 (zAI h2 (zAI hl (zAI @hv hn))))));clear hJ ha hh h1 h2 hl hv hn;simp only[ok9,Try.f3];gi_wp2_with (gi_at_call 14;fail)
 obtain⟨hJ,hh,h1,h2,hl,hv,hn⟩:=HH.out;refine(Xf _ (σ:=σ) EG hn hl h1 h2).mono ?_;rintro e w1 ⟨v,rfl,ho,hB⟩;have hs:=congrArg Array.size hh;have q1:=hv w1 fun g hg=>by rw[hB.block g (by rw[hs];exact hg),hh]
 have H1:=Lib.hid (zAI ho.reads (zAI q1 (zAI hB (show σ.length<=1000000 by omega))));clear hJ ho hB h1 h2 hl hv hn hh hs q1;gi_wp2_with (gi_at_call 13;fail)
 refine(bH _ _ _ σ σ w1 H1.out.2.1 H1.out.1 H1.out.2.2.2).mono ?_;rintro e w2 ⟨rfl,hB2⟩;rw[decide_eq_true (rfl:σ=σ)];have H2:=Lib.hid hB2;clear hB2;gi_wp2;intro Y;obtain⟨hJ,hh,-⟩:=HH.out;have hB:=H1.out.2.2.1;have hB2:=H2.out;have hs:=congrArg Array.size hh;have z1:=hB.size;have z2:=hB2.size;exact hJ _ _ Y (fun w=>by kernel_rfl) (fun g hg=>by rw[hB2.block g zOM,hB.block g zOM,hh]) zOM
end
end
section
def Ac1:Code:=match or8 with | .seq c _=>c | _=>.skip
theorem ru:or8=.seq Ac1 (.block 2 (.loop xH)):=rfl
section
variable {Fin:Gb}{EH:FM Try.prog Fin}
variable {B:Nat->Bool}{W:World}{nn:Nat}{cs:List Frame}{K:List Item}
variable {v0 v1 v2 v3 v4 v5 v6 v7 v8 v9 Aa Ab Ac Ae Af Ah Ai Aj Ak Al Am Ao Ap Ar Au Av Aw Ay Az AA AB AJ AL AO AP AQ AU AV AX AY AZ A8 A9 Ba Bb Bc Bf Bh Bj Bl Bp Bq Br Bu Bv Bw Bz BD BF BG BH BI BJ BK BL BM BN BO BP BQ BR BS BU BX BZ Ca Cb Cc Ce Cg Ci Cj Ck Cm Co Cq Cr Ct Cu Cw Cx Cy Cz CB CF CG CJ CK CO CQ CS:Value}
variable {wa ta ya aa oa:Option Addr}{plans:List (List EP)}{turns hl:List Int}{outs:List (List Gg)}{J5 tc yc ac on oc kb rb ct cb n:Nat}{u:Int}{cut:Bool}{m:Mem (List Int)}
theorem qG{step:Nat}(hs:step<=1000000)(hJ:∀(ZP ay:Value),JL (FU EH).L (.Gj B nn) (G ((base 3).at ⟨#[v0,v1,v2,v3,v4,v5,v6,v7,v8,v9,Aa,Ab,Ac,.int .i64 ((step+1:Nat):Int),Af,Ah,Ai,Aj,Ak,Al,Am,Ao,Ap,Ar,Au,Av,Aw,Ay,Az,AA,AB,AJ,AL,AO,AP,AQ,AU,AV,AX,AY,AZ,A8,A9,Ba,Bb,Bc,Bf,Bh,Bj,Bl,Bp,Bq,Br,Bu,Bv,Bw,Bz,BD,BF,BG,BH,BI,BJ,BK,BL,BM,BN,BO,BP,BQ,BR,BS,BU,BX,BZ,Ca,Cb,Cc,ZP,ay,Ci,Cj,Ck,Cm,Co,Cq,Cr,Ct,Cu,Cw,Cx,Cy,Cz,CB,CF,CG,CJ,CK,CO,CQ,CS],[]⟩ (K)) cs) W):JL (FU EH).L (.Gj B nn) (G ((base 3).at ⟨#[v0,v1,v2,v3,v4,v5,v6,v7,v8,v9,Aa,Ab,Ac,.int .i64 step,Af,Ah,Ai,Aj,Ak,Al,Am,Ao,Ap,Ar,Au,Av,Aw,Ay,Az,AA,AB,AJ,AL,AO,AP,AQ,AU,AV,AX,AY,AZ,A8,A9,Ba,Bb,Bc,Bf,Bh,Bj,Bl,Bp,Bq,Br,Bu,Bv,Bw,Bz,BD,BF,BG,BH,BI,BJ,BK,BL,BM,BN,BO,BP,BQ,BR,BS,BU,BX,BZ,Ca,Cb,Cc,Ce,Cg,Ci,Cj,Ck,Cm,Co,Cq,Cr,Ct,Cu,Cw,Cx,Cy,Cz,CB,CF,CG,CJ,CK,CO,CQ,CS],[]⟩ (.code fK :: K)) cs) W:=by
 simp only[fK,Try.f3];refine E9 fun _ hkk=>?_;iterate 3(refine ET ?_;walk_nrm)
 refine E5 ?_;cases hkk;have hw:IntKind.i64.wrap ((step:Int)+1)=((step+1:Nat):Int):=by rw[IntKind.wrap_i64];omega
 rw[hw];exact hJ _ _
theorem gV{Fx:Nat->Prop}{st N0:Nat}{Sf:Nat->List Int}(hm:FI m ct cb n)(hmk:∀σ W W',(∀g,g<W.heap.size->W'.heap[g]?=W.heap[g]?)->m.Inv σ W->m.Inv σ W')(hsh:∀g,m.Sh g->g<N0)(hkeep:∀σ W,m.Inv σ W->GL Fx wa ta ya plans turns hl W/\Pm aa outs W/\W.heap[kb]?=some (.cells #[.slice wa plans.length J5,.slice ta turns.length tc,.slice ya hl.length yc,.int .i64 u] 25 (0,0))/\W.heap[rb]?=some (.cells #[.slice aa outs.length ac,.slice oa on oc,.int .i64 st,.bool cut] 31 (0,0)))(hlen:outs.length=plans.length)(hpl:plans.length<=16)(hfit:∀k,(outs.getD k []).length<=(plans.getD k []).length)(h64:∀j,(plans.getD j []).length<=64)(hst:st<=100000)(hone:∀(step k i:Nat) (out:List Gg) (pl:List EP) (a:Gg) (c:EP),1<=step->step<=st->outs[k]?=some out->out[i]?=some a->plans[k]?=some pl->pl[i]?=some c->a.st=step->JF c (Sf (step-1))=(Sf step,a.a))(hno:∀step,1<=step->step<=st->(∀(k i:Nat) (out:List Gg) (a:Gg),outs[k]?=some out->out[i]?=some a->a.st≠step)->Sf step=Sf (step-1))(hJ:∀W' (jg jF jD jf jB jh jE jl ZP ay jr mV oC nA lH mI ko jS kM jX y90 y91 nG y93 oz y95 y96:Value),m.Inv (Sf st) W'->N0<=W'.heap.size->JL (FU EH).L (.Gj B nn) (G ((base 3).at ⟨#[v0,v1,v2,v3,v4,.pointer (some ⟨kb,0,none⟩),v6,.pointer (some ⟨rb,0,none⟩),v8,v9,.pointer (some ⟨ct,0,none⟩),Ab,Ac,.int .i64 ((st+1:Nat):Int),jg,jF,jD,jf,Ak,Al,Am,Ao,Ap,Ar,Au,Av,Aw,Ay,Az,AA,AB,AJ,AL,AO,AP,AQ,AU,AV,AX,AY,AZ,A8,A9,Ba,Bb,Bc,Bf,Bh,Bj,Bl,Bp,Bq,Br,Bu,Bv,Bw,Bz,BD,BF,BG,BH,BI,BJ,BK,BL,BM,BN,BO,BP,BQ,BR,BS,BU,BX,jB,jh,jE,jl,ZP,ay,jr,mV,oC,nA,lH,mI,ko,jS,kM,jX,y90,y91,nG,y93,oz,y95,y96,CK,CO,CQ,CS],[]⟩ (K)) cs) W') :
  ∀(d step:Nat) (W:World) (jg jF jD jf jB jh jE jl ZP ay jr mV oC nA lH mI ko jS kM jX y90 y91 nG y93 oz y95 y96:Value),st+1-step=d->1<=step->step<=st+1->N0<=W.heap.size->m.Inv (Sf (step-1)) W->JL (FU EH).L (.Gj B nn) (G ((base 3).at ⟨#[v0,v1,v2,v3,v4,.pointer (some ⟨kb,0,none⟩),v6,.pointer (some ⟨rb,0,none⟩),v8,v9,.pointer (some ⟨ct,0,none⟩),Ab,Ac,.int .i64 step,jg,jF,jD,jf,Ak,Al,Am,Ao,Ap,Ar,Au,Av,Aw,Ay,Az,AA,AB,AJ,AL,AO,AP,AQ,AU,AV,AX,AY,AZ,A8,A9,Ba,Bb,Bc,Bf,Bh,Bj,Bl,Bp,Bq,Br,Bu,Bv,Bw,Bz,BD,BF,BG,BH,BI,BJ,BK,BL,BM,BN,BO,BP,BQ,BR,BS,BU,BX,jB,jh,jE,jl,ZP,ay,jr,mV,oC,nA,lH,mI,ko,jS,kM,jX,y90,y91,nG,y93,oz,y95,y96,CK,CO,CQ,CS],[]⟩ (.code xH :: .inLoop xH :: .inBlock 2 :: K)) cs) W:=by
 intro d;induction d with
 | zero=>
  intro step W jg jF jD jf jB jh jE jl ZP ay jr mV oC nA lH mI ko jS kM jX y90 y91 nG y93 oz y95 y96 hd h1 h2 hN hI;obtain rfl:step=st+1:=by omega
  generalize hK2:(Item.inLoop xH :: Item.inBlock 2 :: K:List Item)=K2;rw[eP];refine EO ?_;refine EO ?_;refine dV (hkeep _ _ hI).2.2.2 fun W1 Ei Ej El e1=>?_;refine JL.EX (by simp[Act.eval];try omega) ?_;refine JL.exit (k':=K) (by rw[← hK2];rfl) ?_;exact hJ W1 _ _ _ _ _ _ _ _ _ _ _ _ _ _ _ _ _ _ _ _ _ _ _ _ _ _ _ (hmk _ _ W1 (fun g _=>by rw[e1]) hI) (by rw[e1];exact hN)
 | succ d ih=>
  intro step W jg jF jD jf jB jh jE jl ZP ay jr mV oC nA lH mI ko jS kM jX y90 y91 nG y93 oz y95 y96 hd h1 h2 hN hI;have hle:step<=st:=by omega
  generalize hK2:(Item.inLoop xH :: Item.inBlock 2 :: K:List Item)=K2
  have next:∀W' (jg jF jD jf jB jh jE jl ZP ay jr mV oC nA lH mI ko jS kM jX y90 y91 nG y93 oz y95 y96:Value),m.Inv (Sf step) W'->N0<=W'.heap.size->JL (FU EH).L (.Gj B nn) (G ((base 3).at ⟨#[v0,v1,v2,v3,v4,.pointer (some ⟨kb,0,none⟩),v6,.pointer (some ⟨rb,0,none⟩),v8,v9,.pointer (some ⟨ct,0,none⟩),Ab,Ac,.int .i64 step,jg,jF,jD,jf,Ak,Al,Am,Ao,Ap,Ar,Au,Av,Aw,Ay,Az,AA,AB,AJ,AL,AO,AP,AQ,AU,AV,AX,AY,AZ,A8,A9,Ba,Bb,Bc,Bf,Bh,Bj,Bl,Bp,Bq,Br,Bu,Bv,Bw,Bz,BD,BF,BG,BH,BI,BJ,BK,BL,BM,BN,BO,BP,BQ,BR,BS,BU,BX,jB,jh,jE,jl,ZP,ay,jr,mV,oC,nA,lH,mI,ko,jS,kM,jX,y90,y91,nG,y93,oz,y95,y96,CK,CO,CQ,CS],[]⟩ (.code fK :: K2)) cs) W':=fun W' jg jF jD jf jB jh jE jl ZP ay jr mV oC nA lH mI ko jS kM jX y90 y91 nG y93 oz y95 y96 i1 i2=>by
    refine qG zOM fun ZP ay=>?_;rw[← hK2];refine EU stepG_inLoop ?_;exact ih (step+1) W' _ _ _ _ _ _ _ _ _ _ _ _ _ _ _ _ _ _ _ _ _ _ _ _ _ _ _ zOM zOM zOM i2 (by simpa using i1)
  have HN:=Lib.hid (zAI @next @ih);clear next ih;rw[eP];refine EO ?_;refine EO ?_;refine dV (hkeep _ _ hI).2.2.2 fun W1 Ei Ej El e1=>?_;have I1:=hmk _ _ W1 (fun g _=>by rw[e1]) hI;refine JL.F3 (by simp[Act.eval];omega) ?_;refine EU stepG_skip ?_;refine EO ?_;refine EU stepG_block ?_;refine EO ?_;obtain⟨hC,hA,hk,hr⟩:=hkeep _ _ I1;have hN1:N0<=W1.heap.size:=by rw[e1];exact hN
  refine qA hC hA hk hr hlen hpl hfit h64 zOM (fun W2 bA bC Em Eo Ep Er Es Et Eu Ev k i out pl a c pa pn pc e1 e2 e3 e4 e5 f1 f2 f3 f4 f5 f6=>?_) (fun W2 Df Dg Em Eo Ep Er Es Et Eu Ev e1 f1 f2=>?_)
  . have I2:=hmk _ _ W2 f1 I1;refine EO ?_;refine EO ?_;simp only[qo,Try.f3];refine E9 fun _ hkk=>?_;iterate 2(refine ET ?_;walk_nrm)
    refine E5 ?_;cases hkk;refine JL.EX rfl ?_;refine EU stepG_skip ?_;refine EO ?_;have ho:=hone step k i out pl a c h1 hle e1 e2 e3 e4 e5;refine tN hm I2 (fun h=>by have:=hsh _ h;omega) f5 f6 hmk fun W3 bB e Ew Ey Ez g1 g2 g3 g4 g5=>?_;rw[ho]at g1 g2;refine vM g1 g3 g4 fun W4 EA EB EC ED k1 k2=>?_;refine EU stepG_inBlock ?_;exact HN.out.1 W4 _ _ _ _ _ _ _ _ _ _ _ _ _ _ _ _ _ _ _ _ _ _ _ _ _ _ _ (hmk _ _ W4 k1 g2) zOM
  . have I2:=hmk _ _ W2 f1 I1;refine EO ?_;refine EO ?_;simp only[qo,Try.f3];refine E9 fun _ hkk=>?_;iterate 2(refine ET ?_;walk_nrm)
    refine E5 ?_;cases hkk;refine JL.F3 rfl ?_;refine JL.exit (k':=.code fK :: K2) rfl ?_;have hn:=hno step h1 hle e1;exact HN.out.1 W2 _ _ _ _ _ _ _ _ _ _ _ _ _ _ _ _ _ _ _ _ _ _ _ _ _ _ _ (by rw[hn];exact I2) zOM
end
end
end Go.Proofs.Ytdkfdedgfilhbaa
namespace Go.Proofs.Ytdkfdedgfilhbaa
open Go Go.RowKit BA
theorem ZA{pg po Ga n:Nat}{wo ta ha:Option Addr}{tn tc hn hc:Nat}{u:Int}(w:World)(hn0:n<=1000000)(hwo:0<n->wo=some ⟨pg,po,none⟩)(hcell:∀i,i<n->∃a q c,q<=1000000000/\w.cell? ⟨pg,po+i,none⟩=some (.slice a q c))(hbad:n=0\/8<n\/u<0\/20000<u\/∃j,j<n/\∃a q c,64<q/\w.cell? ⟨pg,po+j,none⟩=some (.slice a q c)) :
   CallsIn (Fence.list [16,26] none) 0 Try.prog 26 #[.agg #[.slice wo n Ga,.slice ta tn tc,.slice ha hn hc,.int .i64 u]] w fun e w'=>e=.returned (.int .i64 30)/\Below w.heap.size w w':=by
 have HC:=Lib.hid hcell;clear hcell;by_cases hA:n=0
 . subst hA;clear hbad;gi_enter Try.func26,Try.ntmps26
   gi_wp2;go_ret
   exact⟨rfl,(Below.refl _ w).alloc (Nat.le_refl _) _⟩
 have g1:((n:Int)==0)=false:=by simp;omega
 by_cases hB:8<n
 . clear hbad;have g2:decide (8<(n:Int))=true:=by simp;omega
   gi_enter Try.func26,Try.ntmps26
   gi_wp2;go_ret
   exact⟨rfl,(Below.refl _ w).alloc (Nat.le_refl _) _⟩
 have g2:decide (8<(n:Int))=false:=by simp;omega
 by_cases hu:u<0
 . clear hbad;have g3:decide (u<0)=true:=by simp;omega
   gi_enter Try.func26,Try.ntmps26
   gi_wp2;go_ret
   exact⟨rfl,(Below.refl _ w).alloc (Nat.le_refl _) _⟩
 have g3:decide (u<0)=false:=by simp;omega
 by_cases hu2:20000<u
 . clear hbad;have g4:decide (20000<u)=true:=by simp;omega
   gi_enter Try.func26,Try.ntmps26
   gi_wp2;go_ret
   exact⟨rfl,(Below.refl _ w).alloc (Nat.le_refl _) _⟩
 have g4:decide (20000<u)=false:=by simp;omega
 obtain⟨j,hj,aj,qj,cj,hqj,hcj⟩:∃j,j<n/\∃a q c,64<q/\w.cell? ⟨pg,po+j,none⟩=some (.slice a q c):=by
   rcases hbad with h|h|h|h|h
   . exact absurd h hA
   . exact absurd h hB
   . exact absurd h hu
   . exact absurd h hu2
   . exact h
 obtain rfl:=hwo zOM;gi_enter Try.func26,Try.ntmps26
 gi_wp2;generalize hW:World.alloc w _=W1;have aR:(∀i,i<n->∃a q c,q<=1000000000/\W1.cell? ⟨pg,po+i,none⟩=some (.slice a q c))/\W1.cell? ⟨pg,po+j,none⟩=some (.slice aj qj cj):=⟨fun i hi=>by obtain⟨a,q,c,hq,hcx⟩:=HC.out i hi;exact⟨a,q,c,hq,by rw[← hW];exact Lib.cell?_alloc_some _ hcx⟩,by rw[← hW];exact Lib.cell?_alloc_some _ hcj⟩
 have HB:Below w.heap.size w W1:=by rw[← hW];exact(Below.refl _ w).alloc (Nat.le_refl _) _
 have HC2:=Lib.hid aR;have HB2:=Lib.hid HB;clear aR HB HC hW hcj hbad;gi_loop [28] (fun i=>∃k:Nat,k<=j/\i=.int .i64 k) (fun i=>n-(intOf i).toNat)
 case atStart=>exact⟨0,by omega,rfl⟩
 case round=>
   obtain⟨k,hk,rfl⟩:=hrel;have hlt:k<n:=by omega
   obtain⟨a,q,c,hq0,hcx⟩:=HC2.out.1 k hlt;by_cases hq:64<q
   . have g5:decide (64<(q:Int))=true:=by simp;omega
     gi_wp2;go_ret
     exact⟨rfl,HB2.out⟩
   . have g5:decide (64<(q:Int))=false:=by simp;omega
     have hkj:k<j:=by
      rcases Nat.lt_or_ge k j with h|h
      . exact h
      . exfalso
        obtain rfl:k=j:=by omega
        have:=HC2.out.2;rw[hcx]at this;cases this
        exact hq hqj
     gi_wp2;go_round
     case rel=>exact⟨k+1,by omega,by go_num⟩
     case measure=>simp[intOf];omega
end Go.Proofs.Ytdkfdedgfilhbaa
namespace Go.Proofs.Ytdkfdedgfilhbaa
open Go Go.Conc Go.LT Go.LC Go.LK Go.RowKit
open Go.ConcN (WgLive)
section
section
variable {X Sg:Type}
variable {Fin:Gb}{EH:FM Try.prog Fin}
variable {B:Nat->Bool}{W:World}{n:Nat}{c:Frame}{cs:List Frame}
theorem jJ{pg po Ga wn:Nat}{wo xa ya:Option Addr}{xn xc yn yc:Nat}{u:Int}{dt:TypeId}{dw:Value}(hn0:wn<=1000000)(hwo:0<wn->wo=some ⟨pg,po,none⟩)(hcell:(∀i,i<wn->∃a q c,q<=1000000000/\W.cell? ⟨pg,po+i,none⟩=some (.slice a q c))/\(wn=0\/8<wn\/u<0\/20000<u\/∃j,j<wn/\∃a q c,64<q/\W.cell? ⟨pg,po+j,none⟩=some (.slice a q c)))(hK:∀W',(∀g,g<W.heap.size->W'.heap[g]?=W.heap[g]?)->W.heap.size<=W'.heap.size->JW (S0 (X:=X) (Sg:=Sg) Try.prog Fin EH).base (.Gj B n) (G (c.finish (.tuple #[.agg #[.slice none 0 0,.slice none 0 0,.int .i64 0,.bool false],.int .i64 30])) cs) W') :
  JW (S0 (X:=X) (Sg:=Sg) Try.prog Fin EH).base (.Gj B n) (G (Frame.enter Try.prog 16 #[.agg #[.slice wo wn Ga,.slice xa xn xc,.slice ya yn yc,.int .i64 u],.iface dt dw] .normal) (c :: cs)) W:=by
 have ht:#[.agg #[.slice wo wn Ga,.slice xa xn xc,.slice ya yn yc,.int .i64 u],.iface dt dw]++Array.replicate (Try.f16.ntmps-(#[.agg #[.slice wo wn Ga,.slice xa xn xc,.slice ya yn yc,.int .i64 u],.iface dt dw]:Array Value).size) undef=#[.agg #[.slice wo wn Ga,.slice xa xn xc,.slice ya yn yc,.int .i64 u],.iface dt dw,undef,undef,undef,undef,undef,undef,undef,undef,undef,undef,undef,undef,undef,undef,undef,undef,undef,undef,undef,undef,undef,undef,undef,undef,undef,undef,undef,undef,undef,undef,undef,undef,undef,undef,undef,undef,undef,undef,undef,undef,undef,undef,undef,undef,undef,undef,undef,undef,undef,undef,undef]:=by
  have:Try.f16.ntmps=53:=by kernel_rfl
  rw[this];walk_nrm
 rw[enter_at _ Try.func16 YQ,ht];show JL (S0 (X:=X) (Sg:=Sg) Try.prog Fin EH).L (.Gj B n) _ W;refine EO ?_;refine Fp.Fz (S:=S0 (X:=X) (Sg:=Sg) Try.prog Fin EH) (b:=base 16) [] (by simp) zKR nE zKR fun EG ha=>?_;have hh:EG.heap=W.heap:=by obtain⟨τ,d,rfl⟩:=ha;rfl
 have HH:=Lib.hid (zAI hK (zAI hh hcell));clear hK hh hcell;simp only[rn0,Try.f16];gi_wp2;obtain⟨hK,hh,hcell⟩:=HH.out;clear HH;generalize hW2:World.alloc _ _=W2;have q:∀g,g<W.heap.size->W2.heap[g]?=W.heap[g]?:=fun g hg=>by rw[← hW2,← hh];rw[Below.heap_alloc _ _ _ (by simp;rw[hh];omega),Below.heap_alloc _ _ _ (by simp;rw[hh];omega),Below.heap_alloc _ _ _ (by rw[hh];omega)]
 have hz:W2.heap.size=W.heap.size+3:=by rw[← hW2];simp[hh]
 have q0:W2.heap[W.heap.size]?=some (.cells #[.slice wo wn Ga,.slice xa xn xc,.slice ya yn yc,.int .i64 u] 25 (0,0)):=by rw[← hW2,← hh];rw[Below.heap_alloc _ _ _ (by simp;omega),Below.heap_alloc _ _ _ (by simp)];exact heap_alloc_new _ _
 have q1:W2.heap[W.heap.size+1]?=some (.cells #[.iface dt dw] 57 (0,0)):=by rw[← hW2,← hh];rw[Below.heap_alloc _ _ _ (by simp)];exact TD _ _ _
 have q2:W2.heap[W.heap.size+2]?=some (.cells #[.slice none 0 0,.slice none 0 0,.int .i64 0,.bool false] 31 (0,0)):=by rw[← hW2,← hh];exact Ta _ _ _ _
 clear hW2;rw[hh];show JL (S0 (X:=X) (Sg:=Sg) Try.prog Fin EH).L (.Gj B n) _ W2;try dsimp only
 refine EO ?_;refine Fp.Fz (S:=S0 (X:=X) (Sg:=Sg) Try.prog Fin EH) (b:=base 16) [26] Wq zKR nE zKR fun Fh Lm=>?_;have hh3:Fh.heap=W2.heap:=by obtain⟨τ,d,rfl⟩:=Lm;rfl
 have RB:(∀i,i<wn->∃a q c,q<=1000000000/\Fh.cell? ⟨pg,po+i,none⟩=some (.slice a q c))/\(wn=0\/8<wn\/u<0\/20000<u\/∃j,j<wn/\∃a q c,64<q/\Fh.cell? ⟨pg,po+j,none⟩=some (.slice a q c)):=by
  have mv:∀o v,W.cell? ⟨pg,o,none⟩=some v->Fh.cell? ⟨pg,o,none⟩=some v:=fun o v hx=>by
    have hlt:pg<W.heap.size:=by
      simp only[World.cell?]at hx;cases ho:W.heap[pg]? with
      | none=>rw[ho]at hx;cases hx
      | some o=>exact(zGE ho).1
    simp only[World.cell?,hh3,q pg hlt]at hx ⊢;exact hx
  refine⟨fun i hi=>?_,?_⟩
  . obtain⟨a,q',c,hq,hx⟩:=hcell.1 i hi;exact⟨a,q',c,hq,mv _ _ hx⟩
  . rcases hcell.2 with h | h | h | h | ⟨j,hj,a,q',c,hq,hx⟩
    . exact .inl h
    . exact .inr (.inl h)
    . exact .inr (.inr (.inl h))
    . exact .inr (.inr (.inr (.inl h)))
    . exact .inr (.inr (.inr (.inr ⟨j,hj,a,q',c,hq,mv _ _ hx⟩)))
 have c0:Fh.cell? ⟨W.heap.size,0,none⟩=some (.slice wo wn Ga):=by simp[World.cell?,hh3,q0]
 have c1:Fh.cell? ⟨W.heap.size,1,none⟩=some (.slice xa xn xc):=by simp[World.cell?,hh3,q0]
 have c2:Fh.cell? ⟨W.heap.size,2,none⟩=some (.slice ya yn yc):=by simp[World.cell?,hh3,q0]
 have c3:Fh.cell? ⟨W.heap.size,3,none⟩=some (.int .i64 u):=by simp[World.cell?,hh3,q0]
 have HH:=Lib.hid (zAI hK (zAI hh3 (zAI q (zAI hz (zAI q0 (zAI q1 q2))))));clear hK hh hh3 hcell q hz q0 q1 q2;have HC:=Lib.hid RB;clear RB;simp only[rn1,Try.f16]
 gi_wp2_with (gi_at_call 26;refine(ZA (pg:=pg) (po:=po) _ hn0 hwo HC.out.1 HC.out.2).mono ?_;rintro e w1 ⟨rfl,hB⟩;have hbb:w1.heap[W.heap.size+1+1]?=some (.cells #[.slice none 0 0,.slice none 0 0,.int .i64 0,.bool false] 31 (0,0)):=(hB.block _ (by have:=HH.out.2.2.2.1;have:=HH.out.2.1;show W.heap.size+1+1<Fh.heap.size;rw[this];omega)).trans (by rw[HH.out.2.1];exact HH.out.2.2.2.2.2.2);have x0:w1.cell? ⟨W.heap.size+1+1,0,none⟩=some (.slice none 0 0):=(by simp[World.cell?,hbb]);have x1:w1.cell? ⟨W.heap.size+1+1,1,none⟩=some (.slice none 0 0):=(by simp[World.cell?,hbb]);have x2:w1.cell? ⟨W.heap.size+1+1,2,none⟩=some (.int .i64 0):=(by simp[World.cell?,hbb]);have x3:w1.cell? ⟨W.heap.size+1+1,3,none⟩=some (.bool false):=(by simp[World.cell?,hbb]);have f0:w1.frozen? ⟨W.heap.size+1+1,0,none⟩=false:=(by simp[World.frozen?,hbb]);have f1:w1.frozen? ⟨W.heap.size+1+1,1,none⟩=false:=(by simp[World.frozen?,hbb]);have f2:w1.frozen? ⟨W.heap.size+1+1,2,none⟩=false:=(by simp[World.frozen?,hbb]);have f3:w1.frozen? ⟨W.heap.size+1+1,3,none⟩=false:=(by simp[World.frozen?,hbb]);have HB:=Lib.hid (zAI hB hbb);clear hB hbb)
 obtain⟨hK,hh3,q,hz,q0,q1,q2⟩:=HH.out;clear HH;obtain⟨hB,hbb⟩:=HB.out;intro Y;generalize hW':World.setCell _ _ _=W';have hB':∀g,g<W.heap.size+2->W'.heap[g]?=W2.heap[g]?:=fun g hg=>by
  rw[← hh3,← hB.block g (by rw[hh3,hz];omega),← hW'];have hne:¬ (W.heap.size+1+1=g):=by omega
  simp[World.setCell,Array.getElem?_modify,hne]
 have hrow:W'.heap[W.heap.size+1+1]?=some (.cells #[.slice none 0 0,.slice none 0 0,.int .i64 0,.bool false] 31 (0,0)):=by rw[← hW'];simp[World.setCell,Array.getElem?_modify,hbb]
 have hsz:W'.heap.size=w1.heap.size:=by rw[← hW'];simp[World.setCell]
 clear hW';refine JW.returns (S:=S0 (X:=X) (Sg:=Sg) Try.prog Fin EH) Try.func16 (v:=.tuple #[.agg #[.slice none 0 0,.slice none 0 0,.int .i64 0,.bool false],.int .i64 30]) (fun F8 ha2=>?_) (hK W' (fun g hg=>by rw[hB' g zOM,q g hg]) (by have:=hB.size;rw[hh3,hz]at this;omega));have KX:F8.heap=W'.heap:=by obtain⟨τ,d,rfl⟩:=ha2;rfl
 have g0:F8.cell? ⟨W.heap.size+1+1,0,none⟩=some (.slice none 0 0):=by simp[World.cell?,KX,hrow]
 have g1:F8.cell? ⟨W.heap.size+1+1,1,none⟩=some (.slice none 0 0):=by simp[World.cell?,KX,hrow]
 have g2:F8.cell? ⟨W.heap.size+1+1,2,none⟩=some (.int .i64 0):=by simp[World.cell?,KX,hrow]
 have g3:F8.cell? ⟨W.heap.size+1+1,3,none⟩=some (.bool false):=by simp[World.cell?,KX,hrow]
 clear KX hrow hsz hB hbb hB' hh3 q hz q0 q1 q2 hK x0 x1 x2 x3 f0 f1 f2 f3 c0 c1 c2 c3;simp[results,Try.results16,go_sem,Frame.at, *]
end
end
end Go.Proofs.Ytdkfdedgfilhbaa
namespace Go.Proofs.Ytdkfdedgfilhbaa
open Go Go.Conc Go.LT Go.LC Go.LK Go.RowKit
open BA TU
section
section
variable {Fin:Gb}{EH:FM Try.prog Fin}
variable {B:Nat->Bool}{W:World}{nn:Nat}{c:Frame}{cs:List Frame}
variable {wo ta ya fa:Option Addr}{wn tn tc yn yc fl fc Ga:Nat}{u:Int}
theorem ZT{n:Int}(hn:n<1\/256<n)(hK:∀W',(∀g,g<W.heap.size->W'.heap[g]?=W.heap[g]?)->W.heap.size<=W'.heap.size->JW (FU EH).base (.Gj B nn) (G (c.finish (.tuple #[.agg #[.slice none 0 0,.slice none 0 0,.int .i64 0,.bool false],.slice none 0 0,.int .i64 42])) cs) W') :
  JW (FU EH).base (.Gj B nn) (G (Frame.enter Try.prog 6 #[.int .i64 n,.slice fa fl fc,.agg #[.slice wo wn Ga,.slice ta tn tc,.slice ya yn yc,.int .i64 u]] .normal) (c :: cs)) W:=by
 rw[enter_at _ Try.func6 Qv,show Try.f6.ntmps=58 from by kernel_rfl];walk_nrm;show JL (FU EH).L _ _ W;refine EO ?_;refine Fp.Fz (S:=(FU EH)) (b:=base 6) [] (by simp) zKR nE zKR fun EG ha=>?_;have hh:EG.heap=W.heap:=by obtain⟨τ,d,rfl⟩:=ha;rfl
 have HH:=Lib.hid hh;clear hh;simp only[zG,Try.f6];gi_wp2;generalize hW1:World.alloc (World.alloc EG _) _=W1;have q1:W1.heap=(W.heap.push (.cells #[.slice wo wn Ga,.slice ta tn tc,.slice ya yn yc,.int .i64 u] 25 (0,0))).push (.cells #[.slice none 0 0,.slice none 0 0,.int .i64 0,.bool false] 31 (0,0)):=by rw[← hW1,← HH.out];rfl
 have hs:EG.heap.size=W.heap.size:=by rw[HH.out]
 clear HH hW1 ha;rw[hs];clear hs;show JL (FU EH).L _ _ W1;try dsimp only
 refine EO ?_;simp only[zy,Try.f6];refine E9 fun _ hkk=>?_
 (refine ET ?_;walk_nrm)
 refine JL.enter rfl rfl nE rfl Try.func8 zKR zKR ?_;walk_nrm;have z1:W1.heap.size=W.heap.size+2:=by rw[q1];simp
 have o1:∀g,g<W.heap.size->W1.heap[g]?=W.heap[g]?:=fun g hg=>by rw[q1];simp only[Array.getElem?_push,Array.size_push];rw[if_neg zOM,if_neg zOM]
 have r1:W1.heap[W.heap.size+1]?=some (.cells #[.slice none 0 0,.slice none 0 0,.int .i64 0,.bool false] 31 (0,0)):=by
  rw[q1];simp only[Array.getElem?_push,Array.size_push]
  simp
 clear q1;refine VP (S:=(FU EH)) hn fun W2 q2=>?_;have ob:∀g,g<W.heap.size->W2.heap[g]?=W.heap[g]?:=fun g hg=>by rw[q2];exact o1 g hg
 have rb:W2.heap[W.heap.size+1]?=some (.cells #[.slice none 0 0,.slice none 0 0,.int .i64 0,.bool false] 31 (0,0)):=by rw[q2];exact r1
 have sz:W.heap.size+2<=W2.heap.size:=by rw[q2,z1];omega
 clear q2 o1 r1 z1;rw[Frame.finish_at];show JL (FU EH).L _ _ W2;walk_nrm;iterate 5(refine ET ?_;walk_nrm)
 refine E5 ?_;cases hkk;refine EO ?_;simp only[pyB,Try.f6];refine EU stepG_block ?_;refine EO ?_;refine E9 fun _ hkk=>?_;iterate 3(refine ET ?_;walk_nrm)
 refine E5 ?_;cases hkk;refine JL.F3 (by simp[Act.eval]) ?_;refine Fp.Fz (S:=(FU EH)) (b:=base 6) [] (by simp) zKR nE zKR fun Fh Lm=>?_;have hh3:Fh.heap=W2.heap:=by obtain⟨τ,d,rfl⟩:=Lm;rfl
 have hbb:Fh.heap[W.heap.size+1]?=some (.cells #[.slice none 0 0,.slice none 0 0,.int .i64 0,.bool false] 31 (0,0)):=by rw[hh3];exact rb
 have x0:Fh.cell? ⟨W.heap.size+1,0,none⟩=some (.slice none 0 0):=by simp[World.cell?,hbb]
 have x1:Fh.cell? ⟨W.heap.size+1,1,none⟩=some (.slice none 0 0):=by simp[World.cell?,hbb]
 have x2:Fh.cell? ⟨W.heap.size+1,2,none⟩=some (.int .i64 0):=by simp[World.cell?,hbb]
 have x3:Fh.cell? ⟨W.heap.size+1,3,none⟩=some (.bool false):=by simp[World.cell?,hbb]
 have f0:Fh.frozen? ⟨W.heap.size+1,0,none⟩=false:=by simp[World.frozen?,hbb]
 have f1:Fh.frozen? ⟨W.heap.size+1,1,none⟩=false:=by simp[World.frozen?,hbb]
 have f2:Fh.frozen? ⟨W.heap.size+1,2,none⟩=false:=by simp[World.frozen?,hbb]
 have f3:Fh.frozen? ⟨W.heap.size+1,3,none⟩=false:=by simp[World.frozen?,hbb]
 have HV:=Lib.hid (zAI @hK (zAI hh3 (zAI hbb (zAI ob sz))));clear hK hh3 hbb ob sz;gi_wp2;intro Y;obtain⟨hK,hh3,hbb,ob,sz⟩:=HV.out;generalize hW':World.setCell _ _ _=W';have hoth:∀g,g≠W.heap.size+1->W'.heap[g]?=W2.heap[g]?:=fun g hg=>by rw[← hW',← hh3];simp[World.setCell,Array.getElem?_modify,Ne.symm hg]
 have hrow:W'.heap[W.heap.size+1]?=some (.cells #[.slice none 0 0,.slice none 0 0,.int .i64 0,.bool false] 31 (0,0)):=by rw[← hW'];simp[World.setCell,Array.getElem?_modify,hbb]
 have hsz:W'.heap.size=W2.heap.size:=by rw[← hW',← hh3];simp[World.setCell]
 clear hW';refine JW.returns (S:=(FU EH)) Try.func6 (v:=.tuple #[.agg #[.slice none 0 0,.slice none 0 0,.int .i64 0,.bool false],.slice none 0 0,.int .i64 42]) (fun F8 ha2=>?_) (hK W' (fun g hg=>by rw[hoth g zOM];exact ob g hg) (by rw[hsz];omega));have KX:F8.heap=W'.heap:=by obtain⟨τ,d,rfl⟩:=ha2;rfl
 have g0:F8.cell? ⟨W.heap.size+1,0,none⟩=some (.slice none 0 0):=by simp[World.cell?,KX,hrow]
 have g1:F8.cell? ⟨W.heap.size+1,1,none⟩=some (.slice none 0 0):=by simp[World.cell?,KX,hrow]
 have g2:F8.cell? ⟨W.heap.size+1,2,none⟩=some (.int .i64 0):=by simp[World.cell?,KX,hrow]
 have g3:F8.cell? ⟨W.heap.size+1,3,none⟩=some (.bool false):=by simp[World.cell?,KX,hrow]
 clear KX hrow hoth hsz hK hh3 hbb ob sz HV x0 x1 x2 x3 f0 f1 f2 f3;simp[results,Try.results6,go_sem,Frame.at,g0,g1,g2,g3]
theorem Zq{n:Nat}(hn1:1<=n)(hn2:n<=256)(hfl:n<fl)(hK:∀W',(∀g,g<W.heap.size->W'.heap[g]?=W.heap[g]?)->W.heap.size<=W'.heap.size->JW (FU EH).base (.Gj B nn) (G (c.finish (.tuple #[.agg #[.slice none 0 0,.slice none 0 0,.int .i64 0,.bool false],.slice none 0 0,.int .i64 42])) cs) W') :
  JW (FU EH).base (.Gj B nn) (G (Frame.enter Try.prog 6 #[.int .i64 n,.slice fa fl fc,.agg #[.slice wo wn Ga,.slice ta tn tc,.slice ya yn yc,.int .i64 u]] .normal) (c :: cs)) W:=by
 rw[enter_at _ Try.func6 Qv,show Try.f6.ntmps=58 from by kernel_rfl];walk_nrm;show JL (FU EH).L _ _ W;refine EO ?_;refine Fp.Fz (S:=(FU EH)) (b:=base 6) [] (by simp) zKR nE zKR fun EG ha=>?_;have hh:EG.heap=W.heap:=by obtain⟨τ,d,rfl⟩:=ha;rfl
 have HH:=Lib.hid hh;clear hh;simp only[zG,Try.f6];gi_wp2;generalize hW1:World.alloc (World.alloc EG _) _=W1;have q1:W1.heap=(W.heap.push (.cells #[.slice wo wn Ga,.slice ta tn tc,.slice ya yn yc,.int .i64 u] 25 (0,0))).push (.cells #[.slice none 0 0,.slice none 0 0,.int .i64 0,.bool false] 31 (0,0)):=by rw[← hW1,← HH.out];rfl
 have hs:EG.heap.size=W.heap.size:=by rw[HH.out]
 clear HH hW1 ha;rw[hs];clear hs;show JL (FU EH).L _ _ W1;try dsimp only
 refine EO ?_;simp only[zy,Try.f6];refine E9 fun _ hkk=>?_
 (refine ET ?_;walk_nrm)
 refine JL.enter rfl rfl nE rfl Try.func8 zKR zKR ?_;walk_nrm;refine KN (S:=(FU EH)) hn1 hn2 fun W2 q2=>?_;have z1:W1.heap.size=W.heap.size+2:=by rw[q1];simp
 have sz:W.heap.size+4<=W2.heap.size:=by rw[q2];simp[z1]
 have ob:∀g,g<W.heap.size->W2.heap[g]?=W.heap[g]?:=fun g hg=>by rw[q2,q1];simp only[Array.getElem?_push,Array.size_push];rw[if_neg zOM,if_neg zOM,if_neg zOM,if_neg zOM]
 have rb:W2.heap[W.heap.size+1]?=some (.cells #[.slice none 0 0,.slice none 0 0,.int .i64 0,.bool false] 31 (0,0)):=by
  rw[q2,q1];simp only[Array.getElem?_push,Array.size_push];rw[if_neg zOM,if_neg zOM]
  simp
 clear q1 q2;rw[z1];clear z1;rw[Frame.finish_at];show JL (FU EH).L _ _ W2;walk_nrm;iterate 5(refine ET ?_;walk_nrm)
 refine E5 ?_;cases hkk;refine EO ?_;simp only[pyB,Try.f6];refine EU stepG_block ?_;refine EO ?_;refine E9 fun _ hkk=>?_;iterate 3(refine ET ?_;walk_nrm)
 refine E5 ?_;cases hkk;refine JL.EX (by simp[Act.eval]) ?_;refine EO ?_;refine E9 fun _ hkk=>?_;iterate 5(refine ET ?_;walk_nrm)
 refine E5 ?_;cases hkk;refine JL.F3 (by simp[Act.eval]<;>omega) ?_;refine Fp.Fz (S:=(FU EH)) (b:=base 6) [] (by simp) zKR nE zKR fun Fh Lm=>?_;have hh3:Fh.heap=W2.heap:=by obtain⟨τ,d,rfl⟩:=Lm;rfl
 have hbb:Fh.heap[W.heap.size+1]?=some (.cells #[.slice none 0 0,.slice none 0 0,.int .i64 0,.bool false] 31 (0,0)):=by rw[hh3];exact rb
 have x0:Fh.cell? ⟨W.heap.size+1,0,none⟩=some (.slice none 0 0):=by simp[World.cell?,hbb]
 have x1:Fh.cell? ⟨W.heap.size+1,1,none⟩=some (.slice none 0 0):=by simp[World.cell?,hbb]
 have x2:Fh.cell? ⟨W.heap.size+1,2,none⟩=some (.int .i64 0):=by simp[World.cell?,hbb]
 have x3:Fh.cell? ⟨W.heap.size+1,3,none⟩=some (.bool false):=by simp[World.cell?,hbb]
 have f0:Fh.frozen? ⟨W.heap.size+1,0,none⟩=false:=by simp[World.frozen?,hbb]
 have f1:Fh.frozen? ⟨W.heap.size+1,1,none⟩=false:=by simp[World.frozen?,hbb]
 have f2:Fh.frozen? ⟨W.heap.size+1,2,none⟩=false:=by simp[World.frozen?,hbb]
 have f3:Fh.frozen? ⟨W.heap.size+1,3,none⟩=false:=by simp[World.frozen?,hbb]
 have HV:=Lib.hid (zAI @hK (zAI hh3 (zAI hbb (zAI ob sz))));clear hK hh3 hbb ob sz;gi_wp2;intro Y;obtain⟨hK,hh3,hbb,ob,sz⟩:=HV.out;generalize hW':World.setCell _ _ _=W';have hoth:∀g,g≠W.heap.size+1->W'.heap[g]?=W2.heap[g]?:=fun g hg=>by rw[← hW',← hh3];simp[World.setCell,Array.getElem?_modify,Ne.symm hg]
 have hrow:W'.heap[W.heap.size+1]?=some (.cells #[.slice none 0 0,.slice none 0 0,.int .i64 0,.bool false] 31 (0,0)):=by rw[← hW'];simp[World.setCell,Array.getElem?_modify,hbb]
 have hsz:W'.heap.size=W2.heap.size:=by rw[← hW',← hh3];simp[World.setCell]
 clear hW';refine JW.returns (S:=(FU EH)) Try.func6 (v:=.tuple #[.agg #[.slice none 0 0,.slice none 0 0,.int .i64 0,.bool false],.slice none 0 0,.int .i64 42]) (fun F8 ha2=>?_) (hK W' (fun g hg=>by rw[hoth g zOM];exact ob g hg) (by rw[hsz];omega));have KX:F8.heap=W'.heap:=by obtain⟨τ,d,rfl⟩:=ha2;rfl
 have g0:F8.cell? ⟨W.heap.size+1,0,none⟩=some (.slice none 0 0):=by simp[World.cell?,KX,hrow]
 have g1:F8.cell? ⟨W.heap.size+1,1,none⟩=some (.slice none 0 0):=by simp[World.cell?,KX,hrow]
 have g2:F8.cell? ⟨W.heap.size+1,2,none⟩=some (.int .i64 0):=by simp[World.cell?,KX,hrow]
 have g3:F8.cell? ⟨W.heap.size+1,3,none⟩=some (.bool false):=by simp[World.cell?,KX,hrow]
 clear KX hrow hoth hsz hK hh3 hbb ob sz HV x0 x1 x2 x3 f0 f1 f2 f3;simp[results,Try.results6,go_sem,Frame.at,g0,g1,g2,g3]
theorem Zc{n pg po fb fo:Nat}{fs:List Int}{Kp:Nat->Prop}(hn1:1<=n)(hn2:n<=256)(hfl:fs.length=fl)(hfn:fl<=n)(He:∀g,Kp g->∃c e f,W.heap[g]?=some (.cells c e f))(hfs:∀i x,fs[i]?=some x->fa=some ⟨fb,fo,none⟩/\Kp fb/\W.cell? ⟨fb,fo+i,none⟩=some (.int .i64 x))(hwn:wn<=1000000)(hwo:0<wn->wo=some ⟨pg,po,none⟩/\Kp pg)(hcell:(∀i,i<wn->∃a q c,q<=1000000000/\W.cell? ⟨pg,po+i,none⟩=some (.slice a q c))/\(wn=0\/8<wn\/u<0\/20000<u\/∃j,j<wn/\∃a q c,64<q/\W.cell? ⟨pg,po+j,none⟩=some (.slice a q c)))(hK:∀W',(∀g,Kp g->g<W.heap.size->W'.heap[g]?=W.heap[g]?)->W.heap.size<=W'.heap.size->JW (FU EH).base (.Gj B nn) (G (c.finish (.tuple #[.agg #[.slice none 0 0,.slice none 0 0,.int .i64 0,.bool false],.slice none 0 0,.int .i64 30])) cs) W') :
   JW (FU EH).base (.Gj B nn) (G (Frame.enter Try.prog 6 #[.int .i64 n,.slice fa fl fc,.agg #[.slice wo wn Ga,.slice ta tn tc,.slice ya yn yc,.int .i64 u]] .normal) (c :: cs)) W:=by
 rw[enter_at _ Try.func6 Qv,show Try.f6.ntmps=58 from by kernel_rfl];walk_nrm;have hkl:∀g,Kp g->g<W.heap.size:=fun g hg=>by obtain⟨c,e,f,hc⟩:=He g hg;exact(zGE hc).1
 have HA:=Lib.hid (zAI @hK (zAI He (zAI hfs (zAI hwo (zAI hcell hkl)))));clear hK He hfs hwo hcell hkl;show JL (FU EH).L _ _ W;refine EO ?_;refine Fp.Fz (S:=(FU EH)) (b:=base 6) [] (by simp) zKR nE zKR fun EG ha=>?_;have hh:EG.heap=W.heap:=by obtain⟨τ,d,rfl⟩:=ha;rfl
 have HH:=Lib.hid hh;clear hh;simp only[zG,Try.f6];gi_wp2;generalize hW1:World.alloc (World.alloc EG _) _=W1;have q1:W1.heap=(W.heap.push (.cells #[.slice wo wn Ga,.slice ta tn tc,.slice ya yn yc,.int .i64 u] 25 (0,0))).push (.cells #[.slice none 0 0,.slice none 0 0,.int .i64 0,.bool false] 31 (0,0)):=by rw[← hW1,← HH.out];rfl
 have hs:EG.heap.size=W.heap.size:=by rw[HH.out]
 clear HH hW1 ha;rw[hs];clear hs;show JL (FU EH).L _ _ W1;try dsimp only
 refine EO ?_;simp only[zy,Try.f6];refine E9 fun _ hkk=>?_
 (refine ET ?_;walk_nrm)
 refine JL.enter rfl rfl nE rfl Try.func8 zKR zKR ?_;walk_nrm;refine KN (S:=(FU EH)) hn1 hn2 fun W2 q2=>?_;rw[Frame.finish_at];show JL (FU EH).L _ _ W2;walk_nrm;iterate 5(refine ET ?_;walk_nrm)
 refine E5 ?_;cases hkk;refine EO ?_;simp only[pyB,Try.f6];refine EU stepG_block ?_;refine EO ?_;refine E9 fun _ hkk=>?_;iterate 3(refine ET ?_;walk_nrm)
 refine E5 ?_;cases hkk;refine JL.EX (by simp[Act.eval]) ?_;refine EO ?_;refine E9 fun _ hkk=>?_;iterate 5(refine ET ?_;walk_nrm)
 refine E5 ?_;cases hkk;refine JL.EX (by simp[Act.eval]<;>omega) ?_;refine EU stepG_skip ?_;refine EU stepG_inBlock ?_;have z1:W1.heap.size=W.heap.size+2:=by rw[q1];simp
 have z2:W2.heap.size=W.heap.size+4:=by rw[q2];simp[z1]
 have o2:∀g,g<W.heap.size->W2.heap[g]?=W.heap[g]?:=fun g hg=>by rw[q2,q1];simp only[Array.getElem?_push,Array.size_push];rw[if_neg zOM,if_neg zOM,if_neg zOM,if_neg zOM]
 have r0:W2.heap[W.heap.size]?=some (.cells #[.slice wo wn Ga,.slice ta tn tc,.slice ya yn yc,.int .i64 u] 25 (0,0)):=by
   rw[q2,q1];simp only[Array.getElem?_push,Array.size_push];rw[if_neg zOM,if_neg zOM,if_neg zOM]
   simp
 have r1:W2.heap[W.heap.size+1]?=some (.cells #[.slice none 0 0,.slice none 0 0,.int .i64 0,.bool false] 31 (0,0)):=by
   rw[q2,q1];simp only[Array.getElem?_push,Array.size_push];rw[if_neg zOM,if_neg zOM]
   simp
 have r2:W2.heap[W.heap.size+2]?=some (.cells (List.replicate n (Value.int .i64 0)).toArray 76 (0,0)):=by
   rw[q2];simp only[Array.getElem?_push,Array.size_push,z1];rw[if_neg zOM]
   simp
 have r3:W2.heap[W.heap.size+3]?=some (.cells #[.slice (some ⟨W.heap.size+2,0,none⟩) n n] 62 (0,0)):=by
   rw[q2];simp only[Array.getElem?_push,Array.size_push,z1]
   simp
 clear q1 q2;rw[z1];clear z1;obtain⟨hK,He,hfs,hwo,hcell,hkl⟩:=HA.out;refine EO ?_;have uH:Zb=.seq (match Zb with | .seq c _=>c | _=>.skip) (.block 1 (.loop WQ)):=rfl;rw[uH];refine EO ?_;simp only[Zb,Try.f6];refine E9 fun _ hkk=>?_;iterate 3(refine ET ?_;walk_nrm)
 refine E5 ?_;cases hkk;refine EU stepG_block ?_;refine EU stepG_loop ?_;refine YW (n:=n) (fs:=fs) (fb:=fb) (fo:=fo) (Qo:=List.replicate n 0) (ct:=W.heap.size+3) (cb:=W.heap.size+2) (W0:=W2) (Kq:=fun g=>g=W.heap.size\/g=W.heap.size+1\/Kp g) hn2 hfl hfn (by simp) zOM (fun g hg=>?_) (fun i x hx=>?_) ?_ fl 0 W2 _ _ _ _ _ _ _ _ _ _ _ zOM (Nat.zero_le _) (Nat.le_refl _) (fun g _=>rfl) r3 (by simpa using r2)
 . rcases hg with rfl | rfl | hg
   . exact⟨⟨_,_,_,r0⟩,by omega⟩
   . exact⟨⟨_,_,_,r1⟩,by omega⟩
   . have:=hkl g hg;exact⟨by rw[o2 g this];exact He g hg,by omega⟩
 . obtain⟨h1,h2,h3⟩:=hfs i x hx;exact⟨h1,.inr (.inr h2),by rw[cell_of (w:=W) (a:=⟨fb,fo+i,none⟩) (o2 fb (hkl fb h2))];exact h3⟩
 clear hK He hfs hwo hcell hkl;intro W2' Da Db DI DJ DL DN DR DT DU DV DW z2' k2' r3' r2';have r0':=(k2' (W.heap.size) (.inl rfl)).trans r0;have r1':=(k2' (W.heap.size+1) (.inr (.inl rfl))).trans r1;have k3':∀g,Kp g->W2'.heap[g]?=W.heap[g]?:=fun g hg=>by rw[k2' g (.inr (.inr hg))];exact o2 g (HA.out.2.2.2.2.2 g hg)
 rw[z2]at z2';clear r0 r1 r2 r3 o2 k2' z2 r3' r2';generalize W2'=W2 at *;have r0:=r0';clear r0';refine EO ?_;simp only[wF,Try.f6];have hev:=fun(x:Value) (w:World) (es:Array Event)=>oG Try.underlying36 x w es;refine E9 fun _ hkk=>?_;iterate 3(refine ET ?_;walk_nrm)
 refine E5 ?_;cases hkk;clear hev;refine EO ?_;simp only[sD,Try.f6];refine E9 fun _ hkk=>?_;refine Fp.Kk (S:=(FU EH)) (b:=base 6) 0 2 [] (by simp) zKR nE (rest:=[2,3,4,5,6,7,8]) rfl zKR fun Fh Lm=>?_;have hh3:Fh.heap=W2.heap:=by obtain⟨τ,d,rfl⟩:=Lm;rfl
 have c0:Fh.cell? ⟨W.heap.size,0,none⟩=some (.slice wo wn Ga):=by simp[World.cell?,hh3,r0]
 have c1:Fh.cell? ⟨W.heap.size,1,none⟩=some (.slice ta tn tc):=by simp[World.cell?,hh3,r0]
 have c2:Fh.cell? ⟨W.heap.size,2,none⟩=some (.slice ya yn yc):=by simp[World.cell?,hh3,r0]
 have c3:Fh.cell? ⟨W.heap.size,3,none⟩=some (.int .i64 u):=by simp[World.cell?,hh3,r0]
 have HH:=Lib.hid (zAI hh3 (zAI z2' (zAI k3' (zAI r0 r1'))));clear hh3 z2' k3' r0 r1';dsimp only[List.drop,List.take];gi_wp2;refine⟨rfl,?_⟩;obtain⟨hh3,z2,k3,r0,r1⟩:=HH.out;clear HH c0 c1 c2 c3 Lm;show JL (FU EH).L _ _ Fh;try dsimp only
 refine JL.enter rfl rfl nE rfl Try.func16 zKR zKR ?_;walk_nrm;obtain⟨hK,He,hfs,hwo,hcell,hkl⟩:=HA.out;clear HA;have mv:0<wn->∀o,Fh.cell? ⟨pg,o,none⟩=W.cell? ⟨pg,o,none⟩:=fun h o=>cell_of (a:=⟨pg,o,none⟩) (by show Fh.heap[pg]?=_;rw[hh3];exact k3 pg (hwo h).2);refine jJ (pg:=pg) (po:=po) hwn (fun h=>(hwo h).1) ⟨fun i hi=>?_,?_⟩ fun W4 o4 s4=>?_
 . rw[mv zOM];exact hcell.1 i hi
 . rcases hcell.2 with h | h | h | h | ⟨j,hj,h⟩
   . exact .inl h
   . exact .inr (.inl h)
   . exact .inr (.inr (.inl h))
   . exact .inr (.inr (.inr (.inl h)))
   . exact .inr (.inr (.inr (.inr ⟨j,hj,by rw[mv zOM];exact h⟩)))
 rw[Frame.finish_at];show JL (FU EH).L _ _ W4;walk_nrm;have zX:∀g,Kp g->W4.heap[g]?=W.heap[g]?:=fun g hg=>by have:=hkl g hg;rw[o4 g (by rw[hh3];omega),hh3];exact k3 g hg
 have rb4:=(o4 (W.heap.size+1) (by rw[hh3];omega)).trans ((congrArg (·[W.heap.size+1]?) hh3).trans r1);have sz4:W.heap.size+4<=W4.heap.size:=by rw[hh3]at s4;omega
 have HH:=Lib.hid (zAI @hK (zAI zX (zAI rb4 sz4)));clear hK zX rb4 sz4 hh3 z2 k3 r0 r1 He hfs hwo hcell hkl mv o4 s4;refine Fp.Gs (S:=(FU EH)) (b:=base 6) 3 [] (by simp) zKR nE rfl zKR fun GZ RP=>?_;have H5:=Lib.hid (show GZ.heap=W4.heap by obtain⟨τ,d,rfl⟩:=RP;rfl);dsimp only[List.drop];gi_wp2;refine⟨rfl,?_⟩;generalize Rq:World.alloc GZ _=W6;obtain⟨hK,zX,rb4,sz4⟩:=HH.out;clear HH;have z6:W6.heap.size=W4.heap.size+1:=by rw[← Rq];simp[H5.out]
 have o6:∀g,g<W4.heap.size->W6.heap[g]?=W4.heap[g]?:=fun g hg=>by rw[← Rq,Below.heap_alloc _ _ _ (by rw[H5.out];exact hg),H5.out]
 have ob:∀g,Kp g->g<W.heap.size->W6.heap[g]?=W.heap[g]?:=fun g hg hl=>by rw[o6 g zOM];exact zX g hg
 have rb:=(o6 (W.heap.size+1) zOM).trans rb4;have sz:W.heap.size+4<=W6.heap.size:=by omega
 clear Rq H5 RP zX rb4 sz4 z6 o6;show JL (FU EH).L _ _ W6;try dsimp only
 cases hkk;refine EU stepG_region_end ?_;refine EO ?_;simp only[rC,Try.f6];refine EO ?_;refine E9 fun _ hkk=>?_;iterate 2(refine ET ?_;walk_nrm)
 refine E5 ?_;cases hkk;refine JL.F3 (by simp[Act.eval]) ?_;refine Fp.Fz (S:=(FU EH)) (b:=base 6) [] (by simp) zKR nE zKR fun Fh Lm=>?_;have hh3:Fh.heap=W6.heap:=by obtain⟨τ,d,rfl⟩:=Lm;rfl
 have hbb:Fh.heap[W.heap.size+1]?=some (.cells #[.slice none 0 0,.slice none 0 0,.int .i64 0,.bool false] 31 (0,0)):=by rw[hh3];exact rb
 have x0:Fh.cell? ⟨W.heap.size+1,0,none⟩=some (.slice none 0 0):=by simp[World.cell?,hbb]
 have x1:Fh.cell? ⟨W.heap.size+1,1,none⟩=some (.slice none 0 0):=by simp[World.cell?,hbb]
 have x2:Fh.cell? ⟨W.heap.size+1,2,none⟩=some (.int .i64 0):=by simp[World.cell?,hbb]
 have x3:Fh.cell? ⟨W.heap.size+1,3,none⟩=some (.bool false):=by simp[World.cell?,hbb]
 have f0:Fh.frozen? ⟨W.heap.size+1,0,none⟩=false:=by simp[World.frozen?,hbb]
 have f1:Fh.frozen? ⟨W.heap.size+1,1,none⟩=false:=by simp[World.frozen?,hbb]
 have f2:Fh.frozen? ⟨W.heap.size+1,2,none⟩=false:=by simp[World.frozen?,hbb]
 have f3:Fh.frozen? ⟨W.heap.size+1,3,none⟩=false:=by simp[World.frozen?,hbb]
 have HV:=Lib.hid (zAI @hK (zAI hh3 (zAI hbb (zAI ob sz))));clear hK hh3 hbb ob sz;gi_wp2;intro Y;obtain⟨hK,hh3,hbb,ob,sz⟩:=HV.out;generalize hW':World.setCell _ _ _=W';have hoth:∀g,g≠W.heap.size+1->W'.heap[g]?=W6.heap[g]?:=fun g hg=>by rw[← hW',← hh3];simp[World.setCell,Array.getElem?_modify,Ne.symm hg]
 have hrow:W'.heap[W.heap.size+1]?=some (.cells #[.slice none 0 0,.slice none 0 0,.int .i64 0,.bool false] 31 (0,0)):=by rw[← hW'];simp[World.setCell,Array.getElem?_modify,hbb]
 have hsz:W'.heap.size=W6.heap.size:=by rw[← hW',← hh3];simp[World.setCell]
 clear hW';refine JW.returns (S:=(FU EH)) Try.func6 (v:=.tuple #[.agg #[.slice none 0 0,.slice none 0 0,.int .i64 0,.bool false],.slice none 0 0,.int .i64 30]) (fun F8 ha2=>?_) (hK W' (fun g hg hl=>by rw[hoth g zOM];exact ob g hg hl) (by rw[hsz];omega));have KX:F8.heap=W'.heap:=by obtain⟨τ,d,rfl⟩:=ha2;rfl
 have g0:F8.cell? ⟨W.heap.size+1,0,none⟩=some (.slice none 0 0):=by simp[World.cell?,KX,hrow]
 have g1:F8.cell? ⟨W.heap.size+1,1,none⟩=some (.slice none 0 0):=by simp[World.cell?,KX,hrow]
 have g2:F8.cell? ⟨W.heap.size+1,2,none⟩=some (.int .i64 0):=by simp[World.cell?,KX,hrow]
 have g3:F8.cell? ⟨W.heap.size+1,3,none⟩=some (.bool false):=by simp[World.cell?,KX,hrow]
 clear KX hrow hoth hsz hK hh3 hbb ob sz HV x0 x1 x2 x3 f0 f1 f2 f3;simp[results,Try.results6,go_sem,Frame.at,g0,g1,g2,g3]
end
end
section
def Wp(W W':World):Prop:=∀(g:Nat) c e f,W.heap[g]?=some (.cells c e f)->W'.heap[g]?=some (.cells c e f)
theorem Wp.cell{W W':World}(h:Wp W W'){a:Addr}{v:Value}(hc:W.cell? a=some v):W'.cell? a=some v:=by
 unfold World.cell? at hc ⊢;split at hc
 . rename_i h1;rw[h _ _ _ _ h1];exact hc
 . cases hc
theorem Pm.rows{aa:Option Addr}{outs:List (List Gg)}{W W':World}(h:Pm aa outs W)(e:Wp W W'):Pm aa outs W':=fun k out hk=>by obtain⟨b,o,sa,sc,a1,a2,a3⟩:=h k out hk;refine⟨b,o,sa,sc,a1,e.cell a2,fun i a ha=>?_⟩;obtain⟨g,o',b1,c0,c1,c2,c3,c4,c5,c6,c7,c8⟩:=a3 i a ha;exact⟨g,o',b1,e.cell c0,e.cell c1,e.cell c2,e.cell c3,e.cell c4,e.cell c5,e.cell c6,e.cell c7,e.cell c8⟩
theorem Q5{w w':World}{v:Value}{xs:List Value}(h:Reads w v xs)(e:Wp w w'):Reads w' v xs:=by
 rcases h with h|⟨hne,b,o,c,rfl,h1,h2,h3⟩
 . exact .inl h
 . exact .inr ⟨hne,b,o,c,rfl,h1,h2,fun i u hu=>e.cell (h3 i u hu)⟩
theorem lW{z:Rs EP Fw (List Int)}{k i:Nat}{out:List Gg}{a:Gg}(h:(Gq z)[k]?=some out)(ha:out[i]?=some a):Hz z k i=some a:=by
 unfold Gq at h;rw[List.getElem?_map]at h;cases hx:z.xs[k]? with
 | none=>rw[hx]at h;cases h
 | some x=>rw[hx]at h;obtain rfl:=Option.some.inj h;unfold Hz;rw[hx];exact ha
theorem nk{z:Rs EP Fw (List Int)}{k i:Nat}{a:Gg}(h:Hz z k i=some a):∃out,(Gq z)[k]?=some out/\out[i]?=some a:=by
 unfold Hz at h;cases hx:z.xs[k]? with
 | none=>rw[hx]at h;cases h
 | some x=>rw[hx]at h;exact⟨x.out,by unfold Gq;rw[List.getElem?_map,hx];rfl,h⟩
section
variable {Fin:Gb}{EH:FM Try.prog Fin}
variable {B:Nat->Bool}{W:World}{nn:Nat}{cs:List Frame}
variable {Kp:Nat->Prop}{wa ta ya fa:Option Addr}{plans:List (List EP)}{turns hl fs:List Int}{J5 tc yc fl fc fb fo:Nat}{u nv:Int}
theorem jc{pg po:Nat}(hC:GL Kp (some ⟨pg,po,none⟩) ta ya plans turns hl W)(hpl:plans.length<=1000)(h64:∀pl∈plans,pl.length<=64){Sg:Type}(m:Mem Sg)(hm:∀σ W',m.Inv σ W'->∀g,Kp g->W'.heap[g]?=W.heap[g]?) :
   K9 m pg po ((List.range plans.length).map fun i=>(W.cell? ⟨pg,po+i,none⟩).getD undef) plans:=by
 refine⟨by simp,hpl,fun σ W' hI i cv hi=>?_,fun i cv pl hi hp σ W' hI=>?_⟩
 . have hil:i<plans.length:=by have:=(List.getElem?_eq_some_iff.1 hi).1;simpa using this
   obtain⟨b,o,ca,cc,e,hb,hml,p1,p2⟩:=hC.work i _ (List.getElem?_eq_getElem hil);cases e
   have hv:cv=.slice ca plans[i].length cc:=by rw[List.getElem?_map,List.getElem?_range hil]at hi;have:=Option.some.inj hi;rw[← this];show(W.cell? ⟨pg,po+i,none⟩).getD undef=_;rw[p1];rfl
   rw[hv,← p1];simp only[World.cell?,hm σ W' hI pg hb]
 . obtain⟨b,o,ca,cc,e,hb,hml,p1,p2⟩:=hC.work i pl hp;cases e
   have hil:i<plans.length:=(List.getElem?_eq_some_iff.1 hp).1;have hv:cv=.slice ca pl.length cc:=by rw[List.getElem?_map,List.getElem?_range hil]at hi;have:=Option.some.inj hi;rw[← this];show(W.cell? ⟨pg,po+i,none⟩).getD undef=_;rw[p1];rfl
   refine⟨ca,cc,hv,by have:=h64 pl (List.mem_of_getElem? hp);omega,fun j c hc=>?_⟩;obtain⟨g,o',pa,pn,pc,h1,h2,h3⟩:=p2 j c hc;obtain⟨q0,q1,q2,q3,q4⟩:=h3.same (hm σ W' hI g h2);exact⟨g,o',pa,pn,pc,h1,q0,q1,q2,q3,q4⟩
theorem Sk(hcap:nn+16<1000000)(hB:∀g,B g=true->g<W.heap.size)(He:∀g,Kp g->(∃c e f,W.heap[g]?=some (.cells c e f))/\B g=false)(hC:GL Kp wa ta ya plans turns hl W)(hfl:fs.length=fl)(hfs:∀(i:Nat) x,fs[i]?=some x->fa=some ⟨fb,fo,none⟩/\Kp fb/\W.cell? ⟨fb,fo+i,none⟩=some (.int .i64 x))(hR:Reads W (.slice ta turns.length tc) (turns.map (Value.int .i64)))(Yc:0<turns.length->∀g,(Value.slice ta turns.length tc).ownBlock=some g->Kp g)(hbig:∀pl∈plans,pl.length<=1000000000)(hJ:∀B' nn' W' tm Y,OrR tm->(∀g,B' g=true->B g=true\/W.heap.size<=g)->(∀g,Kp g->W'.heap[g]?=W.heap[g]?)->W.heap.size<=W'.heap.size->JL (FU EH).L (.Gj B' nn') (G { (base 3).at ⟨tm,[]⟩ Y with mode:=.returning } cs) W') :
   JW (FU EH).base (.Gj B nn) (G (Frame.enter Try.prog 3 #[.int .i64 nv,.slice fa fl fc,.agg #[.slice wa plans.length J5,.slice ta turns.length tc,.slice ya hl.length yc,.int .i64 u]] .normal) cs) W:=by
 rw[enter_at _ Try.func3 jK,show Try.f3.ntmps=101 from by kernel_rfl];walk_nrm;show JL (FU EH).L _ _ W;refine EO ?_;refine Fp.Fz (S:=(FU EH)) (b:=base 3) [] (by simp) zKR nE zKR fun Wa ha=>?_;have hh:Wa.heap=W.heap:=by obtain⟨τ,d,rfl⟩:=ha;rfl
 have HK:=Lib.hid (zAI hB (zAI He (zAI hC (zAI hfs (zAI hR (zAI Yc (zAI hbig (zAI @hJ (zAI hh (zAI hcap hfl))))))))));clear ha hB He hC hfs hR Yc hbig hJ hh hcap hfl;simp only[or0,Try.f3];gi_wp2;refine KY ?_;obtain⟨hB,He,hC,hfs,hR,Yc,hbig,hJ,hh,hcap,hfl⟩:=HK.out;clear HK;have lt:∀{W:World} {g:Nat} {o},W.heap[g]?=some o->g<W.heap.size:=fun h=>(zGE h).1;generalize hW1:World.alloc Wa _=W1;have q1:W1.heap=W.heap.push (.cells #[.slice wa plans.length J5,.slice ta turns.length tc,.slice ya hl.length yc,.int .i64 u] 25 (0,0)):=by rw[← hW1,← hh];rfl
 have hs0:Wa.heap.size=W.heap.size:=by rw[hh]
 rw[hs0];clear hW1 hs0 hh;have o1:∀g,g<W.heap.size->W1.heap[g]?=W.heap[g]?:=fun g hg=>by rw[q1,Array.getElem?_push,if_neg zOM]
 have s1:W1.heap.size=W.heap.size+1:=by rw[q1];simp
 have c1:W1.heap[W.heap.size]?=some (.cells #[.slice wa plans.length J5,.slice ta turns.length tc,.slice ya hl.length yc,.int .i64 u] 25 (0,0)):=by rw[q1,Array.getElem?_push,if_pos rfl]
 have hkl:∀g,Kp g->g<W.heap.size:=fun g hg=>by obtain⟨⟨x,y,z,hx⟩,_⟩:=He g hg;exact lt hx
 have Ago:∀g,(Kp g\/g=W.heap.size)->(∃c e f,W1.heap[g]?=some (.cells c e f))/\B g=false:=fun g hg=>by
   rcases hg with hg|rfl
   . obtain⟨⟨x,y,z,hx⟩,hb⟩:=He g hg;exact⟨⟨x,y,z,(o1 g (lt hx)).trans hx⟩,hb⟩
   . refine⟨⟨_,_,_,c1⟩,?_⟩;cases hb:B W.heap.size with
     | false=>rfl
     | true=>have:=hB _ hb;omega
 refine Ae0 (Kp:=fun g=>Kp g\/g=W.heap.size) zOM (fun g hg=>by have:=hB g hg;omega) Ago fun B' Wb Dj Dk k0 k0' k1 k2=>?_;have ob:∀g,Kp g->Wb.heap[g]?=W.heap[g]?:=fun g hg=>(k1 g (.inl hg)).trans (o1 g (hkl g hg));have hCb:=hC.same ob;have cb:=(k1 _ (.inr rfl)).trans c1;refine Ag7 hCb cb (fun Wc Dl Dm Dn Dp Dq Dt Du Dv h1 h2 h3 h4 oc sc=>?_) fun W' tm Y ht e1 e2=>hJ B' _ W' tm Y ht (fun g hg=>(k0 g hg).imp id zOM) (fun g hg=>(e1 g (by have:=hkl g hg;omega)).trans (ob g hg)) zOM;have hlb:∀g,Kp g->g<Wb.heap.size:=fun g hg=>by have:=hkl g hg;omega
 have hCc:=hCb.same (W':=Wc) fun g hg=>oc g (hlb g hg);have cc:Wc.heap[W.heap.size]?=some (.cells #[.slice wa plans.length J5,.slice ta turns.length tc,.slice ya hl.length yc,.int .i64 u] 25 (0,0)):=(oc _ (lt cb)).trans cb;refine Afu cc fun Wd Dx Dy Dz hd=>?_;have od:∀g,Kp g->Wd.heap[g]?=W.heap[g]?:=fun g hg=>by rw[hd,oc g (hlb g hg)];exact ob g hg
 have xC:=hC.same od;have cd:Wd.heap[W.heap.size]?=some (.cells #[.slice wa plans.length J5,.slice ta turns.length tc,.slice ya hl.length yc,.int .i64 u] 25 (0,0)):=by rw[hd];exact cc
 have sd:W1.heap.size<=Wd.heap.size:=by rw[hd];omega
 have hBd:∀g,B' g=true->g<Wd.heap.size:=fun g hg=>by rw[hd];have:=k0' g hg;omega
 have bO:∀g,Kp g->B' g=false:=fun g hg=>by
   cases hb:B' g with
   | false=>rfl
   | true=>
     have:=hkl g hg;rcases k0 g hb with h|h
     . rw[(He g hg).2]at h;cases h
     . omega
 have hcb0:B' W.heap.size=false:=by
   cases hb:B' W.heap.size with
   | false=>rfl
   | true=>
     rcases k0 _ hb with h|h
     . have:=hB _ h;omega
     . omega
 have qZ:∀(We:World) (e:Int),(e=42\/e=30)->(∀g,Kp g->We.heap[g]?=Wd.heap[g]?)->We.heap[W.heap.size]?=Wd.heap[W.heap.size]?->Wd.heap.size<=We.heap.size->
     JW (FU EH).base (.Gj B' (nn+2)) (G (((base 3).at ⟨#[.int .i64 nv,.slice fa fl fc,.agg #[.slice wa plans.length J5,.slice ta turns.length tc,.slice ya hl.length yc,.int .i64 u],undef,undef,.pointer (some ⟨W.heap.size,0,none⟩),.bool false,undef,undef,undef,undef,undef,undef,undef,undef,undef,undef,undef,Dj,Dk,Dl,Dm,Dn,Dp,Dq,Dt,Du,Dv,undef,Dx,Dy,Dz,undef,undef,undef,undef,undef,undef,undef,undef,undef,undef,undef,undef,undef,undef,undef,undef,undef,undef,undef,undef,undef,undef,undef,undef,undef,undef,undef,undef,undef,undef,undef,undef,undef,undef,undef,undef,undef,undef,undef,undef,undef,undef,undef,undef,undef,undef,undef,undef,undef,undef,undef,undef,undef,undef,undef,undef,undef,undef,undef,undef,undef,undef,undef,undef,undef,undef,undef,undef,undef],[]⟩ (.inRegion OU [3,4,5,6,7,8,9,10,11] :: .code nP :: [])).finish (.tuple #[.agg #[.slice none 0 0,.slice none 0 0,.int .i64 0,.bool false],.slice none 0 0,.int .i64 e])) cs) We:=fun We e he e1 e2 e3=>by
   rw[Frame.finish_at];show JL (FU EH).L (.Gj B' (nn+2)) _ We;walk_nrm;refine oN (show OU=OU from rfl) fun Wf rb Dw Dx Dy Dz DC DF DI DJ hr ef sf=>?_;have hle:∀g,Kp g->g<We.heap.size:=fun g hg=>by have:=hkl g hg;omega
   refine Adc he hr fun W' tm Y ht hh=>?_;refine hJ B' _ W' tm Y ht (fun g hg=>(k0 g hg).imp id zOM) (fun g hg=>by rw[hh,ef g (hle g hg),e1 g hg];exact od g hg) (by rw[hh];omega)
 by_cases hnv:nv<1\/256<nv
 . exact ZT hnv fun We e1 e2=>qZ We 42 (.inl rfl) (fun g hg=>e1 g (by have:=hkl g hg;omega)) (e1 _ zOM) e2
 obtain⟨n,rfl⟩:∃n:Nat,nv=n:=⟨nv.toNat,by omega⟩
 have n1:1<=n:=by omega
 have n2:n<=256:=by omega
 by_cases hfn:n<fl
 . exact Zq n1 n2 hfn fun We e1 e2=>qZ We 42 (.inl rfl) (fun g hg=>e1 g (by have:=hkl g hg;omega)) (e1 _ zOM) e2
 have Aa5:∀(i:Nat) x,fs[i]?=some x->fa=some ⟨fb,fo,none⟩/\Kp fb/\Wd.cell? ⟨fb,fo+i,none⟩=some (.int .i64 x):=fun i x hx=>by obtain⟨a1,a2,a3⟩:=hfs i x hx;exact⟨a1,a2,by rw[← a3];simp only[World.cell?,od fb a2]⟩
 have hrow:∀g,Kp g->∃c e f,Wd.heap[g]?=some (.cells c e f):=fun g hg=>by obtain⟨⟨x,y,z,hx⟩,_⟩:=He g hg;exact⟨x,y,z,(od g hg).trans hx⟩
 by_cases hbad:plans.length=0\/8<plans.length\/u<0\/20000<u\/∃(j:Nat) (pl:List EP),plans[j]?=some pl/\64<pl.length
 . obtain⟨pg,po,hwo⟩:∃pg po,0<plans.length->wa=some ⟨pg,po,none⟩/\Kp pg:=by
     by_cases h0:0<plans.length
     . obtain⟨b,o,ca,cc',e,hb,_⟩:=xC.work 0 _ (List.getElem?_eq_getElem h0);exact⟨b,o,fun _=>⟨e,hb⟩⟩
     . exact⟨0,0,fun h=>absurd h h0⟩
   have qh:∀i pl,plans[i]?=some pl->∃a c,Wd.cell? ⟨pg,po+i,none⟩=some (.slice a pl.length c):=fun i pl hp=>by
     obtain⟨b,o,ca,cc',e,hb,_,p1,_⟩:=xC.work i pl hp;have:=(hwo (by have:=(List.getElem?_eq_some_iff.1 hp).1;omega)).1;rw[this]at e;cases e
     exact⟨_,_,p1⟩
   refine Zc (pg:=pg) (po:=po) (fb:=fb) (fo:=fo) (fs:=fs) (Kp:=fun g=>Kp g\/g=W.heap.size) n1 n2 hfl zOM (fun g hg=>?_) (fun i x hx=>?_) zOM (fun h=>⟨(hwo h).1,.inl (hwo h).2⟩) ⟨fun i hi=>?_,?_⟩ fun We e1 e2=>qZ We 30 (.inr rfl) (fun g hg=>e1 g (.inl hg) (by have:=hkl g hg;omega)) (e1 _ (.inr rfl) zOM) e2
   . rcases hg with hg | rfl
     . exact hrow g hg
     . exact⟨_,_,_,cd⟩
   . obtain⟨a1,a2,a3⟩:=Aa5 i x hx;exact⟨a1,.inl a2,a3⟩
   . obtain⟨a,c,h⟩:=qh i _ (List.getElem?_eq_getElem hi);exact⟨a,_,c,hbig _ (List.getElem_mem hi),h⟩
   . rcases hbad with h | h | h | h | ⟨j,pl,h,h'⟩
     . exact .inl h
     . exact .inr (.inl h)
     . exact .inr (.inr (.inl h))
     . exact .inr (.inr (.inr (.inl h)))
     . obtain⟨a,c,hx⟩:=qh j pl h;exact .inr (.inr (.inr (.inr ⟨j,(List.getElem?_eq_some_iff.1 h).1,a,_,c,h',hx⟩)))
 obtain⟨g0,hbad⟩:=not_or.1 hbad;obtain⟨g8,hbad⟩:=not_or.1 hbad;obtain⟨gu0,hbad⟩:=not_or.1 hbad;obtain⟨gu1,hbad⟩:=not_or.1 hbad;have h64:∀pl∈plans,pl.length<=64:=fun pl hp=>by obtain⟨j,hj,rfl⟩:=List.getElem_of_mem hp;refine Classical.byContradiction fun h=>hbad ⟨j,_,List.getElem?_eq_getElem hj,by omega⟩
 obtain⟨pg,po,ca0,cc0,rfl,hpg,_⟩:=xC.work 0 _ (List.getElem?_eq_getElem (show 0<plans.length by omega));obtain⟨hg,ho,Ow⟩:∃hg ho,∀(i:Nat) (x:Int),hl[i]?=some x->-9223372036854775808<=x/\x<=9223372036854775807/\ya=some ⟨hg,ho,none⟩/\Kp hg/\Wd.cell? ⟨hg,ho+i,none⟩=some (.int .i64 x):=by
   by_cases h0:0<hl.length
   . obtain⟨_,_,b,o,e,hb,_⟩:=xC.Vs 0 _ (List.getElem?_eq_getElem h0);refine⟨b,o,fun i x hx=>?_⟩;obtain⟨x1,x2,b',o',e',hb',hc'⟩:=xC.Vs i x hx;rw[e]at e';cases e'
     exact⟨x1,x2,e,hb,hc'⟩
   . exact⟨0,0,fun i x hx=>by have:=(List.getElem?_eq_some_iff.1 hx).1;omega⟩
 have hcl:((List.range plans.length).map fun i=>(Wd.cell? ⟨pg,po+i,none⟩).getD undef).length=plans.length:=by simp
 have hzs:(Rs.go EK (F5 u) (F5 u) (Rs.new plans (fs++(List.replicate n 0).drop fl) turns hl)).s<=F5 u:=Rs.Aco _ _ _ _ (Nat.zero_le _);have hun:F5 u<=20000:=by unfold F5;split<;>omega
 have hoi:=OI.go (F5 u) (F5 u) ⟨_,OI.new plans (fs++(List.replicate n 0).drop fl) turns hl⟩;have xU:MI plans (Rs.go EK (F5 u) (F5 u) (Rs.new plans (fs++(List.replicate n 0).drop fl) turns hl)):=MI.go _ _ (MI.new _ _ _ _);generalize hz:Rs.go EK (F5 u) (F5 u) (Rs.new plans (fs++(List.replicate n 0).drop fl) turns hl)=z at hoi hzs xU;obtain⟨Sf,hoi⟩:=hoi
 have key:=Ti (Fin:=Fin) (EH:=EH) (W:=Wd) (B:=B') (nn:=nn+2) (n:=n) (plans:=plans) (turns:=turns) (pg:=pg) (po:=po) (Ga:=J5) (Km:=(List.range plans.length).map fun i=>(Wd.cell? ⟨pg,po+i,none⟩).getD undef) (Kp:=fun g=>g=W.heap.size) (Fx:=Kp) (fs:=fs) (fl:=fl) (fa:=fa) (fc:=fc) (fb:=fb) (fo:=fo) (hl:=hl) (hg:=hg) (ho:=ho) (u:=u) (ta:=ta) (tn:=turns.length) (tc:=tc) (ya:=ya) (yc:=yc) (c:=(base 3).at ⟨#[.int .i64 n,.slice fa fl fc,.agg #[.slice (some ⟨pg,po,none⟩) plans.length J5,.slice ta turns.length tc,.slice ya hl.length yc,.int .i64 u],undef,undef,.pointer (some ⟨W.heap.size,0,none⟩),.bool false,undef,undef,undef,undef,undef,undef,undef,undef,undef,undef,undef,Dj,Dk,Dl,Dm,Dn,Dp,Dq,Dt,Du,Dv,undef,Dx,Dy,Dz,undef,undef,undef,undef,undef,undef,undef,undef,undef,undef,undef,undef,undef,undef,undef,undef,undef,undef,undef,undef,undef,undef,undef,undef,undef,undef,undef,undef,undef,undef,undef,undef,undef,undef,undef,undef,undef,undef,undef,undef,undef,undef,undef,undef,undef,undef,undef,undef,undef,undef,undef,undef,undef,undef,undef,undef,undef,undef,undef,undef,undef,undef,undef,undef,undef,undef,undef,undef,undef],[]⟩ (.inRegion OU [3,4,5,6,7,8,9,10,11] :: .code nP :: [])) (cs:=cs) hfl zOM Aa5 zOM Ow n1 n2 hrow bO (fun m hm=>jc xC zOM h64 m hm) h64 zOM zOM zOM zOM (by
     rcases hR with h1|h1
     . exact .inl h1
     . exact Reads.same (.inr h1) fun k hk _=>od k (Yc (List.length_pos_iff.2 fun e=>h1.1 (by rw[e];rfl)) k hk)) zOM zOM hBd Yc (fun g hg'=>by
   subst hg';exact⟨⟨_,_,_,cd⟩,hcb0,fun h=>by have:=hkl _ h;omega⟩) z hz.symm (fun x hx=>by
   obtain⟨k,hk,rfl⟩:=List.getElem_of_mem hx;have hx:=List.getElem?_eq_getElem hk;have a1:=xU.Aad hx;have hkp:k<plans.length:=by rw[← xU.len];exact hk
   have a2:=h64 plans[k] (List.getElem_mem hkp);rw[List.getD_eq_getElem?_getD,List.getElem?_eq_getElem hkp]at a1;have a1:z.xs[k].out.length<=plans[k].length:=a1;omega) (fun B2 We N1 a1 a2 a3 y1 y2 y3 vv b1 b2 b3 OO hov hkeep=>by
   obtain⟨han,hA⟩:=lT OO hoi.ints;have hrv:=hov.reads;obtain⟨vp,vc,rfl⟩:=PG hov;have Aa8:z.σ.length=n:=by have:=hov.len;simpa using this
   have hlen:(Gq z).length=plans.length:=by rw[← hoi.len];simp[Gq]
   subst han;rw[Frame.finish_at];show JL (FU EH).L (.Gj B2 _) _ We;walk_nrm;refine oN (show OU=OU from rfl) fun Wf rb Dw Dx Dy Dz DC DF DI DJ hr ef sf=>?_;refine Abq fun Wg DL DN DR hg1=>?_;refine Aeu n1 n2 fun Wh D9 Ea Eb Ec Ed xg=>?_;refine Ag0 fun Wi Ee Ef Eh hi1=>?_;rw[hg1]at xg;rw[xg]at hi1;generalize hN0:Wf.heap.size=N0 at hi1;have hs:Wi.heap.size=N0+2:=by rw[hi1];simp[hN0]
   have hold:∀g,g<N0->Wi.heap[g]?=Wf.heap[g]?:=fun g hg=>by rw[hi1,Array.getElem?_push,if_neg (by simp;omega),Array.getElem?_push,if_neg zOM]
   have hcb:Wi.heap[N0]?=some (.cells ((List.replicate n (0:Int)).map (Value.int .i64)).toArray 76 (0,0)):=by rw[hi1,Array.getElem?_push,if_neg (by simp;omega),Array.getElem?_push,if_pos hN0.symm,List.map_replicate]
   have hct:Wi.heap[N0+1]?=some (.cells #[.slice (some ⟨N0,0,none⟩) n n] 62 (0,0)):=by rw[hi1,Array.getElem?_push,if_pos (by simp;omega)]
   have hm:=Mr (ct:=N0+1) (cb:=N0) (n:=n) (Fx:=fun g=>g<N0/\∃c e f,Wi.heap[g]?=some (.cells c e f)) (W0:=Wi) (UC:=fun g h=>h.2) n2 zOM (fun g hg=>by have:=hg.1;omega);have hI0:(NT (N0+1) N0 n (fun g=>g<N0/\∃c e f,Wi.heap[g]?=some (.cells c e f)) Wi fun g h=>h.2).Inv (List.replicate n 0) Wi:=⟨by simp,hct,hcb,fun g _=>rfl⟩
   have hmk:∀σ W W',(∀g,g<W.heap.size->W'.heap[g]?=W.heap[g]?)->(NT (N0+1) N0 n (fun g=>g<N0/\∃c e f,Wi.heap[g]?=some (.cells c e f)) Wi fun g h=>h.2).Inv σ W->(NT (N0+1) N0 n (fun g=>g<N0/\∃c e f,Wi.heap[g]?=some (.cells c e f)) Wi fun g h=>h.2).Inv σ W':=fun σ Wx Wy hxy hx=>by obtain⟨x1,x2,x3,x4⟩:=hx;refine⟨x1,(hxy _ (lt x2)).trans x2,(hxy _ (lt x3)).trans x3,fun g hg=>?_⟩;have x5:=x4 g hg;obtain⟨_,c,e,f,x6⟩:=hg;exact(hxy g (lt (x5.trans x6))).trans x5
   have hrk:∀σ Wx,(NT (N0+1) N0 n (fun g=>g<N0/\∃c e f,Wi.heap[g]?=some (.cells c e f)) Wi fun g h=>h.2).Inv σ Wx->Wp We Wx:=fun σ Wx hx g c e f hg=>by
     have l1:=lt hg;have l2:g<N0:=by omega
     have x1:Wi.heap[g]?=some (.cells c e f):=(hold g l2).trans ((ef g l1).trans hg);exact(hx.2.2.2 g ⟨l2,c,e,f,x1⟩).trans x1
   have hkp:∀σ Wx,(NT (N0+1) N0 n (fun g=>g<N0/\∃c e f,Wi.heap[g]?=some (.cells c e f)) Wi fun g h=>h.2).Inv σ Wx->∀g,Kp g->Wx.heap[g]?=W.heap[g]?:=fun σ Wx hx g hg=>by obtain⟨⟨c,e,f,hx1⟩,_⟩:=He g hg;have x1:We.heap[g]?=some (.cells c e f):=(hkeep g (.inr hg)).trans ((od g hg).trans hx1);exact(hrk σ Wx hx g c e f x1).trans hx1.symm
   have vD:∀σ Wx,(NT (N0+1) N0 n (fun g=>g<N0/\∃c e f,Wi.heap[g]?=some (.cells c e f)) Wi fun g h=>h.2).Inv σ Wx->GL Kp (some ⟨pg,po,none⟩) ta ya plans turns hl Wx/\Pm a1 (Gq z) Wx/\Wx.heap[W.heap.size]?=some (.cells #[.slice (some ⟨pg,po,none⟩) plans.length J5,.slice ta turns.length tc,.slice ya hl.length yc,.int .i64 u] 25 (0,0))/\Wx.heap[rb]?=some (.cells #[.slice a1 (Gq z).length a3,.slice y1 y2 y3,.int .i64 z.s,.bool (z.rd.any id)] 31 (0,0)):=fun σ Wx hx=>by
     have hR:=hrk σ Wx hx;refine⟨hC.same (hkp σ Wx hx),hA.rows hR,hR _ _ _ _ ((hkeep _ (.inl rfl)).trans cd),?_⟩;have l2:rb<N0:=by have:=lt hr;omega
     have x1:=(hold rb l2).trans hr;exact(hx.2.2.2 rb ⟨l2,_,_,_,x1⟩).trans x1
   rw[show Wg.heap.size=N0 by rw[hg1];exact hN0];show JL (FU EH).L _ _ Wi;rw[rR];refine EO ?_;rw[wB];refine EO ?_;simp only[Ab6,or7,Try.f3];refine E9 fun _ hkk=>?_
   (refine ET ?_;walk_nrm)
   refine E5 ?_;cases hkk;refine EU stepG_block ?_;refine EU stepG_loop ?_;refine mU (Qo:=List.replicate n 0) (FU EH) hm zOM hfl (by simp) (fun i x hx=>by obtain⟨x1,x2,x3⟩:=hfs i x hx;exact⟨x1,fun σ Wx hX=>by rw[← x3];simp only[World.cell?,hkp σ Wx hX fb x2]⟩) (N0+2) (fun Wj oK ql u63 u64 oQ u66 IE u68 u69 u70 pq u72 u73 hIj hNj=>?_) fl 0 Wi _ _ _ _ _ _ _ _ _ _ _ _ _ zOM zOM zOM (by simpa using hI0)
   show JL (FU EH).L _ _ Wj;rw[rH];refine EO ?_;rw[ru];refine EO ?_;simp only[Ac1,or8,Try.f3];refine E9 fun _ hkk=>?_
   (refine ET ?_;walk_nrm)
   refine E5 ?_;cases hkk;refine EU stepG_block ?_;refine EU stepG_loop ?_;refine gV (outs:=Gq z) (st:=z.s) (N0:=N0+2) (Sf:=Sf) hm hmk (fun g hg=>?_) vD hlen h1 (fun k=>?_) (fun j=>?_) zOM (fun step k i out pl a c s1 s2 e1 e2 e3 e4 e5=>?_) (fun step s1 s2 e1=>?_) (fun Wk jg jF jD jf jB jh jE jl ZP ay jr mV oC nA lH mI ko jS kM jX y90 y91 nG y93 oz y95 y96 hIk JI=>?_) z.s 1 Wj _ _ _ _ _ _ _ _ _ _ _ _ _ _ _ _ _ _ _ _ _ _ _ _ _ _ _ zOM zOM zOM hNj (by rw[Nat.sub_self,hoi.first];exact hIj)
   . rcases hg with rfl | rfl | hg
     . omega
     . omega
     . have:=hg.1;omega
   . by_cases hk:k<z.xs.length
     . have hx:=List.getElem?_eq_getElem hk;rw[QS hx];exact xU.Aad hx
     . have:(Gq z)[k]?=none:=List.getElem?_eq_none (by rw[hlen,← xU.len];omega)
       rw[List.getD_eq_getElem?_getD,this]
       simp
   . by_cases hj:j<plans.length
     . rw[List.getD_eq_getElem?_getD,List.getElem?_eq_getElem hj];exact h64 _ (List.getElem_mem hj)
     . rw[List.getD_eq_getElem?_getD,List.getElem?_eq_none zOM];simp
   . obtain⟨c',x1,x2⟩:=hoi.ends k i a (lW e1 e2);have x3:TP plans k i=some c:=by unfold TP;rw[e3];exact e4
     rw[x3]at x1;obtain rfl:=Option.some.inj x1;rw[e5]at x2;exact x2
   . have x1:=hoi.still (step-1) zOM fun k i a ha hst=>by obtain⟨out,y1,y2⟩:=nk ha;exact e1 k i out a y1 y2 zOM
     rw[show step-1+1=step by omega]at x1;exact x1
   rw[hoi.last]at hIk;obtain⟨q1,q2,q3,q4⟩:=id hIk;refine Agp n2 q1 q2 q3 (fun W' hW'=>?_) fun W' tm Y ht e1 e2=>?_
   . exact Q5 (Q5 hrv (hrk _ _ hIk)) fun g c e f hg=>(hW' g (lt hg)).trans hg
   . refine hJ B2 _ W' tm Y ht (fun g hg=>?_) (fun g hg=>?_) zOM
     . rcases b1 g hg with h | h
       . exact(k0 g h).imp id zOM
       . exact .inr zOM
     . have x1:=hkp _ _ hIk g hg;obtain⟨⟨c,e,f,hx1⟩,_⟩:=He g hg;exact(e1 g (lt (x1.trans hx1))).trans x1)
 rw[hcl]at key;exact key
end
end
end Go.Proofs.Ytdkfdedgfilhbaa
end
