/-
  Part 24 of the proof that CellAlone returns true for every input and leaves its arguments as they were. No further condition.
-/
import Derived.Test.YtkdhnbcdbnpmhaaQ22
import Derived.Test.YtkdhnbcdbnpmhaaQ23
set_option linter.unusedVariables false
set_option linter.unusedSectionVars false
set_option maxHeartbeats 4000000
namespace Go.Proofs.Ytkdhnbcdbnpmhaa
open Go Go.Conc Go.LT Go.LC Go.LK Go.RowKit
open Go.ConcN (WgLive)
open BA TU
section
section
variable {Cs Sg:Type}{D:Dr G5 Cs Sg}{m:Mem Sg}{ρ:Rn}{ws:List (Ij (Wk G5 Cs))}
variable {Fin:Iw}{GR:Ig Try.prog Fin}
variable {q:RB}{Kp:Nat->Prop}{W0 W:World}{N1 s co n nn:Nat}{σ:Sg}{left:List Int}{last:Int}{steps:List Nat}{cut Jo I6 Kh K7 LA LB u68 u69:Value}{ds:List Deferred}{K:List Item}{cs:List Frame}
variable {ov av:Value}{i:Nat}{vs:List Value}
theorem uR (h:ZB m ρ ws q Kp W0 N1 σ s cut ov i vs av W){v:Ij (Wk G5 Cs)}(hv:ws[i]?=some v)(hi8:i < 1000){tm:Array Value}(hs:Sd q co n Jo I6 Kh K7 (.pointer (some ⟨v.b,0,none⟩)) LB u68 u69 tm)(hK:∀ W' tm' v1 av',Sd q co n Jo I6 Kh K7 (.pointer (some ⟨v.b,0,none⟩)) LB u68 u69 tm'->ZB m ρ ws q Kp W0 N1 σ s cut ov (i+1) (vs ++ [v1]) av' W'->JL (S0 Try.prog Fin GR).L (.H7 (H9 D m) ρ ws 0 false nn) (G ((base 79).at ⟨tm',ds⟩ K) cs) W') :
    JL (S0 Try.prog Fin GR).L (.H7 (H9 D m) ρ ws 0 false nn) (G ((base 79).at ⟨tm,ds⟩ (.code lX :: K)) cs) W:=by
  refine J0.know (GR:=GR) fun hKn=>?_;obtain ⟨_,hvb,t,co',go,gr,ans,hrow,⟨Mt,WL,hown,hints⟩,hblk⟩:=hKn.record i v hv;have hin:=(hKn.inside i v hv).1;have hcl:∀ a:Addr,v.own a.block->W.cell? a=v.wy.cell? a:=hKn.cell i v hv;have pF:W.cell? ⟨v.b,9,none⟩=some ans:=by rw [hcl ⟨v.b,9,none⟩ hin];exact hrow.cells.2.2.2.2.1
  have hsrc:Ri W 9 ans v.x.out.length (List.zipWith IY v.x.out Mt).flatten:=Ri.of hown fun g o hg=>hcl ⟨g,o,none⟩ (hblk g hg).1;have iL:∀ (j:Nat) (a:QI) (iv:Value),v.x.out[j]?=some a->Mt[j]?=some iv->Jg W (fun g=>v.own g) iv a.a.ints:=fun j a iv ha hi=>by
    have:=hints j a iv ha hi;rcases this with h1|⟨h0,g,c,h1,h2,h3,h4,h5⟩
    . exact .inl h1
    . exact .inr ⟨h0,g,c,h1,h2.1.1,h3,h4,fun k u hu=>by rw [hcl ⟨g,k,none⟩ h2.1.1];exact h5 k u hu⟩
  have hone:∀ iv∈Mt,iv.oneCell'=true:=fun iv hiv=>by
    obtain ⟨j,hj,rfl⟩:=List.getElem_of_mem hiv;have hj2:j < v.x.out.length:=by omega
    rcases hints j _ _ (List.getElem?_eq_getElem hj2) (List.getElem?_eq_getElem hj) with ⟨_,e⟩|⟨_,g,c,e,_⟩ <;> rw [e] <;> rfl
  have hlow:=h.low;have hvl:=hlow.2.2.2 i v hv;have hvN:∀ g,v.own g->g < N1:=hvl.1;have hs0:=hs;obtain ⟨v4,v5,Ai,Aj,Ak,Al,Am,Ao,Ap,Aq,Ar,Au,Av,Aw,Ay,Az,AA,AB,AJ,AL,AO,AP,AQ,AU,AV,AX,AY,AZ,A8,A9,Ba,Bb,Bc,Bf,Bh,Bj,Bl,Bp,Bq,Br,Bu,Bv,Bw,Bz,BD,BF,BG,BH,BI,BJ,BK,BL,BM,BQ,BR,BS,BU,BX,BZ,Ca,Cb,Cc,Ce,Cg,Ci,Cj,Ck,Cm,Co,Cq,Cr,Ct,Cu,Cw,Cx,Cy,Cz,CB,CF,CG,CJ,CK,CO,CQ,CS,CU,CV,CW,CX,rfl⟩:=hs
  have zK:(#[q.cv,.slice (some ⟨q.lg,0,none⟩) n q.lc,.chan (some co),.pointer (some ⟨q.bc,0,none⟩),v4,v5,.pointer (some ⟨q.bz,0,none⟩),.int .i64 q.most,.pointer (some ⟨q.ob,0,none⟩),.slice (some ⟨q.sg,0,none⟩) n n,.pointer (some ⟨q.br,0,none⟩),Jo,I6,Kh,K7,.pointer (some ⟨v.b,0,none⟩),Ai,Aj,Ak,Al,Am,Ao,Ap,Aq,Ar,Au,Av,Aw,Ay,Az,AA,AB,AJ,AL,AO,AP,AQ,AU,AV,AX,AY,AZ,A8,A9,Ba,Bb,Bc,Bf,Bh,Bj,Bl,Bp,Bq,Br,Bu,Bv,Bw,Bz,BD,BF,BG,BH,BI,BJ,BK,BL,BM,LB,u68,u69,BQ,BR,BS,BU,BX,BZ,Ca,Cb,Cc,Ce,Cg,Ci,Cj,Ck,Cm,Co,Cq,Cr,Ct,Cu,Cw,Cx,Cy,Cz,CB,CF,CG,CJ,CK,CO,CQ,CS,CU,CV,CW,CX]:Array Value)[10]?=some (.pointer (some ⟨q.br,0,none⟩)):=rfl
  have Acp:(#[q.cv,.slice (some ⟨q.lg,0,none⟩) n q.lc,.chan (some co),.pointer (some ⟨q.bc,0,none⟩),v4,v5,.pointer (some ⟨q.bz,0,none⟩),.int .i64 q.most,.pointer (some ⟨q.ob,0,none⟩),.slice (some ⟨q.sg,0,none⟩) n n,.pointer (some ⟨q.br,0,none⟩),Jo,I6,Kh,K7,.pointer (some ⟨v.b,0,none⟩),Ai,Aj,Ak,Al,Am,Ao,Ap,Aq,Ar,Au,Av,Aw,Ay,Az,AA,AB,AJ,AL,AO,AP,AQ,AU,AV,AX,AY,AZ,A8,A9,Ba,Bb,Bc,Bf,Bh,Bj,Bl,Bp,Bq,Br,Bu,Bv,Bw,Bz,BD,BF,BG,BH,BI,BJ,BK,BL,BM,LB,u68,u69,BQ,BR,BS,BU,BX,BZ,Ca,Cb,Cc,Ce,Cg,Ci,Cj,Ck,Cm,Co,Cq,Cr,Ct,Cu,Cw,Cx,Cy,Cz,CB,CF,CG,CJ,CK,CO,CQ,CS,CU,CV,CW,CX]:Array Value)[15]?=some (.pointer (some ⟨v.b,0,none⟩)):=rfl;refine HY.Ht (S:=S0 Try.prog Fin GR) (b:=base 79) [] (by simp) (by kernel_rfl) nE (by kernel_rfl) fun GQ ha=>?_;have hh:GQ.heap=W.heap:=by obtain ⟨τ,d,rfl⟩:=ha;rfl
  have hcell:∀ a,GQ.drew.cell? a=W.cell? a:=fun a=>by show GQ.cell? a=_;simp only [World.cell?,hh]
  have Ad5:GQ.drew.cell? ⟨v.b,9,none⟩=some ans:=by rw [hcell];exact pF
  have hsz0:GQ.drew.heap.size=W.heap.size:=by show GQ.heap.size=_;rw [hh]
  have qy:(Try.prog.info? 51).map (fun i=>(i.zero,i.size,i.bytes))=some (some (.agg #[.int .i64 0,.int .i64 0,.int .i64 0,.bool false,.int .i64 0,.int .i64 0,.int .i64 0,.slice none 0 0,.slice none 0 0]),9,104):=by kernel_rfl
  have ug:(Try.prog.info? 66).map (fun i=>(i.zero,i.size,i.bytes))=some (some (.slice none 0 0),1,24):=by kernel_rfl
  obtain ⟨iA,hiA,jK,hA1,hA2⟩:=info_parts qy;obtain ⟨iS,hiS,hS0,hS1,hS2⟩:=info_parts ug;obtain ⟨v1,w1,r6,g6,f6⟩:=WW (P:=Try.prog) GQ.drew 66 66 51 iA _ 9 104 Try.underlying66 hiA jK hA1 hA2 rfl (by decide) ans v.x.out.length _ (hsrc.cells hcell) (kL hone) (by unfold maxLen;omega) (by omega);obtain ⟨p1,n1,c1,rfl⟩:=ML g6;have hv1:(Value.slice p1 n1 c1).oneCell'=true:=rfl;have hb1:∀ g,g < W.heap.size->w1.heap[g]?=W.heap[g]?:=fun g hg=>by rw [f6.block g (by rw [hsz0];exact hg) (by simp)];show GQ.heap[g]?=_;rw [hh]
  have hz1:W.heap.size<=w1.heap.size:=by have:=f6.size;rw [hsz0] at this;exact this
  have hl1:∀ g,(Value.slice p1 n1 c1).ownBlock=some g->W.heap.size<=g/\g < w1.heap.size:=fun g hg=>by have:=Mk g6 hg;rw [hsz0] at this;exact this
  obtain ⟨w2,mM⟩:∃ w2,w1.alloc (.cells #[.slice p1 n1 c1] 66)=w2:=⟨_,rfl⟩
  have hb2:∀ g,g < w1.heap.size->w2.heap[g]?=w1.heap[g]?:=fun g hg=>by rw [← mM];exact Below.heap_alloc _ _ _ hg
  have hz2:w2.heap.size=w1.heap.size+1:=by rw [← mM];simp
  have yU:IE w2 N1 1 av i vs:=KU h.own fun g hg=>by have:=Mk h.own hg;rw [hb2 g (by omega),hb1 g this.2]
  obtain ⟨av2,w3,r8,g8,f8,k8⟩:=M8 (P:=Try.prog) w2 N1 60 60 66 iS (.slice none 0 0) 1 24 Try.underlying60 hiS hS0 hS1 hS2 rfl (by decide) av i vs yU ⟨w1.heap.size,0,none⟩ 1 1 [.slice p1 n1 c1] rfl (by rw [← mM];exact cell_one_new _ _ _) (by intro u hu;simp at hu;subst hu;exact hv1) (by unfold maxLen;omega) (by omega) (by omega);obtain ⟨p2,n2,c2,rfl⟩:=ML g8;obtain ⟨w4,jd⟩:∃ w4,w4=w3.setCell ⟨q.br,0,none⟩ (.slice p2 n2 c2):=⟨_,rfl⟩
  have hk8:∀ g,(Value.slice p2 n2 c2).ownBlock=some g->av.ownBlock=some g\/w2.heap.size<=g:=fun g hg=>by
    rcases k8 with k|⟨k,_⟩
    . rw [k] at hg;exact .inl hg
    . exact .inr (k g hg)
  have hb3:∀ g,g < w2.heap.size->av.ownBlock≠some g->w3.heap[g]?=w2.heap[g]?:=fun g hg hne=>f8.block g hg (fun e=>hne e.symm);have hz3:w2.heap.size<=w3.heap.size:=f8.size;have oh:∀ g,av.ownBlock=some g->N1<=g/\g < W.heap.size:=fun g hg=>Mk h.own hg;have hbr:q.br < N1:=hlow.1;have hN1:=hlow.2.1;have hold:∀ g,g < N1->w3.heap[g]?=W.heap[g]?:=fun g hg=>by rw [hb3 g (by omega) (fun e=>by have:=oh g e;omega),hb2 g (by omega),hb1 g (by omega)]
  have hav:∀ (l:Array Bool),l[10]?≠some true->(IK GQ.drew [(6,w1),(7,w2),(8,w3),(10,w4)] l).cell? ⟨q.br,0,none⟩=some av:=fun l h10=>by
    have hc0:W.cell? ⟨q.br,0,none⟩=some av:=by simp [World.cell?,h.run]
    rcases VA [(6,w1),(7,w2),(8,w3),(10,w4)] GQ.drew with e|⟨c,w',hm,hl,e⟩
    . rw [e,hcell];exact hc0
    . rw [e];simp only [List.mem_cons,Prod.mk.injEq,List.not_mem_nil,or_false] at hm;rcases hm with ⟨rfl,rfl⟩|⟨rfl,rfl⟩|⟨rfl,rfl⟩|⟨rfl,rfl⟩
      . rw [cell_of (a:=⟨q.br,0,none⟩) (hb1 q.br (by omega))];exact hc0
      . rw [cell_of (a:=⟨q.br,0,none⟩) ((hb2 q.br (by omega)).trans (hb1 q.br (by omega)))];exact hc0
      . rw [cell_of (a:=⟨q.br,0,none⟩) (hold q.br hbr)];exact hc0
      . exact absurd hl h10
  have hcz:w3.frozen? ⟨q.br,0,none⟩=false:=by simp [World.frozen?,hold q.br hbr,h.run]
  have hcw:w3.cell? ⟨q.br,0,none⟩=some av:=by rw [cell_of (a:=⟨q.br,0,none⟩) (hold q.br hbr)];simp [World.cell?,h.run]
  have Tt:∀ g,g≠q.br->w4.heap[g]?=w3.heap[g]?:=fun g hg=>by rw [jd];simp [World.setCell,Array.getElem?_modify,Ne.symm hg]
  have sI:w4.heap[q.br]?=some (.cells #[.slice p2 n2 c2,ov,.int .i64 s,cut] 63 (0,0)):=by rw [jd];have:=(hold q.br hbr).trans h.run;simp [World.setCell,Array.getElem?_modify,this]
  have Al4:w4.heap.size=w3.heap.size:=by rw [jd];simp [World.setCell]
  have Aip:vs.length=i:=by
    obtain ⟨te,hl,_⟩:=h.own
    simpa using hl
  have hfin:ZB m ρ ws q Kp W0 N1 σ s cut ov (i+1) (vs ++ [.slice p1 n1 c1]) (.slice p2 n2 c2) w4:=by
    have l1:=h.lay.h1;have l2:=h.lay.h2;have l3:=h.lay.h3;have l4:=h.lay.h4;have l5:=h.lay.h5;have um:=h.free q.br (.inr (.inr (.inl rfl)));have hcp:∀ (v:Value) (u:Ij (Wk G5 Cs)),VF W N1 v u->(∀ g,u.own g->g < N1/\g≠q.br)->(∀ g,v.ownBlock=some g->av.ownBlock≠some g)->VF w4 N1 v u:=fun v u ⟨Mt,c1,c2,c3⟩ hu hne=>by
      refine ⟨Mt,c1,KU c2 fun g hg=>?_,fun i a iv ha hi=>(c3 i a iv ha hi).TW fun g hg=>.of ?_⟩
      . have:=Mk c2 hg;rw [Tt g (by omega),hb3 g (by omega) (hne g hg),hb2 g (by omega),hb1 g this.2]
      . rw [Tt g (hu g hg).2,hold g (hu g hg).1]
    refine ⟨h.lay,fun j b hb=>?_,sI,?_,?_,fun g hg=>?_,fun g hg=>?_,KU g8 fun g hg=>?_,fun j v' u hj hu=>?_,h.few,hlow.1,by omega,hlow.2.2⟩
    . rw [cell_of (a:=⟨q.lg,j,none⟩) ((Tt q.lg (by omega)).trans (hold q.lg (by omega)))];exact h.row j b hb
    . rw [Tt _ (by omega),hold _ (by omega)];exact h.res
    . exact m.eq σ W w4 (fun g hg=>.of (by rw [Tt g (fun e=>um.2.2.2.1 (e ▸ hg)),hold g (hlow.2.2.1 g hg)])) h.inv
    . by_cases e:g=q.br
      . rw [e];exact ⟨⟨_,_,_,sI⟩,um.2⟩
      . rw [Tt g e,hold g (h.ltN hg)];exact h.free g hg
    . have:=h.lay.h7 g hg;rw [Tt g (by omega),hold g (by omega)];exact h.kept g hg
    . have:=Mk g8 hg;rw [Tt g (by omega)]
    . have u6:∀ g,u.own g->g < N1/\g≠q.br:=fun g hg=>⟨(hlow.2.2.2 j u hu).1 g hg,fun e=>um.2.2.2.2 j u hu (e ▸ hg)⟩
      rw [List.getElem?_append] at hj;by_cases hlt:j < vs.length
      . rw [if_pos hlt] at hj;obtain ⟨c1,c2,c3⟩:=h.cop j v' u hj hu;refine ⟨hcp v' u c1 u6 c3,c2,fun g hg e=>?_⟩;rcases hk8 g e with e|e
        . exact c3 g hg e
        . obtain ⟨Aj5,_,c4,_⟩:=c1;have:=Mk c4 hg;omega
      . rw [if_neg hlt] at hj;have hj0:j - vs.length=0:=by
          rcases Nat.eq_zero_or_pos (j - vs.length) with h|h
          . exact h
          . rw [List.getElem?_eq_none (by simp;omega)] at hj;cases hj
        rw [hj0] at hj;cases hj
        obtain rfl:j=i:=by omega
        rw [hv] at hu;cases hu
        refine ⟨⟨Mt,WL,?_,fun k a iv ha hi=>(iL k a iv ha hi).TW fun g hg=>.of (by rw [Tt g (u6 g hg).2,hold g (u6 g hg).1])⟩,hv1,fun g hg e=>?_⟩
        . have hg6:IE w4 GQ.drew.heap.size 9 (.slice p1 n1 c1) v.x.out.length (List.zipWith IY v.x.out Mt).flatten:=KU g6 fun g hg=>by have h1:=hl1 g hg;rw [Tt g (by omega),hb3 g (by omega) (fun e=>by have:=oh g e;omega),hb2 g h1.2]
          obtain ⟨te,q1,q2|⟨g,cap,cur,q3,q4,q5⟩⟩:=hg6
          . exact ⟨te,q1,.inl q2⟩
          . exact ⟨te,q1,.inr ⟨g,cap,cur,q3,by omega,q5⟩⟩
        . have h1:=hl1 g hg;rcases hk8 g e with e|e
          . have:=oh g e;omega
          . omega
  have HH:=Lib.hid (And.intro hK (And.intro hs0 hfin));have HW4:=Lib.hid jd;clear jd hcl hcell pF hv1 hl1;clear hK hs0 hfin h hKn hints iL hrow hblk hown hsrc hlow hvl hold hb1 hb2 hb3 hk8 oh g6 g8 f6 f8 k8 Tt sI yU;rw [nP];refine YC [(6,w1),(7,w2),(8,w3),(10,w4)] (Fence.list_round _ _) (by kernel_rfl) lM iW (s0:=74) (vs:=[.pointer (some ⟨q.br,0,none⟩),av,.pointer (some ⟨v.b,0,none⟩),.pointer (some ⟨v.b,0,none⟩),.pointer (some ⟨v.b,9,none⟩),ans,.slice p1 n1 c1,.slice (some ⟨w1.heap.size,0,none⟩) 1 1,.slice p2 n2 c2,.pointer (some ⟨q.br,0,none⟩)]) rfl (by simp) zq ?_ ?_
  . intro l a i o hI hl hd hb ho hod;have hi:i < 11:=by have:=(Array.getElem?_eq_some_iff.1 ho).1;rw [iW] at this;exact this
    clear hv;obtain rfl|rfl|rfl|rfl|rfl|rfl|rfl|rfl|rfl|rfl|rfl:i=0\/i=1\/i=2\/i=3\/i=4\/i=5\/i=6\/i=7\/i=8\/i=9\/i=10:=by omega
    . obtain ⟨af,p,ty,ho'⟩:=Abe;obtain rfl:=Option.some.inj (ho.symm.trans ho');have t:a.eval (.tmp 10)=.pointer (some ⟨q.br,0,none⟩):=Hq ((hI.low 10 (by decide)).trans zK);exact ⟨rfl,_,rfl,by rw [LQ _ _ (by simp)];unfold execOp;simp only [t];go_simp⟩
    . obtain ⟨af,p,ty,ho'⟩:=wO;obtain rfl:=Option.some.inj (ho.symm.trans ho');have t:=Hq (hI.val 0 _ (IB vV ho hod (by decide)) rfl);have hc:=hav l (fun h10=>absurd (I8 (j:=1) Nh hd h10 (by decide)) (by rw [hb];decide));exact ⟨rfl,_,rfl,by rw [LQ _ _ (by simp)];unfold execOp;simp only [t];go_simp⟩
    . obtain ⟨af,p,ty,ho'⟩:=yI;obtain rfl:=Option.some.inj (ho.symm.trans ho');have t:a.eval (.tmp 15)=.pointer (some ⟨v.b,0,none⟩):=Hq ((hI.low 15 (by decide)).trans Acp);exact ⟨rfl,_,rfl,by rw [LQ _ _ (by simp)];unfold execOp;simp only [t];go_simp⟩
    . obtain ⟨af,p,ty,ho'⟩:=zN;obtain rfl:=Option.some.inj (ho.symm.trans ho');have t:=Hq (hI.val 2 _ (IB rT ho hod (by decide)) rfl);exact ⟨rfl,_,rfl,by rw [LQ _ _ (by simp)];unfold execOp;simp only [t];go_simp⟩
    . obtain ⟨af,p,ty,ho'⟩:=xG;obtain rfl:=Option.some.inj (ho.symm.trans ho');have t:=Hq (hI.val 3 _ (IB uD ho hod (by decide)) rfl);exact ⟨rfl,_,rfl,by rw [LQ _ _ (by simp)];unfold execOp;simp only [t];go_simp⟩
    . obtain ⟨af,p,ty,ho'⟩:=Aan;obtain rfl:=Option.some.inj (ho.symm.trans ho');have t:=Hq (hI.val 4 _ (IB vH ho hod (by decide)) rfl);have hw0:IK GQ.drew [(6,w1),(7,w2),(8,w3),(10,w4)] l=GQ.drew:=M7 _ _ (by have n6:l[6]?≠some true:=fun h=>absurd (I8 (j:=5) gV hd h (by decide)) (by rw [hb];decide);have n7:l[7]?≠some true:=fun h=>n6 (I8 (j:=6) VK hd h (by decide));have n8:l[8]?≠some true:=fun h=>n7 (I8 (j:=7) QJ hd h (by decide));have n10:l[10]?≠some true:=fun h=>n8 (I8 (j:=8) Nh hd h (by decide));intro c w hm;simp only [List.mem_cons,Prod.mk.injEq,List.not_mem_nil,or_false] at hm;rcases hm with ⟨rfl,_⟩|⟨rfl,_⟩|⟨rfl,_⟩|⟨rfl,_⟩ <;> assumption)
      have hc:GQ.drew.cell? ⟨v.b,9,none⟩=some ans:=Ad5;refine ⟨rfl,_,rfl,?_⟩;rw [LQ _ _ (by simp),hw0];unfold execOp;simp only [t];go_simp
    . obtain ⟨af,p,ty,ho'⟩:=wU;obtain rfl:=Option.some.inj (ho.symm.trans ho');have t:=Hq (hI.val 5 _ (IB gV ho hod (by decide)) rfl);have n7:l[7]?≠some true:=fun h=>absurd (I8 (j:=6) VK hd h (by decide)) (by rw [hb];decide);have n8:l[8]?≠some true:=fun h=>n7 (I8 (j:=7) QJ hd h (by decide));have n10:l[10]?≠some true:=fun h=>n8 (I8 (j:=8) Nh hd h (by decide));have hw0:IK GQ.drew [(6,w1),(7,w2),(8,w3),(10,w4)] l=GQ.drew:=M7 _ _ (by
        intro c w hm;simp only [List.mem_cons,Prod.mk.injEq,List.not_mem_nil,or_false] at hm;rcases hm with ⟨rfl,_⟩|⟨rfl,_⟩|⟨rfl,_⟩|⟨rfl,_⟩
        . rw [hb];decide
        all_goals assumption)
      have hw1:IK GQ.drew [(6,w1),(7,w2),(8,w3),(10,w4)] (l.setIfInBounds 6 true)=w1:=K8 (c:=6) (t:=[(7,w2),(8,w3),(10,w4)]) (Array.getElem?_setIfInBounds_self_of_lt (by omega)) (by intro c w hm;simp only [List.mem_cons,Prod.mk.injEq,List.not_mem_nil,or_false] at hm;rcases hm with ⟨rfl,_⟩|⟨rfl,_⟩|⟨rfl,_⟩ <;> (rw [Array.getElem?_setIfInBounds_ne (by decide)];assumption)) [] _
      rw [hw0,hw1];refine ⟨rfl,_,rfl,?_⟩;unfold execOp;have tc:a.eval (.const (.slice none 0 0))=.slice none 0 0:=rfl;simp only [resolve,invoke,builtin,Sem.run_bind,Sem.run_pure,Result.andThen_ok,List.map_toArray,List.map_cons,List.map_nil,t,tc,r6]
    . obtain ⟨af,p,ty,ho'⟩:=Aa7;obtain rfl:=Option.some.inj (ho.symm.trans ho');have t:=Hq (hI.val 6 _ (IB VK ho hod (by decide)) rfl);have n8:l[8]?≠some true:=fun h=>absurd (I8 (j:=7) QJ hd h (by decide)) (by rw [hb];decide);have n10:l[10]?≠some true:=fun h=>n8 (I8 (j:=8) Nh hd h (by decide));have y6:l[6]?=some true:=IB VK ho hod (by decide);have hw0:IK GQ.drew [(6,w1),(7,w2),(8,w3),(10,w4)] l=w1:=K8 (c:=6) (t:=[(7,w2),(8,w3),(10,w4)]) y6 (by
        intro c w hm;simp only [List.mem_cons,Prod.mk.injEq,List.not_mem_nil,or_false] at hm;rcases hm with ⟨rfl,_⟩|⟨rfl,_⟩|⟨rfl,_⟩
        . rw [hb];decide
        all_goals assumption) [] _
      have hw1:IK GQ.drew [(6,w1),(7,w2),(8,w3),(10,w4)] (l.setIfInBounds 7 true)=w2:=K8 (c:=7) (t:=[(8,w3),(10,w4)]) (Array.getElem?_setIfInBounds_self_of_lt (by omega)) (by intro c w hm;simp only [List.mem_cons,Prod.mk.injEq,List.not_mem_nil,or_false] at hm;rcases hm with ⟨rfl,_⟩|⟨rfl,_⟩ <;> (rw [Array.getElem?_setIfInBounds_ne (by decide)];assumption)) [(6,w1)] _
      rw [hw0,hw1];refine ⟨rfl,_,rfl,?_⟩;unfold execOp;simp only [List.map_toArray,List.map_cons,List.map_nil,t];rw [← mM];go_simp
    . obtain ⟨af,p,ty,ho'⟩:=Aah;obtain rfl:=Option.some.inj (ho.symm.trans ho');have ta:=Hq (hI.val 1 _ (IB QJ ho hod (by decide)) rfl);have tb:=Hq (hI.val 7 _ (IB QJ ho hod (by decide)) rfl);have n10:l[10]?≠some true:=fun h=>absurd (I8 (j:=8) Nh hd h (by decide)) (by rw [hb];decide);have y7:l[7]?=some true:=IB QJ ho hod (by decide);have hw0:IK GQ.drew [(6,w1),(7,w2),(8,w3),(10,w4)] l=w2:=K8 (c:=7) (t:=[(8,w3),(10,w4)]) y7 (by
        intro c w hm;simp only [List.mem_cons,Prod.mk.injEq,List.not_mem_nil,or_false] at hm;rcases hm with ⟨rfl,_⟩|⟨rfl,_⟩
        . rw [hb];decide
        . assumption) [(6,w1)] _
      have hw1:IK GQ.drew [(6,w1),(7,w2),(8,w3),(10,w4)] (l.setIfInBounds 8 true)=w3:=K8 (c:=8) (t:=[(10,w4)]) (Array.getElem?_setIfInBounds_self_of_lt (by omega)) (by intro c w hm;simp only [List.mem_cons,Prod.mk.injEq,List.not_mem_nil,or_false] at hm;obtain ⟨rfl,_⟩:=hm;rw [Array.getElem?_setIfInBounds_ne (by decide)];assumption) [(6,w1),(7,w2)] _
      rw [hw0,hw1];refine ⟨rfl,_,rfl,?_⟩;unfold execOp;simp only [resolve,invoke,builtin,Sem.run_bind,Sem.run_pure,Result.andThen_ok,List.map_toArray,List.map_cons,List.map_nil,ta,tb,r8]
    . obtain ⟨af,p,ty,ho'⟩:=Abk;obtain rfl:=Option.some.inj (ho.symm.trans ho');have t:a.eval (.tmp 10)=.pointer (some ⟨q.br,0,none⟩):=Hq ((hI.low 10 (by decide)).trans zK);exact ⟨rfl,_,rfl,by rw [LQ _ _ (by simp)];unfold execOp;simp only [t];go_simp⟩
    . obtain ⟨af,p,ty,ho'⟩:=qB;obtain rfl:=Option.some.inj (ho.symm.trans ho');have ta:=Hq (hI.val 9 _ (IB Nh ho hod (by decide)) rfl);have tb:=Hq (hI.val 8 _ (IB Nh ho hod (by decide)) rfl);have y8:l[8]?=some true:=IB Nh ho hod (by decide);have hw0:IK GQ.drew [(6,w1),(7,w2),(8,w3),(10,w4)] l=w3:=K8 (c:=8) (t:=[(10,w4)]) y8 (by intro c w hm;simp only [List.mem_cons,Prod.mk.injEq,List.not_mem_nil,or_false] at hm;obtain ⟨rfl,_⟩:=hm;rw [hb];decide) [(6,w1),(7,w2)] _
      have hw1:IK GQ.drew [(6,w1),(7,w2),(8,w3),(10,w4)] (l.setIfInBounds 10 true)=w4:=K8 (c:=10) (t:=[]) (Array.getElem?_setIfInBounds_self_of_lt (by omega)) (by simp) [(6,w1),(7,w2),(8,w3)] _;rw [hw0,hw1];refine ⟨rfl,?_⟩;rw [if_pos rfl];unfold execOp;simp only [ta,tb];rw [HW4.out];go_simp
  . intro l a hI hall;obtain ⟨tm',pR⟩:=a;obtain rfl:pR=[]:=hI.ds;have hw:IK GQ.drew [(6,w1),(7,w2),(8,w3),(10,w4)] l=w4:=K8 (c:=10) (t:=[]) (hall 10 (by decide)) (by simp) [(6,w1),(7,w2),(8,w3)] _;rw [hw];obtain ⟨hK,hs0,hfin⟩:=HH.out;exact hK w4 tm' _ _ (qw hs0 hI.size hI.low) hfin
end
end
section
section
variable {Cs Sg:Type}{D:Dr G5 Cs Sg}{m:Mem Sg}{ρ:Rn}{ws:List (Ij (Wk G5 Cs))}
variable {Fin:Iw}{GR:Ig Try.prog Fin}
variable {q:RB}{Kp:Nat->Prop}{W0 W:World}{R N1 s co n nn:Nat}{σ:Sg}{left:List Int}{last:Int}{steps:List Nat}{cut Jo I6 Kh K7 LA LB u68 u69:Value}{ds:List Deferred}{K:List Item}{cs:List Frame}
variable {ov av:Value}{i:Nat}{vs:List Value}
theorem qV {tm:Array Value}(hs:Sd q co n Jo I6 Kh K7 LA LB u68 u69 tm)(hK:∀ W' tm',Sd q co n Jo I6 Kh K7 LA (.slice (some ⟨q.lg,0,none⟩) n q.lc) (.int .i64 n) (.int .i64 (0:Nat)) tm'->W'.heap=W.heap->JL (S0 Try.prog Fin GR).L (.H7 (H9 D m) ρ ws 0 false nn) (G ((base 79).at ⟨tm',ds⟩ K) cs) W') :
    JL (S0 Try.prog Fin GR).L (.H7 (H9 D m) ρ ws 0 false nn) (G ((base 79).at ⟨tm,ds⟩ (.code sD :: K)) cs) W:=by
  obtain ⟨v4,v5,Ai,Aj,Ak,Al,Am,Ao,Ap,Aq,Ar,Au,Av,Aw,Ay,Az,AA,AB,AJ,AL,AO,AP,AQ,AU,AV,AX,AY,AZ,A8,A9,Ba,Bb,Bc,Bf,Bh,Bj,Bl,Bp,Bq,Br,Bu,Bv,Bw,Bz,BD,BF,BG,BH,BI,BJ,BK,BL,BM,BQ,BR,BS,BU,BX,BZ,Ca,Cb,Cc,Ce,Cg,Ci,Cj,Ck,Cm,Co,Cq,Cr,Ct,Cu,Cw,Cx,Cy,Cz,CB,CF,CG,CJ,CK,CO,CQ,CS,CU,CV,CW,CX,rfl⟩:=hs;refine HY.Ht (S:=S0 Try.prog Fin GR) (b:=base 79) [] (by simp) (by kernel_rfl) nE (by kernel_rfl) fun GQ ha=>?_;have hh:GQ.heap=W.heap:=by obtain ⟨τ,d,rfl⟩:=ha;rfl
  have HH:=Lib.hid (And.intro hK hh);clear hK hh;dsimp only;simp only [sD,Yv,iX,QH,Try.f79];gi_wp2;obtain ⟨hK,hh⟩:=HH.out;exact hK GQ _ ⟨_,_,_,_,_,_,_,_,_,_,_,_,_,_,_,_,_,_,_,_,_,_,_,_,_,_,_,_,_,_,_,_,_,_,_,_,_,_,_,_,_,_,_,_,_,_,_,_,_,_,_,_,_,_,_,_,_,_,_,_,_,_,_,_,_,_,_,_,_,_,_,_,_,_,_,_,_,_,_,_,_,_,_,_,_,_,_,_,_,rfl⟩ hh
theorem jY (hi:i<=1000000)(hn:n<=1000000){tm:Array Value}(hs:Sd q co n Jo I6 Kh K7 LA LB (.int .i64 n) (.int .i64 i) tm)(hK:∀ W' tm',Sd q co n Jo I6 Kh K7 LA LB (.int .i64 n) (.int .i64 i) tm'->tm'[70]?=some (.bool (decide (i < n)))->W'.heap=W.heap->JL (S0 Try.prog Fin GR).L (.H7 (H9 D m) ρ ws 0 false nn) (G ((base 79).at ⟨tm',ds⟩ K) cs) W') :
    JL (S0 Try.prog Fin GR).L (.H7 (H9 D m) ρ ws 0 false nn) (G ((base 79).at ⟨tm,ds⟩ (.code tN :: K)) cs) W:=by
  obtain ⟨v4,v5,Ai,Aj,Ak,Al,Am,Ao,Ap,Aq,Ar,Au,Av,Aw,Ay,Az,AA,AB,AJ,AL,AO,AP,AQ,AU,AV,AX,AY,AZ,A8,A9,Ba,Bb,Bc,Bf,Bh,Bj,Bl,Bp,Bq,Br,Bu,Bv,Bw,Bz,BD,BF,BG,BH,BI,BJ,BK,BL,BM,BQ,BR,BS,BU,BX,BZ,Ca,Cb,Cc,Ce,Cg,Ci,Cj,Ck,Cm,Co,Cq,Cr,Ct,Cu,Cw,Cx,Cy,Cz,CB,CF,CG,CJ,CK,CO,CQ,CS,CU,CV,CW,CX,rfl⟩:=hs;refine HY.Ht (S:=S0 Try.prog Fin GR) (b:=base 79) [] (by simp) (by kernel_rfl) nE (by kernel_rfl) fun GQ ha=>?_;have hh:GQ.heap=W.heap:=by obtain ⟨τ,d,rfl⟩:=ha;rfl
  have HH:=Lib.hid (And.intro hK hh);clear hK hh;dsimp only;simp only [tN,Yv,iX,QH,Try.f79];gi_wp2;obtain ⟨hK,hh⟩:=HH.out;exact hK GQ _ ⟨_,_,_,_,_,_,_,_,_,_,_,_,_,_,_,_,_,_,_,_,_,_,_,_,_,_,_,_,_,_,_,_,_,_,_,_,_,_,_,_,_,_,_,_,_,_,_,_,_,_,_,_,_,_,_,_,_,_,_,_,_,_,_,_,_,_,_,_,_,_,_,_,_,_,_,_,_,_,_,_,_,_,_,_,_,_,_,_,_,rfl⟩ (by simp) hh
theorem uY {b:Nat}(hi:i < n)(hc:W.cell? ⟨q.lg,i,none⟩=some (.pointer (some ⟨b,0,none⟩))){tm:Array Value}(hs:Sd q co n Jo I6 Kh K7 LA (.slice (some ⟨q.lg,0,none⟩) n q.lc) (.int .i64 n) (.int .i64 i) tm)(hK:∀ W' tm',Sd q co n Jo I6 Kh (.int .i64 i) (.pointer (some ⟨b,0,none⟩)) (.slice (some ⟨q.lg,0,none⟩) n q.lc) (.int .i64 n) (.int .i64 i) tm'->W'.heap=W.heap->JL (S0 Try.prog Fin GR).L (.H7 (H9 D m) ρ ws 0 false nn) (G ((base 79).at ⟨tm',ds⟩ K) cs) W') :
    JL (S0 Try.prog Fin GR).L (.H7 (H9 D m) ρ ws 0 false nn) (G ((base 79).at ⟨tm,ds⟩ (.code uS :: K)) cs) W:=by
  obtain ⟨v4,v5,Ai,Aj,Ak,Al,Am,Ao,Ap,Aq,Ar,Au,Av,Aw,Ay,Az,AA,AB,AJ,AL,AO,AP,AQ,AU,AV,AX,AY,AZ,A8,A9,Ba,Bb,Bc,Bf,Bh,Bj,Bl,Bp,Bq,Br,Bu,Bv,Bw,Bz,BD,BF,BG,BH,BI,BJ,BK,BL,BM,BQ,BR,BS,BU,BX,BZ,Ca,Cb,Cc,Ce,Cg,Ci,Cj,Ck,Cm,Co,Cq,Cr,Ct,Cu,Cw,Cx,Cy,Cz,CB,CF,CG,CJ,CK,CO,CQ,CS,CU,CV,CW,CX,rfl⟩:=hs;refine HY.Ht (S:=S0 Try.prog Fin GR) (b:=base 79) [] (by simp) (by kernel_rfl) nE (by kernel_rfl) fun GQ ha=>?_;have hh:GQ.heap=W.heap:=by obtain ⟨τ,d,rfl⟩:=ha;rfl
  have hc1:GQ.cell? ⟨q.lg,i,none⟩=some (.pointer (some ⟨b,0,none⟩)):=by simp only [World.cell?,hh] at hc ⊢;exact hc
  clear hc;have HH:=Lib.hid (And.intro hK hh);clear hK hh;dsimp only;simp only [uS,Yv,iX,QH,Try.f79];gi_wp2;obtain ⟨hK,hh⟩:=HH.out;exact hK GQ _ ⟨_,_,_,_,_,_,_,_,_,_,_,_,_,_,_,_,_,_,_,_,_,_,_,_,_,_,_,_,_,_,_,_,_,_,_,_,_,_,_,_,_,_,_,_,_,_,_,_,_,_,_,_,_,_,_,_,_,_,_,_,_,_,_,_,_,_,_,_,_,_,_,_,_,_,_,_,_,_,_,_,_,_,_,_,_,_,_,_,_,rfl⟩ hh
theorem vo {b:Nat}(hc:W.cell? ⟨b,7,none⟩=some (.int .i64 0)){tm:Array Value}(hs:Sd q co n Jo I6 Kh K7 (.pointer (some ⟨b,0,none⟩)) LB u68 u69 tm)(hK:∀ W' tm',Sd q co n Jo I6 Kh K7 (.pointer (some ⟨b,0,none⟩)) LB u68 u69 tm'->tm'[88]?=some (.bool false)->W'.heap=W.heap->JL (S0 Try.prog Fin GR).L (.H7 (H9 D m) ρ ws 0 false nn) (G ((base 79).at ⟨tm',ds⟩ K) cs) W') :
    JL (S0 Try.prog Fin GR).L (.H7 (H9 D m) ρ ws 0 false nn) (G ((base 79).at ⟨tm,ds⟩ (.code qL :: K)) cs) W:=by
  obtain ⟨v4,v5,Ai,Aj,Ak,Al,Am,Ao,Ap,Aq,Ar,Au,Av,Aw,Ay,Az,AA,AB,AJ,AL,AO,AP,AQ,AU,AV,AX,AY,AZ,A8,A9,Ba,Bb,Bc,Bf,Bh,Bj,Bl,Bp,Bq,Br,Bu,Bv,Bw,Bz,BD,BF,BG,BH,BI,BJ,BK,BL,BM,BQ,BR,BS,BU,BX,BZ,Ca,Cb,Cc,Ce,Cg,Ci,Cj,Ck,Cm,Co,Cq,Cr,Ct,Cu,Cw,Cx,Cy,Cz,CB,CF,CG,CJ,CK,CO,CQ,CS,CU,CV,CW,CX,rfl⟩:=hs;refine HY.Ht (S:=S0 Try.prog Fin GR) (b:=base 79) [] (by simp) (by kernel_rfl) nE (by kernel_rfl) fun GQ ha=>?_;have hh:GQ.heap=W.heap:=by obtain ⟨τ,d,rfl⟩:=ha;rfl
  have hc1:GQ.cell? ⟨b,7,none⟩=some (.int .i64 0):=by simp only [World.cell?,hh] at hc ⊢;exact hc
  clear hc;have HH:=Lib.hid (And.intro hK hh);clear hK hh;dsimp only;simp only [qL,Yv,iX,QH,Try.f79];gi_wp2;obtain ⟨hK,hh⟩:=HH.out;exact hK GQ _ ⟨_,_,_,_,_,_,_,_,_,_,_,_,_,_,_,_,_,_,_,_,_,_,_,_,_,_,_,_,_,_,_,_,_,_,_,_,_,_,_,_,_,_,_,_,_,_,_,_,_,_,_,_,_,_,_,_,_,_,_,_,_,_,_,_,_,_,_,_,_,_,_,_,_,_,_,_,_,_,_,_,_,_,_,_,_,_,_,_,_,rfl⟩ (by simp) hh
theorem vK (hi:i < 1000000){tm:Array Value}(hs:Sd q co n Jo I6 Kh K7 LA LB u68 (.int .i64 i) tm)(hK:∀ W' tm',Sd q co n Jo I6 Kh K7 LA LB u68 (.int .i64 ((i+1:Nat):Int)) tm'->W'.heap=W.heap->JL (S0 Try.prog Fin GR).L (.H7 (H9 D m) ρ ws 0 false nn) (G ((base 79).at ⟨tm',ds⟩ K) cs) W') :
    JL (S0 Try.prog Fin GR).L (.H7 (H9 D m) ρ ws 0 false nn) (G ((base 79).at ⟨tm,ds⟩ (.code vW :: K)) cs) W:=by
  have hl1:(-9223372036854775808:Int)<=(i:Int)+1:=by omega
  have hl2:(i:Int)+1<=9223372036854775807:=by omega
  obtain ⟨v4,v5,Ai,Aj,Ak,Al,Am,Ao,Ap,Aq,Ar,Au,Av,Aw,Ay,Az,AA,AB,AJ,AL,AO,AP,AQ,AU,AV,AX,AY,AZ,A8,A9,Ba,Bb,Bc,Bf,Bh,Bj,Bl,Bp,Bq,Br,Bu,Bv,Bw,Bz,BD,BF,BG,BH,BI,BJ,BK,BL,BM,BQ,BR,BS,BU,BX,BZ,Ca,Cb,Cc,Ce,Cg,Ci,Cj,Ck,Cm,Co,Cq,Cr,Ct,Cu,Cw,Cx,Cy,Cz,CB,CF,CG,CJ,CK,CO,CQ,CS,CU,CV,CW,CX,rfl⟩:=hs;refine HY.Ht (S:=S0 Try.prog Fin GR) (b:=base 79) [] (by simp) (by kernel_rfl) nE (by kernel_rfl) fun GQ ha=>?_;have hh:GQ.heap=W.heap:=by obtain ⟨τ,d,rfl⟩:=ha;rfl
  have HH:=Lib.hid (And.intro hK hh);clear hK hh;dsimp only;simp only [vW,Yv,iX,QH,Try.f79];gi_wp2;obtain ⟨hK,hh⟩:=HH.out;exact hK GQ _ ⟨_,_,_,_,_,_,_,_,_,_,_,_,_,_,_,_,_,_,_,_,_,_,_,_,_,_,_,_,_,_,_,_,_,_,_,_,_,_,_,_,_,_,_,_,_,_,_,_,_,_,_,_,_,_,_,_,_,_,_,_,_,_,_,_,_,_,_,_,_,_,_,_,_,_,_,_,_,_,_,_,_,_,_,_,_,_,_,_,_,rfl⟩ hh
end
end
section
section
variable {Cs Sg:Type}{D:Dr G5 Cs Sg}{m:Mem Sg}{ρ:Rn}{ws:List (Ij (Wk G5 Cs))}
variable {Fin:Iw}{GR:Ig Try.prog Fin}
variable {q:RB}{Kp:Nat->Prop}{W0 W:World}{R N1 s co n nn:Nat}{σ:Sg}{left:List Int}{last:Int}{steps:List Nat}{cut Jo I6 Kh K7 LA LB u68 u69:Value}{ds:List Deferred}{K:List Item}{cs:List Frame}
variable {ov av:Value}{i:Nat}{vs:List Value}
theorem Oz.gather (h:Oz m ρ ws q Kp W0 R σ left last s steps cut W)(hn:∀ (i:Nat) (v:Ij (Wk G5 Cs)),ws[i]?=some v->∀ b,v.own b->∃ c e f,W.heap[b]?=some (.cells c e f))(hall:∀ (j:Nat) (u:Ij (Wk G5 Cs)),ws[j]?=some u->u.x.over=true/\u.x.out.length<=1000000):ZB m ρ ws q Kp W0 W.heap.size σ s cut (.slice none 0 0) 0 [] (.slice none 0 0) W:=
  { lay:=h.lay,row:=h.rows.row,run:=h.rows.run,res:=h.rows.res,inv:=h.inv,
     free:=fun g hg=>h.free g (hg.elim .inl fun hg=>hg.elim (fun h=>.inr (.inr (.inl h))) fun hg=>hg.elim (fun h=>.inr (.inr (.inr (.inr (.inr (.inr (.inl h))))))) fun h=>.inr (.inr (.inr (.inr (.inr (.inr (.inr h))))))),
     kept:=h.kept,own:=⟨0,World.ownsRow_nil _ _ _ _⟩,cop:=fun j v u hj _=>(by simp at hj),few:=h.few,
     low:=⟨h.lt (.inr (.inr (.inr (.inr (.inr (.inr (.inl rfl))))))),Nat.le_refl _,fun g hg=>h.sQ hg,fun j u hu=>⟨fun g hg=>(by obtain ⟨c,e,f,hc⟩:=hn j u hu g hg;exact (Array.getElem?_eq_some_iff.1 hc).1),(hall j u hu).2,(h.ov j u hu).2.bg ((h.ov j u hu).2.cur (hall j u hu).1)⟩⟩ }
theorem bJ (hn:n=ws.length)(hK:∀ W' vs av K7 LA LB u68 u69 tm',Sd q co n Jo I6 Kh K7 LA LB u68 u69 tm'->ZB m ρ ws q Kp W0 N1 σ s cut ov n vs av W'->JL (S0 Try.prog Fin GR).L (.H7 (H9 D m) ρ ws 0 false nn) (G ((base 79).at ⟨tm',ds⟩ K) cs) W') :
    ∀ (d i:Nat) (vs:List Value) (av K7 LA:Value) (W:World) (tm:Array Value),n - i=d->i<=n->ZB m ρ ws q Kp W0 N1 σ s cut ov i vs av W->Sd q co n Jo I6 Kh K7 LA (.slice (some ⟨q.lg,0,none⟩) n q.lc) (.int .i64 n) (.int .i64 i) tm->
    JL (S0 Try.prog Fin GR).L (.H7 (H9 D m) ρ ws 0 false nn) (G ((base 79).at ⟨tm,ds⟩ (.code Yv :: .inLoop Yv :: .inBlock 2 :: K)) cs) W:=by
  intro d;induction d with
  | zero=>
    intro i vs av K7 LA W tm hd hi h hs;obtain rfl:i=n:=by omega
    have Qf:=h.few;rw [Yx];refine GY stepG_seq ?_;refine jY (by omega) (by omega) hs fun W1 WX hs1 sP hw1=>?_;rw [decide_eq_false (by omega)] at sP;refine GY stepG_seq ?_;refine JL.Ho (Hq sP) ?_;refine JL.exit rfl ?_;exact hK W1 _ _ _ _ _ _ _ WX hs1 (h.alike hw1)
  | succ d ih=>
    intro i vs av K7 LA W tm hd hi h hs;have hlt:i < n:=by omega
    have Qf:=h.few;obtain ⟨v,hv⟩:∃ v,ws[i]?=some v:=⟨_,List.getElem?_eq_getElem (by omega)⟩
    rw [Yx];refine GY stepG_seq ?_;refine jY (by omega) (by omega) hs fun W1 WX hs1 sP hw1=>?_;rw [decide_eq_true hlt] at sP;have h1:=h.alike hw1;refine GY stepG_seq ?_;refine JL.Iq (Hq sP) ?_;refine GY stepG_skip ?_;refine GY stepG_seq ?_;refine GY stepG_block ?_;refine GY stepG_seq ?_;refine uY hlt (h1.row i v.b (by rw [List.getElem?_map,hv];rfl)) hs1 fun W2 wF hs2 hw2=>?_;have h2:=h1.alike hw2;refine GY stepG_seq ?_;refine uR h2 hv (by omega) hs2 fun W3 tm3 v1 av' hs3 h3=>?_;refine GY stepG_seq ?_;refine J0.know (GR:=GR) fun hKn=>?_;show JL (S0 Try.prog Fin GR).L _ _ W3;have hbg:=(Tf (D:=D) rfl hKn hv).2.1;rw [(h3.low.2.2.2 i v hv).2.2] at hbg;refine vo (b:=v.b) hbg hs3 fun W4 tm4 hs4 h88 hw4=>?_;have h4:=h3.alike hw4;refine JL.Ho (Hq h88) ?_;refine GY stepG_skip ?_;refine GY stepG_inBlock ?_
    refine vK (by omega) hs4 fun W5 tm5 hs5 hw5=>?_;have h5:=h4.alike hw5;refine GY stepG_inLoop ?_;rw [← Yx];exact ih (i+1) _ _ _ _ W5 tm5 (by omega) hlt h5 hs5
end
end
section
noncomputable def pz:Code:=match gP with | .seq c _=>c | _=>.skip
theorem oM:gP=.seq pz .ret:=rfl
section
variable {Cs Sg:Type}{D:Dr G5 Cs Sg}{m:Mem Sg}{ρ:Rn}{ws:List (Ij (Wk G5 Cs))}
variable {Fin:Iw}{GR:Ig Try.prog Fin}
variable {q:RB}{Kp:Nat->Prop}{W0 W:World}{R N1 s co n nn:Nat}{σ:Sg}{left:List Int}{last:Int}{steps:List Nat}{cut Jo I6 Kh K7 LA LB u68 u69:Value}{ds:List Deferred}{K:List Item}{cs:List Frame}
variable {ov av:Value}{i:Nat}{vs:List Value}{cf:Frame}
theorem rE {ow:Option Addr}{on oc:Nat}{cv:Bool}(h:ZB m ρ ws q Kp W0 N1 σ s (.bool cv) (.slice ow on oc) i vs av W){tm:Array Value}(hs:Sd q co n Jo I6 Kh K7 LA LB u68 u69 tm)(hK:∀ W',(∀ g,g≠q.bz->W'.heap[g]?=W.heap[g]?)->W'.heap.size=W.heap.size->JW (S0 Try.prog Fin GR).base (.H7 (H9 D m) ρ ws 0 false nn) (G (cf.finish (.agg #[av,.slice ow on oc,.int .i64 s,.bool cv])) cs) W') :
    JL (S0 Try.prog Fin GR).L (.H7 (H9 D m) ρ ws 0 false nn) (G ((base 79).at ⟨tm,[]⟩ [.code gP]) (cf :: cs)) W:=by
  obtain ⟨v4,v5,Ai,Aj,Ak,Al,Am,Ao,Ap,Aq,Ar,Au,Av,Aw,Ay,Az,AA,AB,AJ,AL,AO,AP,AQ,AU,AV,AX,AY,AZ,A8,A9,Ba,Bb,Bc,Bf,Bh,Bj,Bl,Bp,Bq,Br,Bu,Bv,Bw,Bz,BD,BF,BG,BH,BI,BJ,BK,BL,BM,BQ,BR,BS,BU,BX,BZ,Ca,Cb,Cc,Ce,Cg,Ci,Cj,Ck,Cm,Co,Cq,Cr,Ct,Cu,Cw,Cx,Cy,Cz,CB,CF,CG,CJ,CK,CO,CQ,CS,CU,CV,CW,CX,rfl⟩:=hs;obtain ⟨p1,n1,c1,rfl⟩:=ML h.own;rw [oM];refine GY stepG_seq ?_;refine HY.Ht (S:=S0 Try.prog Fin GR) (b:=base 79) [] (by simp) (by kernel_rfl) nE (by kernel_rfl) fun GQ ha=>?_;have hh:GQ.heap=W.heap:=by obtain ⟨τ,d,rfl⟩:=ha;rfl
  have h1:=h.alike hh;have a0:GQ.cell? ⟨q.br,0,none⟩=some (.slice p1 n1 c1):=by simp [World.cell?,h1.run]
  have a1:GQ.cell? ⟨q.br,1,none⟩=some (.slice ow on oc):=by simp [World.cell?,h1.run]
  have a2:GQ.cell? ⟨q.br,2,none⟩=some (.int .i64 s):=by simp [World.cell?,h1.run]
  have a3:GQ.cell? ⟨q.br,3,none⟩=some (.bool cv):=by simp [World.cell?,h1.run]
  have b0:GQ.cell? ⟨q.bz,0,none⟩=some (.slice none 0 0):=by simp [World.cell?,h1.res]
  have b1:GQ.cell? ⟨q.bz,1,none⟩=some (.slice none 0 0):=by simp [World.cell?,h1.res]
  have b2:GQ.cell? ⟨q.bz,2,none⟩=some (.int .i64 0):=by simp [World.cell?,h1.res]
  have b3:GQ.cell? ⟨q.bz,3,none⟩=some (.bool false):=by simp [World.cell?,h1.res]
  have f0:∀ o,GQ.frozen? ⟨q.bz,o,none⟩=false:=fun o=>by simp [World.frozen?,h1.res]
  have f0':=f0 0;have f1':=f0 1;have f2':=f0 2;have f3':=f0 3;have HH:=Lib.hid (And.intro hK (And.intro hh h1));clear hK hh h1 h;dsimp only;simp only [pz,gP,iX,QH,Try.f79];gi_wp2;obtain ⟨hK,hh,h1⟩:=HH.out;clear HH;generalize hW':World.setCell _ _ _=W';have hoth:∀ g,g≠q.bz->W'.heap[g]?=W.heap[g]?:=fun g hg=>by rw [← hW',← hh];simp [World.setCell,Array.getElem?_modify,Ne.symm hg]
  have hrow:W'.heap[q.bz]?=some (.cells #[.slice p1 n1 c1,.slice ow on oc,.int .i64 s,.bool cv] 63 (0,0)):=by rw [← hW'];have:=h1.res;simp [World.setCell,Array.getElem?_modify,this]
  have hsz:W'.heap.size=W.heap.size:=by rw [← hW',← hh];simp [World.setCell]
  clear hW';show JL (S0 Try.prog Fin GR).L _ (G ((base 79).at ⟨_,[]⟩ [.code .ret]) (cf :: cs)) W';refine GY stepG_ret' ?_;refine JW.returns (S:=S0 Try.prog Fin GR) Try.func79 (v:=.agg #[.slice p1 n1 c1,.slice ow on oc,.int .i64 s,.bool cv]) (fun Jj ha2=>?_) (hK W' hoth hsz);have PS:Jj.heap=W'.heap:=by obtain ⟨τ,d,rfl⟩:=ha2;rfl
  have d0:Jj.cell? ⟨q.bz,0,none⟩=some (.slice p1 n1 c1):=by simp [World.cell?,PS,hrow]
  have d1:Jj.cell? ⟨q.bz,1,none⟩=some (.slice ow on oc):=by simp [World.cell?,PS,hrow]
  have d2:Jj.cell? ⟨q.bz,2,none⟩=some (.int .i64 s):=by simp [World.cell?,PS,hrow]
  have d3:Jj.cell? ⟨q.bz,3,none⟩=some (.bool cv):=by simp [World.cell?,PS,hrow]
  clear PS hrow hoth hsz hh h1 hK a0 a1 a2 a3 b0 b1 b2 b3 f0 f0' f1' f2' f3';simp [results,Try.results79,go_sem,Frame.at, *]
end
end
section
theorem iN (v:Value)(n:Nat):madeCells #[v] n=(List.replicate n v).toArray:=by refine Array.ext (by simp [size_madeCells]) fun i h1 h2=>?_;simp [madeCells,Nat.mod_one]
theorem jf:∀ g∈[105,119],@Lets (Host.only 79) Try.prog g:=fun g hg=>by
  simp only [List.mem_cons,List.not_mem_nil,or_false] at hg;rcases hg with rfl|rfl
  . exact ⟨by kernel_rfl,.inl ⟨_,_,Try.func105,by kernel_rfl,rfl,by kernel_rfl⟩⟩
  . exact ⟨by kernel_rfl,.inl ⟨_,_,Try.func119,by kernel_rfl,rfl,by kernel_rfl⟩⟩
section
variable {Cs Sg:Type}{M:Md (Wk G5 Cs) Sg}{ρ:Rn}{ws:List (Ij (Wk G5 Cs))}
variable {Fin:Iw}{GR:Ig Try.prog Fin}
variable {W:World}{nn:Nat}{ds:List Deferred}{K:List Item}{cs:List Frame}
variable {v0 v1 v2 v3 v4 v5 v6 v7 v8 v9 Aa Ab Ac Ae Af Ah Ai Aj Ak Al Am Ao Ap Aq Ar Au Av Aw Ay Az AA AB AJ AL AO AP AQ AU AV AX AY AZ A8 A9 Ba Bb Bc Bf Bh Bj Bl Bp Bq Br Bu Bv Bw Bz BD BF BG BH BI BJ BK BL BM BN BO BP BQ BR BS BU BX BZ Ca Cb Cc Ce Cg Ci Cj Ck Cm Co Cq Cr Ct Cu Cw Cx Cy Cz CB CF CG CJ CK CO CQ CS CU CV CW CX:Value}{wa ta ya:Option Addr}{wn wc tn tc yc:Nat}{u:Int}
theorem Abi (hK:∀ W',W'.heap=(W.heap.push (.cells #[.slice wa wn wc,.slice ta tn tc,.slice ya 0 yc,.int .i64 u] 59 (0,0))).push (.cells #[.slice none 0 0,.slice none 0 0,.int .i64 0,.bool false] 63 (0,0))->JL (S0 (X:=Wk G5 Cs) (Sg:=Sg) Try.prog Fin GR).L (.H7 M ρ ws 0 false nn) (G ((base 79).at ⟨#[.agg #[.slice wa wn wc,.slice ta tn tc,.slice ya 0 yc,.int .i64 u],v1,v2,.pointer (some ⟨W.heap.size,0,none⟩),v4,v5,.pointer (some ⟨W.heap.size+1,0,none⟩),v7,v8,v9,Aa,Ab,Ac,Ae,Af,Ah,Ai,Aj,Ak,Al,Am,Ao,Ap,Aq,Ar,Au,Av,Aw,Ay,Az,AA,AB,AJ,AL,AO,AP,AQ,AU,AV,AX,AY,AZ,A8,A9,Ba,Bb,Bc,Bf,Bh,Bj,Bl,Bp,Bq,Br,Bu,Bv,Bw,Bz,BD,BF,BG,BH,BI,BJ,BK,BL,BM,BN,BO,BP,BQ,BR,BS,BU,BX,BZ,Ca,Cb,Cc,Ce,Cg,Ci,Cj,Ck,Cm,Co,Cq,Cr,Ct,Cu,Cw,Cx,Cy,Cz,CB,CF,CG,CJ,CK,CO,CQ,CS,CU,CV,CW,CX],ds⟩ K) cs) W') :
    JL (S0 (X:=Wk G5 Cs) (Sg:=Sg) Try.prog Fin GR).L (.H7 M ρ ws 0 false nn) (G ((base 79).at ⟨#[.agg #[.slice wa wn wc,.slice ta tn tc,.slice ya 0 yc,.int .i64 u],v1,v2,v3,v4,v5,v6,v7,v8,v9,Aa,Ab,Ac,Ae,Af,Ah,Ai,Aj,Ak,Al,Am,Ao,Ap,Aq,Ar,Au,Av,Aw,Ay,Az,AA,AB,AJ,AL,AO,AP,AQ,AU,AV,AX,AY,AZ,A8,A9,Ba,Bb,Bc,Bf,Bh,Bj,Bl,Bp,Bq,Br,Bu,Bv,Bw,Bz,BD,BF,BG,BH,BI,BJ,BK,BL,BM,BN,BO,BP,BQ,BR,BS,BU,BX,BZ,Ca,Cb,Cc,Ce,Cg,Ci,Cj,Ck,Cm,Co,Cq,Cr,Ct,Cu,Cw,Cx,Cy,Cz,CB,CF,CG,CJ,CK,CO,CQ,CS,CU,CV,CW,CX],ds⟩ (.code pd0 :: K)) cs) W:=by
  refine HY.Ht (S:=(S0 (X:=Wk G5 Cs) (Sg:=Sg) Try.prog Fin GR)) (b:=base 79) [] (by simp) (by kernel_rfl) nE (by kernel_rfl) fun GQ ha=>?_;have hh:GQ.heap=W.heap:=by obtain ⟨τ,d,rfl⟩:=ha;rfl
  have HH:=Lib.hid (And.intro hK hh);clear hK hh;dsimp only;simp only [pd0,QH,Try.f79];gi_wp2;obtain ⟨hK,hh⟩:=HH.out;clear HH;rw [← hh] at hK;exact hK _ rfl
theorem Abn {b:Nat}(hc:W.cell? ⟨b,3,none⟩=some (.int .i64 u))(hK:∀ W' ED EF,W'.heap=W.heap->JL (S0 (X:=Wk G5 Cs) (Sg:=Sg) Try.prog Fin GR).L (.H7 M ρ ws 0 false nn) (G ((base 79).at ⟨#[v0,v1,v2,.pointer (some ⟨b,0,none⟩),v4,v5,v6,.int .i64 u,v8,v9,Aa,Ab,Ac,Ae,Af,Ah,ED,EF,Ak,Al,Am,Ao,Ap,Aq,Ar,Au,Av,Aw,Ay,Az,AA,AB,AJ,AL,AO,AP,AQ,AU,AV,AX,AY,AZ,A8,A9,Ba,Bb,Bc,Bf,Bh,Bj,Bl,Bp,Bq,Br,Bu,Bv,Bw,Bz,BD,BF,BG,BH,BI,BJ,BK,BL,BM,BN,BO,BP,BQ,BR,BS,BU,BX,BZ,Ca,Cb,Cc,Ce,Cg,Ci,Cj,Ck,Cm,Co,Cq,Cr,Ct,Cu,Cw,Cx,Cy,Cz,CB,CF,CG,CJ,CK,CO,CQ,CS,CU,CV,CW,CX],ds⟩ K) cs) W') :
    JL (S0 (X:=Wk G5 Cs) (Sg:=Sg) Try.prog Fin GR).L (.H7 M ρ ws 0 false nn) (G ((base 79).at ⟨#[v0,v1,v2,.pointer (some ⟨b,0,none⟩),v4,v5,v6,v7,v8,v9,Aa,Ab,Ac,Ae,Af,Ah,Ai,Aj,Ak,Al,Am,Ao,Ap,Aq,Ar,Au,Av,Aw,Ay,Az,AA,AB,AJ,AL,AO,AP,AQ,AU,AV,AX,AY,AZ,A8,A9,Ba,Bb,Bc,Bf,Bh,Bj,Bl,Bp,Bq,Br,Bu,Bv,Bw,Bz,BD,BF,BG,BH,BI,BJ,BK,BL,BM,BN,BO,BP,BQ,BR,BS,BU,BX,BZ,Ca,Cb,Cc,Ce,Cg,Ci,Cj,Ck,Cm,Co,Cq,Cr,Ct,Cu,Cw,Cx,Cy,Cz,CB,CF,CG,CJ,CK,CO,CQ,CS,CU,CV,CW,CX],ds⟩ (.code pd1 :: K)) cs) W:=by
  refine HY.Ht (S:=(S0 (X:=Wk G5 Cs) (Sg:=Sg) Try.prog Fin GR)) (b:=base 79) [] (by simp) (by kernel_rfl) nE (by kernel_rfl) fun GQ ha=>?_;have hh:GQ.heap=W.heap:=by obtain ⟨τ,d,rfl⟩:=ha;rfl
  have hc1:GQ.cell? ⟨b,3,none⟩=some (.int .i64 u):=by simp only [World.cell?,hh] at hc ⊢;exact hc
  clear hc;have HH:=Lib.hid (And.intro hK hh);clear hK hh;dsimp only;simp only [pd1,QH,Try.f79];gi_wp2;obtain ⟨hK,hh⟩:=HH.out;exact hK GQ _ _ hh
theorem yh (hu:0<=u)(hK:∀ W' EG EH,W'.heap=W.heap->JL (S0 (X:=Wk G5 Cs) (Sg:=Sg) Try.prog Fin GR).L (.H7 M ρ ws 0 false nn) (G ((base 79).at ⟨#[v0,v1,v2,v3,v4,v5,v6,.int .i64 ((if u=0 then 20000 else u.toNat:Nat):Int),v8,v9,Aa,Ab,Ac,Ae,Af,Ah,Ai,Aj,EG,EH,Am,Ao,Ap,Aq,Ar,Au,Av,Aw,Ay,Az,AA,AB,AJ,AL,AO,AP,AQ,AU,AV,AX,AY,AZ,A8,A9,Ba,Bb,Bc,Bf,Bh,Bj,Bl,Bp,Bq,Br,Bu,Bv,Bw,Bz,BD,BF,BG,BH,BI,BJ,BK,BL,BM,BN,BO,BP,BQ,BR,BS,BU,BX,BZ,Ca,Cb,Cc,Ce,Cg,Ci,Cj,Ck,Cm,Co,Cq,Cr,Ct,Cu,Cw,Cx,Cy,Cz,CB,CF,CG,CJ,CK,CO,CQ,CS,CU,CV,CW,CX],ds⟩ K) cs) W') :
    JL (S0 (X:=Wk G5 Cs) (Sg:=Sg) Try.prog Fin GR).L (.H7 M ρ ws 0 false nn) (G ((base 79).at ⟨#[v0,v1,v2,v3,v4,v5,v6,.int .i64 u,v8,v9,Aa,Ab,Ac,Ae,Af,Ah,Ai,Aj,Ak,Al,Am,Ao,Ap,Aq,Ar,Au,Av,Aw,Ay,Az,AA,AB,AJ,AL,AO,AP,AQ,AU,AV,AX,AY,AZ,A8,A9,Ba,Bb,Bc,Bf,Bh,Bj,Bl,Bp,Bq,Br,Bu,Bv,Bw,Bz,BD,BF,BG,BH,BI,BJ,BK,BL,BM,BN,BO,BP,BQ,BR,BS,BU,BX,BZ,Ca,Cb,Cc,Ce,Cg,Ci,Cj,Ck,Cm,Co,Cq,Cr,Ct,Cu,Cw,Cx,Cy,Cz,CB,CF,CG,CJ,CK,CO,CQ,CS,CU,CV,CW,CX],ds⟩ (.code pd2 :: K)) cs) W:=by
  refine HY.Ht (S:=(S0 (X:=Wk G5 Cs) (Sg:=Sg) Try.prog Fin GR)) (b:=base 79) [] (by simp) (by kernel_rfl) nE (by kernel_rfl) fun GQ ha=>?_;have hh:GQ.heap=W.heap:=by obtain ⟨τ,d,rfl⟩:=ha;rfl
  have HH:=Lib.hid (And.intro hK hh);clear hK hh;dsimp only;simp only [pd2,QH,Try.f79];by_cases hu0:u=0
  . subst hu0;gi_wp2;obtain ⟨hK,hh⟩:=HH.out;exact hK GQ _ _ hh
  . have g1:((u:Int) == 0)=false:=by simpa using hu0
    gi_wp2;obtain ⟨hK,hh⟩:=HH.out;have e:((if u=0 then 20000 else u.toNat:Nat):Int)=u:=by rw [if_neg hu0];omega
    rw [e] at hK;exact hK GQ _ _ hh
theorem yP {b:Nat}{turns:List Int}(hc:W.cell? ⟨b,1,none⟩=some (.slice ta tn tc))(hr:Reads W (.slice ta tn tc) (turns.map (Value.int .i64)))(hlen:turns.length<=1000000)(hK:∀ W' ob VE EI EJ EK,Vz W' 204 ob VE turns (-1)->Lm W W'->W.heap.size<=ob->(∀ k,VE.ownBlock=some k->W.heap.size<=k/\k < W'.heap.size/\∃ c e f,W'.heap[k]?=some (.cells c e f))->JL (S0 (X:=Wk G5 Cs) (Sg:=Sg) Try.prog Fin GR).L (.H7 M ρ ws 0 false nn) (G ((base 79).at ⟨#[v0,v1,v2,.pointer (some ⟨b,0,none⟩),v4,v5,v6,v7,.pointer (some ⟨ob,0,none⟩),v9,Aa,Ab,Ac,Ae,Af,Ah,Ai,Aj,Ak,Al,EI,EJ,EK,Aq,Ar,Au,Av,Aw,Ay,Az,AA,AB,AJ,AL,AO,AP,AQ,AU,AV,AX,AY,AZ,A8,A9,Ba,Bb,Bc,Bf,Bh,Bj,Bl,Bp,Bq,Br,Bu,Bv,Bw,Bz,BD,BF,BG,BH,BI,BJ,BK,BL,BM,BN,BO,BP,BQ,BR,BS,BU,BX,BZ,Ca,Cb,Cc,Ce,Cg,Ci,Cj,Ck,Cm,Co,Cq,Cr,Ct,Cu,Cw,Cx,Cy,Cz,CB,CF,CG,CJ,CK,CO,CQ,CS,CU,CV,CW,CX],ds⟩ K) cs) W') :
    JL (S0 (X:=Wk G5 Cs) (Sg:=Sg) Try.prog Fin GR).L (.H7 M ρ ws 0 false nn) (G ((base 79).at ⟨#[v0,v1,v2,.pointer (some ⟨b,0,none⟩),v4,v5,v6,v7,v8,v9,Aa,Ab,Ac,Ae,Af,Ah,Ai,Aj,Ak,Al,Am,Ao,Ap,Aq,Ar,Au,Av,Aw,Ay,Az,AA,AB,AJ,AL,AO,AP,AQ,AU,AV,AX,AY,AZ,A8,A9,Ba,Bb,Bc,Bf,Bh,Bj,Bl,Bp,Bq,Br,Bu,Bv,Bw,Bz,BD,BF,BG,BH,BI,BJ,BK,BL,BM,BN,BO,BP,BQ,BR,BS,BU,BX,BZ,Ca,Cb,Cc,Ce,Cg,Ci,Cj,Ck,Cm,Co,Cq,Cr,Ct,Cu,Cw,Cx,Cy,Cz,CB,CF,CG,CJ,CK,CO,CQ,CS,CU,CV,CW,CX],ds⟩ (.code pd4 :: K)) cs) W:=by
  refine HY.Ht (S:=(S0 (X:=Wk G5 Cs) (Sg:=Sg) Try.prog Fin GR)) (b:=base 79) [105,119] jf (by kernel_rfl) nE (by kernel_rfl) fun GQ ha=>?_;have hh:GQ.heap=W.heap:=by obtain ⟨τ,d,rfl⟩:=ha;rfl
  have hc1:GQ.cell? ⟨b,1,none⟩=some (.slice ta tn tc):=by simp only [World.cell?,hh] at hc ⊢;exact hc
  have hr1:Reads GQ (.slice ta tn tc) (turns.map (Value.int .i64)):=hr.same fun k _ _=>by rw [hh]
  have HR:=Lib.hid (And.intro hr1 hlen);clear hc hr hr1 hlen;have HH:=Lib.hid (And.intro hK hh);clear hK hh;dsimp only;simp only [pd4,QH,Try.f79];gi_wp2_with (gi_at_call 105;refine (vD _ turns _ HR.out.1 (by have:=HR.out.2;omega)).mono ?_;rintro e w1 ⟨ob,VE,rfl,ho1,hb1,QG,hol⟩)
  obtain ⟨hK,hh⟩:=HH.out;refine hK w1 ob _ _ _ _ ho1 ((Lm.refl W).alike hh |>.below hb1 (by rw [hh];exact Nat.le_refl _)) (by rw [hh] at QG;exact QG) (fun k hk=>by have:=hol k hk;rw [hh] at this;exact this)
theorem zZ {pg:Option Addr}{n lc:Nat}(hn:n<=1000)(hK:∀ W' EL EM EN,W'.heap=W.heap.push (.cells (List.replicate n (Value.int .i64 0)).toArray 3 (0,0))->JL (S0 (X:=Wk G5 Cs) (Sg:=Sg) Try.prog Fin GR).L (.H7 M ρ ws 0 false nn) (G ((base 79).at ⟨#[v0,.slice pg n lc,v2,v3,v4,v5,v6,v7,v8,.slice (some ⟨W.heap.size,0,none⟩) n n,Aa,Ab,Ac,Ae,Af,Ah,Ai,Aj,Ak,Al,Am,Ao,Ap,EL,EM,EN,Av,Aw,Ay,Az,AA,AB,AJ,AL,AO,AP,AQ,AU,AV,AX,AY,AZ,A8,A9,Ba,Bb,Bc,Bf,Bh,Bj,Bl,Bp,Bq,Br,Bu,Bv,Bw,Bz,BD,BF,BG,BH,BI,BJ,BK,BL,BM,BN,BO,BP,BQ,BR,BS,BU,BX,BZ,Ca,Cb,Cc,Ce,Cg,Ci,Cj,Ck,Cm,Co,Cq,Cr,Ct,Cu,Cw,Cx,Cy,Cz,CB,CF,CG,CJ,CK,CO,CQ,CS,CU,CV,CW,CX],ds⟩ K) cs) W') :
    JL (S0 (X:=Wk G5 Cs) (Sg:=Sg) Try.prog Fin GR).L (.H7 M ρ ws 0 false nn) (G ((base 79).at ⟨#[v0,.slice pg n lc,v2,v3,v4,v5,v6,v7,v8,v9,Aa,Ab,Ac,Ae,Af,Ah,Ai,Aj,Ak,Al,Am,Ao,Ap,Aq,Ar,Au,Av,Aw,Ay,Az,AA,AB,AJ,AL,AO,AP,AQ,AU,AV,AX,AY,AZ,A8,A9,Ba,Bb,Bc,Bf,Bh,Bj,Bl,Bp,Bq,Br,Bu,Bv,Bw,Bz,BD,BF,BG,BH,BI,BJ,BK,BL,BM,BN,BO,BP,BQ,BR,BS,BU,BX,BZ,Ca,Cb,Cc,Ce,Cg,Ci,Cj,Ck,Cm,Co,Cq,Cr,Ct,Cu,Cw,Cx,Cy,Cz,CB,CF,CG,CJ,CK,CO,CQ,CS,CU,CV,CW,CX],ds⟩ (.code pd5 :: K)) cs) W:=by
  refine HY.Ht (S:=(S0 (X:=Wk G5 Cs) (Sg:=Sg) Try.prog Fin GR)) (b:=base 79) [] (by simp) (by kernel_rfl) nE (by kernel_rfl) fun GQ ha=>?_;have hh:GQ.heap=W.heap:=by obtain ⟨τ,d,rfl⟩:=ha;rfl
  obtain ⟨i0,hi,hz0,hz1,hz2⟩:=info_parts V3;have hmk:∀ wx:World,(Instr.makeSlice 29 (.int .i64 n) (.int .i64 n)).run Try.prog wx=.ok (.slice (some ⟨wx.heap.size,0,none⟩) n n) (wx.alloc (.cells (madeCells #[.int .i64 0] n) 3)):=fun wx=>by
    have:=run_makeSlice (P:=Try.prog) (w:=wx) 29 3 i0 (.int .i64 0) Try.underlying29 hi hz0 .i64 .i64 n n (by omega) (Int.le_refl _) (by rw [hz1];simp;omega) (by rw [hz2];omega) (by omega);rw [hz1,show (Value.int .i64 0).cells=#[.int .i64 0] from rfl] at this
    simpa using this
  have HH:=Lib.hid (And.intro hK hh);clear hK hh;dsimp only;simp only [pd5,QH,Try.f79];gi_wp2;obtain ⟨hK,hh⟩:=HH.out;clear HH;rw [← hh] at hK;exact hK _ _ _ _ (by rw [← iN];rfl)
theorem xu (hK:∀ W',W'.heap=W.heap.push (.cells #[.slice none 0 0,.slice none 0 0,.int .i64 0,.bool false] 63 (0,0))->JL (S0 (X:=Wk G5 Cs) (Sg:=Sg) Try.prog Fin GR).L (.H7 M ρ ws 0 false nn) (G ((base 79).at ⟨#[v0,v1,v2,v3,v4,v5,v6,v7,v8,v9,.pointer (some ⟨W.heap.size,0,none⟩),Ab,Ac,Ae,Af,Ah,Ai,Aj,Ak,Al,Am,Ao,Ap,Aq,Ar,Au,Av,Aw,Ay,Az,AA,AB,AJ,AL,AO,AP,AQ,AU,AV,AX,AY,AZ,A8,A9,Ba,Bb,Bc,Bf,Bh,Bj,Bl,Bp,Bq,Br,Bu,Bv,Bw,Bz,BD,BF,BG,BH,BI,BJ,BK,BL,BM,BN,BO,BP,BQ,BR,BS,BU,BX,BZ,Ca,Cb,Cc,Ce,Cg,Ci,Cj,Ck,Cm,Co,Cq,Cr,Ct,Cu,Cw,Cx,Cy,Cz,CB,CF,CG,CJ,CK,CO,CQ,CS,CU,CV,CW,CX],ds⟩ K) cs) W') :
    JL (S0 (X:=Wk G5 Cs) (Sg:=Sg) Try.prog Fin GR).L (.H7 M ρ ws 0 false nn) (G ((base 79).at ⟨#[v0,v1,v2,v3,v4,v5,v6,v7,v8,v9,Aa,Ab,Ac,Ae,Af,Ah,Ai,Aj,Ak,Al,Am,Ao,Ap,Aq,Ar,Au,Av,Aw,Ay,Az,AA,AB,AJ,AL,AO,AP,AQ,AU,AV,AX,AY,AZ,A8,A9,Ba,Bb,Bc,Bf,Bh,Bj,Bl,Bp,Bq,Br,Bu,Bv,Bw,Bz,BD,BF,BG,BH,BI,BJ,BK,BL,BM,BN,BO,BP,BQ,BR,BS,BU,BX,BZ,Ca,Cb,Cc,Ce,Cg,Ci,Cj,Ck,Cm,Co,Cq,Cr,Ct,Cu,Cw,Cx,Cy,Cz,CB,CF,CG,CJ,CK,CO,CQ,CS,CU,CV,CW,CX],ds⟩ (.code pd6 :: K)) cs) W:=by
  refine HY.Ht (S:=(S0 (X:=Wk G5 Cs) (Sg:=Sg) Try.prog Fin GR)) (b:=base 79) [] (by simp) (by kernel_rfl) nE (by kernel_rfl) fun GQ ha=>?_;have hh:GQ.heap=W.heap:=by obtain ⟨τ,d,rfl⟩:=ha;rfl
  have HH:=Lib.hid (And.intro hK hh);clear hK hh;dsimp only;simp only [pd6,QH,Try.f79];gi_wp2;obtain ⟨hK,hh⟩:=HH.out;clear HH;rw [← hh] at hK;exact hK _ rfl
end
end
end Go.Proofs.Ytkdhnbcdbnpmhaa
