/-
  Part 28 of the proof that CellMeets returns true, and leaves its arguments as they were, for every input whose reading is of bulk at most 1048576. No further condition.
-/
import Derived.Test.YticecinjcajmcaaR00
import Derived.Test.YticecinjcajmcaaR12
import Derived.Test.YticecinjcajmcaaR26
import Derived.Test.YticecinjcajmcaaR27
set_option linter.unusedVariables false
set_option linter.unusedSectionVars false
set_option linter.unusedSimpArgs false
set_option maxHeartbeats 4000000
noncomputable section
namespace Go.Proofs.Yticecinjcajmcaa
open Go Go.Conc Go.LT Go.LC Go.LK Go.RowKit
open Go.ConcN (WgLive)
open BA TU
section
def Hu:Array Oper:=match jV with | .region _ ops _=>ops | _=>#[]
theorem gW:jV=.region 20 Hu true:=rfl
theorem yh:∃ (af:Array Edge) (p:String) (ty:TypeId),Hu[0]?=some ⟨some 89,.fieldAddr 31 (.tmp 10) 1,ty,p,af,none⟩:=⟨_,_,_,rfl⟩
theorem uQ:∃ (af:Array Edge) (p:String) (ty:TypeId),Hu[1]?=some ⟨some 90,.load 29 (.tmp 89),ty,p,af,none⟩:=⟨_,_,_,rfl⟩
theorem wV:∃ (af:Array Edge) (p:String) (ty:TypeId),Hu[2]?=some ⟨some 91,.move (.tmp 14),ty,p,af,none⟩:=⟨_,_,_,rfl⟩
theorem uf:∃ (af:Array Edge) (p:String) (ty:TypeId),Hu[3]?=some ⟨some 92,.move (.tmp 15),ty,p,af,none⟩:=⟨_,_,_,rfl⟩
theorem wH:∃ (af:Array Edge) (p:String) (ty:TypeId),Hu[4]?=some ⟨some 93,.nilCheck (.tmp 92),ty,p,af,none⟩:=⟨_,_,_,rfl⟩
theorem xE:∃ (af:Array Edge) (p:String) (ty:TypeId),Hu[5]?=some ⟨some 94,.fieldAddr 94 (.tmp 93) 7,ty,p,af,none⟩:=⟨_,_,_,rfl⟩
theorem vP:∃ (af:Array Edge) (p:String) (ty:TypeId),Hu[6]?=some ⟨some 95,.load 3 (.tmp 94),ty,p,af,none⟩:=⟨_,_,_,rfl⟩
theorem tT:∃ (af:Array Edge) (p:String) (ty:TypeId),Hu[7]?=some ⟨some 96,.move (.tmp 15),ty,p,af,none⟩:=⟨_,_,_,rfl⟩
theorem yG:∃ (af:Array Edge) (p:String) (ty:TypeId),Hu[8]?=some ⟨some 97,.nilCheck (.tmp 96),ty,p,af,none⟩:=⟨_,_,_,rfl⟩
theorem xR:∃ (af:Array Edge) (p:String) (ty:TypeId),Hu[9]?=some ⟨some 98,.fieldAddr 94 (.tmp 97) 8,ty,p,af,none⟩:=⟨_,_,_,rfl⟩
theorem nT:∃ (af:Array Edge) (p:String) (ty:TypeId),Hu[10]?=some ⟨some 99,.load 3 (.tmp 98),ty,p,af,none⟩:=⟨_,_,_,rfl⟩
theorem rM:∃ (af:Array Edge) (p:String) (ty:TypeId),Hu[11]?=some ⟨some 100,.build 131 #[(0,.tmp 91),(1,.tmp 95),(2,.tmp 99)],ty,p,af,none⟩:=⟨_,_,_,rfl⟩
theorem nU:∃ (af:Array Edge) (p:String) (ty:TypeId),Hu[12]?=some ⟨some 101,.buildSlice 29 1 #[(0,.tmp 100)],ty,p,af,none⟩:=⟨_,_,_,rfl⟩
theorem oP:∃ (af:Array Edge) (p:String) (ty:TypeId),Hu[13]?=some ⟨some 102,.call { callee:=.builtin .append,args:=#[.tmp 90,.tmp 101],argTypes:=#[29,29] },29,p,af,none⟩:=⟨_,_,29,rfl⟩
theorem mZ:∃ (af:Array Edge) (p:String) (ty:TypeId),Hu[14]?=some ⟨some 103,.fieldAddr 31 (.tmp 10) 1,ty,p,af,none⟩:=⟨_,_,_,rfl⟩
theorem mO:∃ (af:Array Edge) (p:String) (ty:TypeId),Hu[15]?=some ⟨none,.store 29 (.tmp 103) (.tmp 102),ty,p,af,none⟩:=⟨_,_,_,rfl⟩
theorem qo:(Hu[1]?).map EM=some [0]:=by kernel_rfl
theorem nW:(Hu[4]?).map EM=some [3]:=by kernel_rfl
theorem pG:(Hu[5]?).map EM=some [4]:=by kernel_rfl
theorem oZ:(Hu[6]?).map EM=some [5]:=by kernel_rfl
theorem pJ:(Hu[8]?).map EM=some [7]:=by kernel_rfl
theorem lN:(Hu[9]?).map EM=some [8]:=by kernel_rfl
theorem iP:(Hu[10]?).map EM=some [9]:=by kernel_rfl
theorem NT:(Hu[11]?).map EM=some [2,6,10]:=by kernel_rfl
theorem TL:(Hu[12]?).map EM=some [11]:=by kernel_rfl
theorem K5:(Hu[13]?).map EM=some [1,12]:=by kernel_rfl
theorem Ke:(Hu[15]?).map EM=some [14,13,13,0,1,2,3,4,5,6,7,8,9,10,11,12,13]:=by kernel_rfl
theorem Zn:Hu.size=16:=by kernel_rfl
theorem jZ (i:Nat)(o:Oper)(ho:Hu[i]?=some o):∀ e∈o.after,e.on < i:=by
  have h:(Hu.toList.zipIdx.all fun x=>x.1.after.all fun e=>decide (e.on < x.2))=true:=by kernel_rfl
  rw [List.all_eq_true] at h;have h1:=h (o,i) (by rw [List.mem_zipIdx_iff_getElem?];simpa using ho);simp only [Array.all_eq_true'] at h1;exact fun e he=>of_decide_eq_true (h1 e he)
theorem wL (i:Nat)(o:Oper)(ho:Hu[i]?=some o):o.guard=none/\o.dst=if i=15 then none else some (89+i):=by
  have h:(Hu.toList.zipIdx.all fun x=>x.1.guard.isNone && x.1.dst == (if x.2=15 then none else some (89+x.2)))=true:=by kernel_rfl
  rw [List.all_eq_true] at h;have h1:=h (o,i) (by rw [List.mem_zipIdx_iff_getElem?];simpa using ho);simp only [Bool.and_eq_true,Option.isNone_iff_eq_none,beq_iff_eq] at h1;exact h1
theorem cK (k bg ow:Nat)(w:World):(Instr.build 131 #[(0,.int .i64 k),(1,.int .i64 bg),(2,.int .i64 ow)]).run Try.prog w=.ok (.agg #[.int .i64 k,.int .i64 bg,.int .i64 ow]) w:=run_build w _ _ _ zKR
theorem Wz (w:World)(a b c:Value)(e:TypeId):∀ (j:Nat) (u:Value),[a,b,c][j]?=some u->(w.alloc (.cells #[a,b,c] e)).cell? ((⟨w.heap.size,0,none⟩:Addr).add j)=some u:=fun j u hj=>by
  rw [Addr.add_lit];have:=heap_alloc_new w (.cells #[a,b,c] e);simp only [World.cell?];rw [this]
  simpa using hj
section
variable {Cs Sg:Type}{D:Dr Ef Cs Sg}{m:Mem Sg}{ρ:Rn}{ws:List (EK (Wk Ef Cs))}
variable {Fin:FE}{Ea:E5 Try.prog Fin}
variable {q:OI}{Kp:Nat->Prop}{W0 W:World}{N1 s co n nn:Nat}{σ:Sg}{left:List Int}{last:Int}{steps:List Nat}{cut FU FC Gv Im IY Iu u68 u69:Value}{ds:List Deferred}{K:List Item}{cs:List Frame}
variable {ov:rU}{av:Value}{i:Nat}{vs:List Value}
theorem nX (h:UW m ρ ws q Kp W0 N1 σ s cut ov i vs av W){v:EK (Wk Ef Cs)}{k bg ow:Nat}(sW:W.cell? ⟨v.b,7,none⟩=some (.int .i64 bg))(uD:W.cell? ⟨v.b,8,none⟩=some (.int .i64 ow))(hon:ov.os.length<=1000)(hcu:∀ j,j < vs.length->∃ u,ws[j]?=some u){tm:Array Value}(hs:Sd q co n FU FC Gv (.int .i64 k) (.pointer (some ⟨v.b,0,none⟩)) Iu u68 u69 tm)(hK:∀ W' tm' QC,Sd q co n FU FC Gv (.int .i64 k) (.pointer (some ⟨v.b,0,none⟩)) Iu u68 u69 tm'->UW m ρ ws q Kp W0 N1 σ s cut ⟨QC,ov.os ++ [(k,bg,ow)]⟩ i vs av W'->JL (S0 Try.prog Fin Ea).L (.Ev (Eu D m) ρ ws 0 false nn) (G ((base 34).at ⟨tm',ds⟩ K) cs) W') :
    JL (S0 Try.prog Fin Ea).L (.Ev (Eu D m) ρ ws 0 false nn) (G ((base 34).at ⟨tm,ds⟩ (.code jV :: K)) cs) W:=by
  have hlow:=h.low;have hs0:=hs;obtain ⟨v4,v5,Ai,Aj,Ak,Al,Am,Ao,Ap,Ar,Au,Av,Aw,Ay,Az,AA,AB,AJ,AL,AO,AP,AQ,AU,AV,AX,AY,AZ,A8,A9,Ba,Bb,Bc,Bf,Bh,Bj,Bl,Bp,Bq,Br,Bu,Bv,Bw,Bz,BD,BF,BG,BH,BI,BJ,BK,BL,BM,BN,BR,BS,BU,BX,BZ,Ca,Cb,Cc,Ce,Cg,Ci,Cj,Ck,Cm,Co,Cq,Cr,Ct,Cu,Cw,Cx,Cy,Cz,CB,CF,CG,CJ,CK,CO,CQ,CS,CU,CV,CW,CX,CY,rfl⟩:=hs
  have bO:(#[q.cv,.slice (some ⟨q.lg,0,none⟩) n q.lc,.chan (some co),.pointer (some ⟨q.bc,0,none⟩),v4,v5,.pointer (some ⟨q.bz,0,none⟩),.int .i64 q.most,.pointer (some ⟨q.ob,0,none⟩),.slice (some ⟨q.sg,0,none⟩) n n,.pointer (some ⟨q.br,0,none⟩),FU,FC,Gv,.int .i64 k,.pointer (some ⟨v.b,0,none⟩),Ai,Aj,Ak,Al,Am,Ao,Ap,Ar,Au,Av,Aw,Ay,Az,AA,AB,AJ,AL,AO,AP,AQ,AU,AV,AX,AY,AZ,A8,A9,Ba,Bb,Bc,Bf,Bh,Bj,Bl,Bp,Bq,Br,Bu,Bv,Bw,Bz,BD,BF,BG,BH,BI,BJ,BK,BL,BM,BN,Iu,u68,u69,BR,BS,BU,BX,BZ,Ca,Cb,Cc,Ce,Cg,Ci,Cj,Ck,Cm,Co,Cq,Cr,Ct,Cu,Cw,Cx,Cy,Cz,CB,CF,CG,CJ,CK,CO,CQ,CS,CU,CV,CW,CX,CY]:Array Value)[10]?=some (.pointer (some ⟨q.br,0,none⟩)):=rfl
  have fH:(#[q.cv,.slice (some ⟨q.lg,0,none⟩) n q.lc,.chan (some co),.pointer (some ⟨q.bc,0,none⟩),v4,v5,.pointer (some ⟨q.bz,0,none⟩),.int .i64 q.most,.pointer (some ⟨q.ob,0,none⟩),.slice (some ⟨q.sg,0,none⟩) n n,.pointer (some ⟨q.br,0,none⟩),FU,FC,Gv,.int .i64 k,.pointer (some ⟨v.b,0,none⟩),Ai,Aj,Ak,Al,Am,Ao,Ap,Ar,Au,Av,Aw,Ay,Az,AA,AB,AJ,AL,AO,AP,AQ,AU,AV,AX,AY,AZ,A8,A9,Ba,Bb,Bc,Bf,Bh,Bj,Bl,Bp,Bq,Br,Bu,Bv,Bw,Bz,BD,BF,BG,BH,BI,BJ,BK,BL,BM,BN,Iu,u68,u69,BR,BS,BU,BX,BZ,Ca,Cb,Cc,Ce,Cg,Ci,Cj,Ck,Cm,Co,Cq,Cr,Ct,Cu,Cw,Cx,Cy,Cz,CB,CF,CG,CJ,CK,CO,CQ,CS,CU,CV,CW,CX,CY]:Array Value)[15]?=some (.pointer (some ⟨v.b,0,none⟩)):=rfl
  have Adh:(#[q.cv,.slice (some ⟨q.lg,0,none⟩) n q.lc,.chan (some co),.pointer (some ⟨q.bc,0,none⟩),v4,v5,.pointer (some ⟨q.bz,0,none⟩),.int .i64 q.most,.pointer (some ⟨q.ob,0,none⟩),.slice (some ⟨q.sg,0,none⟩) n n,.pointer (some ⟨q.br,0,none⟩),FU,FC,Gv,.int .i64 k,.pointer (some ⟨v.b,0,none⟩),Ai,Aj,Ak,Al,Am,Ao,Ap,Ar,Au,Av,Aw,Ay,Az,AA,AB,AJ,AL,AO,AP,AQ,AU,AV,AX,AY,AZ,A8,A9,Ba,Bb,Bc,Bf,Bh,Bj,Bl,Bp,Bq,Br,Bu,Bv,Bw,Bz,BD,BF,BG,BH,BI,BJ,BK,BL,BM,BN,Iu,u68,u69,BR,BS,BU,BX,BZ,Ca,Cb,Cc,Ce,Cg,Ci,Cj,Ck,Cm,Co,Cq,Cr,Ct,Cu,Cw,Cx,Cy,Cz,CB,CF,CG,CJ,CK,CO,CQ,CS,CU,CV,CW,CX,CY]:Array Value)[14]?=some (.int .i64 k):=rfl;refine EL.EJ (S:=S0 Try.prog Fin Ea) (b:=base 34) [] (by simp) zKR nE zKR fun W₁ ha=>?_;have hh:W₁.heap=W.heap:=by obtain ⟨τ,d,rfl⟩:=ha;rfl
  have hcell:∀ a,W₁.drew.cell? a=W.cell? a:=fun a=>by show W₁.cell? a=_;simp only [World.cell?,hh]
  have hbg:W₁.drew.cell? ⟨v.b,7,none⟩=some (.int .i64 bg):=by rw [hcell];exact sW
  have how:W₁.drew.cell? ⟨v.b,8,none⟩=some (.int .i64 ow):=by rw [hcell];exact uD
  have hsz0:W₁.drew.heap.size=W.heap.size:=by show W₁.heap.size=_;rw [hh]
  have qF:(Try.prog.info? 131).map (fun i=>(i.zero,i.size,i.bytes))=some (some (.agg #[.int .i64 0,.int .i64 0,.int .i64 0]),3,24):=by kernel_rfl
  obtain ⟨iO,hiO,zu,Ig,hO2⟩:=info_parts qF;obtain ⟨w1,gU⟩:∃ w1,W₁.drew.alloc (.cells #[.int .i64 k,.int .i64 bg,.int .i64 ow] 131)=w1:=⟨_,rfl⟩
  have hb1:∀ g,g < W.heap.size->w1.heap[g]?=W.heap[g]?:=fun g hg=>by rw [← gU,Below.heap_alloc _ _ _ (by rw [hsz0];exact hg)];show W₁.heap[g]?=_;rw [hh]
  have hz1:w1.heap.size=W.heap.size+1:=by rw [← gU];simp [hsz0]
  have xu:Fa w1 N1 3 ov.v ov.os.length (ov.os.map Ki).flatten:=FD h.opn fun g hg=>hb1 g (FM h.opn hg).2;have hN1:=hlow.2.1;obtain ⟨ov2,w2,r8,g8,f8,k8⟩:=Jo (P:=Try.prog) w1 N1 29 29 131 iO (.agg #[.int .i64 0,.int .i64 0,.int .i64 0]) 3 24 Try.underlying29 hiO zu Ig hO2 rfl (by decide) ov.v ov.os.length _ xu ⟨W₁.drew.heap.size,0,none⟩ 1 1 [.int .i64 k,.int .i64 bg,.int .i64 ow] rfl (by rw [← gU];exact Wz _ _ _ _ _) (by intro u hu;simp at hu;rcases hu with rfl|rfl|rfl <;> rfl) (by unfold maxLen;omega) zOM zOM;obtain ⟨p2,n2,c2,rfl⟩:=G9 g8;obtain ⟨w3,dz⟩:∃ w3,w3=w2.setCell ⟨q.br,1,none⟩ (.slice p2 n2 c2):=⟨_,rfl⟩
  have kU:∀ g,(Value.slice p2 n2 c2).ownBlock=some g->ov.v.ownBlock=some g\/w1.heap.size<=g:=fun g hg=>by
    rcases k8 with k|⟨k,_⟩
    . rw [k] at hg;exact .inl hg
    . exact .inr (k g hg)
  have hb2:∀ g,g < w1.heap.size->ov.v.ownBlock≠some g->w2.heap[g]?=w1.heap[g]?:=fun g hg hne=>f8.block g hg (fun e=>hne e.symm);have hz2:w1.heap.size<=w2.heap.size:=f8.size;have xw:∀ g,ov.v.ownBlock=some g->N1<=g/\g < W.heap.size:=fun g hg=>FM h.opn hg;have hbr:q.br < N1:=hlow.1;have hold:∀ g,g < N1->w2.heap[g]?=W.heap[g]?:=fun g hg=>by rw [hb2 g zOM (fun e=>by have:=xw g e;omega),hb1 g zOM]
  have hav:∀ (l:Array Bool),l[13]?≠some true->l[15]?≠some true->(ES W₁.drew [(12,w1),(13,w2),(15,w3)] l).cell? ⟨q.br,1,none⟩=some ov.v:=fun l aA uW=>by
    have hc0:W.cell? ⟨q.br,1,none⟩=some ov.v:=by simp [World.cell?,h.run]
    rcases Nw [(12,w1),(13,w2),(15,w3)] W₁.drew with e|⟨c,w',hm,hl,e⟩
    . rw [e,hcell];exact hc0
    . rw [e];simp only [List.mem_cons,Prod.mk.injEq,List.not_mem_nil,or_false] at hm;rcases hm with ⟨rfl,rfl⟩|⟨rfl,rfl⟩|⟨rfl,rfl⟩
      . rw [cell_of (a:=⟨q.br,1,none⟩) (hb1 q.br zOM)];exact hc0
      . exact absurd hl aA
      . exact absurd hl uW
  have hcz:w2.frozen? ⟨q.br,1,none⟩=false:=by simp [World.frozen?,hold q.br hbr,h.run]
  have hcw:w2.cell? ⟨q.br,1,none⟩=some ov.v:=by rw [cell_of (a:=⟨q.br,1,none⟩) (hold q.br hbr)];simp [World.cell?,h.run]
  have Te:∀ g,g≠q.br->w3.heap[g]?=w2.heap[g]?:=fun g hg=>by rw [dz];simp [World.setCell,Array.getElem?_modify,Ne.symm hg]
  have qc:w3.heap[q.br]?=some (.cells #[av,.slice p2 n2 c2,.int .i64 s,cut] 31 (0,0)):=by rw [dz];have:=(hold q.br hbr).trans h.run;simp [World.setCell,Array.getElem?_modify,this]
  have Aih:w3.heap.size=w2.heap.size:=by rw [dz];simp [World.setCell]
  have hfin:UW m ρ ws q Kp W0 N1 σ s cut ⟨.slice p2 n2 c2,ov.os ++ [(k,bg,ow)]⟩ i vs av w3:=by
    have l1:=h.lay.h1;have l2:=h.lay.h2;have l3:=h.lay.h3;have l4:=h.lay.h4;have l5:=h.lay.h5;have VJ:=h.free q.br (.inr (.inr (.inl rfl)));have hmid:∀ g,N1<=g->g < W.heap.size->ov.v.ownBlock≠some g->w3.heap[g]?=W.heap[g]?:=fun g h1 h2 h3=>by rw [Te g zOM,hb2 g zOM h3,hb1 g h2]
    refine ⟨h.lay,fun j b hb=>?_,qc,?_,?_,fun g hg=>?_,fun g hg=>?_,FD h.own fun g hg=>?_,fun j v' u hj hu=>?_,?_,fun g hg=>?_,h.few,hlow.1,by omega,hlow.2.2⟩
    . rw [cell_of (a:=⟨q.lg,j,none⟩) ((Te q.lg zOM).trans (hold q.lg zOM))];exact h.row j b hb
    . rw [Te _ zOM,hold _ zOM];exact h.res
    . exact m.eq σ W w3 (fun g hg=>.of (by rw [Te g (fun e=>VJ.2.2.2.1 (e ▸ hg)),hold g (hlow.2.2.1 g hg)])) h.inv
    . by_cases e:g=q.br
      . rw [e];exact ⟨⟨_,_,_,qc⟩,VJ.2⟩
      . rw [Te g e,hold g (h.ltN hg)];exact h.free g hg
    . have:=h.lay.h7 g hg;rw [Te g zOM,hold g zOM];exact h.kept g hg
    . have h1:=FM h.own hg;exact hmid g h1.1 h1.2 fun e=>(h.dZ g e).1 hg
    . obtain ⟨⟨I4,c1,c2,c3⟩,c4,c5⟩:=h.cop j v' u hj hu;refine ⟨⟨I4,c1,FD c2 fun g hg=>?_,fun i a iv ha hi=>(c3 i a iv ha hi).QD fun g hg=>.of ?_⟩,c4,c5⟩
      . have h1:=FM c2 hg;exact hmid g h1.1 h1.2 fun e=>(h.dZ g e).2 j v' hj hg
      . have h1:=(hlow.2.2.2 j u hu).1 g hg;rw [Te g (fun e=>VJ.2.2.2.2 j u hu (e ▸ hg)),hold g h1]
    . have e1:(ov.os ++ [(k,bg,ow)]).length=ov.os.length+1:=by simp
      have e2:((ov.os ++ [(k,bg,ow)]).map Ki).flatten=(ov.os.map Ki).flatten ++ [.int .i64 k,.int .i64 bg,.int .i64 ow]:=by simp [Ki]
      show Fa w3 N1 3 (.slice p2 n2 c2) (ov.os ++ [(k,bg,ow)]).length ((ov.os ++ [(k,bg,ow)]).map Ki).flatten;rw [e1,e2];exact FD g8 fun g hg=>by have:=FM g8 hg;rw [Te g zOM]
    . refine ⟨fun e=>?_,fun j v' hj e=>?_⟩
      . have h1:=FM h.own e;rcases kU g hg with e'|e'
        . exact (h.dZ g e').1 e
        . omega
      . rcases kU g hg with e' | e'
        . exact (h.dZ g e').2 j v' hj e
        . have hl:j < vs.length:=(List.getElem?_eq_some_iff.1 hj).1;obtain ⟨u,hu⟩:∃ u,ws[j]?=some u:=hcu j hl;obtain ⟨⟨I4,c1,c2,c3⟩,_⟩:=h.cop j v' u hj hu;have h1:=FM c2 e;omega
  have HH:=Lib.hid (zAI hK (zAI hs0 hfin));have HW4:=Lib.hid dz;clear dz hcell sW uD;clear hK hs0 hfin h hlow hold hb1 hb2 kU xw g8 f8 k8 Te qc xu;rw [gW];refine P7 [(12,w1),(13,w2),(15,w3)] (Fence.list_round _ _) zKR jZ Zn (s0:=89) (vs:=[.pointer (some ⟨q.br,1,none⟩),ov.v,.int .i64 k,.pointer (some ⟨v.b,0,none⟩),.pointer (some ⟨v.b,0,none⟩),.pointer (some ⟨v.b,7,none⟩),.int .i64 bg,.pointer (some ⟨v.b,0,none⟩),.pointer (some ⟨v.b,0,none⟩),.pointer (some ⟨v.b,8,none⟩),.int .i64 ow,.agg #[.int .i64 k,.int .i64 bg,.int .i64 ow],.slice (some ⟨W₁.drew.heap.size,0,none⟩) 1 1,.slice p2 n2 c2,.pointer (some ⟨q.br,1,none⟩)]) rfl (by simp) wL ?_ ?_
  . intro l a i o hI hl hd hb ho hod;have hi:i < 16:=by have:=(zGE ho).1;rw [Zn] at this;exact this
    obtain rfl|rfl|rfl|rfl|rfl|rfl|rfl|rfl|rfl|rfl|rfl|rfl|rfl|rfl|rfl|rfl:i=0\/i=1\/i=2\/i=3\/i=4\/i=5\/i=6\/i=7\/i=8\/i=9\/i=10\/i=11\/i=12\/i=13\/i=14\/i=15:=by omega
    . obtain ⟨af,p,ty,ho'⟩:=yh;obtain rfl:=Option.some.inj (ho.symm.trans ho');have t:a.eval (.tmp 10)=.pointer (some ⟨q.br,0,none⟩):=Eh ((hI.low 10 (by decide)).trans bO);exact ⟨rfl,_,rfl,by rw [E8 _ _ (by simp)];unfold execOp;simp only [t];go_simp⟩
    . obtain ⟨af,p,ty,ho'⟩:=uQ;obtain rfl:=Option.some.inj (ho.symm.trans ho');have t:=Eh (hI.val 0 _ (Ep qo ho hod (by decide)) rfl);have hc:=hav l (fun aA=>absurd (EF (j:=1) K5 hd aA (by decide)) (by rw [hb];decide)) (fun uW=>absurd (EF (j:=1) Ke hd uW (by decide)) (by rw [hb];decide));exact ⟨rfl,_,rfl,by rw [E8 _ _ (by simp)];unfold execOp;simp only [t];go_simp⟩
    . obtain ⟨af,p,ty,ho'⟩:=wV;obtain rfl:=Option.some.inj (ho.symm.trans ho');have t:a.eval (.tmp 14)=.int .i64 k:=Eh ((hI.low 14 (by decide)).trans Adh);exact ⟨rfl,_,rfl,by rw [E8 _ _ (by simp)];unfold execOp;simp only [t];go_simp⟩
    . obtain ⟨af,p,ty,ho'⟩:=uf;obtain rfl:=Option.some.inj (ho.symm.trans ho');have t:a.eval (.tmp 15)=.pointer (some ⟨v.b,0,none⟩):=Eh ((hI.low 15 (by decide)).trans fH);exact ⟨rfl,_,rfl,by rw [E8 _ _ (by simp)];unfold execOp;simp only [t];go_simp⟩
    . obtain ⟨af,p,ty,ho'⟩:=wH;obtain rfl:=Option.some.inj (ho.symm.trans ho');have t:=Eh (hI.val 3 _ (Ep nW ho hod (by decide)) rfl);exact ⟨rfl,_,rfl,by rw [E8 _ _ (by simp)];unfold execOp;simp only [t];go_simp⟩
    . obtain ⟨af,p,ty,ho'⟩:=xE;obtain rfl:=Option.some.inj (ho.symm.trans ho');have t:=Eh (hI.val 4 _ (Ep pG ho hod (by decide)) rfl);exact ⟨rfl,_,rfl,by rw [E8 _ _ (by simp)];unfold execOp;simp only [t];go_simp⟩
    . obtain ⟨af,p,ty,ho'⟩:=vP;obtain rfl:=Option.some.inj (ho.symm.trans ho');have t:=Eh (hI.val 5 _ (Ep oZ ho hod (by decide)) rfl);have n11:l[11]?≠some true:=fun h=>absurd (EF (j:=6) NT hd h (by decide)) (by rw [hb];decide);have n12:l[12]?≠some true:=fun h=>n11 (EF (j:=11) TL hd h (by decide));have n13:l[13]?≠some true:=fun h=>n12 (EF (j:=12) K5 hd h (by decide));have n15:l[15]?≠some true:=fun h=>n13 (EF (j:=13) Ke hd h (by decide));have hw0:ES W₁.drew [(12,w1),(13,w2),(15,w3)] l=W₁.drew:=G8 _ _ (by intro c w hm;simp only [List.mem_cons,Prod.mk.injEq,List.not_mem_nil,or_false] at hm;rcases hm with ⟨rfl,_⟩|⟨rfl,_⟩|⟨rfl,_⟩ <;> assumption)
      have hc:=hbg;refine ⟨rfl,_,rfl,?_⟩;rw [E8 _ _ (by simp),hw0];unfold execOp;simp only [t];go_simp
    . obtain ⟨af,p,ty,ho'⟩:=tT;obtain rfl:=Option.some.inj (ho.symm.trans ho');have t:a.eval (.tmp 15)=.pointer (some ⟨v.b,0,none⟩):=Eh ((hI.low 15 (by decide)).trans fH);exact ⟨rfl,_,rfl,by rw [E8 _ _ (by simp)];unfold execOp;simp only [t];go_simp⟩
    . obtain ⟨af,p,ty,ho'⟩:=yG;obtain rfl:=Option.some.inj (ho.symm.trans ho');have t:=Eh (hI.val 7 _ (Ep pJ ho hod (by decide)) rfl);exact ⟨rfl,_,rfl,by rw [E8 _ _ (by simp)];unfold execOp;simp only [t];go_simp⟩
    . obtain ⟨af,p,ty,ho'⟩:=xR;obtain rfl:=Option.some.inj (ho.symm.trans ho');have t:=Eh (hI.val 8 _ (Ep lN ho hod (by decide)) rfl);exact ⟨rfl,_,rfl,by rw [E8 _ _ (by simp)];unfold execOp;simp only [t];go_simp⟩
    . obtain ⟨af,p,ty,ho'⟩:=nT;obtain rfl:=Option.some.inj (ho.symm.trans ho');have t:=Eh (hI.val 9 _ (Ep iP ho hod (by decide)) rfl);have n11:l[11]?≠some true:=fun h=>absurd (EF (j:=10) NT hd h (by decide)) (by rw [hb];decide);have n12:l[12]?≠some true:=fun h=>n11 (EF (j:=11) TL hd h (by decide));have n13:l[13]?≠some true:=fun h=>n12 (EF (j:=12) K5 hd h (by decide));have n15:l[15]?≠some true:=fun h=>n13 (EF (j:=13) Ke hd h (by decide));have hw0:ES W₁.drew [(12,w1),(13,w2),(15,w3)] l=W₁.drew:=G8 _ _ (by intro c w hm;simp only [List.mem_cons,Prod.mk.injEq,List.not_mem_nil,or_false] at hm;rcases hm with ⟨rfl,_⟩|⟨rfl,_⟩|⟨rfl,_⟩ <;> assumption)
      have hc:=how;refine ⟨rfl,_,rfl,?_⟩;rw [E8 _ _ (by simp),hw0];unfold execOp;simp only [t];go_simp
    . obtain ⟨af,p,ty,ho'⟩:=rM;obtain rfl:=Option.some.inj (ho.symm.trans ho');have ta:=Eh (hI.val 2 _ (Ep NT ho hod (by decide)) rfl);have tb:=Eh (hI.val 6 _ (Ep NT ho hod (by decide)) rfl);have tc:=Eh (hI.val 10 _ (Ep NT ho hod (by decide)) rfl);refine ⟨rfl,_,rfl,?_⟩;rw [E8 _ _ (by simp)];unfold execOp;simp only [List.map_toArray,List.map_cons,List.map_nil,ta,tb,tc];have hbw:=cK k bg ow;go_simp
    . obtain ⟨af,p,ty,ho'⟩:=nU;obtain rfl:=Option.some.inj (ho.symm.trans ho');have t:=Eh (hI.val 11 _ (Ep TL ho hod (by decide)) rfl);have n13:l[13]?≠some true:=fun h=>absurd (EF (j:=12) K5 hd h (by decide)) (by rw [hb];decide);have n15:l[15]?≠some true:=fun h=>n13 (EF (j:=13) Ke hd h (by decide));have hw0:ES W₁.drew [(12,w1),(13,w2),(15,w3)] l=W₁.drew:=G8 _ _ (by
        intro c w hm;simp only [List.mem_cons,Prod.mk.injEq,List.not_mem_nil,or_false] at hm;rcases hm with ⟨rfl,_⟩|⟨rfl,_⟩|⟨rfl,_⟩
        . rw [hb];decide
        all_goals assumption)
      have hw1:ES W₁.drew [(12,w1),(13,w2),(15,w3)] (l.setIfInBounds 12 true)=w1:=FK (c:=12) (t:=[(13,w2),(15,w3)]) (Array.getElem?_setIfInBounds_self_of_lt zOM) (by intro c w hm;simp only [List.mem_cons,Prod.mk.injEq,List.not_mem_nil,or_false] at hm;rcases hm with ⟨rfl,_⟩|⟨rfl,_⟩ <;> (rw [Array.getElem?_setIfInBounds_ne (by decide)];assumption)) [] _
      rw [hw0,hw1];refine ⟨rfl,_,rfl,?_⟩;unfold execOp;simp only [List.map_toArray,List.map_cons,List.map_nil,t];rw [← gU];go_simp
    . obtain ⟨af,p,ty,ho'⟩:=oP;obtain rfl:=Option.some.inj (ho.symm.trans ho');have ta:=Eh (hI.val 1 _ (Ep K5 ho hod (by decide)) rfl);have tb:=Eh (hI.val 12 _ (Ep K5 ho hod (by decide)) rfl);have n15:l[15]?≠some true:=fun h=>absurd (EF (j:=13) Ke hd h (by decide)) (by rw [hb];decide);have y12:l[12]?=some true:=Ep K5 ho hod (by decide);have hw0:ES W₁.drew [(12,w1),(13,w2),(15,w3)] l=w1:=FK (c:=12) (t:=[(13,w2),(15,w3)]) y12 (by
        intro c w hm;simp only [List.mem_cons,Prod.mk.injEq,List.not_mem_nil,or_false] at hm;rcases hm with ⟨rfl,_⟩|⟨rfl,_⟩
        . rw [hb];decide
        . assumption) [] _
      have hw1:ES W₁.drew [(12,w1),(13,w2),(15,w3)] (l.setIfInBounds 13 true)=w2:=FK (c:=13) (t:=[(15,w3)]) (Array.getElem?_setIfInBounds_self_of_lt zOM) (by intro c w hm;simp only [List.mem_cons,Prod.mk.injEq,List.not_mem_nil,or_false] at hm;obtain ⟨rfl,_⟩:=hm;rw [Array.getElem?_setIfInBounds_ne (by decide)];assumption) [(12,w1)] _
      rw [hw0,hw1];refine ⟨rfl,_,rfl,?_⟩;unfold execOp;simp only [resolve,invoke,builtin,Sem.run_bind,Sem.run_pure,Result.andThen_ok,List.map_toArray,List.map_cons,List.map_nil,ta,tb,r8]
    . obtain ⟨af,p,ty,ho'⟩:=mZ;obtain rfl:=Option.some.inj (ho.symm.trans ho');have t:a.eval (.tmp 10)=.pointer (some ⟨q.br,0,none⟩):=Eh ((hI.low 10 (by decide)).trans bO);exact ⟨rfl,_,rfl,by rw [E8 _ _ (by simp)];unfold execOp;simp only [t];go_simp⟩
    . obtain ⟨af,p,ty,ho'⟩:=mO;obtain rfl:=Option.some.inj (ho.symm.trans ho');have ta:=Eh (hI.val 14 _ (Ep Ke ho hod (by decide)) rfl);have tb:=Eh (hI.val 13 _ (Ep Ke ho hod (by decide)) rfl);have y13:l[13]?=some true:=Ep Ke ho hod (by decide);have hw0:ES W₁.drew [(12,w1),(13,w2),(15,w3)] l=w2:=FK (c:=13) (t:=[(15,w3)]) y13 (by intro c w hm;simp only [List.mem_cons,Prod.mk.injEq,List.not_mem_nil,or_false] at hm;obtain ⟨rfl,_⟩:=hm;rw [hb];decide) [(12,w1)] _
      have hw1:ES W₁.drew [(12,w1),(13,w2),(15,w3)] (l.setIfInBounds 15 true)=w3:=FK (c:=15) (t:=[]) (Array.getElem?_setIfInBounds_self_of_lt zOM) (by simp) [(12,w1),(13,w2)] _;rw [hw0,hw1];refine ⟨rfl,?_⟩;rw [if_pos rfl];unfold execOp;simp only [ta,tb];rw [HW4.out];go_simp
  . intro l a hI hall;obtain ⟨tm',eB⟩:=a;obtain rfl:eB=[]:=hI.ds;have hw:ES W₁.drew [(12,w1),(13,w2),(15,w3)] l=w3:=FK (c:=15) (t:=[]) (hall 15 (by decide)) (by simp) [(12,w1),(13,w2)] _;rw [hw];obtain ⟨hK,hs0,hfin⟩:=HH.out;exact hK w3 tm' _ (Z4 hs0 hI.size fun s hs=>hI.low s zOM) hfin
end
end
end Go.Proofs.Yticecinjcajmcaa
namespace Go.Proofs.Yticecinjcajmcaa
open Go Go.Conc Go.LT Go.LC Go.LK
section
section
variable {Cl Cs Sg:Type}
def opens (xs:List (Wk Cl Cs)):List (Nat × Nat × Nat):=xs.zipIdx.filterMap fun p=>if p.1.bg=0 then none else some (p.2,p.1.bg,p.1.ow)
theorem V5 {xs:List (Wk Cl Cs)}{i:Nat}{x:Wk Cl Cs}(hx:xs[i]?=some x):opens (xs.take (i+1))=opens (xs.take i) ++ if x.bg=0 then [] else [(i,x.bg,x.ow)]:=by
  have hl:i < xs.length:=(List.getElem?_eq_some_iff.1 hx).1;unfold opens;rw [List.take_add_one,hx,List.zipIdx_append,List.filterMap_append];have e:(List.take i xs).length=i:=by simp;omega
  rw [e]
  congr 1
  by_cases h:x.bg=0 <;> simp [h]
theorem Yb (xs:List (Wk Cl Cs)):(opens xs).length<=xs.length:=by
  unfold opens;refine Nat.le_trans (List.length_filterMap_le _ _) ?_
  simp
end
end
end Go.Proofs.Yticecinjcajmcaa
namespace Go.Proofs.Yticecinjcajmcaa
open Go Go.Conc Go.LT Go.LC Go.LK Go.RowKit
open Go.ConcN (WgLive)
open BA TU
section
section
variable {Cs Sg:Type}{D:Dr Ef Cs Sg}{m:Mem Sg}{ρ:Rn}{ws:List (EK (Wk Ef Cs))}
variable {Fin:FE}{Ea:E5 Try.prog Fin}
variable {q:OI}{Kp:Nat->Prop}{W0 W:World}{R N1 s co n nn:Nat}{σ:Sg}{left:List Int}{last:Int}{steps:List Nat}{cut FU FC Gv Im IY Iu u68 u69:Value}{ds:List Deferred}{K:List Item}{cs:List Frame}
variable {ov:rU}{av:Value}{i:Nat}{vs:List Value}
theorem Lr.gather (h:Lr m ρ ws q Kp W0 R σ left last s steps cut W)(hn:∀ (i:Nat) (v:EK (Wk Ef Cs)),ws[i]?=some v->∀ b,v.own b->∃ c e f,W.heap[b]?=some (.cells c e f))(hall:∀ (j:Nat) (u:EK (Wk Ef Cs)),ws[j]?=some u->u.x.out.length<=1000000):UW m ρ ws q Kp W0 W.heap.size σ s cut ⟨.slice none 0 0,[]⟩ 0 [] (.slice none 0 0) W:=
  { lay:=h.lay,row:=h.rows.row,run:=h.rows.run,res:=h.rows.res,inv:=h.inv,
     free:=fun g hg=>h.free g (hg.elim .inl fun hg=>hg.elim (fun h=>.inr (.inr (.inl h))) fun hg=>hg.elim (fun h=>.inr (.inr (.inr (.inr (.inr (.inr (.inl h))))))) fun h=>.inr (.inr (.inr (.inr (.inr (.inr (.inr h))))))),
     kept:=h.kept,own:=⟨0,World.ownsRow_nil _ _ _ _⟩,cop:=fun j v u hj _=>(by simp at hj),opn:=⟨0,World.ownsRow_nil _ _ _ _⟩,dZ:=fun g hg=>(by cases hg),few:=h.few,
     low:=⟨h.lt (.inr (.inr (.inr (.inr (.inr (.inr (.inl rfl))))))),Nat.le_refl _,fun g hg=>h.rO hg,fun j u hu=>⟨fun g hg=>(by obtain ⟨c,e,f,hc⟩:=hn j u hu g hg;exact (zGE hc).1),hall j u hu⟩⟩ }
theorem X8 (hn:n=ws.length)(hK:∀ W' vs av QC Im IY Iu u68 u69 tm',Sd q co n FU FC Gv Im IY Iu u68 u69 tm'->UW m ρ ws q Kp W0 N1 σ s cut ⟨QC,opens (ws.map (·.x))⟩ n vs av W'->JL (S0 Try.prog Fin Ea).L (.Ev (Eu D m) ρ ws 0 false nn) (G ((base 34).at ⟨tm',ds⟩ K) cs) W') :
    ∀ (d i:Nat) (vs:List Value) (av QC Im IY:Value) (W:World) (tm:Array Value),n - i=d->i<=n->UW m ρ ws q Kp W0 N1 σ s cut ⟨QC,opens ((ws.map (·.x)).take i)⟩ i vs av W->Sd q co n FU FC Gv Im IY (.slice (some ⟨q.lg,0,none⟩) n q.lc) (.int .i64 n) (.int .i64 i) tm->
    JL (S0 Try.prog Fin Ea).L (.Ev (Eu D m) ρ ws 0 false nn) (G ((base 34).at ⟨tm,ds⟩ (.code Ws :: .inLoop Ws :: .inBlock 2 :: K)) cs) W:=by
  intro d;induction d with
  | zero=>
    intro i vs av QC Im IY W tm hd hi h hs;obtain rfl:i=n:=by omega
    have O1:=h.few;rw [Sk];refine Ei ?_;refine ZT zOM zOM hs fun W1 U1 hs1 qE hw1=>?_;rw [decide_eq_false zOM] at qE;refine Ei ?_;refine JL.Ey (Eh qE) ?_;refine JL.exit rfl ?_;have e:(ws.map (·.x)).take i=ws.map (·.x):=List.take_of_length_le (by simp;omega);rw [e] at h;exact hK W1 _ _ _ _ _ _ _ _ U1 hs1 (h.alike hw1)
  | succ d ih=>
    intro i vs av QC Im IY W tm hd hi h hs;have hlt:i < n:=by omega
    have O1:=h.few;obtain ⟨v,hv⟩:∃ v,ws[i]?=some v:=⟨_,List.getElem?_eq_getElem zOM⟩
    rw [Sk];refine Ei ?_;refine ZT zOM zOM hs fun W1 U1 hs1 qE hw1=>?_;rw [decide_eq_true hlt] at qE;have h1:=h.alike hw1;refine Ei ?_;refine JL.Fz (Eh qE) ?_;refine Er stepG_skip ?_;refine Ei ?_;refine Er stepG_block ?_;refine Ei ?_;refine nI hlt (h1.row i v.b (by rw [List.getElem?_map,hv];rfl)) hs1 fun W2 sD hs2 hw2=>?_;have h2:=h1.alike hw2;refine Ei ?_;refine lQ h2 hv zOM hs2 fun W3 tm3 v1 av' hs3 h3=>?_;refine Ei ?_;refine J0.know (Ea:=Ea) fun hKn=>?_;show JL (S0 Try.prog Fin Ea).L _ _ W3;have hko:=PU (D:=D) rfl hKn hv;refine qP (b:=v.b) hko.2.1 hs3 fun W4 tm4 hs4 zC hw4=>?_;have h4:=h3.alike hw4;have hop:=V5 (xs:=ws.map (·.x)) (i:=i) (x:=v.x) (by rw [List.getElem?_map,hv];rfl);by_cases hbg:v.x.bg=0
    . rw [hbg] at zC;rw [if_pos hbg,List.append_nil] at hop;rw [← hop] at h4;refine JL.Ey (Eh zC) ?_;refine Er stepG_skip ?_;refine Er stepG_inBlock ?_;refine ZI zOM hs4 fun W5 tm5 hs5 hw5=>?_;have h5:=h4.alike hw5;refine Er stepG_inLoop ?_;rw [← Sk];exact ih (i+1) _ _ _ _ _ W5 tm5 zOM hlt h5 hs5
    . rw [decide_eq_true (Nat.pos_of_ne_zero hbg)] at zC;rw [if_neg hbg] at hop;refine JL.Fz (Eh zC) ?_;have hc4:∀ a,W4.cell? a=W3.cell? a:=fun a=>by simp only [World.cell?,hw4]
      have hvl:(vs ++ [v1]).length=i+1:=by
        obtain ⟨te,hl,_⟩:=h3.own
        simpa using hl
      have hol:=Yb ((ws.map (·.x)).take i);refine nX (k:=i) (bg:=v.x.bg) (ow:=v.x.ow) h4 (by rw [hc4];exact hko.2.1) (by rw [hc4];exact hko.2.2) (Nat.le_trans hol (by simp;omega)) (fun j hj=>⟨_,List.getElem?_eq_getElem zOM⟩) hs4 fun W5 tm5 Ais hs5 h5=>?_;rw [← hop] at h5;refine Er stepG_inBlock ?_;refine ZI zOM hs5 fun W6 tm6 hs6 hw6=>?_;have h6:=h5.alike hw6;refine Er stepG_inLoop ?_;rw [← Sk];exact ih (i+1) _ _ _ _ _ W6 tm6 zOM hlt h6 hs6
end
end
section
def kZ:Code:=match dP with | .seq c _=>c | _=>.skip
theorem iq:dP=.seq kZ .ret:=rfl
section
variable {Cs Sg:Type}{D:Dr Ef Cs Sg}{m:Mem Sg}{ρ:Rn}{ws:List (EK (Wk Ef Cs))}
variable {Fin:FE}{Ea:E5 Try.prog Fin}
variable {q:OI}{Kp:Nat->Prop}{W0 W:World}{R N1 s co n nn:Nat}{σ:Sg}{left:List Int}{last:Int}{steps:List Nat}{cut FU FC Gv Im IY Iu u68 u69:Value}{ds:List Deferred}{K:List Item}{cs:List Frame}
variable {ov:rU}{av:Value}{i:Nat}{vs:List Value}{cf:Frame}
theorem pX {ow:Option Addr}{on oc:Nat}{cv:Bool}(h:UW m ρ ws q Kp W0 N1 σ s (.bool cv) ov i vs av W)(hov:ov.v=.slice ow on oc){tm:Array Value}(hs:Sd q co n FU FC Gv Im IY Iu u68 u69 tm)(hK:∀ W',(∀ g,g≠q.bz->W'.heap[g]?=W.heap[g]?)->W'.heap.size=W.heap.size->JW (S0 Try.prog Fin Ea).base (.Ev (Eu D m) ρ ws 0 false nn) (G (cf.finish (.agg #[av,.slice ow on oc,.int .i64 s,.bool cv])) cs) W') :
    JL (S0 Try.prog Fin Ea).L (.Ev (Eu D m) ρ ws 0 false nn) (G ((base 34).at ⟨tm,[]⟩ [.code dP]) (cf :: cs)) W:=by
  obtain ⟨v4,v5,Ai,Aj,Ak,Al,Am,Ao,Ap,Ar,Au,Av,Aw,Ay,Az,AA,AB,AJ,AL,AO,AP,AQ,AU,AV,AX,AY,AZ,A8,A9,Ba,Bb,Bc,Bf,Bh,Bj,Bl,Bp,Bq,Br,Bu,Bv,Bw,Bz,BD,BF,BG,BH,BI,BJ,BK,BL,BM,BN,BR,BS,BU,BX,BZ,Ca,Cb,Cc,Ce,Cg,Ci,Cj,Ck,Cm,Co,Cq,Cr,Ct,Cu,Cw,Cx,Cy,Cz,CB,CF,CG,CJ,CK,CO,CQ,CS,CU,CV,CW,CX,CY,rfl⟩:=hs;obtain ⟨p1,n1,c1,rfl⟩:=G9 h.own;obtain ⟨QC,os⟩:=ov;obtain rfl:QC=.slice ow on oc:=hov;rw [iq];refine Ei ?_;refine EL.EJ (S:=S0 Try.prog Fin Ea) (b:=base 34) [] (by simp) zKR nE zKR fun W₁ ha=>?_;have hh:W₁.heap=W.heap:=by obtain ⟨τ,d,rfl⟩:=ha;rfl
  have h1:=h.alike hh;have a0:W₁.cell? ⟨q.br,0,none⟩=some (.slice p1 n1 c1):=by simp [World.cell?,h1.run]
  have a1:W₁.cell? ⟨q.br,1,none⟩=some (.slice ow on oc):=by simp [World.cell?,h1.run]
  have a2:W₁.cell? ⟨q.br,2,none⟩=some (.int .i64 s):=by simp [World.cell?,h1.run]
  have a3:W₁.cell? ⟨q.br,3,none⟩=some (.bool cv):=by simp [World.cell?,h1.run]
  have b0:W₁.cell? ⟨q.bz,0,none⟩=some (.slice none 0 0):=by simp [World.cell?,h1.res]
  have b1:W₁.cell? ⟨q.bz,1,none⟩=some (.slice none 0 0):=by simp [World.cell?,h1.res]
  have b2:W₁.cell? ⟨q.bz,2,none⟩=some (.int .i64 0):=by simp [World.cell?,h1.res]
  have b3:W₁.cell? ⟨q.bz,3,none⟩=some (.bool false):=by simp [World.cell?,h1.res]
  have f0:∀ o,W₁.frozen? ⟨q.bz,o,none⟩=false:=fun o=>by simp [World.frozen?,h1.res]
  have f0':=f0 0;have f1':=f0 1;have f2':=f0 2;have f3':=f0 3;have HH:=Lib.hid (zAI hK (zAI hh h1));clear hK hh h1 h;dsimp only;simp only [kZ,dP,dK,N9,Try.f34];gi_wp2;obtain ⟨hK,hh,h1⟩:=HH.out;clear HH;generalize hW':World.setCell _ _ _=W';have hoth:∀ g,g≠q.bz->W'.heap[g]?=W.heap[g]?:=fun g hg=>by rw [← hW',← hh];simp [World.setCell,Array.getElem?_modify,Ne.symm hg]
  have hrow:W'.heap[q.bz]?=some (.cells #[.slice p1 n1 c1,.slice ow on oc,.int .i64 s,.bool cv] 31 (0,0)):=by rw [← hW'];have:=h1.res;simp [World.setCell,Array.getElem?_modify,this]
  have hsz:W'.heap.size=W.heap.size:=by rw [← hW',← hh];simp [World.setCell]
  clear hW';show JL (S0 Try.prog Fin Ea).L _ (G ((base 34).at ⟨_,[]⟩ [.code .ret]) (cf :: cs)) W';refine Er stepG_ret' ?_;refine JW.returns (S:=S0 Try.prog Fin Ea) Try.func34 (v:=.agg #[.slice p1 n1 c1,.slice ow on oc,.int .i64 s,.bool cv]) (fun W₂ ha2=>?_) (hK W' hoth hsz);have J3:W₂.heap=W'.heap:=by obtain ⟨τ,d,rfl⟩:=ha2;rfl
  have d0:W₂.cell? ⟨q.bz,0,none⟩=some (.slice p1 n1 c1):=by simp [World.cell?,J3,hrow]
  have d1:W₂.cell? ⟨q.bz,1,none⟩=some (.slice ow on oc):=by simp [World.cell?,J3,hrow]
  have d2:W₂.cell? ⟨q.bz,2,none⟩=some (.int .i64 s):=by simp [World.cell?,J3,hrow]
  have d3:W₂.cell? ⟨q.bz,3,none⟩=some (.bool cv):=by simp [World.cell?,J3,hrow]
  clear J3 hrow hoth hsz hh h1 hK a0 a1 a2 a3 b0 b1 b2 b3 f0 f0' f1' f2' f3';simp [results,Try.results34,go_sem,Frame.at, *]
end
end
section
theorem ak (v:Value)(n:Nat):madeCells #[v] n=(List.replicate n v).toArray:=by refine Array.ext (by simp [size_madeCells]) fun i h1 h2=>?_;simp [madeCells,Nat.mod_one]
theorem Zq:∀ g∈[62,78],@Lets (Host.only 34) Try.prog g:=fun g hg=>by
  simp only [List.mem_cons,List.not_mem_nil,or_false] at hg;rcases hg with rfl|rfl
  . exact ⟨by kernel_rfl,.inl ⟨_,_,Try.func62,by kernel_rfl,rfl,by kernel_rfl⟩⟩
  . exact ⟨by kernel_rfl,.inl ⟨_,_,Try.func78,by kernel_rfl,rfl,by kernel_rfl⟩⟩
section
variable {Cs Sg:Type}{M:Md (Wk Ef Cs) Sg}{ρ:Rn}{ws:List (EK (Wk Ef Cs))}
variable {Fin:FE}{Ea:E5 Try.prog Fin}
variable {W:World}{nn:Nat}{ds:List Deferred}{K:List Item}{cs:List Frame}
variable {v0 v1 v2 v3 v4 v5 v6 v7 v8 v9 Aa Ab Ac Ae Af Ah Ai Aj Ak Al Am Ao Ap Ar Au Av Aw Ay Az AA AB AJ AL AO AP AQ AU AV AX AY AZ A8 A9 Ba Bb Bc Bf Bh Bj Bl Bp Bq Br Bu Bv Bw Bz BD BF BG BH BI BJ BK BL BM BN BO BP BQ BR BS BU BX BZ Ca Cb Cc Ce Cg Ci Cj Ck Cm Co Cq Cr Ct Cu Cw Cx Cy Cz CB CF CG CJ CK CO CQ CS CU CV CW CX CY:Value}{wa ta ya:Option Addr}{wn wc tn tc yn yc:Nat}{u:Int}
theorem sN (hK:∀ W',W'.heap=(W.heap.push (.cells #[.slice wa wn wc,.slice ta tn tc,.slice ya yn yc,.int .i64 u] 25 (0,0))).push (.cells #[.slice none 0 0,.slice none 0 0,.int .i64 0,.bool false] 31 (0,0))->JL (S0 (X:=Wk Ef Cs) (Sg:=Sg) Try.prog Fin Ea).L (.Ev M ρ ws 0 false nn) (G ((base 34).at ⟨#[.agg #[.slice wa wn wc,.slice ta tn tc,.slice ya yn yc,.int .i64 u],v1,v2,.pointer (some ⟨W.heap.size,0,none⟩),v4,v5,.pointer (some ⟨W.heap.size+1,0,none⟩),v7,v8,v9,Aa,Ab,Ac,Ae,Af,Ah,Ai,Aj,Ak,Al,Am,Ao,Ap,Ar,Au,Av,Aw,Ay,Az,AA,AB,AJ,AL,AO,AP,AQ,AU,AV,AX,AY,AZ,A8,A9,Ba,Bb,Bc,Bf,Bh,Bj,Bl,Bp,Bq,Br,Bu,Bv,Bw,Bz,BD,BF,BG,BH,BI,BJ,BK,BL,BM,BN,BO,BP,BQ,BR,BS,BU,BX,BZ,Ca,Cb,Cc,Ce,Cg,Ci,Cj,Ck,Cm,Co,Cq,Cr,Ct,Cu,Cw,Cx,Cy,Cz,CB,CF,CG,CJ,CK,CO,CQ,CS,CU,CV,CW,CX,CY],ds⟩ K) cs) W') :
    JL (S0 (X:=Wk Ef Cs) (Sg:=Sg) Try.prog Fin Ea).L (.Ev M ρ ws 0 false nn) (G ((base 34).at ⟨#[.agg #[.slice wa wn wc,.slice ta tn tc,.slice ya yn yc,.int .i64 u],v1,v2,v3,v4,v5,v6,v7,v8,v9,Aa,Ab,Ac,Ae,Af,Ah,Ai,Aj,Ak,Al,Am,Ao,Ap,Ar,Au,Av,Aw,Ay,Az,AA,AB,AJ,AL,AO,AP,AQ,AU,AV,AX,AY,AZ,A8,A9,Ba,Bb,Bc,Bf,Bh,Bj,Bl,Bp,Bq,Br,Bu,Bv,Bw,Bz,BD,BF,BG,BH,BI,BJ,BK,BL,BM,BN,BO,BP,BQ,BR,BS,BU,BX,BZ,Ca,Cb,Cc,Ce,Cg,Ci,Cj,Ck,Cm,Co,Cq,Cr,Ct,Cu,Cw,Cx,Cy,Cz,CB,CF,CG,CJ,CK,CO,CQ,CS,CU,CV,CW,CX,CY],ds⟩ (.code pd0 :: K)) cs) W:=by
  refine EL.EJ (S:=(S0 (X:=Wk Ef Cs) (Sg:=Sg) Try.prog Fin Ea)) (b:=base 34) [] (by simp) zKR nE zKR fun W₁ ha=>?_;have hh:W₁.heap=W.heap:=by obtain ⟨τ,d,rfl⟩:=ha;rfl
  have HH:=Lib.hid (zAI hK hh);clear hK hh;dsimp only;simp only [pd0,N9,Try.f34];gi_wp2;obtain ⟨hK,hh⟩:=HH.out;clear HH;rw [← hh] at hK;exact hK _ rfl
theorem wM {b:Nat}(hc:W.cell? ⟨b,3,none⟩=some (.int .i64 u))(hK:∀ W' Dh Di,W'.heap=W.heap->JL (S0 (X:=Wk Ef Cs) (Sg:=Sg) Try.prog Fin Ea).L (.Ev M ρ ws 0 false nn) (G ((base 34).at ⟨#[v0,v1,v2,.pointer (some ⟨b,0,none⟩),v4,v5,v6,.int .i64 u,v8,v9,Aa,Ab,Ac,Ae,Af,Ah,Dh,Di,Ak,Al,Am,Ao,Ap,Ar,Au,Av,Aw,Ay,Az,AA,AB,AJ,AL,AO,AP,AQ,AU,AV,AX,AY,AZ,A8,A9,Ba,Bb,Bc,Bf,Bh,Bj,Bl,Bp,Bq,Br,Bu,Bv,Bw,Bz,BD,BF,BG,BH,BI,BJ,BK,BL,BM,BN,BO,BP,BQ,BR,BS,BU,BX,BZ,Ca,Cb,Cc,Ce,Cg,Ci,Cj,Ck,Cm,Co,Cq,Cr,Ct,Cu,Cw,Cx,Cy,Cz,CB,CF,CG,CJ,CK,CO,CQ,CS,CU,CV,CW,CX,CY],ds⟩ K) cs) W') :
    JL (S0 (X:=Wk Ef Cs) (Sg:=Sg) Try.prog Fin Ea).L (.Ev M ρ ws 0 false nn) (G ((base 34).at ⟨#[v0,v1,v2,.pointer (some ⟨b,0,none⟩),v4,v5,v6,v7,v8,v9,Aa,Ab,Ac,Ae,Af,Ah,Ai,Aj,Ak,Al,Am,Ao,Ap,Ar,Au,Av,Aw,Ay,Az,AA,AB,AJ,AL,AO,AP,AQ,AU,AV,AX,AY,AZ,A8,A9,Ba,Bb,Bc,Bf,Bh,Bj,Bl,Bp,Bq,Br,Bu,Bv,Bw,Bz,BD,BF,BG,BH,BI,BJ,BK,BL,BM,BN,BO,BP,BQ,BR,BS,BU,BX,BZ,Ca,Cb,Cc,Ce,Cg,Ci,Cj,Ck,Cm,Co,Cq,Cr,Ct,Cu,Cw,Cx,Cy,Cz,CB,CF,CG,CJ,CK,CO,CQ,CS,CU,CV,CW,CX,CY],ds⟩ (.code pd1 :: K)) cs) W:=by
  refine EL.EJ (S:=(S0 (X:=Wk Ef Cs) (Sg:=Sg) Try.prog Fin Ea)) (b:=base 34) [] (by simp) zKR nE zKR fun W₁ ha=>?_;have hh:W₁.heap=W.heap:=by obtain ⟨τ,d,rfl⟩:=ha;rfl
  have hc1:W₁.cell? ⟨b,3,none⟩=some (.int .i64 u):=by simp only [World.cell?,hh] at hc ⊢;exact hc
  clear hc;have HH:=Lib.hid (zAI hK hh);clear hK hh;dsimp only;simp only [pd1,N9,Try.f34];gi_wp2;obtain ⟨hK,hh⟩:=HH.out;exact hK W₁ _ _ hh
theorem uH (hu:0<=u)(hK:∀ W' Dj Dk,W'.heap=W.heap->JL (S0 (X:=Wk Ef Cs) (Sg:=Sg) Try.prog Fin Ea).L (.Ev M ρ ws 0 false nn) (G ((base 34).at ⟨#[v0,v1,v2,v3,v4,v5,v6,.int .i64 ((if u=0 then 20000 else u.toNat:Nat):Int),v8,v9,Aa,Ab,Ac,Ae,Af,Ah,Ai,Aj,Dj,Dk,Am,Ao,Ap,Ar,Au,Av,Aw,Ay,Az,AA,AB,AJ,AL,AO,AP,AQ,AU,AV,AX,AY,AZ,A8,A9,Ba,Bb,Bc,Bf,Bh,Bj,Bl,Bp,Bq,Br,Bu,Bv,Bw,Bz,BD,BF,BG,BH,BI,BJ,BK,BL,BM,BN,BO,BP,BQ,BR,BS,BU,BX,BZ,Ca,Cb,Cc,Ce,Cg,Ci,Cj,Ck,Cm,Co,Cq,Cr,Ct,Cu,Cw,Cx,Cy,Cz,CB,CF,CG,CJ,CK,CO,CQ,CS,CU,CV,CW,CX,CY],ds⟩ K) cs) W') :
    JL (S0 (X:=Wk Ef Cs) (Sg:=Sg) Try.prog Fin Ea).L (.Ev M ρ ws 0 false nn) (G ((base 34).at ⟨#[v0,v1,v2,v3,v4,v5,v6,.int .i64 u,v8,v9,Aa,Ab,Ac,Ae,Af,Ah,Ai,Aj,Ak,Al,Am,Ao,Ap,Ar,Au,Av,Aw,Ay,Az,AA,AB,AJ,AL,AO,AP,AQ,AU,AV,AX,AY,AZ,A8,A9,Ba,Bb,Bc,Bf,Bh,Bj,Bl,Bp,Bq,Br,Bu,Bv,Bw,Bz,BD,BF,BG,BH,BI,BJ,BK,BL,BM,BN,BO,BP,BQ,BR,BS,BU,BX,BZ,Ca,Cb,Cc,Ce,Cg,Ci,Cj,Ck,Cm,Co,Cq,Cr,Ct,Cu,Cw,Cx,Cy,Cz,CB,CF,CG,CJ,CK,CO,CQ,CS,CU,CV,CW,CX,CY],ds⟩ (.code pd2 :: K)) cs) W:=by
  refine EL.EJ (S:=(S0 (X:=Wk Ef Cs) (Sg:=Sg) Try.prog Fin Ea)) (b:=base 34) [] (by simp) zKR nE zKR fun W₁ ha=>?_;have hh:W₁.heap=W.heap:=by obtain ⟨τ,d,rfl⟩:=ha;rfl
  have HH:=Lib.hid (zAI hK hh);clear hK hh;dsimp only;simp only [pd2,N9,Try.f34];by_cases hu0:u=0
  . subst hu0;gi_wp2;obtain ⟨hK,hh⟩:=HH.out;exact hK W₁ _ _ hh
  . have g1:((u:Int) == 0)=false:=by simpa using hu0
    gi_wp2;obtain ⟨hK,hh⟩:=HH.out;have e:((if u=0 then 20000 else u.toNat:Nat):Int)=u:=by rw [if_neg hu0];omega
    rw [e] at hK;exact hK W₁ _ _ hh
theorem xD {b:Nat}{turns:List Int}(hc:W.cell? ⟨b,1,none⟩=some (.slice ta tn tc))(hr:Reads W (.slice ta tn tc) (turns.map (Value.int .i64)))(hlen:turns.length<=1000000)(hK:∀ W' ob Sc Dl Dm Dn,SB W' 145 ob Sc turns (-1)->IL W W'->W.heap.size<=ob->(∀ k,Sc.ownBlock=some k->W.heap.size<=k/\k < W'.heap.size/\∃ c e f,W'.heap[k]?=some (.cells c e f))->JL (S0 (X:=Wk Ef Cs) (Sg:=Sg) Try.prog Fin Ea).L (.Ev M ρ ws 0 false nn) (G ((base 34).at ⟨#[v0,v1,v2,.pointer (some ⟨b,0,none⟩),v4,v5,v6,v7,.pointer (some ⟨ob,0,none⟩),v9,Aa,Ab,Ac,Ae,Af,Ah,Ai,Aj,Ak,Al,Dl,Dm,Dn,Ar,Au,Av,Aw,Ay,Az,AA,AB,AJ,AL,AO,AP,AQ,AU,AV,AX,AY,AZ,A8,A9,Ba,Bb,Bc,Bf,Bh,Bj,Bl,Bp,Bq,Br,Bu,Bv,Bw,Bz,BD,BF,BG,BH,BI,BJ,BK,BL,BM,BN,BO,BP,BQ,BR,BS,BU,BX,BZ,Ca,Cb,Cc,Ce,Cg,Ci,Cj,Ck,Cm,Co,Cq,Cr,Ct,Cu,Cw,Cx,Cy,Cz,CB,CF,CG,CJ,CK,CO,CQ,CS,CU,CV,CW,CX,CY],ds⟩ K) cs) W') :
    JL (S0 (X:=Wk Ef Cs) (Sg:=Sg) Try.prog Fin Ea).L (.Ev M ρ ws 0 false nn) (G ((base 34).at ⟨#[v0,v1,v2,.pointer (some ⟨b,0,none⟩),v4,v5,v6,v7,v8,v9,Aa,Ab,Ac,Ae,Af,Ah,Ai,Aj,Ak,Al,Am,Ao,Ap,Ar,Au,Av,Aw,Ay,Az,AA,AB,AJ,AL,AO,AP,AQ,AU,AV,AX,AY,AZ,A8,A9,Ba,Bb,Bc,Bf,Bh,Bj,Bl,Bp,Bq,Br,Bu,Bv,Bw,Bz,BD,BF,BG,BH,BI,BJ,BK,BL,BM,BN,BO,BP,BQ,BR,BS,BU,BX,BZ,Ca,Cb,Cc,Ce,Cg,Ci,Cj,Ck,Cm,Co,Cq,Cr,Ct,Cu,Cw,Cx,Cy,Cz,CB,CF,CG,CJ,CK,CO,CQ,CS,CU,CV,CW,CX,CY],ds⟩ (.code pd4 :: K)) cs) W:=by
  refine EL.EJ (S:=(S0 (X:=Wk Ef Cs) (Sg:=Sg) Try.prog Fin Ea)) (b:=base 34) [62,78] Zq zKR nE zKR fun W₁ ha=>?_;have hh:W₁.heap=W.heap:=by obtain ⟨τ,d,rfl⟩:=ha;rfl
  have hc1:W₁.cell? ⟨b,1,none⟩=some (.slice ta tn tc):=by simp only [World.cell?,hh] at hc ⊢;exact hc
  have hr1:Reads W₁ (.slice ta tn tc) (turns.map (Value.int .i64)):=hr.same fun k _ _=>by rw [hh]
  have HR:=Lib.hid (zAI hr1 hlen);clear hc hr hr1 hlen;have HH:=Lib.hid (zAI hK hh);clear hK hh;dsimp only;simp only [pd4,N9,Try.f34];gi_wp2_with (gi_at_call 62;refine (nH _ turns _ HR.out.1 (by have:=HR.out.2;omega)).mono ?_;rintro e w1 ⟨ob,Sc,rfl,ho1,hb1,Ow,hol⟩)
  obtain ⟨hK,hh⟩:=HH.out;refine hK w1 ob _ _ _ _ ho1 ((IL.refl W).alike hh |>.below hb1 (by rw [hh];exact Nat.le_refl _)) (by rw [hh] at Ow;exact Ow) (fun k hk=>by have:=hol k hk;rw [hh] at this;exact this)
theorem uq {pg:Option Addr}{n lc:Nat}(hn:n<=1000)(hK:∀ W' Dp Dq Dt,W'.heap=W.heap.push (.cells (List.replicate n (Value.int .i64 0)).toArray 3 (0,0))->JL (S0 (X:=Wk Ef Cs) (Sg:=Sg) Try.prog Fin Ea).L (.Ev M ρ ws 0 false nn) (G ((base 34).at ⟨#[v0,.slice pg n lc,v2,v3,v4,v5,v6,v7,v8,.slice (some ⟨W.heap.size,0,none⟩) n n,Aa,Ab,Ac,Ae,Af,Ah,Ai,Aj,Ak,Al,Am,Ao,Ap,Dp,Dq,Dt,Aw,Ay,Az,AA,AB,AJ,AL,AO,AP,AQ,AU,AV,AX,AY,AZ,A8,A9,Ba,Bb,Bc,Bf,Bh,Bj,Bl,Bp,Bq,Br,Bu,Bv,Bw,Bz,BD,BF,BG,BH,BI,BJ,BK,BL,BM,BN,BO,BP,BQ,BR,BS,BU,BX,BZ,Ca,Cb,Cc,Ce,Cg,Ci,Cj,Ck,Cm,Co,Cq,Cr,Ct,Cu,Cw,Cx,Cy,Cz,CB,CF,CG,CJ,CK,CO,CQ,CS,CU,CV,CW,CX,CY],ds⟩ K) cs) W') :
    JL (S0 (X:=Wk Ef Cs) (Sg:=Sg) Try.prog Fin Ea).L (.Ev M ρ ws 0 false nn) (G ((base 34).at ⟨#[v0,.slice pg n lc,v2,v3,v4,v5,v6,v7,v8,v9,Aa,Ab,Ac,Ae,Af,Ah,Ai,Aj,Ak,Al,Am,Ao,Ap,Ar,Au,Av,Aw,Ay,Az,AA,AB,AJ,AL,AO,AP,AQ,AU,AV,AX,AY,AZ,A8,A9,Ba,Bb,Bc,Bf,Bh,Bj,Bl,Bp,Bq,Br,Bu,Bv,Bw,Bz,BD,BF,BG,BH,BI,BJ,BK,BL,BM,BN,BO,BP,BQ,BR,BS,BU,BX,BZ,Ca,Cb,Cc,Ce,Cg,Ci,Cj,Ck,Cm,Co,Cq,Cr,Ct,Cu,Cw,Cx,Cy,Cz,CB,CF,CG,CJ,CK,CO,CQ,CS,CU,CV,CW,CX,CY],ds⟩ (.code pd5 :: K)) cs) W:=by
  refine EL.EJ (S:=(S0 (X:=Wk Ef Cs) (Sg:=Sg) Try.prog Fin Ea)) (b:=base 34) [] (by simp) zKR nE zKR fun W₁ ha=>?_;have hh:W₁.heap=W.heap:=by obtain ⟨τ,d,rfl⟩:=ha;rfl
  obtain ⟨i0,hi,hz0,hz1,hz2⟩:=info_parts Un;have hmk:∀ wx:World,(Instr.makeSlice 22 (.int .i64 n) (.int .i64 n)).run Try.prog wx=.ok (.slice (some ⟨wx.heap.size,0,none⟩) n n) (wx.alloc (.cells (madeCells #[.int .i64 0] n) 3)):=fun wx=>by
    have:=run_makeSlice (P:=Try.prog) (w:=wx) 22 3 i0 (.int .i64 0) Try.underlying22 hi hz0 .i64 .i64 n n zOM (Int.le_refl _) (by rw [hz1];simp;omega) (by rw [hz2];omega) zOM;rw [hz1,show (Value.int .i64 0).cells=#[.int .i64 0] from rfl] at this
    simpa using this
  have HH:=Lib.hid (zAI hK hh);clear hK hh;dsimp only;simp only [pd5,N9,Try.f34];gi_wp2;obtain ⟨hK,hh⟩:=HH.out;clear HH;rw [← hh] at hK;exact hK _ _ _ _ (by rw [← ak];rfl)
theorem uS (hK:∀ W',W'.heap=W.heap.push (.cells #[.slice none 0 0,.slice none 0 0,.int .i64 0,.bool false] 31 (0,0))->JL (S0 (X:=Wk Ef Cs) (Sg:=Sg) Try.prog Fin Ea).L (.Ev M ρ ws 0 false nn) (G ((base 34).at ⟨#[v0,v1,v2,v3,v4,v5,v6,v7,v8,v9,.pointer (some ⟨W.heap.size,0,none⟩),Ab,Ac,Ae,Af,Ah,Ai,Aj,Ak,Al,Am,Ao,Ap,Ar,Au,Av,Aw,Ay,Az,AA,AB,AJ,AL,AO,AP,AQ,AU,AV,AX,AY,AZ,A8,A9,Ba,Bb,Bc,Bf,Bh,Bj,Bl,Bp,Bq,Br,Bu,Bv,Bw,Bz,BD,BF,BG,BH,BI,BJ,BK,BL,BM,BN,BO,BP,BQ,BR,BS,BU,BX,BZ,Ca,Cb,Cc,Ce,Cg,Ci,Cj,Ck,Cm,Co,Cq,Cr,Ct,Cu,Cw,Cx,Cy,Cz,CB,CF,CG,CJ,CK,CO,CQ,CS,CU,CV,CW,CX,CY],ds⟩ K) cs) W') :
    JL (S0 (X:=Wk Ef Cs) (Sg:=Sg) Try.prog Fin Ea).L (.Ev M ρ ws 0 false nn) (G ((base 34).at ⟨#[v0,v1,v2,v3,v4,v5,v6,v7,v8,v9,Aa,Ab,Ac,Ae,Af,Ah,Ai,Aj,Ak,Al,Am,Ao,Ap,Ar,Au,Av,Aw,Ay,Az,AA,AB,AJ,AL,AO,AP,AQ,AU,AV,AX,AY,AZ,A8,A9,Ba,Bb,Bc,Bf,Bh,Bj,Bl,Bp,Bq,Br,Bu,Bv,Bw,Bz,BD,BF,BG,BH,BI,BJ,BK,BL,BM,BN,BO,BP,BQ,BR,BS,BU,BX,BZ,Ca,Cb,Cc,Ce,Cg,Ci,Cj,Ck,Cm,Co,Cq,Cr,Ct,Cu,Cw,Cx,Cy,Cz,CB,CF,CG,CJ,CK,CO,CQ,CS,CU,CV,CW,CX,CY],ds⟩ (.code pd6 :: K)) cs) W:=by
  refine EL.EJ (S:=(S0 (X:=Wk Ef Cs) (Sg:=Sg) Try.prog Fin Ea)) (b:=base 34) [] (by simp) zKR nE zKR fun W₁ ha=>?_;have hh:W₁.heap=W.heap:=by obtain ⟨τ,d,rfl⟩:=ha;rfl
  have HH:=Lib.hid (zAI hK hh);clear hK hh;dsimp only;simp only [pd6,N9,Try.f34];gi_wp2;obtain ⟨hK,hh⟩:=HH.out;clear HH;rw [← hh] at hK;exact hK _ rfl
end
end
end Go.Proofs.Yticecinjcajmcaa
end
