/-
  Part 14 of the proof that CellOrders is true of every input of bulk at most 1048576.
-/
import Derived.Test.YtdkfdedgfilhbaaQ13
set_option linter.unusedVariables false
set_option linter.unusedSectionVars false
set_option linter.unusedSimpArgs false
set_option maxHeartbeats 4000000
noncomputable section
namespace Go.Proofs.Ytdkfdedgfilhbaa
open Go Go.Conc Go.LT Go.LC Go.LK Go.RowKit
open Go.ConcN (WgLive)
open BA TU
section
def OC:Array Oper:=match kN with | .region _ ops _=>ops | _=>#[]
def I6:Array Oper:=(OC.toList.take 9).toArray
def UL:Array Oper:=match ZM with | .region _ ops _=>ops | _=>#[]
theorem nQ:kN=.region 13 OC true:=rfl
theorem lY:ZM=.region 14 UL false:=rfl
theorem yY:∃(af:Array Edge) (p:String) (ty:TypeId),I6[0]?=some ⟨some 56,.move (.tmp 1),ty,p,af,none⟩:=⟨_,_,_,rfl⟩
theorem Aaf:∃(af:Array Edge) (p:String) (ty:TypeId),I6[1]?=some ⟨some 57,.move (.tmp 13),ty,p,af,none⟩:=⟨_,_,_,rfl⟩
theorem Aby:∃(af:Array Edge) (p:String) (ty:TypeId),I6[2]?=some ⟨some 58,.indexAddr 88 (.tmp 56) (.tmp 57),ty,p,af,none⟩:=⟨_,_,_,rfl⟩
theorem yJ:∃(af:Array Edge) (p:String) (ty:TypeId),I6[3]?=some ⟨some 59,.load 63 (.tmp 58),ty,p,af,none⟩:=⟨_,_,_,rfl⟩
theorem zO:∃(af:Array Edge) (p:String) (ty:TypeId),I6[4]?=some ⟨some 60,.nilCheck (.tmp 59),ty,p,af,none⟩:=⟨_,_,_,rfl⟩
theorem xV:∃(af:Array Edge) (p:String) (ty:TypeId),I6[5]?=some ⟨some 61,.fieldAddr 92 (.tmp 60) 2,ty,p,af,none⟩:=⟨_,_,_,rfl⟩
theorem Aac:∃(af:Array Edge) (p:String) (ty:TypeId),I6[6]?=some ⟨some 62,.load 79 (.tmp 61),ty,p,af,none⟩:=⟨_,_,_,rfl⟩
theorem Aab:∃(af:Array Edge) (p:String) (ty:TypeId),I6[7]?=some ⟨some 63,.fieldAddr 31 (.tmp 10) 2,ty,p,af,none⟩:=⟨_,_,_,rfl⟩
theorem Acg:∃(af:Array Edge) (p:String) (ty:TypeId),I6[8]?=some ⟨some 64,.load 3 (.tmp 63),ty,p,af,none⟩:=⟨_,_,_,rfl⟩
theorem eH:(I6[2]?).map FH=some [0,1]:=by kernel_rfl
theorem uZ:(I6[3]?).map FH=some [2]:=by kernel_rfl
theorem uD:(I6[4]?).map FH=some [3]:=by kernel_rfl
theorem rA:(I6[5]?).map FH=some [4]:=by kernel_rfl
theorem vQ:(I6[6]?).map FH=some [5]:=by kernel_rfl
theorem uJ:(I6[8]?).map FH=some [7]:=by kernel_rfl
theorem yV:∃(af:Array Edge) (p:String) (ty:TypeId),OC[9]?=some ⟨none,.send (.tmp 62) (.tmp 64),ty,p,af,none⟩:=⟨_,_,_,rfl⟩
theorem wK:OC.size=10:=by kernel_rfl
theorem Ym:I6.size=9:=by kernel_rfl
theorem mP(i:Nat)(hi:i<9):I6[i]?=OC[i]?:=by have:I6=(OC.toList.take 9).toArray:=rfl;rw[this,List.getElem?_toArray,List.getElem?_take,if_pos hi,Array.getElem?_toList]
theorem lD(i:Nat)(o:Oper)(ho:OC[i]?=some o):∀e∈o.after,e.on<i:=by
 have h:(OC.toList.zipIdx.all fun x=>x.1.after.all fun e=>decide (e.on<x.2))=true:=by kernel_rfl
 rw[List.all_eq_true]at h;have h1:=h (o,i) (by rw[List.mem_zipIdx_iff_getElem?];simpa using ho);simp only[Array.all_eq_true']at h1;exact fun e he=>of_decide_eq_true (h1 e he)
theorem Ab4(i:Nat)(o:Oper)(ho:I6[i]?=some o):o.guard=none/\o.dst=some (56+i):=by
 have h:(I6.toList.zipIdx.all fun x=>x.1.guard.isNone&&x.1.dst==some (56+x.2))=true:=by kernel_rfl
 rw[List.all_eq_true]at h;have h1:=h (o,i) (by rw[List.mem_zipIdx_iff_getElem?];simpa using ho);simp only[Bool.and_eq_true,Option.isNone_iff_eq_none,beq_iff_eq]at h1;exact h1
theorem tH(i:Nat)(ws:List Nat)(h:(OC[i]?).map FH=some ws){l:Array Bool}(hd:Down .any OC l)(hl:l[i]?=some true):∀j∈ws,l[j]?=some true:=fun j hj=>FB h hd hl hj
theorem rG(l:Array Bool)(hs:l.size=10)(hd:Down .any OC l)(hr:9∈Region.ready .any OC l):∀i,i<9->l[i]?=some true:=by
 obtain⟨_,o,ho,hod⟩:=mem_ready.1 hr;have w9:(OC[9]?).map FH=some [6,8]:=by kernel_rfl
 have h68:∀j∈[6,8],l[j]?=some true:=fun j hj=>by rw[ho]at w9;exact NW (by rw[Option.some.inj w9];exact hj) (fun e he hb=>JM.1 (hod e he hb))
 have h8:=h68 8 (by decide);have h6:=h68 6 (by decide);have h7:=tH 8 [7] zKR hd h8 7 (by decide);have h5:=tH 6 [5] zKR hd h6 5 (by decide);have h4:=tH 5 [4] zKR hd h5 4 (by decide);have h3:=tH 4 [3] zKR hd h4 3 (by decide);have h2:=tH 3 [2] zKR hd h3 2 (by decide);have h1:=tH 2 [0,1] zKR hd h2 1 (by decide);have h0:=tH 2 [0,1] zKR hd h2 0 (by decide);intro i hi;obtain rfl|rfl|rfl|rfl|rfl|rfl|rfl|rfl|rfl:i=0\/i=1\/i=2\/i=3\/i=4\/i=5\/i=6\/i=7\/i=8:=by omega
 all_goals assumption
section
variable {Cs Sg:Type}{D:Dr EP Cs Sg}{m:Mem Sg}{ρ:Rn}{ws:List (FE (Wk EP Cs))}
variable {Fin:Gb}{EH:FM Try.prog Fin}
variable {q:PO}{Kp:Nat->Prop}{W0 W:World}{R s co n nn:Nat}{σ:Sg}{left:List Int}{last:Int}{steps:List Nat}{cut GK Gi Ia Jh JD IE u68 u69:Value}{ds:List Deferred}{K:List Item}{cs:List Frame}
theorem getElem?_set'{α:Type}{l:List α}{i j:Nat}{a b:α}(h:(l.set i a)[j]?=some b):(j=i/\b=a)\/(j≠i/\l[j]?=some b):=by
 by_cases e:i=j
 . subst e;rw[List.getElem?_set_self']at h;cases hl:l[i]? with
   | none=>rw[hl]at h;cases h
   | some x=>rw[hl]at h;cases h;exact .inl ⟨rfl,rfl⟩
 . rw[List.getElem?_set_ne e]at h;exact .inr ⟨fun z=>e z.symm,h⟩
theorem MO.gave(h:MO m ρ ws q Kp W0 R σ left last s steps cut W){k r:Nat}{v v':FE (Wk EP Cs)}{W':World}(hv:ws[k]?=some v)(hov:v.over=false)(hfu:R+1<=v.r+s)(hr:v.r=r+1){sn:Nat}(hG:jd (Fe D m) ρ ws v (D.hold v.x sn σ) r W v' W'):MO m ρ (ws.set k v') q Kp W0 R (D.hold v.x sn σ).2.1 left last s steps cut W':=by
 have hsame:∀g,q.K Kp g->W'.heap[g]?=W.heap[g]?:=fun g hg=>by obtain⟨f1,f2,f3,f4,f5⟩:=h.free g hg;exact hG.block g f1 (Je f2 f3) (f5 k v hv) f4
 have hx:=(h.ov k v hv)
 have hh:=mO D hx.2 (hx.1 ▸ hov) sn σ;have hmap:(ws.set k v').map (·.b)=ws.map (·.b):=by
   rw[List.map_set,hG.b];refine List.ext_getElem? fun j=>?_;by_cases e:k=j
   . subst e;rw[List.getElem?_set_self',List.getElem?_map,hv];rfl
   . rw[List.getElem?_set_ne e]
 refine⟨by rw[hmap];exact h.rows.keep fun g hg=>hsame g hg.weak,h.lay,hG.inv,fun g hg=>?_,fun g hg=>?_,fun j u hu=>?_,fun j u hu=>?_,by rw[List.length_set];exact h.VF,by rw[List.length_set];exact h.few,h.hal⟩
 . rw[hsame g hg];obtain⟨f1,f2,f3,f4,f5⟩:=h.free g hg;refine⟨f1,f2,f3,f4,fun j u hu ho=>?_⟩;rcases getElem?_set' hu with⟨rfl,rfl⟩|⟨_,hu⟩
   . rcases hG.own g ho with ho | ho
     . exact f5 j v hv ho
     . have:=h.lt hg;omega
   . exact f5 j u hu ho
 . rw[hsame g (.inr (.inr (.inr (.inr (.inr (.inr (.inr hg)))))))];exact h.kept g hg
 . rcases getElem?_set' hu with⟨rfl,rfl⟩ | ⟨_,hu⟩
   . rw[hG.over,hG.x];exact⟨hh.2,hh.1⟩
   . exact h.ov j u hu
 . rcases getElem?_set' hu with⟨rfl,rfl⟩ | ⟨_,hu⟩
   . rw[hG.r];omega
   . exact h.fuel j u hu
theorem o7{tm:Array Value}{n:Nat}(h:tm.size=n):tm=((List.range n).map fun i=>tm.getD i undef).toArray:=by refine Array.ext (by simp[h]) fun i h1 h2=>?_;simp[Array.getD,h1]
theorem FN{tm:Array Value}{i:Nat}{v:Value}(h:tm[i]?=some v):tm.getD i undef=v:=by rw[Array.getD_eq_getD_getElem?,h];rfl
theorem Ac0{tm tm':Array Value}(h:Sd q co n GK Gi Ia Jh JD IE u68 u69 tm)(hsz:tm'.size=106)(hlow:∀s,s<16->tm'[s]?=tm[s]?):∃IE u68 u69,Sd q co n GK Gi Ia Jh JD IE u68 u69 tm':=by
 obtain⟨v4,v5,Ai,Aj,Ak,Al,Am,Ao,Ap,Ar,Au,Av,Aw,Ay,Az,AA,AB,AJ,AL,AO,AP,AQ,AU,AV,AX,AY,AZ,A8,A9,Ba,Bb,Bc,Bf,Bh,Bj,Bl,Bp,Bq,Br,Bu,Bv,Bw,Bz,BD,BF,BG,BH,BI,BJ,BK,BL,BM,BN,BR,BS,BU,BX,BZ,Ca,Cb,Cc,Ce,Cg,Ci,Cj,Ck,Cm,Co,Cq,Cr,Ct,Cu,Cw,Cx,Cy,Cz,CB,CF,CG,CJ,CK,CO,CQ,CS,CU,CV,CW,CX,CY,rfl⟩:=h
 have e:tm'=#[tm'.getD 0 undef,tm'.getD 1 undef,tm'.getD 2 undef,tm'.getD 3 undef,tm'.getD 4 undef,tm'.getD 5 undef,tm'.getD 6 undef,tm'.getD 7 undef,tm'.getD 8 undef,tm'.getD 9 undef,tm'.getD 10 undef,tm'.getD 11 undef,tm'.getD 12 undef,tm'.getD 13 undef,tm'.getD 14 undef,tm'.getD 15 undef,tm'.getD 16 undef,tm'.getD 17 undef,tm'.getD 18 undef,tm'.getD 19 undef,tm'.getD 20 undef,tm'.getD 21 undef,tm'.getD 22 undef,tm'.getD 23 undef,tm'.getD 24 undef,tm'.getD 25 undef,tm'.getD 26 undef,tm'.getD 27 undef,tm'.getD 28 undef,tm'.getD 29 undef,tm'.getD 30 undef,tm'.getD 31 undef,tm'.getD 32 undef,tm'.getD 33 undef,tm'.getD 34 undef,tm'.getD 35 undef,tm'.getD 36 undef,tm'.getD 37 undef,tm'.getD 38 undef,tm'.getD 39 undef,tm'.getD 40 undef,tm'.getD 41 undef,tm'.getD 42 undef,tm'.getD 43 undef,tm'.getD 44 undef,tm'.getD 45 undef,tm'.getD 46 undef,tm'.getD 47 undef,tm'.getD 48 undef,tm'.getD 49 undef,tm'.getD 50 undef,tm'.getD 51 undef,tm'.getD 52 undef,tm'.getD 53 undef,tm'.getD 54 undef,tm'.getD 55 undef,tm'.getD 56 undef,tm'.getD 57 undef,tm'.getD 58 undef,tm'.getD 59 undef,tm'.getD 60 undef,tm'.getD 61 undef,tm'.getD 62 undef,tm'.getD 63 undef,tm'.getD 64 undef,tm'.getD 65 undef,tm'.getD 66 undef,tm'.getD 67 undef,tm'.getD 68 undef,tm'.getD 69 undef,tm'.getD 70 undef,tm'.getD 71 undef,tm'.getD 72 undef,tm'.getD 73 undef,tm'.getD 74 undef,tm'.getD 75 undef,tm'.getD 76 undef,tm'.getD 77 undef,tm'.getD 78 undef,tm'.getD 79 undef,tm'.getD 80 undef,tm'.getD 81 undef,tm'.getD 82 undef,tm'.getD 83 undef,tm'.getD 84 undef,tm'.getD 85 undef,tm'.getD 86 undef,tm'.getD 87 undef,tm'.getD 88 undef,tm'.getD 89 undef,tm'.getD 90 undef,tm'.getD 91 undef,tm'.getD 92 undef,tm'.getD 93 undef,tm'.getD 94 undef,tm'.getD 95 undef,tm'.getD 96 undef,tm'.getD 97 undef,tm'.getD 98 undef,tm'.getD 99 undef,tm'.getD 100 undef,tm'.getD 101 undef,tm'.getD 102 undef,tm'.getD 103 undef,tm'.getD 104 undef,tm'.getD 105 undef]:=o7 hsz
 have e0:tm'.getD 0 undef=q.cv:=FN (hlow 0 (by decide));have e1:tm'.getD 1 undef=.slice (some ⟨q.lg,0,none⟩) n q.lc:=FN (hlow 1 (by decide));have e2:tm'.getD 2 undef=.chan (some co):=FN (hlow 2 (by decide));have e3:tm'.getD 3 undef=.pointer (some ⟨q.bc,0,none⟩):=FN (hlow 3 (by decide));have e6:tm'.getD 6 undef=.pointer (some ⟨q.bz,0,none⟩):=FN (hlow 6 (by decide));have e7:tm'.getD 7 undef=.int .i64 q.most:=FN (hlow 7 (by decide));have e8:tm'.getD 8 undef=.pointer (some ⟨q.ob,0,none⟩):=FN (hlow 8 (by decide));have e9:tm'.getD 9 undef=.slice (some ⟨q.sg,0,none⟩) n n:=FN (hlow 9 (by decide));have e10:tm'.getD 10 undef=.pointer (some ⟨q.br,0,none⟩):=FN (hlow 10 (by decide));have e11:tm'.getD 11 undef=GK:=FN (hlow 11 (by decide));have e12:tm'.getD 12 undef=Gi:=FN (hlow 12 (by decide))
 have e13:tm'.getD 13 undef=Ia:=FN (hlow 13 (by decide));have e14:tm'.getD 14 undef=Jh:=FN (hlow 14 (by decide));have e15:tm'.getD 15 undef=JD:=FN (hlow 15 (by decide));rw[e0,e1,e2,e3,e6,e7,e8,e9,e10,e11,e12,e13,e14,e15]at e;exact⟨_,_,_,_,_,_,_,_,_,_,_,_,_,_,_,_,_,_,_,_,_,_,_,_,_,_,_,_,_,_,_,_,_,_,_,_,_,_,_,_,_,_,_,_,_,_,_,_,_,_,_,_,_,_,_,_,_,_,_,_,_,_,_,_,_,_,_,_,_,_,_,_,_,_,_,_,_,_,_,_,_,_,_,_,_,_,_,_,_,_,_,_,e⟩
end
end
section
section
variable {Cs Sg:Type}{D:Dr EP Cs Sg}{m:Mem Sg}{ρ:Rn}{ws:List (FE (Wk EP Cs))}
variable {Fin:Gb}{EH:FM Try.prog Fin}
variable {q:PO}{Kp:Nat->Prop}{W0 W:World}{R s co n nn:Nat}{σ:Sg}{left:List Int}{last:Int}{steps:List Nat}{cut GK Gi Ia Jh JD IE u68 u69:Value}{ds:List Deferred}{K:List Item}{cs:List Frame}
theorem lI(h:MO m ρ ws q Kp W0 R σ left last s steps cut W)(hcl:¬ ρ.UM)(hzi:ρ.zi=.int .i64 0)(hco:co=ρ.come){k r:Nat}{v:FE (Wk EP Cs)}(hkn:k<n)(hv:ws[k]?=some v)(hov:v.over=false)(hr:v.r=r+1)(hfu:R+1<=v.r+s){tm:Array Value}(hs:Sd q co n GK Gi (.int .i64 k) Jh JD IE u68 u69 tm)(hK:∀v' W' W1 tm' IE u68 u69,Sd q co n GK Gi (.int .i64 k) Jh JD IE u68 u69 tm'->jd (Fe D m) ρ ws v (D.hold v.x s σ) r W1 v' W'->MO m ρ (ws.set k v') q Kp W0 R (D.hold v.x s σ).2.1 left last s steps cut W'->JL (S0 Try.prog Fin EH).L (.Fg (Fe D m) ρ (ws.set k v') 0 false nn) (G ((base 31).at ⟨tm',ds⟩ K) cs) W') :
   JL (S0 Try.prog Fin EH).L (.Fg (Fe D m) ρ ws 0 false nn) (G ((base 31).at ⟨tm,ds⟩ (.code (.seq kN ZM) :: K)) cs) W:=by
 subst hco;refine J0.know (EH:=EH) fun hKn=>?_;have hvb:W.cell? ⟨v.b,2,none⟩=some (.chan (some v.t)):=hKn.turn k v hv hov;have hvl:W.cell? ⟨q.lg,k,none⟩=some (.pointer (some ⟨v.b,0,none⟩)):=h.rows.row k v.b (by rw[List.getElem?_map,hv];rfl);have hvs:W.cell? ⟨q.br,2,none⟩=some (.int .i64 s):=by simp[World.cell?,h.rows.run]
 have hs0:=hs;obtain⟨v4,v5,Ai,Aj,Ak,Al,Am,Ao,Ap,Ar,Au,Av,Aw,Ay,Az,AA,AB,AJ,AL,AO,AP,AQ,AU,AV,AX,AY,AZ,A8,A9,Ba,Bb,Bc,Bf,Bh,Bj,Bl,Bp,Bq,Br,Bu,Bv,Bw,Bz,BD,BF,BG,BH,BI,BJ,BK,BL,BM,BN,BR,BS,BU,BX,BZ,Ca,Cb,Cc,Ce,Cg,Ci,Cj,Ck,Cm,Co,Cq,Cr,Ct,Cu,Cw,Cx,Cy,Cz,CB,CF,CG,CJ,CK,CO,CQ,CS,CU,CV,CW,CX,CY,rfl⟩:=hs;show JL (S0 Try.prog Fin EH).L _ _ W;refine EO ?_;rw[nQ];refine Fp.Z0 (S:=S0 Try.prog Fin EH) (Ji:=I6) (N:=9) (s0:=56) (vs:=[.slice (some ⟨q.lg,0,none⟩) n q.lc,.int .i64 k,.pointer (some ⟨q.lg,k,none⟩),.pointer (some ⟨v.b,0,none⟩),.pointer (some ⟨v.b,0,none⟩),.pointer (some ⟨v.b,2,none⟩),.chan (some v.t),.pointer (some ⟨q.br,2,none⟩),.int .i64 s]) zKR zKR nE wK Ym mP lD rG zKR rfl (by simp) Ab4 ?_ ?_
 . intro w ha l a i o hI hb ho hod;have hcell:∀a,w.cell? a=W.cell? a:=fun a=>by obtain⟨τ,d,rfl⟩:=ha;rfl
   rw[← hcell]at hvb hvl hvs;have hi:i<9:=by have:=(zGE ho).1;rw[Ym]at this;exact this
   clear hK h hKn hs0 hcell;obtain rfl|rfl|rfl|rfl|rfl|rfl|rfl|rfl|rfl:i=0\/i=1\/i=2\/i=3\/i=4\/i=5\/i=6\/i=7\/i=8:=by omega
   . obtain⟨af,p,ty,ho'⟩:=yY;obtain rfl:=Option.some.inj (ho.symm.trans ho');have t:a.eval (.tmp 1)=.slice (some ⟨q.lg,0,none⟩) n q.lc:=EN ((hI.low 1 (by decide)).trans rfl);exact⟨rfl,_,rfl,by unfold execOp;simp only[t];go_simp⟩
   . obtain⟨af,p,ty,ho'⟩:=Aaf;obtain rfl:=Option.some.inj (ho.symm.trans ho');have t:a.eval (.tmp 13)=.int .i64 k:=EN ((hI.low 13 (by decide)).trans rfl);exact⟨rfl,_,rfl,by unfold execOp;simp only[t];go_simp⟩
   . obtain⟨af,p,ty,ho'⟩:=Aby;obtain rfl:=Option.some.inj (ho.symm.trans ho');have t0:=EN (hI.val 0 _ (EY eH ho hod (by decide)) rfl);have t1:=EN (hI.val 1 _ (EY eH ho hod (by decide)) rfl);refine⟨rfl,_,rfl,?_⟩;unfold execOp;simp only[t0,t1];go_simp
   . obtain⟨af,p,ty,ho'⟩:=yJ;obtain rfl:=Option.some.inj (ho.symm.trans ho');have t:=EN (hI.val 2 _ (EY uZ ho hod (by decide)) rfl);exact⟨rfl,_,rfl,by unfold execOp;simp only[t];go_simp⟩
   . obtain⟨af,p,ty,ho'⟩:=zO;obtain rfl:=Option.some.inj (ho.symm.trans ho');have t:=EN (hI.val 3 _ (EY uD ho hod (by decide)) rfl);exact⟨rfl,_,rfl,by unfold execOp;simp only[t];go_simp⟩
   . obtain⟨af,p,ty,ho'⟩:=xV;obtain rfl:=Option.some.inj (ho.symm.trans ho');have t:=EN (hI.val 4 _ (EY rA ho hod (by decide)) rfl);exact⟨rfl,_,rfl,by unfold execOp;simp only[t];go_simp⟩
   . obtain⟨af,p,ty,ho'⟩:=Aac;obtain rfl:=Option.some.inj (ho.symm.trans ho');have t:=EN (hI.val 5 _ (EY vQ ho hod (by decide)) rfl);exact⟨rfl,_,rfl,by unfold execOp;simp only[t];go_simp⟩
   . obtain⟨af,p,ty,ho'⟩:=Aab;obtain rfl:=Option.some.inj (ho.symm.trans ho');have t:a.eval (.tmp 10)=.pointer (some ⟨q.br,0,none⟩):=EN ((hI.low 10 (by decide)).trans rfl);exact⟨rfl,_,rfl,by unfold execOp;simp only[t];go_simp⟩
   . obtain⟨af,p,ty,ho'⟩:=Acg;obtain rfl:=Option.some.inj (ho.symm.trans ho');have t:=EN (hI.val 7 _ (EY uJ ho hod (by decide)) rfl);exact⟨rfl,_,rfl,by unfold execOp;simp only[t];go_simp⟩
 . intro l tm' W' hI hall ha;have hh:W'.heap=W.heap:=by obtain⟨τ,d,rfl⟩:=ha;rfl
   have h1:=h.alike hh;obtain⟨zM,Abg,zK,hs1⟩:=Ac0 hs0 hI.size (fun s h1=>hI.low s zOM);have t62:=hI.val 6 _ (hall 6 (by decide)) rfl;have t64:=hI.val 8 _ (hall 8 (by decide)) rfl;clear hI;obtain⟨v4,v5,Ai,Aj,Ak,Al,Am,Ao,Ap,Ar,Au,Av,Aw,Ay,Az,AA,AB,AJ,AL,AO,AP,AQ,AU,AV,AX,AY,AZ,A8,A9,Ba,Bb,Bc,Bf,Bh,Bj,Bl,Bp,Bq,Br,Bu,Bv,Bw,Bz,BD,BF,BG,BH,BI,BJ,BK,BL,BM,BN,BR,BS,BU,BX,BZ,Ca,Cb,Cc,Ce,Cg,Ci,Cj,Ck,Cm,Co,Cq,Cr,Ct,Cu,Cw,Cx,Cy,Cz,CB,CF,CG,CJ,CK,CO,CQ,CS,CU,CV,CW,CX,CY,rfl⟩:=hs1;have Agd:some BJ=some (.chan (some v.t)):=t62;have Agm:some BL=some (.int .i64 (s:Int)):=t64;cases Agd
   cases Agm
   clear t62 t64 hs0 hvb hvl hvs;obtain⟨af,p,ty,h9⟩:=yV;generalize hg0:(G ((base 31).at ⟨#[q.cv,.slice (some ⟨q.lg,0,none⟩) n q.lc,.chan (some ρ.come),.pointer (some ⟨q.bc,0,none⟩),v4,v5,.pointer (some ⟨q.bz,0,none⟩),.int .i64 q.most,.pointer (some ⟨q.ob,0,none⟩),.slice (some ⟨q.sg,0,none⟩) n n,.pointer (some ⟨q.br,0,none⟩),GK,Gi,.int .i64 k,Jh,JD,Ai,Aj,Ak,Al,Am,Ao,Ap,Ar,Au,Av,Aw,Ay,Az,AA,AB,AJ,AL,AO,AP,AQ,AU,AV,AX,AY,AZ,A8,A9,Ba,Bb,Bc,Bf,Bh,Bj,Bl,Bp,Bq,Br,Bu,Bv,Bw,Bz,BD,BF,BG,BH,BI,.chan (some v.t),BK,.int .i64 s,.chan (some ρ.come),BN,zM,Abg,zK,BR,BS,BU,BX,BZ,Ca,Cb,Cc,Ce,Cg,Ci,Cj,Ck,Cm,Co,Cq,Cr,Ct,Cu,Cw,Cx,Cy,Cz,CB,CF,CG,CJ,CK,CO,CQ,CS,CU,CV,CW,CX,CY],ds⟩ (.inRegion UL [1] :: K)) cs)=g0
   obtain⟨nq,hS⟩:=Qu (P:=Try.prog) (main:=true) (K:=fun _=>True) (Still:=fun _=>False) (Bd:=0) (st:=Seat.one ρ.come ρ.zi false (·=g0)) (g:=(G ((base 31).at ⟨#[q.cv,.slice (some ⟨q.lg,0,none⟩) n q.lc,.chan (some ρ.come),.pointer (some ⟨q.bc,0,none⟩),v4,v5,.pointer (some ⟨q.bz,0,none⟩),.int .i64 q.most,.pointer (some ⟨q.ob,0,none⟩),.slice (some ⟨q.sg,0,none⟩) n n,.pointer (some ⟨q.br,0,none⟩),GK,Gi,.int .i64 k,Jh,JD,Ai,Aj,Ak,Al,Am,Ao,Ap,Ar,Au,Av,Aw,Ay,Az,AA,AB,AJ,AL,AO,AP,AQ,AU,AV,AX,AY,AZ,A8,A9,Ba,Bb,Bc,Bf,Bh,Bj,Bl,Bp,Bq,Br,Bu,Bv,Bw,Bz,BD,BF,BG,BH,BI,.chan (some v.t),BK,.int .i64 s,BM,BN,zM,Abg,zK,BR,BS,BU,BX,BZ,Ca,Cb,Cc,Ce,Cg,Ci,Cj,Ck,Cm,Co,Cq,Cr,Ct,Cu,Cw,Cx,Cy,Cz,CB,CF,CG,CJ,CK,CO,CQ,CS,CU,CV,CW,CX,CY],ds⟩ (.inRegion OC [9] :: .code ZM :: K)) cs).finishComm Try.prog #[scase v.t (.int .i64 s) (.tuple #[])] .send (0:Nat) undef false) fun EG=>by
     rw[Hr,h9];refine EU stepG_region_end ?_;rw[lY];refine JL.region (l:=[0,1]) rfl fun _ hk2=>?_;cases hk2
     simp only[UL,ZM,UF,Py,Try.f31]
     (refine ET ?_;walk_nrm)
     refine JQ.sit rfl rfl nE (fun w=>?_) (fun w=>?_) ?_
     . go_simp
       simp[Seat.one,rcase,hzi]
     . simp[go_sem]
     . exact hg0
   refine J0.give (EH:=EH) hcl (i:=k) (v:=v) (r:=r) (s:=s) (σ:=σ) (zs:=.tuple #[]) hv hov hr h1.inv rfl (fun w=>?_) hS fun v' W'' hG=>?_
   . rw[stepG_comm (cases:=#[scase v.t (.int .i64 s) (.tuple #[])]) (blocking:=true) (shape:=.send) (w':=w) h9 rfl nE ?_,listed_none ?_]
     . unfold execOp;simp[go_sem]
     . unfold execOp;go_simp
       rfl
   . subst hg0;rw[Hr];have s66:(UL[1]?).bind (·.dst)=some 66:=by kernel_rfl
     rw[s66];walk_nrm;show JL (S0 Try.prog Fin EH).L _ _ _;refine EU stepG_region_end ?_;exact hK v' W'' W' _ _ _ _ ⟨_,_,_,_,_,_,_,_,_,_,_,_,_,_,_,_,_,_,_,_,_,_,_,_,_,_,_,_,_,_,_,_,_,_,_,_,_,_,_,_,_,_,_,_,_,_,_,_,_,_,_,_,_,_,_,_,_,_,_,_,_,_,_,_,_,_,_,_,_,_,_,_,_,_,_,_,_,_,_,_,_,_,_,_,_,_,_,_,_,rfl⟩ hG (h1.gave hv hov hfu hr hG)
end
end
section
section
variable {Cs Sg:Type}{D:Dr EP Cs Sg}{m:Mem Sg}{ρ:Rn}{ws:List (FE (Wk EP Cs))}
variable {Fin:Gb}{EH:FM Try.prog Fin}
variable {q:PO}{Kp:Nat->Prop}{W0 W:World}{R s co n nn:Nat}{σ:Sg}{left:List Int}{last:Int}{steps:List Nat}{cut GK Gi Ia Jh JD IE u68 u69:Value}{ds:List Deferred}{K:List Item}{cs:List Frame}
theorem YS{hl:List Int}{steps:List Nat}{dn:List Bool}{i n:Nat}(hi:i<n):((List.range n).map (NZ hl steps dn)).getD i false=NZ hl steps dn i:=by rw[List.getD_eq_getElem?_getD,List.getElem?_map,List.getElem?_range hi];rfl
theorem any_map{hl:List Int}{steps:List Nat}{dn:List Bool}{n:Nat}:(List.range n).any (NZ hl steps dn)=((List.range n).map (NZ hl steps dn)).any id:=by rw[List.any_map];rfl
theorem kT(hcl:¬ ρ.UM)(hzi:ρ.zi=.int .i64 0)(hco:co=ρ.come)(hm:q.most<=R)(hm2:q.most<=1000000)(hK:∀ws' σ' left' last' s' Pq cut' W' GK Gi Ia Jh JD IE u68 u69 tm',Sd q co n GK Gi Ia Jh JD IE u68 u69 tm'->MO m ρ ws' q Kp W0 R σ' left' last' s' Pq cut' W'->(∃z0:Rs EP Cs Sg,z0=Rs.go D q.most q.most ⟨ws.map (·.x),σ,left,last,s,steps,q.hl⟩/\ws'.map (·.x)=z0.xs/\σ'=z0.σ/\left'=z0.left/\last'=z0.last/\s'=z0.s/\cut'=.bool (z0.rd.any id))->ws'.map (·.b)=ws.map (·.b)->JL (S0 Try.prog Fin EH).L (.Fg (Fe D m) ρ ws' 0 false nn) (G ((base 31).at ⟨tm',ds⟩ K) cs) W') :
   ∀(f:Nat) (Ht:List (FE (Wk EP Cs))) (σ₁:Sg) (IK:List Int) (last₁:Int) (s₁:Nat) (F4:List Nat) (gI:Value) (EG:World) (GK Gi Ia Jh JD IE u68 u69:Value) (tm:Array Value),q.most-s₁<=f->Ht.length=n->Ht.map (·.b)=ws.map (·.b)->MO m ρ Ht q Kp W0 R σ₁ IK last₁ s₁ F4 gI EG->(∀(i c:Nat),F4[i]?=some c->c<=s₁)->s₁<=q.most->
     Rs.go D q.most f ⟨Ht.map (·.x),σ₁,IK,last₁,s₁,F4,q.hl⟩=Rs.go D q.most q.most ⟨ws.map (·.x),σ,left,last,s,steps,q.hl⟩->Sd q co n GK Gi Ia Jh JD IE u68 u69 tm->
     JL (S0 Try.prog Fin EH).L (.Fg (Fe D m) ρ Ht 0 false nn) (G ((base 31).at ⟨tm,ds⟩ (.code (.block 1 UF) :: .inLoop (.block 1 UF) :: .inBlock 0 :: K)) cs) EG:=by
 intro f;induction f using Nat.strongRecOn with
 | _ f ih=>
 intro Ht σ₁ IK last₁ s₁ F4 gI EG GK Gi Ia Jh JD IE u68 u69 tm hf hl hb h hst hsm hgo hs;refine EU stepG_block ?_;rw[vG];refine EO ?_;refine Ab8 h hl.symm (fun i c hc=>by have:=hst i c hc;omega) hs fun F8 Aje wb hs2 h2 hcells=>?_;refine EO ?_;rw[any_map]at hs2;generalize hbv:((List.range n).map (NZ q.hl F4 (Ht.map fun u=>u.x.over))).any id=bv at hs2;refine Aa9 h2 hs2 fun Fh Aja hs3 h3 hoth=>?_;refine EO ?_;refine EO ?_;refine Ab9 h3 zOM hm2 hs3 fun K3 yK hs4 xE hw4=>?_;have h4:=h3.alike hw4;have iL:(⟨Ht.map (·.x),σ₁,IK,last₁,s₁,F4,q.hl⟩:Rs EP Cs Sg).rd=(List.range n).map (NZ q.hl F4 (Ht.map fun u=>u.x.over)):=by unfold Rs.rd;rw[List.map_map,List.length_map,hl];rfl
 by_cases hstop:bv=false\/q.most<=s₁
 . have e42:(!bv||decide (q.most<=s₁))=true:=by
     rcases hstop with e|e
     . rw[e];rfl
     . rw[decide_eq_true e];simp
   rw[e42]at xE;refine JL.F3 (EN xE) ?_;refine JL.exit rfl ?_;have hz:Rs.go D q.most f ⟨Ht.map (·.x),σ₁,IK,last₁,s₁,F4,q.hl⟩=⟨Ht.map (·.x),σ₁,IK,last₁,s₁,F4,q.hl⟩:=Rs.lG D (by rw[iL,hbv];exact hstop)
   rw[hz]at hgo;refine hK Ht _ _ _ _ _ _ K3 _ _ _ _ _ _ _ _ yK hs4 h4 ⟨_,hgo,rfl,rfl,rfl,rfl,rfl,?_⟩ hb;rw[iL,hbv]
 . have hbt:bv=true:=by
     cases bv with
     | true=>rfl
     | false=>exact absurd (.inl rfl) hstop
   have hlt:s₁<q.most:=Nat.lt_of_not_le fun e=>hstop (.inr e);subst hbt;have e42:(!true||decide (q.most<=s₁))=false:=by simp;omega
   rw[e42]at xE;refine JL.EX (EN xE) ?_;refine EU stepG_skip ?_;refine EO ?_;have hne:MQ ((List.range n).map (NZ q.hl F4 (Ht.map fun u=>u.x.over)))≠[]:=wL.2 hbv;obtain⟨k,hk1,hk2,hk3⟩:=iM (left:=IK) (last:=last₁) hne;have hkl:k<Ht.length:=by rw[hl];simpa using hk2
   obtain⟨v,hv⟩:∃v,Ht[k]?=some v:=⟨_,List.getElem?_eq_getElem hkl⟩
   have hvo:v.x.over=false:=by
     rw[YS zOM]at hk3;unfold NZ at hk3;rw[Bool.and_eq_true]at hk3
     simpa [List.getD,hv]using hk3.1
   have hov:v.over=false:=by rw[(h.ov k v hv).1];exact hvo
   have hwb:wb≠q.br:=fun e=>by
     have c1:=hcells 0 zOM;rw[e]at c1;have c2:F8.cell? ⟨q.br,0,none⟩=some (.slice none 0 0):=by simp[World.cell?,h2.rows.run]
     rw[c2]at c1;cases c1
   refine qH (rd:=((List.range n).map (NZ q.hl F4 (Ht.map fun u=>u.x.over)))) (wb:=wb) h4 hl.symm (by simp) hne (fun i hi=>?_) hs4 fun GZ Aiv hs5 h5=>?_
   . have e:=cell_of (w:=F8) (w':=K3) (a:=⟨wb,i,none⟩) (by show K3.heap[wb]?=F8.heap[wb]?;rw[hw4];exact hoth wb hwb)
     rw[e,hcells i hi,YS hi]
   rw[hk1]at hs5;refine EO ?_;refine rM h5 zOM hs5 fun ZE Ake hs6 h6=>?_;refine EO ?_;refine tQ h6 hl.symm (k:=k) zOM (fun i c hc=>by have:=hst i c hc;omega) hs6 fun K4 Ajj hs7 h7=>?_;have hfu:=h.fuel k v hv;refine lI h7 hcl hzi hco (k:=k) (r:=v.r-1) zOM hv hov zOM zOM hs7 fun v' Aez Ala Ab3 IE u68 u69 zR hG h8=>?_;refine EU stepG_inBlock ?_;refine EU stepG_inLoop ?_;have hxs:(Ht.set k v').map (·.x)=(Ht.map (·.x)).set k (D.hold v.x (s₁+1) σ₁).1:=by rw[List.map_set,hG.x]
   have hbs:(Ht.set k v').map (·.b)=Ht.map (·.b):=by
     rw[List.map_set,hG.b];refine List.ext_getElem? fun j=>?_;by_cases e:k=j
     . subst e;rw[List.getElem?_set_self',List.getElem?_map,hv];rfl
     . rw[List.getElem?_set_ne e]
   obtain⟨f',rfl⟩:∃f',f=f'+1:=⟨f-1,by omega⟩
   have hnext:(⟨Ht.map (·.x),σ₁,IK,last₁,s₁,F4,q.hl⟩:Rs EP Cs Sg).next D=⟨(Ht.set k v').map (·.x),(D.hold v.x (s₁+1) σ₁).2.1,LG IK (MQ ((List.range n).map (NZ q.hl F4 (Ht.map fun u=>u.x.over)))),LH IK last₁ (MQ ((List.range n).map (NZ q.hl F4 (Ht.map fun u=>u.x.over)))),s₁+1,F4.set k (F4.getD k 0+1),q.hl⟩:=by
     have hp:(⟨Ht.map (·.x),σ₁,IK,last₁,s₁,F4,q.hl⟩:Rs EP Cs Sg).pick=k:=by unfold Rs.pick;rw[iL];show(LQ IK last₁ _).toNat=k;rw[hk1];rfl
     unfold Rs.next;rw[hp];have:(⟨Ht.map (·.x),σ₁,IK,last₁,s₁,F4,q.hl⟩:Rs EP Cs Sg).xs[k]?=some v.x:=by show(Ht.map (·.x))[k]?=_;rw[List.getElem?_map,hv];rfl
     rw[this];show Rs.turn D _ k v.x=_;unfold Rs.turn;rw[iL,hxs]
   rw[Rs.go_step D (by rw[iL];exact hbv) hlt,hnext]at hgo;refine ih f' zOM (Ht.set k v') _ _ _ (s₁+1) _ _ Aez _ _ _ _ _ _ _ _ Ab3 zOM (by rw[List.length_set];exact hl) (hbs.trans hb) h8 (fun i c hc=>?_) hlt hgo zR;rcases getElem?_set' hc with⟨_,rfl⟩|⟨_,hc⟩
   . have hkk:F4[k]?=some (F4.getD k 0):=by
       have:k<F4.length:=by rw[h.VF];exact hkl
       simp[List.getD,this]
     have:=hst k _ hkk;omega
   . have:=hst i c hc;omega
end
end
def Kh:Array Oper:=match nM with | .region _ ops _=>ops | _=>#[]
theorem jZ:nM=.region 18 Kh true:=rfl
theorem Ace:∃(af:Array Edge) (p:String) (ty:TypeId),Kh[0]?=some ⟨some 74,.fieldAddr 31 (.tmp 10) 0,ty,p,af,none⟩:=⟨_,_,_,rfl⟩
theorem xQ:∃(af:Array Edge) (p:String) (ty:TypeId),Kh[1]?=some ⟨some 75,.load 28 (.tmp 74),ty,p,af,none⟩:=⟨_,_,_,rfl⟩
theorem zC:∃(af:Array Edge) (p:String) (ty:TypeId),Kh[2]?=some ⟨some 76,.move (.tmp 15),ty,p,af,none⟩:=⟨_,_,_,rfl⟩
theorem Aax:∃(af:Array Edge) (p:String) (ty:TypeId),Kh[3]?=some ⟨some 77,.nilCheck (.tmp 76),ty,p,af,none⟩:=⟨_,_,_,rfl⟩
theorem zQ:∃(af:Array Edge) (p:String) (ty:TypeId),Kh[4]?=some ⟨some 78,.fieldAddr 92 (.tmp 77) 9,ty,p,af,none⟩:=⟨_,_,_,rfl⟩
theorem Aa4:∃(af:Array Edge) (p:String) (ty:TypeId),Kh[5]?=some ⟨some 79,.load 53 (.tmp 78),ty,p,af,none⟩:=⟨_,_,_,rfl⟩
theorem Ac6:∃(af:Array Edge) (p:String) (ty:TypeId),Kh[6]?=some ⟨some 80,.call { callee:=.builtin .append,args:=#[.const (.slice none 0 0),.tmp 79],argTypes:=#[53,53] },53,p,af,none⟩:=⟨_,_,53,rfl⟩
theorem Aaw:∃(af:Array Edge) (p:String) (ty:TypeId),Kh[7]?=some ⟨some 81,.buildSlice 28 1 #[(0,.tmp 80)],ty,p,af,none⟩:=⟨_,_,_,rfl⟩
theorem zS:∃(af:Array Edge) (p:String) (ty:TypeId),Kh[8]?=some ⟨some 82,.call { callee:=.builtin .append,args:=#[.tmp 75,.tmp 81],argTypes:=#[28,28] },28,p,af,none⟩:=⟨_,_,28,rfl⟩
theorem Aak:∃(af:Array Edge) (p:String) (ty:TypeId),Kh[9]?=some ⟨some 83,.fieldAddr 31 (.tmp 10) 0,ty,p,af,none⟩:=⟨_,_,_,rfl⟩
theorem wP:∃(af:Array Edge) (p:String) (ty:TypeId),Kh[10]?=some ⟨none,.store 28 (.tmp 83) (.tmp 82),ty,p,af,none⟩:=⟨_,_,_,rfl⟩
theorem wH:(Kh[1]?).map FH=some [0]:=by kernel_rfl
theorem tJ:(Kh[3]?).map FH=some [2]:=by kernel_rfl
theorem wN:(Kh[4]?).map FH=some [3]:=by kernel_rfl
theorem sV:(Kh[5]?).map FH=some [4]:=by kernel_rfl
theorem aY:(Kh[6]?).map FH=some [5]:=by kernel_rfl
theorem TV:(Kh[7]?).map FH=some [6]:=by kernel_rfl
theorem Pg:(Kh[8]?).map FH=some [1,7,6]:=by kernel_rfl
theorem Lc:(Kh[10]?).map FH=some [9,8,8,0,1,2,3,4,5,6,7,8]:=by kernel_rfl
theorem fV:Kh.size=11:=by kernel_rfl
theorem lV(i:Nat)(o:Oper)(ho:Kh[i]?=some o):∀e∈o.after,e.on<i:=by
 have h:(Kh.toList.zipIdx.all fun x=>x.1.after.all fun e=>decide (e.on<x.2))=true:=by kernel_rfl
 rw[List.all_eq_true]at h;have h1:=h (o,i) (by rw[List.mem_zipIdx_iff_getElem?];simpa using ho);simp only[Array.all_eq_true']at h1;exact fun e he=>of_decide_eq_true (h1 e he)
theorem Adb(i:Nat)(o:Oper)(ho:Kh[i]?=some o):o.guard=none/\o.dst=if i=10 then none else some (74+i):=by
 have h:(Kh.toList.zipIdx.all fun x=>x.1.guard.isNone&&x.1.dst==(if x.2=10 then none else some (74+x.2)))=true:=by kernel_rfl
 rw[List.all_eq_true]at h;have h1:=h (o,i) (by rw[List.mem_zipIdx_iff_getElem?];simpa using ho);simp only[Bool.and_eq_true,Option.isNone_iff_eq_none,beq_iff_eq]at h1;exact h1
def P7(w:World)(size:Nat)(v:Value)(n:Nat)(xs:List Value):Prop:=xs.length=n*size/\((v=.slice none 0 0/\n=0)\/∃g cap,v=.slice (some ⟨g,0,none⟩) n cap/\∀(j:Nat) (u:Value),xs[j]?=some u->w.cell? ((⟨g,0,none⟩:Addr).add j)=some u)
theorem P7.of{w w':World}{base size n:Nat}{v:Value}{xs:List Value}(h:FY w base size v n xs)(hc:∀(g o:Nat),v.ownBlock=some g->w'.cell? ⟨g,o,none⟩=w.cell? ⟨g,o,none⟩):P7 w' size v n xs:=by
 obtain⟨te,hl,⟨rfl,rfl⟩|⟨g,cap,cur,rfl,hr⟩⟩:=h
 . exact⟨hl,.inl ⟨rfl,rfl⟩⟩
 . refine⟨hl,.inr ⟨g,cap,rfl,fun j u hj=>?_⟩⟩;have:=World.ownsRow.cells (h:=(⟨hl,.inr ⟨g,cap,cur,rfl,hr⟩⟩:w.ownsRow base te size (.slice (some ⟨g,0,none⟩) n cap) n xs)) rfl j u hj;rw[Addr.add_lit]at this ⊢;rw[hc g _ rfl];exact this
theorem P7.cells{w w':World}{size n:Nat}{v:Value}{xs:List Value}(h:P7 w size v n xs)(hc:∀a,w'.cell? a=w.cell? a):P7 w' size v n xs:=by
 obtain⟨hl,h|⟨g,cap,h1,h2⟩⟩:=h
 . exact⟨hl,.inl h⟩
 . exact⟨hl,.inr ⟨g,cap,h1,fun j u hj=>by rw[hc];exact h2 j u hj⟩⟩
theorem V6{P:Program}(w:World)(t ty e:TypeId)(i:TypeInfo)(z:Value)(size bytes:Nat)(ht:P.underlying t=some (.slice e))(hi:P.info? e=some i)(hz:i.zero=some z)(hsize:i.size=size)(hby:i.bytes=bytes)(hzs:z.cells.size=size)(hsz:0<size)(v:Value)(n:Nat)(xs:List Value)(hown:P7 w size v n xs)(h1:∀u∈xs,u.oneCell'=true)(h63:n<=maxLen)(hbytes:n*bytes<=140737488355328) :
   ∃v' w',(Builtin.append_ #[t,t] ty #[.slice none 0 0,v]).run P w=.ok v' w'/\FY w' w.heap.size size v' n xs/\w.grownBy w' none:=by
 obtain⟨hl,⟨rfl,rfl⟩|⟨g,cap,rfl,hcells⟩⟩:=hown
 . have hx:xs=[]:=List.eq_nil_of_length_eq_zero (by simpa using hl);subst hx;refine⟨.slice none 0 0,w,?_,.nil _ _ _,World.grownBy.refl _ _⟩;simp[Builtin.append_,run_underlying ht,sizeOf,typeInfo,hi,Builtin.lenOf,Builtin.firstCells]
 . obtain⟨v',w',r1,r2,r3,r4⟩:=J7 (P:=P) w w.heap.size t ty e i z size bytes ht hi hz hsize hby hzs hsz (.slice none 0 0) 0 [] (.nil _ _ _) ⟨g,0,none⟩ n cap xs hl hcells h1 zOM (by simpa using hbytes) (Nat.le_refl _);refine⟨v',w',r1,by simpa using r2,?_⟩;rcases r4 with r4|⟨_,r4⟩
   . exact r3
   . exact r4
section
def T9{Cs:Type}(W:World)(N1:Nat)(v:Value)(u:FE (Wk EP Cs)):Prop:=∃JH:List Value,JH.length=u.x.out.length/\FY W N1 9 v u.x.out.length (List.zipWith FZ u.x.out JH).flatten/\∀(i:Nat) (a:Gg) (iv:Value),u.x.out[i]?=some a->JH[i]?=some iv->GQ W (fun g=>u.own g) iv a.a.ints
structure sN where
 v:Value
 os:List (Nat × Nat × Nat)
def Lf(p:Nat × Nat × Nat):List Value:=[.int .i64 p.1,.int .i64 p.2.1,.int .i64 p.2.2]
def PO.C(q:PO)(Kp:Nat->Prop)(g:Nat):Prop:=g=q.lg\/g=q.bz\/g=q.br\/Kp g
structure Va{Cs Sg:Type}(m:Mem Sg)(ρ:Rn)(ws:List (FE (Wk EP Cs)))(q:PO)(Kp:Nat->Prop)(W0:World)(N1:Nat)(σ:Sg)(s:Nat)(cut:Value)(ov:sN)(i:Nat)(vs:List Value)(av:Value)(W:World):Prop where
 lay:q.Lay Kp
 row:∀(i b:Nat),(ws.map (·.b))[i]?=some b->W.cell? ⟨q.lg,i,none⟩=some (.pointer (some ⟨b,0,none⟩))
 run:W.heap[q.br]?=some (.cells #[av,ov.v,.int .i64 s,cut] 31 (0,0))
 res:W.heap[q.bz]?=some (.cells #[.slice none 0 0,.slice none 0 0,.int .i64 0,.bool false] 31 (0,0))
 inv:m.Inv σ W
 free:∀g,q.C Kp g->(∃c e f,W.heap[g]?=some (.cells c e f))/\g≠ρ.Wg/\ρ.Bo g=false/\¬ m.Sh g/\∀(j:Nat) (u:FE (Wk EP Cs)),ws[j]?=some u->¬ u.own g
 kept:∀g,Kp g->W.heap[g]?=W0.heap[g]?
 own:FY W N1 1 av i vs
 cop:∀(j:Nat) (v:Value) (u:FE (Wk EP Cs)),vs[j]?=some v->ws[j]?=some u->T9 W N1 v u/\v.oneCell'=true/\∀g,v.ownBlock=some g->av.ownBlock≠some g
 opn:FY W N1 3 ov.v ov.os.length (ov.os.map Lf).flatten
 jq:∀g,ov.v.ownBlock=some g->av.ownBlock≠some g/\∀(j:Nat) (v:Value),vs[j]?=some v->v.ownBlock≠some g
 few:ws.length<=1000
 low:q.br<N1/\N1<=W.heap.size/\(∀g,m.Sh g->g<N1)/\∀(j:Nat) (u:FE (Wk EP Cs)),ws[j]?=some u->(∀g,u.own g->g<N1)/\u.x.out.length<=1000000
theorem Gl{w w':World}{base size n:Nat}{v:Value}{xs:List Value}(h:FY w base size v n xs)(he:∀g,v.ownBlock=some g->w'.heap[g]?=w.heap[g]?):FY w' base size v n xs:=Jp h fun g hg=>.of (he g hg)
theorem Gx{w:World}{base size n:Nat}{v:Value}{xs:List Value}(h:FY w base size v n xs){g:Nat}(hg:v.ownBlock=some g):base<=g/\g<w.heap.size:=h.blk g hg
section
variable {Cs Sg:Type}{D:Dr EP Cs Sg}{m:Mem Sg}{ρ:Rn}{ws:List (FE (Wk EP Cs))}
variable {Fin:Gb}{EH:FM Try.prog Fin}
variable {q:PO}{Kp:Nat->Prop}{W0 W:World}{N1 s co n nn:Nat}{σ:Sg}{left:List Int}{last:Int}{steps:List Nat}{cut GK Gi Ia Jh JD IE u68 u69:Value}{ds:List Deferred}{K:List Item}{cs:List Frame}
variable {ov:sN}{av:Value}{i:Nat}{vs:List Value}
theorem Va.lt(h:Va m ρ ws q Kp W0 N1 σ s cut ov i vs av W){g:Nat}(hg:q.C Kp g):g<W.heap.size:=by obtain⟨⟨c,e,f,hc⟩,_⟩:=h.free g hg;exact(zGE hc).1
theorem Va.ltN(h:Va m ρ ws q Kp W0 N1 σ s cut ov i vs av W){g:Nat}(hg:q.C Kp g):g<N1:=by
 have h1:=h.lay.h1;have h2:=h.lay.h2;have h3:=h.lay.h3;have h4:=h.lay.h4;have h5:=h.lay.h5;have h7:=h.low.1;rcases hg with rfl|rfl|rfl|hg
 . omega
 . omega
 . exact h7
 . have:=h.lay.h7 g hg;omega
theorem Va.alike{W':World}(h:Va m ρ ws q Kp W0 N1 σ s cut ov i vs av W)(hh:W'.heap=W.heap):Va m ρ ws q Kp W0 N1 σ s cut ov i vs av W':=
  { lay:=h.lay,row:=fun i b hb=>(by rw[cell_of (w:=W) (a:=⟨q.lg,i,none⟩) (by rw[hh])];exact h.row i b hb),run:=(by rw[hh];exact h.run),res:=(by rw[hh];exact h.res),
     inv:=m.eq σ W W' (fun g _=>.of (by rw[hh])) h.inv,free:=fun g hg=>(by rw[hh];exact h.free g hg),kept:=fun g hg=>(by rw[hh];exact h.kept g hg),
     own:=Gl h.own fun g _=>(by rw[hh]),
     cop:=fun j v u hv hu=>(by obtain⟨⟨JH,c1,c2,c3⟩,c4⟩:=h.cop j v u hv hu;exact⟨⟨JH,c1,Gl c2 fun g _=>(by rw[hh]),fun i a iv ha hi=>(c3 i a iv ha hi).RN fun g _=>.of (by rw[hh])⟩,c4⟩),
     opn:=Gl h.opn fun g _=>(by rw[hh]),jq:=h.jq,few:=h.few,low:=(by rw[hh];exact h.low) }
theorem bW{tm tm':Array Value}(h:Sd q co n GK Gi Ia Jh JD IE u68 u69 tm)(hsz:tm'.size=106)(hlow:∀s,s<74->tm'[s]?=tm[s]?):Sd q co n GK Gi Ia Jh JD IE u68 u69 tm':=by
 obtain⟨v4,v5,Ai,Aj,Ak,Al,Am,Ao,Ap,Ar,Au,Av,Aw,Ay,Az,AA,AB,AJ,AL,AO,AP,AQ,AU,AV,AX,AY,AZ,A8,A9,Ba,Bb,Bc,Bf,Bh,Bj,Bl,Bp,Bq,Br,Bu,Bv,Bw,Bz,BD,BF,BG,BH,BI,BJ,BK,BL,BM,BN,BR,BS,BU,BX,BZ,Ca,Cb,Cc,Ce,Cg,Ci,Cj,Ck,Cm,Co,Cq,Cr,Ct,Cu,Cw,Cx,Cy,Cz,CB,CF,CG,CJ,CK,CO,CQ,CS,CU,CV,CW,CX,CY,rfl⟩:=h
 have e:tm'=#[tm'.getD 0 undef,tm'.getD 1 undef,tm'.getD 2 undef,tm'.getD 3 undef,tm'.getD 4 undef,tm'.getD 5 undef,tm'.getD 6 undef,tm'.getD 7 undef,tm'.getD 8 undef,tm'.getD 9 undef,tm'.getD 10 undef,tm'.getD 11 undef,tm'.getD 12 undef,tm'.getD 13 undef,tm'.getD 14 undef,tm'.getD 15 undef,tm'.getD 16 undef,tm'.getD 17 undef,tm'.getD 18 undef,tm'.getD 19 undef,tm'.getD 20 undef,tm'.getD 21 undef,tm'.getD 22 undef,tm'.getD 23 undef,tm'.getD 24 undef,tm'.getD 25 undef,tm'.getD 26 undef,tm'.getD 27 undef,tm'.getD 28 undef,tm'.getD 29 undef,tm'.getD 30 undef,tm'.getD 31 undef,tm'.getD 32 undef,tm'.getD 33 undef,tm'.getD 34 undef,tm'.getD 35 undef,tm'.getD 36 undef,tm'.getD 37 undef,tm'.getD 38 undef,tm'.getD 39 undef,tm'.getD 40 undef,tm'.getD 41 undef,tm'.getD 42 undef,tm'.getD 43 undef,tm'.getD 44 undef,tm'.getD 45 undef,tm'.getD 46 undef,tm'.getD 47 undef,tm'.getD 48 undef,tm'.getD 49 undef,tm'.getD 50 undef,tm'.getD 51 undef,tm'.getD 52 undef,tm'.getD 53 undef,tm'.getD 54 undef,tm'.getD 55 undef,tm'.getD 56 undef,tm'.getD 57 undef,tm'.getD 58 undef,tm'.getD 59 undef,tm'.getD 60 undef,tm'.getD 61 undef,tm'.getD 62 undef,tm'.getD 63 undef,tm'.getD 64 undef,tm'.getD 65 undef,tm'.getD 66 undef,tm'.getD 67 undef,tm'.getD 68 undef,tm'.getD 69 undef,tm'.getD 70 undef,tm'.getD 71 undef,tm'.getD 72 undef,tm'.getD 73 undef,tm'.getD 74 undef,tm'.getD 75 undef,tm'.getD 76 undef,tm'.getD 77 undef,tm'.getD 78 undef,tm'.getD 79 undef,tm'.getD 80 undef,tm'.getD 81 undef,tm'.getD 82 undef,tm'.getD 83 undef,tm'.getD 84 undef,tm'.getD 85 undef,tm'.getD 86 undef,tm'.getD 87 undef,tm'.getD 88 undef,tm'.getD 89 undef,tm'.getD 90 undef,tm'.getD 91 undef,tm'.getD 92 undef,tm'.getD 93 undef,tm'.getD 94 undef,tm'.getD 95 undef,tm'.getD 96 undef,tm'.getD 97 undef,tm'.getD 98 undef,tm'.getD 99 undef,tm'.getD 100 undef,tm'.getD 101 undef,tm'.getD 102 undef,tm'.getD 103 undef,tm'.getD 104 undef,tm'.getD 105 undef]:=o7 hsz
 have e0:tm'.getD 0 undef=q.cv:=FN (hlow 0 (by decide));have e1:tm'.getD 1 undef=.slice (some ⟨q.lg,0,none⟩) n q.lc:=FN (hlow 1 (by decide));have e2:tm'.getD 2 undef=.chan (some co):=FN (hlow 2 (by decide));have e3:tm'.getD 3 undef=.pointer (some ⟨q.bc,0,none⟩):=FN (hlow 3 (by decide));have e6:tm'.getD 6 undef=.pointer (some ⟨q.bz,0,none⟩):=FN (hlow 6 (by decide));have e7:tm'.getD 7 undef=.int .i64 q.most:=FN (hlow 7 (by decide));have e8:tm'.getD 8 undef=.pointer (some ⟨q.ob,0,none⟩):=FN (hlow 8 (by decide));have e9:tm'.getD 9 undef=.slice (some ⟨q.sg,0,none⟩) n n:=FN (hlow 9 (by decide));have e10:tm'.getD 10 undef=.pointer (some ⟨q.br,0,none⟩):=FN (hlow 10 (by decide));have e11:tm'.getD 11 undef=GK:=FN (hlow 11 (by decide));have e12:tm'.getD 12 undef=Gi:=FN (hlow 12 (by decide))
 have e13:tm'.getD 13 undef=Ia:=FN (hlow 13 (by decide));have e14:tm'.getD 14 undef=Jh:=FN (hlow 14 (by decide));have e15:tm'.getD 15 undef=JD:=FN (hlow 15 (by decide));have e67:tm'.getD 67 undef=IE:=FN (hlow 67 (by decide));have e68:tm'.getD 68 undef=u68:=FN (hlow 68 (by decide));have e69:tm'.getD 69 undef=u69:=FN (hlow 69 (by decide));rw[e0,e1,e2,e3,e6,e7,e8,e9,e10,e11,e12,e13,e14,e15,e67,e68,e69]at e;exact⟨_,_,_,_,_,_,_,_,_,_,_,_,_,_,_,_,_,_,_,_,_,_,_,_,_,_,_,_,_,_,_,_,_,_,_,_,_,_,_,_,_,_,_,_,_,_,_,_,_,_,_,_,_,_,_,_,_,_,_,_,_,_,_,_,_,_,_,_,_,_,_,_,_,_,_,_,_,_,_,_,_,_,_,_,_,_,_,_,_,e⟩
theorem nR{out:List Gg}{JH:List Value}(h:∀iv∈JH,iv.oneCell'=true):∀u∈(List.zipWith FZ out JH).flatten,u.oneCell'=true:=by intro u hu;obtain⟨l,hl,hu⟩:=List.mem_flatten.1 hu;obtain⟨i,hi,rfl⟩:=List.getElem_of_mem hl;rw[List.getElem_zipWith]at hu;simp only[FZ,List.mem_cons,List.not_mem_nil,or_false]at hu;rcases hu with rfl|rfl|rfl|rfl|rfl|rfl|rfl|rfl|rfl;all_goals first | rfl | exact h _ (List.getElem_mem _)
end
end
section
section
variable {Cs Sg:Type}{D:Dr EP Cs Sg}{m:Mem Sg}{ρ:Rn}{ws:List (FE (Wk EP Cs))}
variable {Fin:Gb}{EH:FM Try.prog Fin}
variable {q:PO}{Kp:Nat->Prop}{W0 W:World}{N1 s co n nn:Nat}{σ:Sg}{left:List Int}{last:Int}{steps:List Nat}{cut GK Gi Ia Jh JD IE u68 u69:Value}{ds:List Deferred}{K:List Item}{cs:List Frame}
variable {ov:sN}{av:Value}{i:Nat}{vs:List Value}
theorem sQ(h:Va m ρ ws q Kp W0 N1 σ s cut ov i vs av W){v:FE (Wk EP Cs)}(hv:ws[i]?=some v)(hi8:i<1000){tm:Array Value}(hs:Sd q co n GK Gi Ia Jh (.pointer (some ⟨v.b,0,none⟩)) IE u68 u69 tm)(hK:∀W' tm' v1 av',Sd q co n GK Gi Ia Jh (.pointer (some ⟨v.b,0,none⟩)) IE u68 u69 tm'->Va m ρ ws q Kp W0 N1 σ s cut ov (i+1) (vs++[v1]) av' W'->JL (S0 Try.prog Fin EH).L (.Fg (Fe D m) ρ ws 0 false nn) (G ((base 31).at ⟨tm',ds⟩ K) cs) W') :
   JL (S0 Try.prog Fin EH).L (.Fg (Fe D m) ρ ws 0 false nn) (G ((base 31).at ⟨tm,ds⟩ (.code nM :: K)) cs) W:=by
 refine J0.know (EH:=EH) fun hKn=>?_;obtain⟨_,hvb,t,co',go,gr,ans,hrow,⟨JH,U9,hown,hints⟩,hblk⟩:=hKn.record i v hv;have hin:=(hKn.inside i v hv).1;have hcl:∀a:Addr,v.own a.block->W.cell? a=v.wy.cell? a:=hKn.cell i v hv;have pV:W.cell? ⟨v.b,9,none⟩=some ans:=by rw[hcl ⟨v.b,9,none⟩ hin];exact hrow.cells.2.2.2.2.1
 have hsrc:P7 W 9 ans v.x.out.length (List.zipWith FZ v.x.out JH).flatten:=P7.of hown fun g o hg=>hcl ⟨g,o,none⟩ (hblk g hg).1;have bJ:∀(j:Nat) (a:Gg) (iv:Value),v.x.out[j]?=some a->JH[j]?=some iv->GQ W (fun g=>v.own g) iv a.a.ints:=fun j a iv ha hi=>by
   have:=hints j a iv ha hi;rcases this with h1|⟨h0,g,c,h1,h2,h3,h4,h5⟩
   . exact .inl h1
   . exact .inr ⟨h0,g,c,h1,h2.1.1,h3,h4,fun k u hu=>by rw[hcl ⟨g,k,none⟩ h2.1.1];exact h5 k u hu⟩
 have hone:∀iv∈JH,iv.oneCell'=true:=fun iv hiv=>by
   obtain⟨j,hj,rfl⟩:=List.getElem_of_mem hiv;have hj2:j<v.x.out.length:=by omega
   rcases hints j _ _ (List.getElem?_eq_getElem hj2) (List.getElem?_eq_getElem hj)with⟨_,e⟩|⟨_,g,c,e,_⟩<;>rw[e]<;>rfl
 have hlow:=h.low;have hvl:=hlow.2.2.2 i v hv;have hvN:∀g,v.own g->g<N1:=hvl.1;have hs0:=hs;obtain⟨v4,v5,Ai,Aj,Ak,Al,Am,Ao,Ap,Ar,Au,Av,Aw,Ay,Az,AA,AB,AJ,AL,AO,AP,AQ,AU,AV,AX,AY,AZ,A8,A9,Ba,Bb,Bc,Bf,Bh,Bj,Bl,Bp,Bq,Br,Bu,Bv,Bw,Bz,BD,BF,BG,BH,BI,BJ,BK,BL,BM,BN,BR,BS,BU,BX,BZ,Ca,Cb,Cc,Ce,Cg,Ci,Cj,Ck,Cm,Co,Cq,Cr,Ct,Cu,Cw,Cx,Cy,Cz,CB,CF,CG,CJ,CK,CO,CQ,CS,CU,CV,CW,CX,CY,rfl⟩:=hs
 have bQ:(#[q.cv,.slice (some ⟨q.lg,0,none⟩) n q.lc,.chan (some co),.pointer (some ⟨q.bc,0,none⟩),v4,v5,.pointer (some ⟨q.bz,0,none⟩),.int .i64 q.most,.pointer (some ⟨q.ob,0,none⟩),.slice (some ⟨q.sg,0,none⟩) n n,.pointer (some ⟨q.br,0,none⟩),GK,Gi,Ia,Jh,.pointer (some ⟨v.b,0,none⟩),Ai,Aj,Ak,Al,Am,Ao,Ap,Ar,Au,Av,Aw,Ay,Az,AA,AB,AJ,AL,AO,AP,AQ,AU,AV,AX,AY,AZ,A8,A9,Ba,Bb,Bc,Bf,Bh,Bj,Bl,Bp,Bq,Br,Bu,Bv,Bw,Bz,BD,BF,BG,BH,BI,BJ,BK,BL,BM,BN,IE,u68,u69,BR,BS,BU,BX,BZ,Ca,Cb,Cc,Ce,Cg,Ci,Cj,Ck,Cm,Co,Cq,Cr,Ct,Cu,Cw,Cx,Cy,Cz,CB,CF,CG,CJ,CK,CO,CQ,CS,CU,CV,CW,CX,CY]:Array Value)[10]?=some (.pointer (some ⟨q.br,0,none⟩)):=rfl
 have ny:(#[q.cv,.slice (some ⟨q.lg,0,none⟩) n q.lc,.chan (some co),.pointer (some ⟨q.bc,0,none⟩),v4,v5,.pointer (some ⟨q.bz,0,none⟩),.int .i64 q.most,.pointer (some ⟨q.ob,0,none⟩),.slice (some ⟨q.sg,0,none⟩) n n,.pointer (some ⟨q.br,0,none⟩),GK,Gi,Ia,Jh,.pointer (some ⟨v.b,0,none⟩),Ai,Aj,Ak,Al,Am,Ao,Ap,Ar,Au,Av,Aw,Ay,Az,AA,AB,AJ,AL,AO,AP,AQ,AU,AV,AX,AY,AZ,A8,A9,Ba,Bb,Bc,Bf,Bh,Bj,Bl,Bp,Bq,Br,Bu,Bv,Bw,Bz,BD,BF,BG,BH,BI,BJ,BK,BL,BM,BN,IE,u68,u69,BR,BS,BU,BX,BZ,Ca,Cb,Cc,Ce,Cg,Ci,Cj,Ck,Cm,Co,Cq,Cr,Ct,Cu,Cw,Cx,Cy,Cz,CB,CF,CG,CJ,CK,CO,CQ,CS,CU,CV,CW,CX,CY]:Array Value)[15]?=some (.pointer (some ⟨v.b,0,none⟩)):=rfl;refine Fp.Fz (S:=S0 Try.prog Fin EH) (b:=base 31) [] (by simp) zKR nE zKR fun EG ha=>?_;have hh:EG.heap=W.heap:=by obtain⟨τ,d,rfl⟩:=ha;rfl
 have hcell:∀a,EG.drew.cell? a=W.cell? a:=fun a=>by show EG.cell? a=_;simp only[World.cell?,hh]
 have Agj:EG.drew.cell? ⟨v.b,9,none⟩=some ans:=by rw[hcell];exact pV
 have hsz0:EG.drew.heap.size=W.heap.size:=by show EG.heap.size=_;rw[hh]
 have wI:(Try.prog.info? 42).map (fun i=>(i.zero,i.size,i.bytes))=some (some (.agg #[.int .i64 0,.int .i64 0,.int .i64 0,.bool false,.int .i64 0,.int .i64 0,.int .i64 0,.slice none 0 0,.slice none 0 0]),9,104):=by kernel_rfl
 have vL:(Try.prog.info? 53).map (fun i=>(i.zero,i.size,i.bytes))=some (some (.slice none 0 0),1,24):=by kernel_rfl
 obtain⟨iA,hiA,fH,hA1,hA2⟩:=info_parts wI;obtain⟨iS,hiS,hS0,hS1,hS2⟩:=info_parts vL;obtain⟨v1,w1,r6,g6,f6⟩:=V6 (P:=Try.prog) EG.drew 53 53 42 iA _ 9 104 Try.underlying53 hiA fH hA1 hA2 rfl (by decide) ans v.x.out.length _ (hsrc.cells hcell) (nR hone) (by unfold maxLen;omega) zOM;obtain⟨p1,n1,c1,rfl⟩:=Iy g6;have hv1:(Value.slice p1 n1 c1).oneCell'=true:=rfl;have hb1:∀g,g<W.heap.size->w1.heap[g]?=W.heap[g]?:=fun g hg=>by rw[f6.block g (by rw[hsz0];exact hg) (by simp)];show EG.heap[g]?=_;rw[hh]
 have hz1:W.heap.size<=w1.heap.size:=by have:=f6.size;rw[hsz0]at this;exact this
 have hl1:∀g,(Value.slice p1 n1 c1).ownBlock=some g->W.heap.size<=g/\g<w1.heap.size:=fun g hg=>by have:=Gx g6 hg;rw[hsz0]at this;exact this
 obtain⟨w2,lS⟩:∃w2,w1.alloc (.cells #[.slice p1 n1 c1] 53)=w2:=⟨_,rfl⟩
 have hb2:∀g,g<w1.heap.size->w2.heap[g]?=w1.heap[g]?:=fun g hg=>by rw[← lS];exact Below.heap_alloc _ _ _ hg
 have hz2:w2.heap.size=w1.heap.size+1:=by rw[← lS];simp
 have Acn:FY w2 N1 1 av i vs:=Gl h.own fun g hg=>by have:=Gx h.own hg;rw[hb2 g zOM,hb1 g this.2]
 obtain⟨av2,w3,r8,g8,f8,k8⟩:=J7 (P:=Try.prog) w2 N1 28 28 53 iS (.slice none 0 0) 1 24 Try.underlying28 hiS hS0 hS1 hS2 rfl (by decide) av i vs Acn ⟨w1.heap.size,0,none⟩ 1 1 [.slice p1 n1 c1] rfl (by rw[← lS];exact cell_one_new _ _ _) (by intro u hu;simp at hu;subst hu;exact hv1) (by unfold maxLen;omega) zOM zOM;obtain⟨p2,n2,c2,rfl⟩:=Iy g8;obtain⟨w4,bK⟩:∃w4,w4=w3.setCell ⟨q.br,0,none⟩ (.slice p2 n2 c2):=⟨_,rfl⟩
 have oW:∀g,(Value.slice p2 n2 c2).ownBlock=some g->av.ownBlock=some g\/w2.heap.size<=g:=fun g hg=>by
   rcases k8 with k|⟨k,_⟩
   . rw[k]at hg;exact .inl hg
   . exact .inr (k g hg)
 have hb3:∀g,g<w2.heap.size->av.ownBlock≠some g->w3.heap[g]?=w2.heap[g]?:=fun g hg hne=>f8.block g hg (fun e=>hne e.symm);have hz3:w2.heap.size<=w3.heap.size:=f8.size;have nU:∀g,av.ownBlock=some g->N1<=g/\g<W.heap.size:=fun g hg=>Gx h.own hg;have hbr:q.br<N1:=hlow.1;have hN1:=hlow.2.1;have hold:∀g,g<N1->w3.heap[g]?=W.heap[g]?:=fun g hg=>by rw[hb3 g zOM (fun e=>by have:=nU g e;omega),hb2 g zOM,hb1 g zOM]
 have hav:∀(l:Array Bool),l[10]?≠some true->(FL EG.drew [(6,w1),(7,w2),(8,w3),(10,w4)] l).cell? ⟨q.br,0,none⟩=some av:=fun l h10=>by
   have hc0:W.cell? ⟨q.br,0,none⟩=some av:=by simp[World.cell?,h.run]
   rcases Ov [(6,w1),(7,w2),(8,w3),(10,w4)] EG.drew with e|⟨c,w',hm,hl,e⟩
   . rw[e,hcell];exact hc0
   . rw[e];simp only[List.mem_cons,Prod.mk.injEq,List.not_mem_nil,or_false]at hm;rcases hm with⟨rfl,rfl⟩|⟨rfl,rfl⟩|⟨rfl,rfl⟩|⟨rfl,rfl⟩
     . rw[cell_of (a:=⟨q.br,0,none⟩) (hb1 q.br zOM)];exact hc0
     . rw[cell_of (a:=⟨q.br,0,none⟩) ((hb2 q.br zOM).trans (hb1 q.br zOM))];exact hc0
     . rw[cell_of (a:=⟨q.br,0,none⟩) (hold q.br hbr)];exact hc0
     . exact absurd hl h10
 have hcz:w3.frozen? ⟨q.br,0,none⟩=false:=by simp[World.frozen?,hold q.br hbr,h.run]
 have hcw:w3.cell? ⟨q.br,0,none⟩=some av:=by rw[cell_of (a:=⟨q.br,0,none⟩) (hold q.br hbr)];simp[World.cell?,h.run]
 have Qh:∀g,g≠q.br->w4.heap[g]?=w3.heap[g]?:=fun g hg=>by rw[bK];simp[World.setCell,Array.getElem?_modify,Ne.symm hg]
 have sF:w4.heap[q.br]?=some (.cells #[.slice p2 n2 c2,ov.v,.int .i64 s,cut] 31 (0,0)):=by rw[bK];have:=(hold q.br hbr).trans h.run;simp[World.setCell,Array.getElem?_modify,this]
 have Aom:w4.heap.size=w3.heap.size:=by rw[bK];simp[World.setCell]
 have Ajv:vs.length=i:=by
   obtain⟨te,hl,_⟩:=h.own
   simpa using hl
 have hfin:Va m ρ ws q Kp W0 N1 σ s cut ov (i+1) (vs++[.slice p1 n1 c1]) (.slice p2 n2 c2) w4:=by
   have l1:=h.lay.h1;have l2:=h.lay.h2;have l3:=h.lay.h3;have l4:=h.lay.h4;have l5:=h.lay.h5;have XI:=h.free q.br (.inr (.inr (.inl rfl)));have hcp:∀(v:Value) (u:FE (Wk EP Cs)),T9 W N1 v u->(∀g,u.own g->g<N1/\g≠q.br)->(∀g,v.ownBlock=some g->av.ownBlock≠some g)->T9 w4 N1 v u:=fun v u ⟨JH,c1,c2,c3⟩ hu hne=>by
     refine⟨JH,c1,Gl c2 fun g hg=>?_,fun i a iv ha hi=>(c3 i a iv ha hi).RN fun g hg=>.of ?_⟩
     . have:=Gx c2 hg;rw[Qh g zOM,hb3 g zOM (hne g hg),hb2 g zOM,hb1 g this.2]
     . rw[Qh g (hu g hg).2,hold g (hu g hg).1]
   refine⟨h.lay,fun j b hb=>?_,sF,?_,?_,fun g hg=>?_,fun g hg=>?_,Gl g8 fun g hg=>?_,fun j v' u hj hu=>?_,Gl h.opn fun g hg=>?_,fun g hg=>⟨fun e=>?_,fun j v' hj e=>?_⟩,h.few,hlow.1,by omega,hlow.2.2⟩
   . rw[cell_of (a:=⟨q.lg,j,none⟩) ((Qh q.lg zOM).trans (hold q.lg zOM))];exact h.row j b hb
   . rw[Qh _ zOM,hold _ zOM];exact h.res
   . exact m.eq σ W w4 (fun g hg=>.of (by rw[Qh g (fun e=>XI.2.2.2.1 (e ▸ hg)),hold g (hlow.2.2.1 g hg)])) h.inv
   . by_cases e:g=q.br
     . rw[e];exact⟨⟨_,_,_,sF⟩,XI.2⟩
     . rw[Qh g e,hold g (h.ltN hg)];exact h.free g hg
   . have:=h.lay.h7 g hg;rw[Qh g zOM,hold g zOM];exact h.kept g hg
   . have:=Gx g8 hg;rw[Qh g zOM]
   . have wS:∀g,u.own g->g<N1/\g≠q.br:=fun g hg=>⟨(hlow.2.2.2 j u hu).1 g hg,fun e=>XI.2.2.2.2 j u hu (e ▸ hg)⟩
     rw[List.getElem?_append]at hj;by_cases hlt:j<vs.length
     . rw[if_pos hlt]at hj;obtain⟨c1,c2,c3⟩:=h.cop j v' u hj hu;refine⟨hcp v' u c1 wS c3,c2,fun g hg e=>?_⟩;rcases oW g e with e|e
       . exact c3 g hg e
       . obtain⟨Ao8,_,c4,_⟩:=c1;have:=Gx c4 hg;omega
     . rw[if_neg hlt]at hj;have hj0:j-vs.length=0:=by
         rcases Nat.eq_zero_or_pos (j-vs.length)with h|h
         . exact h
         . rw[List.getElem?_eq_none (by simp;omega)]at hj;cases hj
       rw[hj0]at hj;cases hj
       obtain rfl:j=i:=by omega
       rw[hv]at hu;cases hu
       refine⟨⟨JH,U9,?_,fun k a iv ha hi=>(bJ k a iv ha hi).RN fun g hg=>.of (by rw[Qh g (wS g hg).2,hold g (wS g hg).1])⟩,hv1,fun g hg e=>?_⟩
       . have hg6:FY w4 EG.drew.heap.size 9 (.slice p1 n1 c1) v.x.out.length (List.zipWith FZ v.x.out JH).flatten:=Gl g6 fun g hg=>by have h1:=hl1 g hg;rw[Qh g zOM,hb3 g zOM (fun e=>by have:=nU g e;omega),hb2 g h1.2]
         obtain⟨te,q1,q2|⟨g,cap,cur,q3,q4,q5⟩⟩:=hg6
         . exact⟨te,q1,.inl q2⟩
         . exact⟨te,q1,.inr ⟨g,cap,cur,q3,by omega,q5⟩⟩
       . have h1:=hl1 g hg;rcases oW g e with e|e
         . have:=nU g e;omega
         . omega
   . have h1:=Gx h.opn hg;rw[Qh g zOM,hb3 g zOM (h.jq g hg).1,hb2 g zOM,hb1 g h1.2]
   . have h1:=Gx h.opn hg;rcases oW g e with e|e
     . exact(h.jq g hg).1 e
     . omega
   . have h1:=Gx h.opn hg;rw[List.getElem?_append]at hj;by_cases hlt:j<vs.length
     . rw[if_pos hlt]at hj;exact(h.jq g hg).2 j v' hj e
     . rw[if_neg hlt]at hj;have hj0:j-vs.length=0:=by
         rcases Nat.eq_zero_or_pos (j-vs.length)with h|h
         . exact h
         . rw[List.getElem?_eq_none (by simp;omega)]at hj;cases hj
       rw[hj0]at hj;cases hj
       have:=hl1 g e;omega
 have HH:=Lib.hid (zAI hK (zAI hs0 hfin));have HW4:=Lib.hid bK;clear bK hcl hcell pV hv1 hl1;clear hK hs0 hfin h hKn hints bJ hrow hblk hown hsrc hlow hvl hold hb1 hb2 hb3 oW nU g6 g8 f6 f8 k8 Qh sF Acn;rw[jZ];refine RF [(6,w1),(7,w2),(8,w3),(10,w4)] (Fence.list_round _ _) zKR lV fV (s0:=74) (vs:=[.pointer (some ⟨q.br,0,none⟩),av,.pointer (some ⟨v.b,0,none⟩),.pointer (some ⟨v.b,0,none⟩),.pointer (some ⟨v.b,9,none⟩),ans,.slice p1 n1 c1,.slice (some ⟨w1.heap.size,0,none⟩) 1 1,.slice p2 n2 c2,.pointer (some ⟨q.br,0,none⟩)]) rfl (by simp) Adb ?_ ?_
 . intro l a i o hI hl hd hb ho hod;have hi:i<11:=by have:=(zGE ho).1;rw[fV]at this;exact this
   clear hv;obtain rfl|rfl|rfl|rfl|rfl|rfl|rfl|rfl|rfl|rfl|rfl:i=0\/i=1\/i=2\/i=3\/i=4\/i=5\/i=6\/i=7\/i=8\/i=9\/i=10:=by omega
   . obtain⟨af,p,ty,ho'⟩:=Ace;obtain rfl:=Option.some.inj (ho.symm.trans ho');have t:a.eval (.tmp 10)=.pointer (some ⟨q.br,0,none⟩):=EN ((hI.low 10 (by decide)).trans bQ);exact⟨rfl,_,rfl,by rw[FX _ _ (by simp)];unfold execOp;simp only[t];go_simp⟩
   . obtain⟨af,p,ty,ho'⟩:=xQ;obtain rfl:=Option.some.inj (ho.symm.trans ho');have t:=EN (hI.val 0 _ (EY wH ho hod (by decide)) rfl);have hc:=hav l (fun h10=>absurd (FB (j:=1) Lc hd h10 (by decide)) (by rw[hb];decide));exact⟨rfl,_,rfl,by rw[FX _ _ (by simp)];unfold execOp;simp only[t];go_simp⟩
   . obtain⟨af,p,ty,ho'⟩:=zC;obtain rfl:=Option.some.inj (ho.symm.trans ho');have t:a.eval (.tmp 15)=.pointer (some ⟨v.b,0,none⟩):=EN ((hI.low 15 (by decide)).trans ny);exact⟨rfl,_,rfl,by rw[FX _ _ (by simp)];unfold execOp;simp only[t];go_simp⟩
   . obtain⟨af,p,ty,ho'⟩:=Aax;obtain rfl:=Option.some.inj (ho.symm.trans ho');have t:=EN (hI.val 2 _ (EY tJ ho hod (by decide)) rfl);exact⟨rfl,_,rfl,by rw[FX _ _ (by simp)];unfold execOp;simp only[t];go_simp⟩
   . obtain⟨af,p,ty,ho'⟩:=zQ;obtain rfl:=Option.some.inj (ho.symm.trans ho');have t:=EN (hI.val 3 _ (EY wN ho hod (by decide)) rfl);exact⟨rfl,_,rfl,by rw[FX _ _ (by simp)];unfold execOp;simp only[t];go_simp⟩
   . obtain⟨af,p,ty,ho'⟩:=Aa4;obtain rfl:=Option.some.inj (ho.symm.trans ho');have t:=EN (hI.val 4 _ (EY sV ho hod (by decide)) rfl);have hw0:FL EG.drew [(6,w1),(7,w2),(8,w3),(10,w4)] l=EG.drew:=IJ _ _ (by have n6:l[6]?≠some true:=fun h=>absurd (FB (j:=5) aY hd h (by decide)) (by rw[hb];decide);have n7:l[7]?≠some true:=fun h=>n6 (FB (j:=6) TV hd h (by decide));have n8:l[8]?≠some true:=fun h=>n7 (FB (j:=7) Pg hd h (by decide));have n10:l[10]?≠some true:=fun h=>n8 (FB (j:=8) Lc hd h (by decide));intro c w hm;simp only[List.mem_cons,Prod.mk.injEq,List.not_mem_nil,or_false]at hm;rcases hm with⟨rfl,_⟩|⟨rfl,_⟩|⟨rfl,_⟩|⟨rfl,_⟩<;>assumption)
     have hc:EG.drew.cell? ⟨v.b,9,none⟩=some ans:=Agj;refine⟨rfl,_,rfl,?_⟩;rw[FX _ _ (by simp),hw0];unfold execOp;simp only[t];go_simp
   . obtain⟨af,p,ty,ho'⟩:=Ac6;obtain rfl:=Option.some.inj (ho.symm.trans ho');have t:=EN (hI.val 5 _ (EY aY ho hod (by decide)) rfl);have n7:l[7]?≠some true:=fun h=>absurd (FB (j:=6) TV hd h (by decide)) (by rw[hb];decide);have n8:l[8]?≠some true:=fun h=>n7 (FB (j:=7) Pg hd h (by decide));have n10:l[10]?≠some true:=fun h=>n8 (FB (j:=8) Lc hd h (by decide));have hw0:FL EG.drew [(6,w1),(7,w2),(8,w3),(10,w4)] l=EG.drew:=IJ _ _ (by
       intro c w hm;simp only[List.mem_cons,Prod.mk.injEq,List.not_mem_nil,or_false]at hm;rcases hm with⟨rfl,_⟩|⟨rfl,_⟩|⟨rfl,_⟩|⟨rfl,_⟩
       . rw[hb];decide
       all_goals assumption)
     have hw1:FL EG.drew [(6,w1),(7,w2),(8,w3),(10,w4)] (l.setIfInBounds 6 true)=w1:=Gt (c:=6) (t:=[(7,w2),(8,w3),(10,w4)]) (Array.getElem?_setIfInBounds_self_of_lt zOM) (by intro c w hm;simp only[List.mem_cons,Prod.mk.injEq,List.not_mem_nil,or_false]at hm;rcases hm with⟨rfl,_⟩|⟨rfl,_⟩|⟨rfl,_⟩<;>(rw[Array.getElem?_setIfInBounds_ne (by decide)];assumption)) [] _
     rw[hw0,hw1];refine⟨rfl,_,rfl,?_⟩;unfold execOp;have tc:a.eval (.const (.slice none 0 0))=.slice none 0 0:=rfl;simp only[resolve,invoke,builtin,Sem.run_bind,Sem.run_pure,Result.andThen_ok,List.map_toArray,List.map_cons,List.map_nil,t,tc,r6]
   . obtain⟨af,p,ty,ho'⟩:=Aaw;obtain rfl:=Option.some.inj (ho.symm.trans ho');have t:=EN (hI.val 6 _ (EY TV ho hod (by decide)) rfl);have n8:l[8]?≠some true:=fun h=>absurd (FB (j:=7) Pg hd h (by decide)) (by rw[hb];decide);have n10:l[10]?≠some true:=fun h=>n8 (FB (j:=8) Lc hd h (by decide));have y6:l[6]?=some true:=EY TV ho hod (by decide);have hw0:FL EG.drew [(6,w1),(7,w2),(8,w3),(10,w4)] l=w1:=Gt (c:=6) (t:=[(7,w2),(8,w3),(10,w4)]) y6 (by
       intro c w hm;simp only[List.mem_cons,Prod.mk.injEq,List.not_mem_nil,or_false]at hm;rcases hm with⟨rfl,_⟩|⟨rfl,_⟩|⟨rfl,_⟩
       . rw[hb];decide
       all_goals assumption) [] _
     have hw1:FL EG.drew [(6,w1),(7,w2),(8,w3),(10,w4)] (l.setIfInBounds 7 true)=w2:=Gt (c:=7) (t:=[(8,w3),(10,w4)]) (Array.getElem?_setIfInBounds_self_of_lt zOM) (by intro c w hm;simp only[List.mem_cons,Prod.mk.injEq,List.not_mem_nil,or_false]at hm;rcases hm with⟨rfl,_⟩|⟨rfl,_⟩<;>(rw[Array.getElem?_setIfInBounds_ne (by decide)];assumption)) [(6,w1)] _
     rw[hw0,hw1];refine⟨rfl,_,rfl,?_⟩;unfold execOp;simp only[List.map_toArray,List.map_cons,List.map_nil,t];rw[← lS];go_simp
   . obtain⟨af,p,ty,ho'⟩:=zS;obtain rfl:=Option.some.inj (ho.symm.trans ho');have ta:=EN (hI.val 1 _ (EY Pg ho hod (by decide)) rfl);have tb:=EN (hI.val 7 _ (EY Pg ho hod (by decide)) rfl);have n10:l[10]?≠some true:=fun h=>absurd (FB (j:=8) Lc hd h (by decide)) (by rw[hb];decide);have y7:l[7]?=some true:=EY Pg ho hod (by decide);have hw0:FL EG.drew [(6,w1),(7,w2),(8,w3),(10,w4)] l=w2:=Gt (c:=7) (t:=[(8,w3),(10,w4)]) y7 (by
       intro c w hm;simp only[List.mem_cons,Prod.mk.injEq,List.not_mem_nil,or_false]at hm;rcases hm with⟨rfl,_⟩|⟨rfl,_⟩
       . rw[hb];decide
       . assumption) [(6,w1)] _
     have hw1:FL EG.drew [(6,w1),(7,w2),(8,w3),(10,w4)] (l.setIfInBounds 8 true)=w3:=Gt (c:=8) (t:=[(10,w4)]) (Array.getElem?_setIfInBounds_self_of_lt zOM) (by intro c w hm;simp only[List.mem_cons,Prod.mk.injEq,List.not_mem_nil,or_false]at hm;obtain⟨rfl,_⟩:=hm;rw[Array.getElem?_setIfInBounds_ne (by decide)];assumption) [(6,w1),(7,w2)] _
     rw[hw0,hw1];refine⟨rfl,_,rfl,?_⟩;unfold execOp;simp only[resolve,invoke,builtin,Sem.run_bind,Sem.run_pure,Result.andThen_ok,List.map_toArray,List.map_cons,List.map_nil,ta,tb,r8]
   . obtain⟨af,p,ty,ho'⟩:=Aak;obtain rfl:=Option.some.inj (ho.symm.trans ho');have t:a.eval (.tmp 10)=.pointer (some ⟨q.br,0,none⟩):=EN ((hI.low 10 (by decide)).trans bQ);exact⟨rfl,_,rfl,by rw[FX _ _ (by simp)];unfold execOp;simp only[t];go_simp⟩
   . obtain⟨af,p,ty,ho'⟩:=wP;obtain rfl:=Option.some.inj (ho.symm.trans ho');have ta:=EN (hI.val 9 _ (EY Lc ho hod (by decide)) rfl);have tb:=EN (hI.val 8 _ (EY Lc ho hod (by decide)) rfl);have y8:l[8]?=some true:=EY Lc ho hod (by decide);have hw0:FL EG.drew [(6,w1),(7,w2),(8,w3),(10,w4)] l=w3:=Gt (c:=8) (t:=[(10,w4)]) y8 (by intro c w hm;simp only[List.mem_cons,Prod.mk.injEq,List.not_mem_nil,or_false]at hm;obtain⟨rfl,_⟩:=hm;rw[hb];decide) [(6,w1),(7,w2)] _
     have hw1:FL EG.drew [(6,w1),(7,w2),(8,w3),(10,w4)] (l.setIfInBounds 10 true)=w4:=Gt (c:=10) (t:=[]) (Array.getElem?_setIfInBounds_self_of_lt zOM) (by simp) [(6,w1),(7,w2),(8,w3)] _;rw[hw0,hw1];refine⟨rfl,?_⟩;rw[if_pos rfl];unfold execOp;simp only[ta,tb];rw[HW4.out];go_simp
 . intro l a hI hall;obtain⟨tm',jk⟩:=a;obtain rfl:jk=[]:=hI.ds;have hw:FL EG.drew [(6,w1),(7,w2),(8,w3),(10,w4)] l=w4:=Gt (c:=10) (t:=[]) (hall 10 (by decide)) (by simp) [(6,w1),(7,w2),(8,w3)] _;rw[hw];obtain⟨hK,hs0,hfin⟩:=HH.out;exact hK w4 tm' _ _ (bW hs0 hI.size hI.low) hfin
end
end
section
section
variable {Cs Sg:Type}{D:Dr EP Cs Sg}{m:Mem Sg}{ρ:Rn}{ws:List (FE (Wk EP Cs))}
variable {Fin:Gb}{EH:FM Try.prog Fin}
variable {q:PO}{Kp:Nat->Prop}{W0 W:World}{R N1 s co n nn:Nat}{σ:Sg}{left:List Int}{last:Int}{steps:List Nat}{cut GK Gi Ia Jh JD IE u68 u69:Value}{ds:List Deferred}{K:List Item}{cs:List Frame}
variable {ov:sN}{av:Value}{i:Nat}{vs:List Value}
theorem qR{tm:Array Value}(hs:Sd q co n GK Gi Ia Jh JD IE u68 u69 tm)(hK:∀W' tm',Sd q co n GK Gi Ia Jh JD (.slice (some ⟨q.lg,0,none⟩) n q.lc) (.int .i64 n) (.int .i64 (0:Nat)) tm'->W'.heap=W.heap->JL (S0 Try.prog Fin EH).L (.Fg (Fe D m) ρ ws 0 false nn) (G ((base 31).at ⟨tm',ds⟩ K) cs) W') :
  JL (S0 Try.prog Fin EH).L (.Fg (Fe D m) ρ ws 0 false nn) (G ((base 31).at ⟨tm,ds⟩ (.code rQ :: K)) cs) W:=by
 obtain⟨v4,v5,Ai,Aj,Ak,Al,Am,Ao,Ap,Ar,Au,Av,Aw,Ay,Az,AA,AB,AJ,AL,AO,AP,AQ,AU,AV,AX,AY,AZ,A8,A9,Ba,Bb,Bc,Bf,Bh,Bj,Bl,Bp,Bq,Br,Bu,Bv,Bw,Bz,BD,BF,BG,BH,BI,BJ,BK,BL,BM,BN,BR,BS,BU,BX,BZ,Ca,Cb,Cc,Ce,Cg,Ci,Cj,Ck,Cm,Co,Cq,Cr,Ct,Cu,Cw,Cx,Cy,Cz,CB,CF,CG,CJ,CK,CO,CQ,CS,CU,CV,CW,CX,CY,rfl⟩:=hs;refine Fp.Fz (S:=S0 Try.prog Fin EH) (b:=base 31) [] (by simp) zKR nE zKR fun EG ha=>?_;have hh:EG.heap=W.heap:=by obtain⟨τ,d,rfl⟩:=ha;rfl
 have HH:=Lib.hid (zAI hK hh);clear hK hh;dsimp only;simp only[rQ,XU,fU,Py,Try.f31];gi_wp2;obtain⟨hK,hh⟩:=HH.out;exact hK EG _ ⟨_,_,_,_,_,_,_,_,_,_,_,_,_,_,_,_,_,_,_,_,_,_,_,_,_,_,_,_,_,_,_,_,_,_,_,_,_,_,_,_,_,_,_,_,_,_,_,_,_,_,_,_,_,_,_,_,_,_,_,_,_,_,_,_,_,_,_,_,_,_,_,_,_,_,_,_,_,_,_,_,_,_,_,_,_,_,_,_,_,rfl⟩ hh
theorem eO(hi:i<=1000000)(hn:n<=1000000){tm:Array Value}(hs:Sd q co n GK Gi Ia Jh JD IE (.int .i64 n) (.int .i64 i) tm)(hK:∀W' tm',Sd q co n GK Gi Ia Jh JD IE (.int .i64 n) (.int .i64 i) tm'->tm'[70]?=some (.bool (decide (i<n)))->W'.heap=W.heap->JL (S0 Try.prog Fin EH).L (.Fg (Fe D m) ρ ws 0 false nn) (G ((base 31).at ⟨tm',ds⟩ K) cs) W') :
  JL (S0 Try.prog Fin EH).L (.Fg (Fe D m) ρ ws 0 false nn) (G ((base 31).at ⟨tm,ds⟩ (.code qU :: K)) cs) W:=by
 obtain⟨v4,v5,Ai,Aj,Ak,Al,Am,Ao,Ap,Ar,Au,Av,Aw,Ay,Az,AA,AB,AJ,AL,AO,AP,AQ,AU,AV,AX,AY,AZ,A8,A9,Ba,Bb,Bc,Bf,Bh,Bj,Bl,Bp,Bq,Br,Bu,Bv,Bw,Bz,BD,BF,BG,BH,BI,BJ,BK,BL,BM,BN,BR,BS,BU,BX,BZ,Ca,Cb,Cc,Ce,Cg,Ci,Cj,Ck,Cm,Co,Cq,Cr,Ct,Cu,Cw,Cx,Cy,Cz,CB,CF,CG,CJ,CK,CO,CQ,CS,CU,CV,CW,CX,CY,rfl⟩:=hs;refine Fp.Fz (S:=S0 Try.prog Fin EH) (b:=base 31) [] (by simp) zKR nE zKR fun EG ha=>?_;have hh:EG.heap=W.heap:=by obtain⟨τ,d,rfl⟩:=ha;rfl
 have HH:=Lib.hid (zAI hK hh);clear hK hh;dsimp only;simp only[qU,XU,fU,Py,Try.f31];gi_wp2;obtain⟨hK,hh⟩:=HH.out;exact hK EG _ ⟨_,_,_,_,_,_,_,_,_,_,_,_,_,_,_,_,_,_,_,_,_,_,_,_,_,_,_,_,_,_,_,_,_,_,_,_,_,_,_,_,_,_,_,_,_,_,_,_,_,_,_,_,_,_,_,_,_,_,_,_,_,_,_,_,_,_,_,_,_,_,_,_,_,_,_,_,_,_,_,_,_,_,_,_,_,_,_,_,_,rfl⟩ (by simp) hh
theorem sW{b:Nat}(hi:i<n)(hc:W.cell? ⟨q.lg,i,none⟩=some (.pointer (some ⟨b,0,none⟩))){tm:Array Value}(hs:Sd q co n GK Gi Ia Jh JD (.slice (some ⟨q.lg,0,none⟩) n q.lc) (.int .i64 n) (.int .i64 i) tm)(hK:∀W' tm',Sd q co n GK Gi Ia (.int .i64 i) (.pointer (some ⟨b,0,none⟩)) (.slice (some ⟨q.lg,0,none⟩) n q.lc) (.int .i64 n) (.int .i64 i) tm'->W'.heap=W.heap->JL (S0 Try.prog Fin EH).L (.Fg (Fe D m) ρ ws 0 false nn) (G ((base 31).at ⟨tm',ds⟩ K) cs) W') :
  JL (S0 Try.prog Fin EH).L (.Fg (Fe D m) ρ ws 0 false nn) (G ((base 31).at ⟨tm,ds⟩ (.code qy :: K)) cs) W:=by
 obtain⟨v4,v5,Ai,Aj,Ak,Al,Am,Ao,Ap,Ar,Au,Av,Aw,Ay,Az,AA,AB,AJ,AL,AO,AP,AQ,AU,AV,AX,AY,AZ,A8,A9,Ba,Bb,Bc,Bf,Bh,Bj,Bl,Bp,Bq,Br,Bu,Bv,Bw,Bz,BD,BF,BG,BH,BI,BJ,BK,BL,BM,BN,BR,BS,BU,BX,BZ,Ca,Cb,Cc,Ce,Cg,Ci,Cj,Ck,Cm,Co,Cq,Cr,Ct,Cu,Cw,Cx,Cy,Cz,CB,CF,CG,CJ,CK,CO,CQ,CS,CU,CV,CW,CX,CY,rfl⟩:=hs;refine Fp.Fz (S:=S0 Try.prog Fin EH) (b:=base 31) [] (by simp) zKR nE zKR fun EG ha=>?_;have hh:EG.heap=W.heap:=by obtain⟨τ,d,rfl⟩:=ha;rfl
 have hc1:EG.cell? ⟨q.lg,i,none⟩=some (.pointer (some ⟨b,0,none⟩)):=by simp only[World.cell?,hh]at hc ⊢;exact hc
 clear hc;have HH:=Lib.hid (zAI hK hh);clear hK hh;dsimp only;simp only[qy,XU,fU,Py,Try.f31];gi_wp2;obtain⟨hK,hh⟩:=HH.out;exact hK EG _ ⟨_,_,_,_,_,_,_,_,_,_,_,_,_,_,_,_,_,_,_,_,_,_,_,_,_,_,_,_,_,_,_,_,_,_,_,_,_,_,_,_,_,_,_,_,_,_,_,_,_,_,_,_,_,_,_,_,_,_,_,_,_,_,_,_,_,_,_,_,_,_,_,_,_,_,_,_,_,_,_,_,_,_,_,_,_,_,_,_,_,rfl⟩ hh
theorem wD{b bg:Nat}(hc:W.cell? ⟨b,7,none⟩=some (.int .i64 bg)){tm:Array Value}(hs:Sd q co n GK Gi Ia Jh (.pointer (some ⟨b,0,none⟩)) IE u68 u69 tm)(hK:∀W' tm',Sd q co n GK Gi Ia Jh (.pointer (some ⟨b,0,none⟩)) IE u68 u69 tm'->tm'[88]?=some (.bool (decide (0<bg)))->W'.heap=W.heap->JL (S0 Try.prog Fin EH).L (.Fg (Fe D m) ρ ws 0 false nn) (G ((base 31).at ⟨tm',ds⟩ K) cs) W') :
  JL (S0 Try.prog Fin EH).L (.Fg (Fe D m) ρ ws 0 false nn) (G ((base 31).at ⟨tm,ds⟩ (.code qI :: K)) cs) W:=by
 obtain⟨v4,v5,Ai,Aj,Ak,Al,Am,Ao,Ap,Ar,Au,Av,Aw,Ay,Az,AA,AB,AJ,AL,AO,AP,AQ,AU,AV,AX,AY,AZ,A8,A9,Ba,Bb,Bc,Bf,Bh,Bj,Bl,Bp,Bq,Br,Bu,Bv,Bw,Bz,BD,BF,BG,BH,BI,BJ,BK,BL,BM,BN,BR,BS,BU,BX,BZ,Ca,Cb,Cc,Ce,Cg,Ci,Cj,Ck,Cm,Co,Cq,Cr,Ct,Cu,Cw,Cx,Cy,Cz,CB,CF,CG,CJ,CK,CO,CQ,CS,CU,CV,CW,CX,CY,rfl⟩:=hs;refine Fp.Fz (S:=S0 Try.prog Fin EH) (b:=base 31) [] (by simp) zKR nE zKR fun EG ha=>?_;have hh:EG.heap=W.heap:=by obtain⟨τ,d,rfl⟩:=ha;rfl
 have hc1:EG.cell? ⟨b,7,none⟩=some (.int .i64 bg):=by simp only[World.cell?,hh]at hc ⊢;exact hc
 clear hc;have HH:=Lib.hid (zAI hK hh);clear hK hh;dsimp only;simp only[qI,XU,fU,Py,Try.f31];gi_wp2;obtain⟨hK,hh⟩:=HH.out;exact hK EG _ ⟨_,_,_,_,_,_,_,_,_,_,_,_,_,_,_,_,_,_,_,_,_,_,_,_,_,_,_,_,_,_,_,_,_,_,_,_,_,_,_,_,_,_,_,_,_,_,_,_,_,_,_,_,_,_,_,_,_,_,_,_,_,_,_,_,_,_,_,_,_,_,_,_,_,_,_,_,_,_,_,_,_,_,_,_,_,_,_,_,_,rfl⟩ (by simp) hh
theorem fJ(hi:i<1000000){tm:Array Value}(hs:Sd q co n GK Gi Ia Jh JD IE u68 (.int .i64 i) tm)(hK:∀W' tm',Sd q co n GK Gi Ia Jh JD IE u68 (.int .i64 ((i+1:Nat):Int)) tm'->W'.heap=W.heap->JL (S0 Try.prog Fin EH).L (.Fg (Fe D m) ρ ws 0 false nn) (G ((base 31).at ⟨tm',ds⟩ K) cs) W') :
  JL (S0 Try.prog Fin EH).L (.Fg (Fe D m) ρ ws 0 false nn) (G ((base 31).at ⟨tm,ds⟩ (.code ug :: K)) cs) W:=by
 have hl1:(-9223372036854775808:Int)<=(i:Int)+1:=by omega
 have hl2:(i:Int)+1<=9223372036854775807:=by omega
 obtain⟨v4,v5,Ai,Aj,Ak,Al,Am,Ao,Ap,Ar,Au,Av,Aw,Ay,Az,AA,AB,AJ,AL,AO,AP,AQ,AU,AV,AX,AY,AZ,A8,A9,Ba,Bb,Bc,Bf,Bh,Bj,Bl,Bp,Bq,Br,Bu,Bv,Bw,Bz,BD,BF,BG,BH,BI,BJ,BK,BL,BM,BN,BR,BS,BU,BX,BZ,Ca,Cb,Cc,Ce,Cg,Ci,Cj,Ck,Cm,Co,Cq,Cr,Ct,Cu,Cw,Cx,Cy,Cz,CB,CF,CG,CJ,CK,CO,CQ,CS,CU,CV,CW,CX,CY,rfl⟩:=hs;refine Fp.Fz (S:=S0 Try.prog Fin EH) (b:=base 31) [] (by simp) zKR nE zKR fun EG ha=>?_;have hh:EG.heap=W.heap:=by obtain⟨τ,d,rfl⟩:=ha;rfl
 have HH:=Lib.hid (zAI hK hh);clear hK hh;dsimp only;simp only[ug,XU,fU,Py,Try.f31];gi_wp2;obtain⟨hK,hh⟩:=HH.out;exact hK EG _ ⟨_,_,_,_,_,_,_,_,_,_,_,_,_,_,_,_,_,_,_,_,_,_,_,_,_,_,_,_,_,_,_,_,_,_,_,_,_,_,_,_,_,_,_,_,_,_,_,_,_,_,_,_,_,_,_,_,_,_,_,_,_,_,_,_,_,_,_,_,_,_,_,_,_,_,_,_,_,_,_,_,_,_,_,_,_,_,_,_,_,rfl⟩ hh
end
end
section
def IZ:Array Oper:=match jN with | .region _ ops _=>ops | _=>#[]
theorem jY:jN=.region 20 IZ true:=rfl
theorem Acs:∃(af:Array Edge) (p:String) (ty:TypeId),IZ[0]?=some ⟨some 89,.fieldAddr 31 (.tmp 10) 1,ty,p,af,none⟩:=⟨_,_,_,rfl⟩
theorem Aa2:∃(af:Array Edge) (p:String) (ty:TypeId),IZ[1]?=some ⟨some 90,.load 29 (.tmp 89),ty,p,af,none⟩:=⟨_,_,_,rfl⟩
theorem Ac9:∃(af:Array Edge) (p:String) (ty:TypeId),IZ[2]?=some ⟨some 91,.move (.tmp 14),ty,p,af,none⟩:=⟨_,_,_,rfl⟩
theorem Aav:∃(af:Array Edge) (p:String) (ty:TypeId),IZ[3]?=some ⟨some 92,.move (.tmp 15),ty,p,af,none⟩:=⟨_,_,_,rfl⟩
theorem yh:∃(af:Array Edge) (p:String) (ty:TypeId),IZ[4]?=some ⟨some 93,.nilCheck (.tmp 92),ty,p,af,none⟩:=⟨_,_,_,rfl⟩
theorem Ac7:∃(af:Array Edge) (p:String) (ty:TypeId),IZ[5]?=some ⟨some 94,.fieldAddr 92 (.tmp 93) 7,ty,p,af,none⟩:=⟨_,_,_,rfl⟩
theorem x9:∃(af:Array Edge) (p:String) (ty:TypeId),IZ[6]?=some ⟨some 95,.load 3 (.tmp 94),ty,p,af,none⟩:=⟨_,_,_,rfl⟩
theorem Aa3:∃(af:Array Edge) (p:String) (ty:TypeId),IZ[7]?=some ⟨some 96,.move (.tmp 15),ty,p,af,none⟩:=⟨_,_,_,rfl⟩
theorem yg:∃(af:Array Edge) (p:String) (ty:TypeId),IZ[8]?=some ⟨some 97,.nilCheck (.tmp 96),ty,p,af,none⟩:=⟨_,_,_,rfl⟩
theorem Aam:∃(af:Array Edge) (p:String) (ty:TypeId),IZ[9]?=some ⟨some 98,.fieldAddr 92 (.tmp 97) 8,ty,p,af,none⟩:=⟨_,_,_,rfl⟩
theorem sP:∃(af:Array Edge) (p:String) (ty:TypeId),IZ[10]?=some ⟨some 99,.load 3 (.tmp 98),ty,p,af,none⟩:=⟨_,_,_,rfl⟩
theorem rV:∃(af:Array Edge) (p:String) (ty:TypeId),IZ[11]?=some ⟨some 100,.build 129 #[(0,.tmp 91),(1,.tmp 95),(2,.tmp 99)],ty,p,af,none⟩:=⟨_,_,_,rfl⟩
theorem uz:∃(af:Array Edge) (p:String) (ty:TypeId),IZ[12]?=some ⟨some 101,.buildSlice 29 1 #[(0,.tmp 100)],ty,p,af,none⟩:=⟨_,_,_,rfl⟩
theorem qW:∃(af:Array Edge) (p:String) (ty:TypeId),IZ[13]?=some ⟨some 102,.call { callee:=.builtin .append,args:=#[.tmp 90,.tmp 101],argTypes:=#[29,29] },29,p,af,none⟩:=⟨_,_,29,rfl⟩
theorem wU:∃(af:Array Edge) (p:String) (ty:TypeId),IZ[14]?=some ⟨some 103,.fieldAddr 31 (.tmp 10) 1,ty,p,af,none⟩:=⟨_,_,_,rfl⟩
theorem uP:∃(af:Array Edge) (p:String) (ty:TypeId),IZ[15]?=some ⟨none,.store 29 (.tmp 103) (.tmp 102),ty,p,af,none⟩:=⟨_,_,_,rfl⟩
theorem vY:(IZ[1]?).map FH=some [0]:=by kernel_rfl
theorem qM:(IZ[4]?).map FH=some [3]:=by kernel_rfl
theorem wV:(IZ[5]?).map FH=some [4]:=by kernel_rfl
theorem qP:(IZ[6]?).map FH=some [5]:=by kernel_rfl
theorem tO:(IZ[8]?).map FH=some [7]:=by kernel_rfl
theorem qp:(IZ[9]?).map FH=some [8]:=by kernel_rfl
theorem lJ:(IZ[10]?).map FH=some [9]:=by kernel_rfl
theorem OL:(IZ[11]?).map FH=some [2,6,10]:=by kernel_rfl
theorem Ub:(IZ[12]?).map FH=some [11]:=by kernel_rfl
theorem Mv:(IZ[13]?).map FH=some [1,12]:=by kernel_rfl
theorem K7:(IZ[15]?).map FH=some [14,13,13,0,1,2,3,4,5,6,7,8,9,10,11,12,13]:=by kernel_rfl
theorem dY:IZ.size=16:=by kernel_rfl
theorem nN(i:Nat)(o:Oper)(ho:IZ[i]?=some o):∀e∈o.after,e.on<i:=by
 have h:(IZ.toList.zipIdx.all fun x=>x.1.after.all fun e=>decide (e.on<x.2))=true:=by kernel_rfl
 rw[List.all_eq_true]at h;have h1:=h (o,i) (by rw[List.mem_zipIdx_iff_getElem?];simpa using ho);simp only[Array.all_eq_true']at h1;exact fun e he=>of_decide_eq_true (h1 e he)
theorem yA(i:Nat)(o:Oper)(ho:IZ[i]?=some o):o.guard=none/\o.dst=if i=15 then none else some (89+i):=by
 have h:(IZ.toList.zipIdx.all fun x=>x.1.guard.isNone&&x.1.dst==(if x.2=15 then none else some (89+x.2)))=true:=by kernel_rfl
 rw[List.all_eq_true]at h;have h1:=h (o,i) (by rw[List.mem_zipIdx_iff_getElem?];simpa using ho);simp only[Bool.and_eq_true,Option.isNone_iff_eq_none,beq_iff_eq]at h1;exact h1
theorem iY(k bg ow:Nat)(w:World):(Instr.build 129 #[(0,.int .i64 k),(1,.int .i64 bg),(2,.int .i64 ow)]).run Try.prog w=.ok (.agg #[.int .i64 k,.int .i64 bg,.int .i64 ow]) w:=run_build w _ _ _ zKR
theorem XY(w:World)(a b c:Value)(e:TypeId):∀(j:Nat) (u:Value),[a,b,c][j]?=some u->(w.alloc (.cells #[a,b,c] e)).cell? ((⟨w.heap.size,0,none⟩:Addr).add j)=some u:=fun j u hj=>by
 rw[Addr.add_lit];have:=heap_alloc_new w (.cells #[a,b,c] e);simp only[World.cell?];rw[this]
 simpa using hj
section
variable {Cs Sg:Type}{D:Dr EP Cs Sg}{m:Mem Sg}{ρ:Rn}{ws:List (FE (Wk EP Cs))}
variable {Fin:Gb}{EH:FM Try.prog Fin}
variable {q:PO}{Kp:Nat->Prop}{W0 W:World}{N1 s co n nn:Nat}{σ:Sg}{left:List Int}{last:Int}{steps:List Nat}{cut GK Gi Ia Jh JD IE u68 u69:Value}{ds:List Deferred}{K:List Item}{cs:List Frame}
variable {ov:sN}{av:Value}{i:Nat}{vs:List Value}
theorem uh(h:Va m ρ ws q Kp W0 N1 σ s cut ov i vs av W){v:FE (Wk EP Cs)}{k bg ow:Nat}(yj:W.cell? ⟨v.b,7,none⟩=some (.int .i64 bg))(xO:W.cell? ⟨v.b,8,none⟩=some (.int .i64 ow))(hon:ov.os.length<=1000)(hcu:∀j,j<vs.length->∃u,ws[j]?=some u){tm:Array Value}(hs:Sd q co n GK Gi Ia (.int .i64 k) (.pointer (some ⟨v.b,0,none⟩)) IE u68 u69 tm)(hK:∀W' tm' RL,Sd q co n GK Gi Ia (.int .i64 k) (.pointer (some ⟨v.b,0,none⟩)) IE u68 u69 tm'->Va m ρ ws q Kp W0 N1 σ s cut ⟨RL,ov.os++[(k,bg,ow)]⟩ i vs av W'->JL (S0 Try.prog Fin EH).L (.Fg (Fe D m) ρ ws 0 false nn) (G ((base 31).at ⟨tm',ds⟩ K) cs) W') :
   JL (S0 Try.prog Fin EH).L (.Fg (Fe D m) ρ ws 0 false nn) (G ((base 31).at ⟨tm,ds⟩ (.code jN :: K)) cs) W:=by
 have hlow:=h.low;have hs0:=hs;obtain⟨v4,v5,Ai,Aj,Ak,Al,Am,Ao,Ap,Ar,Au,Av,Aw,Ay,Az,AA,AB,AJ,AL,AO,AP,AQ,AU,AV,AX,AY,AZ,A8,A9,Ba,Bb,Bc,Bf,Bh,Bj,Bl,Bp,Bq,Br,Bu,Bv,Bw,Bz,BD,BF,BG,BH,BI,BJ,BK,BL,BM,BN,BR,BS,BU,BX,BZ,Ca,Cb,Cc,Ce,Cg,Ci,Cj,Ck,Cm,Co,Cq,Cr,Ct,Cu,Cw,Cx,Cy,Cz,CB,CF,CG,CJ,CK,CO,CQ,CS,CU,CV,CW,CX,CY,rfl⟩:=hs
 have bQ:(#[q.cv,.slice (some ⟨q.lg,0,none⟩) n q.lc,.chan (some co),.pointer (some ⟨q.bc,0,none⟩),v4,v5,.pointer (some ⟨q.bz,0,none⟩),.int .i64 q.most,.pointer (some ⟨q.ob,0,none⟩),.slice (some ⟨q.sg,0,none⟩) n n,.pointer (some ⟨q.br,0,none⟩),GK,Gi,Ia,.int .i64 k,.pointer (some ⟨v.b,0,none⟩),Ai,Aj,Ak,Al,Am,Ao,Ap,Ar,Au,Av,Aw,Ay,Az,AA,AB,AJ,AL,AO,AP,AQ,AU,AV,AX,AY,AZ,A8,A9,Ba,Bb,Bc,Bf,Bh,Bj,Bl,Bp,Bq,Br,Bu,Bv,Bw,Bz,BD,BF,BG,BH,BI,BJ,BK,BL,BM,BN,IE,u68,u69,BR,BS,BU,BX,BZ,Ca,Cb,Cc,Ce,Cg,Ci,Cj,Ck,Cm,Co,Cq,Cr,Ct,Cu,Cw,Cx,Cy,Cz,CB,CF,CG,CJ,CK,CO,CQ,CS,CU,CV,CW,CX,CY]:Array Value)[10]?=some (.pointer (some ⟨q.br,0,none⟩)):=rfl
 have ny:(#[q.cv,.slice (some ⟨q.lg,0,none⟩) n q.lc,.chan (some co),.pointer (some ⟨q.bc,0,none⟩),v4,v5,.pointer (some ⟨q.bz,0,none⟩),.int .i64 q.most,.pointer (some ⟨q.ob,0,none⟩),.slice (some ⟨q.sg,0,none⟩) n n,.pointer (some ⟨q.br,0,none⟩),GK,Gi,Ia,.int .i64 k,.pointer (some ⟨v.b,0,none⟩),Ai,Aj,Ak,Al,Am,Ao,Ap,Ar,Au,Av,Aw,Ay,Az,AA,AB,AJ,AL,AO,AP,AQ,AU,AV,AX,AY,AZ,A8,A9,Ba,Bb,Bc,Bf,Bh,Bj,Bl,Bp,Bq,Br,Bu,Bv,Bw,Bz,BD,BF,BG,BH,BI,BJ,BK,BL,BM,BN,IE,u68,u69,BR,BS,BU,BX,BZ,Ca,Cb,Cc,Ce,Cg,Ci,Cj,Ck,Cm,Co,Cq,Cr,Ct,Cu,Cw,Cx,Cy,Cz,CB,CF,CG,CJ,CK,CO,CQ,CS,CU,CV,CW,CX,CY]:Array Value)[15]?=some (.pointer (some ⟨v.b,0,none⟩)):=rfl
 have Ahs:(#[q.cv,.slice (some ⟨q.lg,0,none⟩) n q.lc,.chan (some co),.pointer (some ⟨q.bc,0,none⟩),v4,v5,.pointer (some ⟨q.bz,0,none⟩),.int .i64 q.most,.pointer (some ⟨q.ob,0,none⟩),.slice (some ⟨q.sg,0,none⟩) n n,.pointer (some ⟨q.br,0,none⟩),GK,Gi,Ia,.int .i64 k,.pointer (some ⟨v.b,0,none⟩),Ai,Aj,Ak,Al,Am,Ao,Ap,Ar,Au,Av,Aw,Ay,Az,AA,AB,AJ,AL,AO,AP,AQ,AU,AV,AX,AY,AZ,A8,A9,Ba,Bb,Bc,Bf,Bh,Bj,Bl,Bp,Bq,Br,Bu,Bv,Bw,Bz,BD,BF,BG,BH,BI,BJ,BK,BL,BM,BN,IE,u68,u69,BR,BS,BU,BX,BZ,Ca,Cb,Cc,Ce,Cg,Ci,Cj,Ck,Cm,Co,Cq,Cr,Ct,Cu,Cw,Cx,Cy,Cz,CB,CF,CG,CJ,CK,CO,CQ,CS,CU,CV,CW,CX,CY]:Array Value)[14]?=some (.int .i64 k):=rfl;refine Fp.Fz (S:=S0 Try.prog Fin EH) (b:=base 31) [] (by simp) zKR nE zKR fun EG ha=>?_;have hh:EG.heap=W.heap:=by obtain⟨τ,d,rfl⟩:=ha;rfl
 have hcell:∀a,EG.drew.cell? a=W.cell? a:=fun a=>by show EG.cell? a=_;simp only[World.cell?,hh]
 have hbg:EG.drew.cell? ⟨v.b,7,none⟩=some (.int .i64 bg):=by rw[hcell];exact yj
 have how:EG.drew.cell? ⟨v.b,8,none⟩=some (.int .i64 ow):=by rw[hcell];exact xO
 have hsz0:EG.drew.heap.size=W.heap.size:=by show EG.heap.size=_;rw[hh]
 have uq:(Try.prog.info? 129).map (fun i=>(i.zero,i.size,i.bytes))=some (some (.agg #[.int .i64 0,.int .i64 0,.int .i64 0]),3,24):=by kernel_rfl
 obtain⟨iO,hiO,hO0,HY,hO2⟩:=info_parts uq;obtain⟨w1,nK⟩:∃w1,EG.drew.alloc (.cells #[.int .i64 k,.int .i64 bg,.int .i64 ow] 129)=w1:=⟨_,rfl⟩
 have hb1:∀g,g<W.heap.size->w1.heap[g]?=W.heap[g]?:=fun g hg=>by rw[← nK,Below.heap_alloc _ _ _ (by rw[hsz0];exact hg)];show EG.heap[g]?=_;rw[hh]
 have hz1:w1.heap.size=W.heap.size+1:=by rw[← nK];simp[hsz0]
 have Aau:FY w1 N1 3 ov.v ov.os.length (ov.os.map Lf).flatten:=Gl h.opn fun g hg=>hb1 g (Gx h.opn hg).2;have hN1:=hlow.2.1;obtain⟨ov2,w2,r8,g8,f8,k8⟩:=J7 (P:=Try.prog) w1 N1 29 29 129 iO (.agg #[.int .i64 0,.int .i64 0,.int .i64 0]) 3 24 Try.underlying29 hiO hO0 HY hO2 rfl (by decide) ov.v ov.os.length _ Aau ⟨EG.drew.heap.size,0,none⟩ 1 1 [.int .i64 k,.int .i64 bg,.int .i64 ow] rfl (by rw[← nK];exact XY _ _ _ _ _) (by intro u hu;simp at hu;rcases hu with rfl|rfl|rfl<;>rfl) (by unfold maxLen;omega) zOM zOM;obtain⟨p2,n2,c2,rfl⟩:=Iy g8;obtain⟨w3,iy⟩:∃w3,w3=w2.setCell ⟨q.br,1,none⟩ (.slice p2 n2 c2):=⟨_,rfl⟩
 have oW:∀g,(Value.slice p2 n2 c2).ownBlock=some g->ov.v.ownBlock=some g\/w1.heap.size<=g:=fun g hg=>by
   rcases k8 with k|⟨k,_⟩
   . rw[k]at hg;exact .inl hg
   . exact .inr (k g hg)
 have hb2:∀g,g<w1.heap.size->ov.v.ownBlock≠some g->w2.heap[g]?=w1.heap[g]?:=fun g hg hne=>f8.block g hg (fun e=>hne e.symm);have hz2:w1.heap.size<=w2.heap.size:=f8.size;have Aag:∀g,ov.v.ownBlock=some g->N1<=g/\g<W.heap.size:=fun g hg=>Gx h.opn hg;have hbr:q.br<N1:=hlow.1;have hold:∀g,g<N1->w2.heap[g]?=W.heap[g]?:=fun g hg=>by rw[hb2 g zOM (fun e=>by have:=Aag g e;omega),hb1 g zOM]
 have hav:∀(l:Array Bool),l[13]?≠some true->l[15]?≠some true->(FL EG.drew [(12,w1),(13,w2),(15,w3)] l).cell? ⟨q.br,1,none⟩=some ov.v:=fun l iN h15=>by
   have hc0:W.cell? ⟨q.br,1,none⟩=some ov.v:=by simp[World.cell?,h.run]
   rcases Ov [(12,w1),(13,w2),(15,w3)] EG.drew with e|⟨c,w',hm,hl,e⟩
   . rw[e,hcell];exact hc0
   . rw[e];simp only[List.mem_cons,Prod.mk.injEq,List.not_mem_nil,or_false]at hm;rcases hm with⟨rfl,rfl⟩|⟨rfl,rfl⟩|⟨rfl,rfl⟩
     . rw[cell_of (a:=⟨q.br,1,none⟩) (hb1 q.br zOM)];exact hc0
     . exact absurd hl iN
     . exact absurd hl h15
 have hcz:w2.frozen? ⟨q.br,1,none⟩=false:=by simp[World.frozen?,hold q.br hbr,h.run]
 have hcw:w2.cell? ⟨q.br,1,none⟩=some ov.v:=by rw[cell_of (a:=⟨q.br,1,none⟩) (hold q.br hbr)];simp[World.cell?,h.run]
 have TW:∀g,g≠q.br->w3.heap[g]?=w2.heap[g]?:=fun g hg=>by rw[iy];simp[World.setCell,Array.getElem?_modify,Ne.symm hg]
 have qz:w3.heap[q.br]?=some (.cells #[av,.slice p2 n2 c2,.int .i64 s,cut] 31 (0,0)):=by rw[iy];have:=(hold q.br hbr).trans h.run;simp[World.setCell,Array.getElem?_modify,this]
 have Am1:w3.heap.size=w2.heap.size:=by rw[iy];simp[World.setCell]
 have hfin:Va m ρ ws q Kp W0 N1 σ s cut ⟨.slice p2 n2 c2,ov.os++[(k,bg,ow)]⟩ i vs av w3:=by
   have l1:=h.lay.h1;have l2:=h.lay.h2;have l3:=h.lay.h3;have l4:=h.lay.h4;have l5:=h.lay.h5;have XI:=h.free q.br (.inr (.inr (.inl rfl)));have hmid:∀g,N1<=g->g<W.heap.size->ov.v.ownBlock≠some g->w3.heap[g]?=W.heap[g]?:=fun g h1 h2 h3=>by rw[TW g zOM,hb2 g zOM h3,hb1 g h2]
   refine⟨h.lay,fun j b hb=>?_,qz,?_,?_,fun g hg=>?_,fun g hg=>?_,Gl h.own fun g hg=>?_,fun j v' u hj hu=>?_,?_,fun g hg=>?_,h.few,hlow.1,by omega,hlow.2.2⟩
   . rw[cell_of (a:=⟨q.lg,j,none⟩) ((TW q.lg zOM).trans (hold q.lg zOM))];exact h.row j b hb
   . rw[TW _ zOM,hold _ zOM];exact h.res
   . exact m.eq σ W w3 (fun g hg=>.of (by rw[TW g (fun e=>XI.2.2.2.1 (e ▸ hg)),hold g (hlow.2.2.1 g hg)])) h.inv
   . by_cases e:g=q.br
     . rw[e];exact⟨⟨_,_,_,qz⟩,XI.2⟩
     . rw[TW g e,hold g (h.ltN hg)];exact h.free g hg
   . have:=h.lay.h7 g hg;rw[TW g zOM,hold g zOM];exact h.kept g hg
   . have h1:=Gx h.own hg;exact hmid g h1.1 h1.2 fun e=>(h.jq g e).1 hg
   . obtain⟨⟨JH,c1,c2,c3⟩,c4,c5⟩:=h.cop j v' u hj hu;refine⟨⟨JH,c1,Gl c2 fun g hg=>?_,fun i a iv ha hi=>(c3 i a iv ha hi).RN fun g hg=>.of ?_⟩,c4,c5⟩
     . have h1:=Gx c2 hg;exact hmid g h1.1 h1.2 fun e=>(h.jq g e).2 j v' hj hg
     . have h1:=(hlow.2.2.2 j u hu).1 g hg;rw[TW g (fun e=>XI.2.2.2.2 j u hu (e ▸ hg)),hold g h1]
   . have e1:(ov.os++[(k,bg,ow)]).length=ov.os.length+1:=by simp
     have e2:((ov.os++[(k,bg,ow)]).map Lf).flatten=(ov.os.map Lf).flatten++[.int .i64 k,.int .i64 bg,.int .i64 ow]:=by simp[Lf]
     show FY w3 N1 3 (.slice p2 n2 c2) (ov.os++[(k,bg,ow)]).length ((ov.os++[(k,bg,ow)]).map Lf).flatten;rw[e1,e2];exact Gl g8 fun g hg=>by have:=Gx g8 hg;rw[TW g zOM]
   . refine⟨fun e=>?_,fun j v' hj e=>?_⟩
     . have h1:=Gx h.own e;rcases oW g hg with e'|e'
       . exact(h.jq g e').1 e
       . omega
     . rcases oW g hg with e' | e'
       . exact(h.jq g e').2 j v' hj e
       . have hl:j<vs.length:=(List.getElem?_eq_some_iff.1 hj).1;obtain⟨u,hu⟩:∃u,ws[j]?=some u:=hcu j hl;obtain⟨⟨JH,c1,c2,c3⟩,_⟩:=h.cop j v' u hj hu;have h1:=Gx c2 e;omega
 have HH:=Lib.hid (zAI hK (zAI hs0 hfin));have HW4:=Lib.hid iy;clear iy hcell yj xO;clear hK hs0 hfin h hlow hold hb1 hb2 oW Aag g8 f8 k8 TW qz Aau;rw[jY];refine RF [(12,w1),(13,w2),(15,w3)] (Fence.list_round _ _) zKR nN dY (s0:=89) (vs:=[.pointer (some ⟨q.br,1,none⟩),ov.v,.int .i64 k,.pointer (some ⟨v.b,0,none⟩),.pointer (some ⟨v.b,0,none⟩),.pointer (some ⟨v.b,7,none⟩),.int .i64 bg,.pointer (some ⟨v.b,0,none⟩),.pointer (some ⟨v.b,0,none⟩),.pointer (some ⟨v.b,8,none⟩),.int .i64 ow,.agg #[.int .i64 k,.int .i64 bg,.int .i64 ow],.slice (some ⟨EG.drew.heap.size,0,none⟩) 1 1,.slice p2 n2 c2,.pointer (some ⟨q.br,1,none⟩)]) rfl (by simp) yA ?_ ?_
 . intro l a i o hI hl hd hb ho hod;have hi:i<16:=by have:=(zGE ho).1;rw[dY]at this;exact this
   obtain rfl|rfl|rfl|rfl|rfl|rfl|rfl|rfl|rfl|rfl|rfl|rfl|rfl|rfl|rfl|rfl:i=0\/i=1\/i=2\/i=3\/i=4\/i=5\/i=6\/i=7\/i=8\/i=9\/i=10\/i=11\/i=12\/i=13\/i=14\/i=15:=by omega
   . obtain⟨af,p,ty,ho'⟩:=Acs;obtain rfl:=Option.some.inj (ho.symm.trans ho');have t:a.eval (.tmp 10)=.pointer (some ⟨q.br,0,none⟩):=EN ((hI.low 10 (by decide)).trans bQ);exact⟨rfl,_,rfl,by rw[FX _ _ (by simp)];unfold execOp;simp only[t];go_simp⟩
   . obtain⟨af,p,ty,ho'⟩:=Aa2;obtain rfl:=Option.some.inj (ho.symm.trans ho');have t:=EN (hI.val 0 _ (EY vY ho hod (by decide)) rfl);have hc:=hav l (fun iN=>absurd (FB (j:=1) Mv hd iN (by decide)) (by rw[hb];decide)) (fun h15=>absurd (FB (j:=1) K7 hd h15 (by decide)) (by rw[hb];decide));exact⟨rfl,_,rfl,by rw[FX _ _ (by simp)];unfold execOp;simp only[t];go_simp⟩
   . obtain⟨af,p,ty,ho'⟩:=Ac9;obtain rfl:=Option.some.inj (ho.symm.trans ho');have t:a.eval (.tmp 14)=.int .i64 k:=EN ((hI.low 14 (by decide)).trans Ahs);exact⟨rfl,_,rfl,by rw[FX _ _ (by simp)];unfold execOp;simp only[t];go_simp⟩
   . obtain⟨af,p,ty,ho'⟩:=Aav;obtain rfl:=Option.some.inj (ho.symm.trans ho');have t:a.eval (.tmp 15)=.pointer (some ⟨v.b,0,none⟩):=EN ((hI.low 15 (by decide)).trans ny);exact⟨rfl,_,rfl,by rw[FX _ _ (by simp)];unfold execOp;simp only[t];go_simp⟩
   . obtain⟨af,p,ty,ho'⟩:=yh;obtain rfl:=Option.some.inj (ho.symm.trans ho');have t:=EN (hI.val 3 _ (EY qM ho hod (by decide)) rfl);exact⟨rfl,_,rfl,by rw[FX _ _ (by simp)];unfold execOp;simp only[t];go_simp⟩
   . obtain⟨af,p,ty,ho'⟩:=Ac7;obtain rfl:=Option.some.inj (ho.symm.trans ho');have t:=EN (hI.val 4 _ (EY wV ho hod (by decide)) rfl);exact⟨rfl,_,rfl,by rw[FX _ _ (by simp)];unfold execOp;simp only[t];go_simp⟩
   . obtain⟨af,p,ty,ho'⟩:=x9;obtain rfl:=Option.some.inj (ho.symm.trans ho');have t:=EN (hI.val 5 _ (EY qP ho hod (by decide)) rfl);have n11:l[11]?≠some true:=fun h=>absurd (FB (j:=6) OL hd h (by decide)) (by rw[hb];decide);have n12:l[12]?≠some true:=fun h=>n11 (FB (j:=11) Ub hd h (by decide));have n13:l[13]?≠some true:=fun h=>n12 (FB (j:=12) Mv hd h (by decide));have n15:l[15]?≠some true:=fun h=>n13 (FB (j:=13) K7 hd h (by decide));have hw0:FL EG.drew [(12,w1),(13,w2),(15,w3)] l=EG.drew:=IJ _ _ (by intro c w hm;simp only[List.mem_cons,Prod.mk.injEq,List.not_mem_nil,or_false]at hm;rcases hm with⟨rfl,_⟩|⟨rfl,_⟩|⟨rfl,_⟩<;>assumption)
     have hc:=hbg;refine⟨rfl,_,rfl,?_⟩;rw[FX _ _ (by simp),hw0];unfold execOp;simp only[t];go_simp
   . obtain⟨af,p,ty,ho'⟩:=Aa3;obtain rfl:=Option.some.inj (ho.symm.trans ho');have t:a.eval (.tmp 15)=.pointer (some ⟨v.b,0,none⟩):=EN ((hI.low 15 (by decide)).trans ny);exact⟨rfl,_,rfl,by rw[FX _ _ (by simp)];unfold execOp;simp only[t];go_simp⟩
   . obtain⟨af,p,ty,ho'⟩:=yg;obtain rfl:=Option.some.inj (ho.symm.trans ho');have t:=EN (hI.val 7 _ (EY tO ho hod (by decide)) rfl);exact⟨rfl,_,rfl,by rw[FX _ _ (by simp)];unfold execOp;simp only[t];go_simp⟩
   . obtain⟨af,p,ty,ho'⟩:=Aam;obtain rfl:=Option.some.inj (ho.symm.trans ho');have t:=EN (hI.val 8 _ (EY qp ho hod (by decide)) rfl);exact⟨rfl,_,rfl,by rw[FX _ _ (by simp)];unfold execOp;simp only[t];go_simp⟩
   . obtain⟨af,p,ty,ho'⟩:=sP;obtain rfl:=Option.some.inj (ho.symm.trans ho');have t:=EN (hI.val 9 _ (EY lJ ho hod (by decide)) rfl);have n11:l[11]?≠some true:=fun h=>absurd (FB (j:=10) OL hd h (by decide)) (by rw[hb];decide);have n12:l[12]?≠some true:=fun h=>n11 (FB (j:=11) Ub hd h (by decide));have n13:l[13]?≠some true:=fun h=>n12 (FB (j:=12) Mv hd h (by decide));have n15:l[15]?≠some true:=fun h=>n13 (FB (j:=13) K7 hd h (by decide));have hw0:FL EG.drew [(12,w1),(13,w2),(15,w3)] l=EG.drew:=IJ _ _ (by intro c w hm;simp only[List.mem_cons,Prod.mk.injEq,List.not_mem_nil,or_false]at hm;rcases hm with⟨rfl,_⟩|⟨rfl,_⟩|⟨rfl,_⟩<;>assumption)
     have hc:=how;refine⟨rfl,_,rfl,?_⟩;rw[FX _ _ (by simp),hw0];unfold execOp;simp only[t];go_simp
   . obtain⟨af,p,ty,ho'⟩:=rV;obtain rfl:=Option.some.inj (ho.symm.trans ho');have ta:=EN (hI.val 2 _ (EY OL ho hod (by decide)) rfl);have tb:=EN (hI.val 6 _ (EY OL ho hod (by decide)) rfl);have tc:=EN (hI.val 10 _ (EY OL ho hod (by decide)) rfl);refine⟨rfl,_,rfl,?_⟩;rw[FX _ _ (by simp)];unfold execOp;simp only[List.map_toArray,List.map_cons,List.map_nil,ta,tb,tc];have hbw:=iY k bg ow;go_simp
   . obtain⟨af,p,ty,ho'⟩:=uz;obtain rfl:=Option.some.inj (ho.symm.trans ho');have t:=EN (hI.val 11 _ (EY Ub ho hod (by decide)) rfl);have n13:l[13]?≠some true:=fun h=>absurd (FB (j:=12) Mv hd h (by decide)) (by rw[hb];decide);have n15:l[15]?≠some true:=fun h=>n13 (FB (j:=13) K7 hd h (by decide));have hw0:FL EG.drew [(12,w1),(13,w2),(15,w3)] l=EG.drew:=IJ _ _ (by
       intro c w hm;simp only[List.mem_cons,Prod.mk.injEq,List.not_mem_nil,or_false]at hm;rcases hm with⟨rfl,_⟩|⟨rfl,_⟩|⟨rfl,_⟩
       . rw[hb];decide
       all_goals assumption)
     have hw1:FL EG.drew [(12,w1),(13,w2),(15,w3)] (l.setIfInBounds 12 true)=w1:=Gt (c:=12) (t:=[(13,w2),(15,w3)]) (Array.getElem?_setIfInBounds_self_of_lt zOM) (by intro c w hm;simp only[List.mem_cons,Prod.mk.injEq,List.not_mem_nil,or_false]at hm;rcases hm with⟨rfl,_⟩|⟨rfl,_⟩<;>(rw[Array.getElem?_setIfInBounds_ne (by decide)];assumption)) [] _
     rw[hw0,hw1];refine⟨rfl,_,rfl,?_⟩;unfold execOp;simp only[List.map_toArray,List.map_cons,List.map_nil,t];rw[← nK];go_simp
   . obtain⟨af,p,ty,ho'⟩:=qW;obtain rfl:=Option.some.inj (ho.symm.trans ho');have ta:=EN (hI.val 1 _ (EY Mv ho hod (by decide)) rfl);have tb:=EN (hI.val 12 _ (EY Mv ho hod (by decide)) rfl);have n15:l[15]?≠some true:=fun h=>absurd (FB (j:=13) K7 hd h (by decide)) (by rw[hb];decide);have y12:l[12]?=some true:=EY Mv ho hod (by decide);have hw0:FL EG.drew [(12,w1),(13,w2),(15,w3)] l=w1:=Gt (c:=12) (t:=[(13,w2),(15,w3)]) y12 (by
       intro c w hm;simp only[List.mem_cons,Prod.mk.injEq,List.not_mem_nil,or_false]at hm;rcases hm with⟨rfl,_⟩|⟨rfl,_⟩
       . rw[hb];decide
       . assumption) [] _
     have hw1:FL EG.drew [(12,w1),(13,w2),(15,w3)] (l.setIfInBounds 13 true)=w2:=Gt (c:=13) (t:=[(15,w3)]) (Array.getElem?_setIfInBounds_self_of_lt zOM) (by intro c w hm;simp only[List.mem_cons,Prod.mk.injEq,List.not_mem_nil,or_false]at hm;obtain⟨rfl,_⟩:=hm;rw[Array.getElem?_setIfInBounds_ne (by decide)];assumption) [(12,w1)] _
     rw[hw0,hw1];refine⟨rfl,_,rfl,?_⟩;unfold execOp;simp only[resolve,invoke,builtin,Sem.run_bind,Sem.run_pure,Result.andThen_ok,List.map_toArray,List.map_cons,List.map_nil,ta,tb,r8]
   . obtain⟨af,p,ty,ho'⟩:=wU;obtain rfl:=Option.some.inj (ho.symm.trans ho');have t:a.eval (.tmp 10)=.pointer (some ⟨q.br,0,none⟩):=EN ((hI.low 10 (by decide)).trans bQ);exact⟨rfl,_,rfl,by rw[FX _ _ (by simp)];unfold execOp;simp only[t];go_simp⟩
   . obtain⟨af,p,ty,ho'⟩:=uP;obtain rfl:=Option.some.inj (ho.symm.trans ho');have ta:=EN (hI.val 14 _ (EY K7 ho hod (by decide)) rfl);have tb:=EN (hI.val 13 _ (EY K7 ho hod (by decide)) rfl);have y13:l[13]?=some true:=EY K7 ho hod (by decide);have hw0:FL EG.drew [(12,w1),(13,w2),(15,w3)] l=w2:=Gt (c:=13) (t:=[(15,w3)]) y13 (by intro c w hm;simp only[List.mem_cons,Prod.mk.injEq,List.not_mem_nil,or_false]at hm;obtain⟨rfl,_⟩:=hm;rw[hb];decide) [(12,w1)] _
     have hw1:FL EG.drew [(12,w1),(13,w2),(15,w3)] (l.setIfInBounds 15 true)=w3:=Gt (c:=15) (t:=[]) (Array.getElem?_setIfInBounds_self_of_lt zOM) (by simp) [(12,w1),(13,w2)] _;rw[hw0,hw1];refine⟨rfl,?_⟩;rw[if_pos rfl];unfold execOp;simp only[ta,tb];rw[HW4.out];go_simp
 . intro l a hI hall;obtain⟨tm',jk⟩:=a;obtain rfl:jk=[]:=hI.ds;have hw:FL EG.drew [(12,w1),(13,w2),(15,w3)] l=w3:=Gt (c:=15) (t:=[]) (hall 15 (by decide)) (by simp) [(12,w1),(13,w2)] _;rw[hw];obtain⟨hK,hs0,hfin⟩:=HH.out;exact hK w3 tm' _ (bW hs0 hI.size fun s hs=>hI.low s zOM) hfin
end
end
end Go.Proofs.Ytdkfdedgfilhbaa
namespace Go.Proofs.Ytdkfdedgfilhbaa
open Go Go.Conc Go.LT Go.LC Go.LK
section
section
variable {Cl Cs Sg:Type}
def opens(xs:List (Wk Cl Cs)):List (Nat × Nat × Nat):=xs.zipIdx.filterMap fun p=>if p.1.bg=0 then none else some (p.2,p.1.bg,p.1.ow)
theorem Xi{xs:List (Wk Cl Cs)}{i:Nat}{x:Wk Cl Cs}(hx:xs[i]?=some x):opens (xs.take (i+1))=opens (xs.take i)++if x.bg=0 then[]else[(i,x.bg,x.ow)]:=by
 have hl:i<xs.length:=(List.getElem?_eq_some_iff.1 hx).1;unfold opens;rw[List.take_add_one,hx,List.zipIdx_append,List.filterMap_append];have e:(List.take i xs).length=i:=by simp;omega
 rw[e]
 congr 1
 by_cases h:x.bg=0<;>simp[h]
theorem ZF(xs:List (Wk Cl Cs)):(opens xs).length<=xs.length:=by
 unfold opens;refine Nat.le_trans (List.length_filterMap_le _ _) ?_
 simp
end
end
end Go.Proofs.Ytdkfdedgfilhbaa
end
