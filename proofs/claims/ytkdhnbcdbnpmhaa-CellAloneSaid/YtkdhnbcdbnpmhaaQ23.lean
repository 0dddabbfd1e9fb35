/-
  Part 23 of the proof that CellAlone returns true for every input and leaves its arguments as they were. No further condition.
-/
import Derived.Test.YtkdhnbcdbnpmhaaQ22
set_option linter.unusedVariables false
set_option linter.unusedSectionVars false
set_option maxHeartbeats 4000000
namespace Go.Proofs.Ytkdhnbcdbnpmhaa
open Go Go.Conc Go.LT Go.LC Go.LK Go.RowKit
open Go.ConcN (WgLive)
open BA TU
section
noncomputable def Qm:Array Oper:=match mo with | .region _ ops _=>ops | _=>#[]
noncomputable def KJ:Array Oper:=(Qm.toList.take 9).toArray
noncomputable def VG:Array Oper:=match aC with | .region _ ops _=>ops | _=>#[]
theorem nS:mo=.region 13 Qm true:=rfl
theorem lH:aC=.region 14 VG false:=rfl
theorem Aad:∃ (af:Array Edge) (p:String) (ty:TypeId),KJ[0]?=some ⟨some 56,.move (.tmp 1),ty,p,af,none⟩:=⟨_,_,_,rfl⟩
theorem Aag:∃ (af:Array Edge) (p:String) (ty:TypeId),KJ[1]?=some ⟨some 57,.move (.tmp 13),ty,p,af,none⟩:=⟨_,_,_,rfl⟩
theorem xM:∃ (af:Array Edge) (p:String) (ty:TypeId),KJ[2]?=some ⟨some 58,.indexAddr 153 (.tmp 56) (.tmp 57),ty,p,af,none⟩:=⟨_,_,_,rfl⟩
theorem Aaw:∃ (af:Array Edge) (p:String) (ty:TypeId),KJ[3]?=some ⟨some 59,.load 109 (.tmp 58),ty,p,af,none⟩:=⟨_,_,_,rfl⟩
theorem Aac:∃ (af:Array Edge) (p:String) (ty:TypeId),KJ[4]?=some ⟨some 60,.nilCheck (.tmp 59),ty,p,af,none⟩:=⟨_,_,_,rfl⟩
theorem xK:∃ (af:Array Edge) (p:String) (ty:TypeId),KJ[5]?=some ⟨some 61,.fieldAddr 157 (.tmp 60) 2,ty,p,af,none⟩:=⟨_,_,_,rfl⟩
theorem Aaf:∃ (af:Array Edge) (p:String) (ty:TypeId),KJ[6]?=some ⟨some 62,.load 145 (.tmp 61),ty,p,af,none⟩:=⟨_,_,_,rfl⟩
theorem xw:∃ (af:Array Edge) (p:String) (ty:TypeId),KJ[7]?=some ⟨some 63,.fieldAddr 63 (.tmp 10) 2,ty,p,af,none⟩:=⟨_,_,_,rfl⟩
theorem x9:∃ (af:Array Edge) (p:String) (ty:TypeId),KJ[8]?=some ⟨some 64,.load 3 (.tmp 63),ty,p,af,none⟩:=⟨_,_,_,rfl⟩
theorem iD:(KJ[2]?).map IU=some [0,1]:=by kernel_rfl
theorem vS:(KJ[3]?).map IU=some [2]:=by kernel_rfl
theorem qQ:(KJ[4]?).map IU=some [3]:=by kernel_rfl
theorem qJ:(KJ[5]?).map IU=some [4]:=by kernel_rfl
theorem tL:(KJ[6]?).map IU=some [5]:=by kernel_rfl
theorem sS:(KJ[8]?).map IU=some [7]:=by kernel_rfl
theorem wK:∃ (af:Array Edge) (p:String) (ty:TypeId),Qm[9]?=some ⟨none,.send (.tmp 62) (.tmp 64),ty,p,af,none⟩:=⟨_,_,_,rfl⟩
theorem tO:Qm.size=10:=by kernel_rfl
theorem YK:KJ.size=9:=by kernel_rfl
theorem lT (i:Nat)(hi:i < 9):KJ[i]?=Qm[i]?:=by have:KJ=(Qm.toList.take 9).toArray:=rfl;rw [this,List.getElem?_toArray,List.getElem?_take,if_pos hi,Array.getElem?_toList]
theorem nk (i:Nat)(o:Oper)(ho:Qm[i]?=some o):∀ e∈o.after,e.on < i:=by
  have h:(Qm.toList.zipIdx.all fun x=>x.1.after.all fun e=>decide (e.on < x.2))=true:=by kernel_rfl
  rw [List.all_eq_true] at h;have h1:=h (o,i) (by rw [List.mem_zipIdx_iff_getElem?];simpa using ho);simp only [Array.all_eq_true'] at h1;exact fun e he=>of_decide_eq_true (h1 e he)
theorem yT (i:Nat)(o:Oper)(ho:KJ[i]?=some o):o.guard=none/\o.dst=some (56+i):=by
  have h:(KJ.toList.zipIdx.all fun x=>x.1.guard.isNone && x.1.dst == some (56+x.2))=true:=by kernel_rfl
  rw [List.all_eq_true] at h;have h1:=h (o,i) (by rw [List.mem_zipIdx_iff_getElem?];simpa using ho);simp only [Bool.and_eq_true,Option.isNone_iff_eq_none,beq_iff_eq] at h1;exact h1
theorem tC (i:Nat)(ws:List Nat)(h:(Qm[i]?).map IU=some ws){l:Array Bool}(hd:Down .any Qm l)(hl:l[i]?=some true):∀ j∈ws,l[j]?=some true:=fun j hj=>I8 h hd hl hj
theorem uo (l:Array Bool)(hs:l.size=10)(hd:Down .any Qm l)(hr:9∈Region.ready .any Qm l):∀ i,i < 9->l[i]?=some true:=by
  obtain ⟨_,o,ho,hod⟩:=mem_ready.1 hr;have w9:(Qm[9]?).map IU=some [6,8]:=by kernel_rfl
  have h68:∀ j∈[6,8],l[j]?=some true:=fun j hj=>by rw [ho] at w9;exact P7 (by rw [Option.some.inj w9];exact hj) (fun e he hb=>LM.1 (hod e he hb))
  have h8:=h68 8 (by decide);have h6:=h68 6 (by decide);have h7:=tC 8 [7] (by kernel_rfl) hd h8 7 (by decide);have h5:=tC 6 [5] (by kernel_rfl) hd h6 5 (by decide);have h4:=tC 5 [4] (by kernel_rfl) hd h5 4 (by decide);have h3:=tC 4 [3] (by kernel_rfl) hd h4 3 (by decide);have h2:=tC 3 [2] (by kernel_rfl) hd h3 2 (by decide);have h1:=tC 2 [0,1] (by kernel_rfl) hd h2 1 (by decide);have h0:=tC 2 [0,1] (by kernel_rfl) hd h2 0 (by decide);intro i hi;obtain rfl|rfl|rfl|rfl|rfl|rfl|rfl|rfl|rfl:i=0\/i=1\/i=2\/i=3\/i=4\/i=5\/i=6\/i=7\/i=8:=by omega
  all_goals assumption
section
variable {Cs Sg:Type}{D:Dr G5 Cs Sg}{m:Mem Sg}{ρ:Rn}{ws:List (Ij (Wk G5 Cs))}
variable {Fin:Iw}{GR:Ig Try.prog Fin}
variable {q:RB}{Kp:Nat->Prop}{W0 W:World}{R s co n nn:Nat}{σ:Sg}{left:List Int}{last:Int}{steps:List Nat}{cut Jo I6 Kh K7 LA LB u68 u69:Value}{ds:List Deferred}{K:List Item}{cs:List Frame}
theorem getElem?_set' {α:Type}{l:List α}{i j:Nat}{a b:α}(h:(l.set i a)[j]?=some b):(j=i/\b=a)\/(j≠i/\l[j]?=some b):=by
  by_cases e:i=j
  . subst e;rw [List.getElem?_set_self'] at h;cases hl:l[i]? with
    | none=>rw [hl] at h;cases h
    | some x=>rw [hl] at h;cases h;exact .inl ⟨rfl,rfl⟩
  . rw [List.getElem?_set_ne e] at h;exact .inr ⟨fun z=>e z.symm,h⟩
theorem Oz.gave (h:Oz m ρ ws q Kp W0 R σ left last s steps cut W){k r:Nat}{v v':Ij (Wk G5 Cs)}{W':World}(hv:ws[k]?=some v)(hov:v.over=false)(hfu:R+1<=v.r+s)(hr:v.r=r+1){sn:Nat}(hG:d9 (H9 D m) ρ ws v (D.hold v.x sn σ) r W v' W'):Oz m ρ (ws.set k v') q Kp W0 R (D.hold v.x sn σ).2.1 left last s steps cut W':=by
  have hsame:∀ g,q.K Kp g->W'.heap[g]?=W.heap[g]?:=fun g hg=>by obtain ⟨f1,f2,f3,f4,f5⟩:=h.free g hg;exact hG.block g f1 (K3 f2 f3) (f5 k v hv) f4
  have hx:=(h.ov k v hv)
  have hh:=nU D hx.2 (hx.1 ▸ hov) sn σ;have hmap:(ws.set k v').map (·.b)=ws.map (·.b):=by
    rw [List.map_set,hG.b];refine List.ext_getElem? fun j=>?_;by_cases e:k=j
    . subst e;rw [List.getElem?_set_self',List.getElem?_map,hv];rfl
    . rw [List.getElem?_set_ne e]
  refine ⟨by rw [hmap];exact h.rows.keep fun g hg=>hsame g hg.weak,h.lay,hG.inv,fun g hg=>?_,fun g hg=>?_,fun j u hu=>?_,fun j u hu=>?_,by rw [List.length_set];exact h.X3,by rw [List.length_set];exact h.few⟩
  . rw [hsame g hg];obtain ⟨f1,f2,f3,f4,f5⟩:=h.free g hg;refine ⟨f1,f2,f3,f4,fun j u hu ho=>?_⟩;rcases getElem?_set' hu with ⟨rfl,rfl⟩|⟨_,hu⟩
    . rcases hG.own g ho with ho | ho
      . exact f5 j v hv ho
      . have:=h.lt hg;omega
    . exact f5 j u hu ho
  . rw [hsame g (.inr (.inr (.inr (.inr (.inr (.inr (.inr hg)))))))];exact h.kept g hg
  . rcases getElem?_set' hu with ⟨rfl,rfl⟩ | ⟨_,hu⟩
    . rw [hG.over,hG.x];exact ⟨hh.2,hh.1⟩
    . exact h.ov j u hu
  . rcases getElem?_set' hu with ⟨rfl,rfl⟩ | ⟨_,hu⟩
    . rw [hG.r];omega
    . exact h.fuel j u hu
theorem oU {tm:Array Value}{n:Nat}(h:tm.size=n):tm=((List.range n).map fun i=>tm.getD i undef).toArray:=by refine Array.ext (by simp [h]) fun i h1 h2=>?_;simp [Array.getD,h1]
theorem Ip {tm:Array Value}{i:Nat}{v:Value}(h:tm[i]?=some v):tm.getD i undef=v:=by rw [Array.getD_eq_getD_getElem?,h];rfl
theorem yB {tm tm':Array Value}(h:Sd q co n Jo I6 Kh K7 LA LB u68 u69 tm)(hsz:tm'.size=106)(hlow:∀ s,s < 16->tm'[s]?=tm[s]?):∃ LB u68 u69,Sd q co n Jo I6 Kh K7 LA LB u68 u69 tm':=by
  obtain ⟨v4,v5,Ai,Aj,Ak,Al,Am,Ao,Ap,Aq,Ar,Au,Av,Aw,Ay,Az,AA,AB,AJ,AL,AO,AP,AQ,AU,AV,AX,AY,AZ,A8,A9,Ba,Bb,Bc,Bf,Bh,Bj,Bl,Bp,Bq,Br,Bu,Bv,Bw,Bz,BD,BF,BG,BH,BI,BJ,BK,BL,BM,BQ,BR,BS,BU,BX,BZ,Ca,Cb,Cc,Ce,Cg,Ci,Cj,Ck,Cm,Co,Cq,Cr,Ct,Cu,Cw,Cx,Cy,Cz,CB,CF,CG,CJ,CK,CO,CQ,CS,CU,CV,CW,CX,rfl⟩:=h
  have e:tm'=#[tm'.getD 0 undef,tm'.getD 1 undef,tm'.getD 2 undef,tm'.getD 3 undef,tm'.getD 4 undef,tm'.getD 5 undef,tm'.getD 6 undef,tm'.getD 7 undef,tm'.getD 8 undef,tm'.getD 9 undef,tm'.getD 10 undef,tm'.getD 11 undef,tm'.getD 12 undef,tm'.getD 13 undef,tm'.getD 14 undef,tm'.getD 15 undef,tm'.getD 16 undef,tm'.getD 17 undef,tm'.getD 18 undef,tm'.getD 19 undef,tm'.getD 20 undef,tm'.getD 21 undef,tm'.getD 22 undef,tm'.getD 23 undef,tm'.getD 24 undef,tm'.getD 25 undef,tm'.getD 26 undef,tm'.getD 27 undef,tm'.getD 28 undef,tm'.getD 29 undef,tm'.getD 30 undef,tm'.getD 31 undef,tm'.getD 32 undef,tm'.getD 33 undef,tm'.getD 34 undef,tm'.getD 35 undef,tm'.getD 36 undef,tm'.getD 37 undef,tm'.getD 38 undef,tm'.getD 39 undef,tm'.getD 40 undef,tm'.getD 41 undef,tm'.getD 42 undef,tm'.getD 43 undef,tm'.getD 44 undef,tm'.getD 45 undef,tm'.getD 46 undef,tm'.getD 47 undef,tm'.getD 48 undef,tm'.getD 49 undef,tm'.getD 50 undef,tm'.getD 51 undef,tm'.getD 52 undef,tm'.getD 53 undef,tm'.getD 54 undef,tm'.getD 55 undef,tm'.getD 56 undef,tm'.getD 57 undef,tm'.getD 58 undef,tm'.getD 59 undef,tm'.getD 60 undef,tm'.getD 61 undef,tm'.getD 62 undef,tm'.getD 63 undef,tm'.getD 64 undef,tm'.getD 65 undef,tm'.getD 66 undef,tm'.getD 67 undef,tm'.getD 68 undef,tm'.getD 69 undef,tm'.getD 70 undef,tm'.getD 71 undef,tm'.getD 72 undef,tm'.getD 73 undef,tm'.getD 74 undef,tm'.getD 75 undef,tm'.getD 76 undef,tm'.getD 77 undef,tm'.getD 78 undef,tm'.getD 79 undef,tm'.getD 80 undef,tm'.getD 81 undef,tm'.getD 82 undef,tm'.getD 83 undef,tm'.getD 84 undef,tm'.getD 85 undef,tm'.getD 86 undef,tm'.getD 87 undef,tm'.getD 88 undef,tm'.getD 89 undef,tm'.getD 90 undef,tm'.getD 91 undef,tm'.getD 92 undef,tm'.getD 93 undef,tm'.getD 94 undef,tm'.getD 95 undef,tm'.getD 96 undef,tm'.getD 97 undef,tm'.getD 98 undef,tm'.getD 99 undef,tm'.getD 100 undef,tm'.getD 101 undef,tm'.getD 102 undef,tm'.getD 103 undef,tm'.getD 104 undef,tm'.getD 105 undef]:=oU hsz
  have e0:tm'.getD 0 undef=q.cv:=Ip (hlow 0 (by decide));have e1:tm'.getD 1 undef=.slice (some ⟨q.lg,0,none⟩) n q.lc:=Ip (hlow 1 (by decide));have e2:tm'.getD 2 undef=.chan (some co):=Ip (hlow 2 (by decide));have e3:tm'.getD 3 undef=.pointer (some ⟨q.bc,0,none⟩):=Ip (hlow 3 (by decide));have e6:tm'.getD 6 undef=.pointer (some ⟨q.bz,0,none⟩):=Ip (hlow 6 (by decide));have e7:tm'.getD 7 undef=.int .i64 q.most:=Ip (hlow 7 (by decide));have e8:tm'.getD 8 undef=.pointer (some ⟨q.ob,0,none⟩):=Ip (hlow 8 (by decide));have e9:tm'.getD 9 undef=.slice (some ⟨q.sg,0,none⟩) n n:=Ip (hlow 9 (by decide));have e10:tm'.getD 10 undef=.pointer (some ⟨q.br,0,none⟩):=Ip (hlow 10 (by decide));have e11:tm'.getD 11 undef=Jo:=Ip (hlow 11 (by decide));have e12:tm'.getD 12 undef=I6:=Ip (hlow 12 (by decide))
  have e13:tm'.getD 13 undef=Kh:=Ip (hlow 13 (by decide));have e14:tm'.getD 14 undef=K7:=Ip (hlow 14 (by decide));have e15:tm'.getD 15 undef=LA:=Ip (hlow 15 (by decide));rw [e0,e1,e2,e3,e6,e7,e8,e9,e10,e11,e12,e13,e14,e15] at e;exact ⟨_,_,_,_,_,_,_,_,_,_,_,_,_,_,_,_,_,_,_,_,_,_,_,_,_,_,_,_,_,_,_,_,_,_,_,_,_,_,_,_,_,_,_,_,_,_,_,_,_,_,_,_,_,_,_,_,_,_,_,_,_,_,_,_,_,_,_,_,_,_,_,_,_,_,_,_,_,_,_,_,_,_,_,_,_,_,_,_,_,_,_,_,e⟩
end
end
section
section
variable {Cs Sg:Type}{D:Dr G5 Cs Sg}{m:Mem Sg}{ρ:Rn}{ws:List (Ij (Wk G5 Cs))}
variable {Fin:Iw}{GR:Ig Try.prog Fin}
variable {q:RB}{Kp:Nat->Prop}{W0 W:World}{R s co n nn:Nat}{σ:Sg}{left:List Int}{last:Int}{steps:List Nat}{cut Jo I6 Kh K7 LA LB u68 u69:Value}{ds:List Deferred}{K:List Item}{cs:List Frame}
theorem oD (h:Oz m ρ ws q Kp W0 R σ left last s steps cut W)(hcl:¬ ρ.Uh)(hzi:ρ.zi=.int .i64 0)(hco:co=ρ.come){k r:Nat}{v:Ij (Wk G5 Cs)}(hkn:k < n)(hv:ws[k]?=some v)(hov:v.over=false)(hr:v.r=r+1)(hfu:R+1<=v.r+s){tm:Array Value}(hs:Sd q co n Jo I6 (.int .i64 k) K7 LA LB u68 u69 tm)(hK:∀ v' W' W1 tm' LB u68 u69,Sd q co n Jo I6 (.int .i64 k) K7 LA LB u68 u69 tm'->d9 (H9 D m) ρ ws v (D.hold v.x s σ) r W1 v' W'->Oz m ρ (ws.set k v') q Kp W0 R (D.hold v.x s σ).2.1 left last s steps cut W'->JL (S0 Try.prog Fin GR).L (.H7 (H9 D m) ρ (ws.set k v') 0 false nn) (G ((base 79).at ⟨tm',ds⟩ K) cs) W') :
    JL (S0 Try.prog Fin GR).L (.H7 (H9 D m) ρ ws 0 false nn) (G ((base 79).at ⟨tm,ds⟩ (.code (.seq mo aC) :: K)) cs) W:=by
  subst hco;refine J0.know (GR:=GR) fun hKn=>?_;have hvb:W.cell? ⟨v.b,2,none⟩=some (.chan (some v.t)):=hKn.turn k v hv hov;have hvl:W.cell? ⟨q.lg,k,none⟩=some (.pointer (some ⟨v.b,0,none⟩)):=h.rows.row k v.b (by rw [List.getElem?_map,hv];rfl);have hvs:W.cell? ⟨q.br,2,none⟩=some (.int .i64 s):=by simp [World.cell?,h.rows.run]
  have hs0:=hs;obtain ⟨v4,v5,Ai,Aj,Ak,Al,Am,Ao,Ap,Aq,Ar,Au,Av,Aw,Ay,Az,AA,AB,AJ,AL,AO,AP,AQ,AU,AV,AX,AY,AZ,A8,A9,Ba,Bb,Bc,Bf,Bh,Bj,Bl,Bp,Bq,Br,Bu,Bv,Bw,Bz,BD,BF,BG,BH,BI,BJ,BK,BL,BM,BQ,BR,BS,BU,BX,BZ,Ca,Cb,Cc,Ce,Cg,Ci,Cj,Ck,Cm,Co,Cq,Cr,Ct,Cu,Cw,Cx,Cy,Cz,CB,CF,CG,CJ,CK,CO,CQ,CS,CU,CV,CW,CX,rfl⟩:=hs;show JL (S0 Try.prog Fin GR).L _ _ W;refine GY stepG_seq ?_;rw [nS];refine HY.bB (S:=S0 Try.prog Fin GR) (KZ:=KJ) (N:=9) (s0:=56) (vs:=[.slice (some ⟨q.lg,0,none⟩) n q.lc,.int .i64 k,.pointer (some ⟨q.lg,k,none⟩),.pointer (some ⟨v.b,0,none⟩),.pointer (some ⟨v.b,0,none⟩),.pointer (some ⟨v.b,2,none⟩),.chan (some v.t),.pointer (some ⟨q.br,2,none⟩),.int .i64 s]) (by kernel_rfl) (by kernel_rfl) nE tO YK lT nk uo (by kernel_rfl) rfl (by simp) yT ?_ ?_
  . intro w ha l a i o hI hb ho hod;have hcell:∀ a,w.cell? a=W.cell? a:=fun a=>by obtain ⟨τ,d,rfl⟩:=ha;rfl
    rw [← hcell] at hvb hvl hvs;have hi:i < 9:=by have:=(Array.getElem?_eq_some_iff.1 ho).1;rw [YK] at this;exact this
    clear hK h hKn hs0 hcell;obtain rfl|rfl|rfl|rfl|rfl|rfl|rfl|rfl|rfl:i=0\/i=1\/i=2\/i=3\/i=4\/i=5\/i=6\/i=7\/i=8:=by omega
    . obtain ⟨af,p,ty,ho'⟩:=Aad;obtain rfl:=Option.some.inj (ho.symm.trans ho');have t:a.eval (.tmp 1)=.slice (some ⟨q.lg,0,none⟩) n q.lc:=Hq ((hI.low 1 (by decide)).trans rfl);exact ⟨rfl,_,rfl,by unfold execOp;simp only [t];go_simp⟩
    . obtain ⟨af,p,ty,ho'⟩:=Aag;obtain rfl:=Option.some.inj (ho.symm.trans ho');have t:a.eval (.tmp 13)=.int .i64 k:=Hq ((hI.low 13 (by decide)).trans rfl);exact ⟨rfl,_,rfl,by unfold execOp;simp only [t];go_simp⟩
    . obtain ⟨af,p,ty,ho'⟩:=xM;obtain rfl:=Option.some.inj (ho.symm.trans ho');have t0:=Hq (hI.val 0 _ (IB iD ho hod (by decide)) rfl);have t1:=Hq (hI.val 1 _ (IB iD ho hod (by decide)) rfl);refine ⟨rfl,_,rfl,?_⟩;unfold execOp;simp only [t0,t1];go_simp
    . obtain ⟨af,p,ty,ho'⟩:=Aaw;obtain rfl:=Option.some.inj (ho.symm.trans ho');have t:=Hq (hI.val 2 _ (IB vS ho hod (by decide)) rfl);exact ⟨rfl,_,rfl,by unfold execOp;simp only [t];go_simp⟩
    . obtain ⟨af,p,ty,ho'⟩:=Aac;obtain rfl:=Option.some.inj (ho.symm.trans ho');have t:=Hq (hI.val 3 _ (IB qQ ho hod (by decide)) rfl);exact ⟨rfl,_,rfl,by unfold execOp;simp only [t];go_simp⟩
    . obtain ⟨af,p,ty,ho'⟩:=xK;obtain rfl:=Option.some.inj (ho.symm.trans ho');have t:=Hq (hI.val 4 _ (IB qJ ho hod (by decide)) rfl);exact ⟨rfl,_,rfl,by unfold execOp;simp only [t];go_simp⟩
    . obtain ⟨af,p,ty,ho'⟩:=Aaf;obtain rfl:=Option.some.inj (ho.symm.trans ho');have t:=Hq (hI.val 5 _ (IB tL ho hod (by decide)) rfl);exact ⟨rfl,_,rfl,by unfold execOp;simp only [t];go_simp⟩
    . obtain ⟨af,p,ty,ho'⟩:=xw;obtain rfl:=Option.some.inj (ho.symm.trans ho');have t:a.eval (.tmp 10)=.pointer (some ⟨q.br,0,none⟩):=Hq ((hI.low 10 (by decide)).trans rfl);exact ⟨rfl,_,rfl,by unfold execOp;simp only [t];go_simp⟩
    . obtain ⟨af,p,ty,ho'⟩:=x9;obtain rfl:=Option.some.inj (ho.symm.trans ho');have t:=Hq (hI.val 7 _ (IB sS ho hod (by decide)) rfl);exact ⟨rfl,_,rfl,by unfold execOp;simp only [t];go_simp⟩
  . intro l tm' W' hI hall ha;have hh:W'.heap=W.heap:=by obtain ⟨τ,d,rfl⟩:=ha;rfl
    have h1:=h.alike hh;obtain ⟨xk,Aa1,xI,hs1⟩:=yB hs0 hI.size (fun s h1=>hI.low s (by omega));have t62:=hI.val 6 _ (hall 6 (by decide)) rfl;have t64:=hI.val 8 _ (hall 8 (by decide)) rfl;clear hI;obtain ⟨v4,v5,Ai,Aj,Ak,Al,Am,Ao,Ap,Aq,Ar,Au,Av,Aw,Ay,Az,AA,AB,AJ,AL,AO,AP,AQ,AU,AV,AX,AY,AZ,A8,A9,Ba,Bb,Bc,Bf,Bh,Bj,Bl,Bp,Bq,Br,Bu,Bv,Bw,Bz,BD,BF,BG,BH,BI,BJ,BK,BL,BM,BQ,BR,BS,BU,BX,BZ,Ca,Cb,Cc,Ce,Cg,Ci,Cj,Ck,Cm,Co,Cq,Cr,Ct,Cu,Cw,Cx,Cy,Cz,CB,CF,CG,CJ,CK,CO,CQ,CS,CU,CV,CW,CX,rfl⟩:=hs1;have Afg:some BI=some (.chan (some v.t)):=t62;have Aeg:some BK=some (.int .i64 (s:Int)):=t64;cases Afg
    cases Aeg
    clear t62 t64 hs0 hvb hvl hvs;obtain ⟨af,p,ty,h9⟩:=wK;generalize hg0:(G ((base 79).at ⟨#[q.cv,.slice (some ⟨q.lg,0,none⟩) n q.lc,.chan (some ρ.come),.pointer (some ⟨q.bc,0,none⟩),v4,v5,.pointer (some ⟨q.bz,0,none⟩),.int .i64 q.most,.pointer (some ⟨q.ob,0,none⟩),.slice (some ⟨q.sg,0,none⟩) n n,.pointer (some ⟨q.br,0,none⟩),Jo,I6,.int .i64 k,K7,LA,Ai,Aj,Ak,Al,Am,Ao,Ap,Aq,Ar,Au,Av,Aw,Ay,Az,AA,AB,AJ,AL,AO,AP,AQ,AU,AV,AX,AY,AZ,A8,A9,Ba,Bb,Bc,Bf,Bh,Bj,Bl,Bp,Bq,Br,Bu,Bv,Bw,Bz,BD,BF,BG,BH,.chan (some v.t),BJ,.int .i64 s,.chan (some ρ.come),BM,xk,Aa1,xI,BQ,BR,BS,BU,BX,BZ,Ca,Cb,Cc,Ce,Cg,Ci,Cj,Ck,Cm,Co,Cq,Cr,Ct,Cu,Cw,Cx,Cy,Cz,CB,CF,CG,CJ,CK,CO,CQ,CS,CU,CV,CW,CX],ds⟩ (.inRegion VG [1] :: K)) cs)=g0
    obtain ⟨nq,hS⟩:=RN (P:=Try.prog) (main:=true) (K:=fun _=>True) (Still:=fun _=>False) (Bd:=0) (st:=Seat.one ρ.come ρ.zi false (·=g0)) (g:=(G ((base 79).at ⟨#[q.cv,.slice (some ⟨q.lg,0,none⟩) n q.lc,.chan (some ρ.come),.pointer (some ⟨q.bc,0,none⟩),v4,v5,.pointer (some ⟨q.bz,0,none⟩),.int .i64 q.most,.pointer (some ⟨q.ob,0,none⟩),.slice (some ⟨q.sg,0,none⟩) n n,.pointer (some ⟨q.br,0,none⟩),Jo,I6,.int .i64 k,K7,LA,Ai,Aj,Ak,Al,Am,Ao,Ap,Aq,Ar,Au,Av,Aw,Ay,Az,AA,AB,AJ,AL,AO,AP,AQ,AU,AV,AX,AY,AZ,A8,A9,Ba,Bb,Bc,Bf,Bh,Bj,Bl,Bp,Bq,Br,Bu,Bv,Bw,Bz,BD,BF,BG,BH,.chan (some v.t),BJ,.int .i64 s,BL,BM,xk,Aa1,xI,BQ,BR,BS,BU,BX,BZ,Ca,Cb,Cc,Ce,Cg,Ci,Cj,Ck,Cm,Co,Cq,Cr,Ct,Cu,Cw,Cx,Cy,Cz,CB,CF,CG,CJ,CK,CO,CQ,CS,CU,CV,CW,CX],ds⟩ (.inRegion Qm [9] :: .code aC :: K)) cs).finishComm Try.prog #[scase v.t (.int .i64 s) (.tuple #[])] .send (0:Nat) undef false) fun GQ=>by
      rw [JC,h9];refine GY stepG_region_end ?_;rw [lH];refine JL.region (l:=[0,1]) rfl fun _ hk2=>?_;cases hk2
      simp only [VG,aC,VN,QH,Try.f79]
      (refine Hf ?_;walk_nrm)
      refine JQ.sit rfl rfl nE (fun w=>?_) (fun w=>?_) ?_
      . go_simp
        simp [Seat.one,rcase,hzi]
      . simp [go_sem]
      . exact hg0
    refine J0.give (GR:=GR) hcl (i:=k) (v:=v) (r:=r) (s:=s) (σ:=σ) (zs:=.tuple #[]) hv hov hr h1.inv rfl (fun w=>?_) hS fun v' W'' hG=>?_
    . rw [stepG_comm (cases:=#[scase v.t (.int .i64 s) (.tuple #[])]) (blocking:=true) (shape:=.send) (w':=w) h9 rfl nE ?_,listed_none ?_]
      . unfold execOp;simp [go_sem]
      . unfold execOp;go_simp
        rfl
    . subst hg0;rw [JC];have s66:(VG[1]?).bind (·.dst)=some 66:=by kernel_rfl
      rw [s66];walk_nrm;show JL (S0 Try.prog Fin GR).L _ _ _;refine GY stepG_region_end ?_;exact hK v' W'' W' _ _ _ _ ⟨_,_,_,_,_,_,_,_,_,_,_,_,_,_,_,_,_,_,_,_,_,_,_,_,_,_,_,_,_,_,_,_,_,_,_,_,_,_,_,_,_,_,_,_,_,_,_,_,_,_,_,_,_,_,_,_,_,_,_,_,_,_,_,_,_,_,_,_,_,_,_,_,_,_,_,_,_,_,_,_,_,_,_,_,_,_,_,_,_,rfl⟩ hG (h1.gave hv hov hfu hr hG)
end
end
section
section
variable {Cs Sg:Type}{D:Dr G5 Cs Sg}{m:Mem Sg}{ρ:Rn}{ws:List (Ij (Wk G5 Cs))}
variable {Fin:Iw}{GR:Ig Try.prog Fin}
variable {q:RB}{Kp:Nat->Prop}{W0 W:World}{R s co n nn:Nat}{σ:Sg}{left:List Int}{last:Int}{steps:List Nat}{cut Jo I6 Kh K7 LA LB u68 u69:Value}{ds:List Deferred}{K:List Item}{cs:List Frame}
theorem dN {ws:List (Ij (Wk G5 Cs))}{i:Nat}(hi:i < ws.length):(ws.map fun u=>!u.x.over).getD i false=!((ws.map fun u=>u.x.over).getD i false):=by simp [List.getD,hi]
theorem any_map {ws:List (Ij (Wk G5 Cs))}:((ws.map fun u=>u.x.over).any fun d=>!d)=(ws.map fun u=>!u.x.over).any id:=by rw [List.any_map,List.any_map];rfl
theorem nO (hcl:¬ ρ.Uh)(hzi:ρ.zi=.int .i64 0)(hco:co=ρ.come)(hm:q.most<=R)(hm2:q.most<=1000000)(hK:∀ ws' σ' left' last' s' QX cut' W' Jo I6 Kh K7 LA LB u68 u69 tm',Sd q co n Jo I6 Kh K7 LA LB u68 u69 tm'->Oz m ρ ws' q Kp W0 R σ' left' last' s' QX cut' W'->(∃ z0:Rs G5 Cs Sg,z0=Rs.go D q.most q.most ⟨ws.map (·.x),σ,left,last,s⟩/\ws'.map (·.x)=z0.xs/\σ'=z0.σ/\left'=z0.left/\last'=z0.last/\s'=z0.s/\cut'=.bool (z0.rd.any id))->ws'.map (·.b)=ws.map (·.b)->JL (S0 Try.prog Fin GR).L (.H7 (H9 D m) ρ ws' 0 false nn) (G ((base 79).at ⟨tm',ds⟩ K) cs) W') :
    ∀ (f:Nat) (JF:List (Ij (Wk G5 Cs))) (σ₁:Sg) (Kz:List Int) (last₁:Int) (s₁:Nat) (Ns:List Nat) (gZ:Value) (GQ:World) (Jo I6 Kh K7 LA LB u68 u69:Value) (tm:Array Value),q.most - s₁<=f->JF.length=n->JF.map (·.b)=ws.map (·.b)->Oz m ρ JF q Kp W0 R σ₁ Kz last₁ s₁ Ns gZ GQ->(∀ (i c:Nat),Ns[i]?=some c->c<=s₁)->s₁<=q.most->
      Rs.go D q.most f ⟨JF.map (·.x),σ₁,Kz,last₁,s₁⟩=Rs.go D q.most q.most ⟨ws.map (·.x),σ,left,last,s⟩->Sd q co n Jo I6 Kh K7 LA LB u68 u69 tm->
      JL (S0 Try.prog Fin GR).L (.H7 (H9 D m) ρ JF 0 false nn) (G ((base 79).at ⟨tm,ds⟩ (.code (.block 1 VN) :: .inLoop (.block 1 VN) :: .inBlock 0 :: K)) cs) GQ:=by
  intro f;induction f using Nat.strongRecOn with
  | _ f ih=>
  intro JF σ₁ Kz last₁ s₁ Ns gZ GQ Jo I6 Kh K7 LA LB u68 u69 tm hf hl hb h hst hsm hgo hs;refine GY stepG_block ?_;rw [qD];refine GY stepG_seq ?_;refine za h hl.symm hs fun Jj Af2 wb hs2 h2 hcells=>?_;refine GY stepG_seq ?_;rw [any_map] at hs2;generalize hbv:(JF.map fun u=>!u.x.over).any id=bv at hs2;refine wZ h2 hs2 fun Hl Af0 hs3 h3 hoth=>?_;refine GY stepG_seq ?_;refine GY stepG_seq ?_;refine zY h3 (by omega) hm2 hs3 fun Q5 yw hs4 wG hw4=>?_;have h4:=h3.alike hw4;have jD:(⟨JF.map (·.x),σ₁,Kz,last₁,s₁⟩:Rs G5 Cs Sg).rd=JF.map fun u=>!u.x.over:=by unfold Rs.rd;rw [List.map_map];rfl
  by_cases hstop:bv=false\/q.most<=s₁
  . have e42:(!bv || decide (q.most<=s₁))=true:=by
      rcases hstop with e|e
      . rw [e];rfl
      . rw [decide_eq_true e];simp
    rw [e42] at wG;refine JL.Iq (Hq wG) ?_;refine JL.exit rfl ?_;have hz:Rs.go D q.most f ⟨JF.map (·.x),σ₁,Kz,last₁,s₁⟩=⟨JF.map (·.x),σ₁,Kz,last₁,s₁⟩:=Rs.lY D (by rw [jD,hbv];exact hstop)
    rw [hz] at hgo;refine hK JF _ _ _ _ _ _ Q5 _ _ _ _ _ _ _ _ yw hs4 h4 ⟨_,hgo,rfl,rfl,rfl,rfl,rfl,?_⟩ hb;rw [jD,hbv]
  . have hbt:bv=true:=by
      cases bv with
      | true=>rfl
      | false=>exact absurd (.inl rfl) hstop
    have hlt:s₁ < q.most:=Nat.lt_of_not_le fun e=>hstop (.inr e);subst hbt;have e42:(!true || decide (q.most<=s₁))=false:=by simp;omega
    rw [e42] at wG;refine JL.Ho (Hq wG) ?_;refine GY stepG_skip ?_;refine GY stepG_seq ?_;have hne:OD (JF.map fun u=>!u.x.over)≠[]:=vM.2 hbv;obtain ⟨k,hk1,hk2,hk3⟩:=j4 (left:=Kz) (last:=last₁) hne;have hkl:k < JF.length:=by simpa using hk2
    obtain ⟨v,hv⟩:∃ v,JF[k]?=some v:=⟨_,List.getElem?_eq_getElem hkl⟩
    have hvo:v.x.over=false:=by
      rw [dN hkl] at hk3
      simpa [List.getD,hv] using hk3
    have hov:v.over=false:=by rw [(h.ov k v hv).1];exact hvo
    have hwb:wb≠q.br:=fun e=>by
      have c1:=hcells 0 (by omega);rw [e] at c1;have c2:Jj.cell? ⟨q.br,0,none⟩=some (.slice none 0 0):=by simp [World.cell?,h2.rows.run]
      rw [c2] at c1;cases c1
    refine sG (rd:=JF.map fun u=>!u.x.over) (wb:=wb) h4 hl.symm (by simp [hl]) hne (fun i hi=>?_) hs4 fun KQ Aiu hs5 h5=>?_
    . have e:=cell_of (w:=Jj) (w':=Q5) (a:=⟨wb,i,none⟩) (by show Q5.heap[wb]?=Jj.heap[wb]?;rw [hw4];exact hoth wb hwb)
      rw [e,hcells i hi,dN (by omega)]
    rw [hk1] at hs5;refine GY stepG_seq ?_;refine qR h5 (by omega) hs5 fun bK Aia hs6 h6=>?_;refine GY stepG_seq ?_;refine qZ h6 hl.symm (k:=k) (by omega) (fun i c hc=>by have:=hst i c hc;omega) hs6 fun M5 Af8 hs7 h7=>?_;have hfu:=h.fuel k v hv;refine oD h7 hcl hzi hco (k:=k) (r:=v.r - 1) (by omega) hv hov (by omega) (by omega) hs7 fun v' Ad0 Aki Aar LB u68 u69 hs8 hG h8=>?_;refine GY stepG_inBlock ?_;refine GY stepG_inLoop ?_;have hxs:(JF.set k v').map (·.x)=(JF.map (·.x)).set k (D.hold v.x (s₁+1) σ₁).1:=by rw [List.map_set,hG.x]
    have hbs:(JF.set k v').map (·.b)=JF.map (·.b):=by
      rw [List.map_set,hG.b];refine List.ext_getElem? fun j=>?_;by_cases e:k=j
      . subst e;rw [List.getElem?_set_self',List.getElem?_map,hv];rfl
      . rw [List.getElem?_set_ne e]
    obtain ⟨f',rfl⟩:∃ f',f=f'+1:=⟨f - 1,by omega⟩
    have hnext:(⟨JF.map (·.x),σ₁,Kz,last₁,s₁⟩:Rs G5 Cs Sg).next D=⟨(JF.set k v').map (·.x),(D.hold v.x (s₁+1) σ₁).2.1,NP Kz (OD (JF.map fun u=>!u.x.over)),NC Kz last₁ (OD (JF.map fun u=>!u.x.over)),s₁+1⟩:=by
      have hp:(⟨JF.map (·.x),σ₁,Kz,last₁,s₁⟩:Rs G5 Cs Sg).pick=k:=by unfold Rs.pick;rw [jD];show (NR Kz last₁ _).toNat=k;rw [hk1];rfl
      unfold Rs.next;rw [hp];have:(⟨JF.map (·.x),σ₁,Kz,last₁,s₁⟩:Rs G5 Cs Sg).xs[k]?=some v.x:=by show (JF.map (·.x))[k]?=_;rw [List.getElem?_map,hv];rfl
      rw [this];show Rs.turn D _ k v.x=_;unfold Rs.turn;rw [jD,hxs]
    rw [Rs.go_step D (by rw [jD];exact hbv) hlt,hnext] at hgo;refine ih f' (by omega) (JF.set k v') _ _ _ (s₁+1) _ _ Ad0 _ _ _ _ _ _ _ _ Aar (by omega) (by rw [List.length_set];exact hl) (hbs.trans hb) h8 (fun i c hc=>?_) hlt hgo hs8;rcases getElem?_set' hc with ⟨_,rfl⟩|⟨_,hc⟩
    . have hkk:Ns[k]?=some (Ns.getD k 0):=by
        have:k < Ns.length:=by rw [h.X3];exact hkl
        simp [List.getD,this]
      have:=hst k _ hkk;omega
    . have:=hst i c hc;omega
end
end
noncomputable def Mj:Array Oper:=match lX with | .region _ ops _=>ops | _=>#[]
theorem nP:lX=.region 18 Mj true:=rfl
theorem Abe:∃ (af:Array Edge) (p:String) (ty:TypeId),Mj[0]?=some ⟨some 74,.fieldAddr 63 (.tmp 10) 0,ty,p,af,none⟩:=⟨_,_,_,rfl⟩
theorem wO:∃ (af:Array Edge) (p:String) (ty:TypeId),Mj[1]?=some ⟨some 75,.load 60 (.tmp 74),ty,p,af,none⟩:=⟨_,_,_,rfl⟩
theorem yI:∃ (af:Array Edge) (p:String) (ty:TypeId),Mj[2]?=some ⟨some 76,.move (.tmp 15),ty,p,af,none⟩:=⟨_,_,_,rfl⟩
theorem zN:∃ (af:Array Edge) (p:String) (ty:TypeId),Mj[3]?=some ⟨some 77,.nilCheck (.tmp 76),ty,p,af,none⟩:=⟨_,_,_,rfl⟩
theorem xG:∃ (af:Array Edge) (p:String) (ty:TypeId),Mj[4]?=some ⟨some 78,.fieldAddr 157 (.tmp 77) 9,ty,p,af,none⟩:=⟨_,_,_,rfl⟩
theorem Aan:∃ (af:Array Edge) (p:String) (ty:TypeId),Mj[5]?=some ⟨some 79,.load 66 (.tmp 78),ty,p,af,none⟩:=⟨_,_,_,rfl⟩
theorem wU:∃ (af:Array Edge) (p:String) (ty:TypeId),Mj[6]?=some ⟨some 80,.call { callee:=.builtin .append,args:=#[.const (.slice none 0 0),.tmp 79],argTypes:=#[66,66] },66,p,af,none⟩:=⟨_,_,66,rfl⟩
theorem Aa7:∃ (af:Array Edge) (p:String) (ty:TypeId),Mj[7]?=some ⟨some 81,.buildSlice 60 1 #[(0,.tmp 80)],ty,p,af,none⟩:=⟨_,_,_,rfl⟩
theorem Aah:∃ (af:Array Edge) (p:String) (ty:TypeId),Mj[8]?=some ⟨some 82,.call { callee:=.builtin .append,args:=#[.tmp 75,.tmp 81],argTypes:=#[60,60] },60,p,af,none⟩:=⟨_,_,60,rfl⟩
theorem Abk:∃ (af:Array Edge) (p:String) (ty:TypeId),Mj[9]?=some ⟨some 83,.fieldAddr 63 (.tmp 10) 0,ty,p,af,none⟩:=⟨_,_,_,rfl⟩
theorem qB:∃ (af:Array Edge) (p:String) (ty:TypeId),Mj[10]?=some ⟨none,.store 60 (.tmp 83) (.tmp 82),ty,p,af,none⟩:=⟨_,_,_,rfl⟩
theorem vV:(Mj[1]?).map IU=some [0]:=by kernel_rfl
theorem rT:(Mj[3]?).map IU=some [2]:=by kernel_rfl
theorem uD:(Mj[4]?).map IU=some [3]:=by kernel_rfl
theorem vH:(Mj[5]?).map IU=some [4]:=by kernel_rfl
theorem gV:(Mj[6]?).map IU=some [5]:=by kernel_rfl
theorem VK:(Mj[7]?).map IU=some [6]:=by kernel_rfl
theorem QJ:(Mj[8]?).map IU=some [1,7,6]:=by kernel_rfl
theorem Nh:(Mj[10]?).map IU=some [9,8,8,0,1,2,3,4,5,6,7,8]:=by kernel_rfl
theorem iW:Mj.size=11:=by kernel_rfl
theorem lM (i:Nat)(o:Oper)(ho:Mj[i]?=some o):∀ e∈o.after,e.on < i:=by
  have h:(Mj.toList.zipIdx.all fun x=>x.1.after.all fun e=>decide (e.on < x.2))=true:=by kernel_rfl
  rw [List.all_eq_true] at h;have h1:=h (o,i) (by rw [List.mem_zipIdx_iff_getElem?];simpa using ho);simp only [Array.all_eq_true'] at h1;exact fun e he=>of_decide_eq_true (h1 e he)
theorem zq (i:Nat)(o:Oper)(ho:Mj[i]?=some o):o.guard=none/\o.dst=if i=10 then none else some (74+i):=by
  have h:(Mj.toList.zipIdx.all fun x=>x.1.guard.isNone && x.1.dst == (if x.2=10 then none else some (74+x.2)))=true:=by kernel_rfl
  rw [List.all_eq_true] at h;have h1:=h (o,i) (by rw [List.mem_zipIdx_iff_getElem?];simpa using ho);simp only [Bool.and_eq_true,Option.isNone_iff_eq_none,beq_iff_eq] at h1;exact h1
def Ri (w:World)(size:Nat)(v:Value)(n:Nat)(xs:List Value):Prop:=xs.length=n * size/\((v=.slice none 0 0/\n=0)\/∃ g cap,v=.slice (some ⟨g,0,none⟩) n cap/\∀ (j:Nat) (u:Value),xs[j]?=some u->w.cell? ((⟨g,0,none⟩:Addr).add j)=some u)
theorem Ri.of {w w':World}{base size n:Nat}{v:Value}{xs:List Value}(h:IE w base size v n xs)(hc:∀ (g o:Nat),v.ownBlock=some g->w'.cell? ⟨g,o,none⟩=w.cell? ⟨g,o,none⟩):Ri w' size v n xs:=by
  obtain ⟨te,hl,⟨rfl,rfl⟩|⟨g,cap,cur,rfl,hr⟩⟩:=h
  . exact ⟨hl,.inl ⟨rfl,rfl⟩⟩
  . refine ⟨hl,.inr ⟨g,cap,rfl,fun j u hj=>?_⟩⟩;have:=World.ownsRow.cells (h:=(⟨hl,.inr ⟨g,cap,cur,rfl,hr⟩⟩:w.ownsRow base te size (.slice (some ⟨g,0,none⟩) n cap) n xs)) rfl j u hj;rw [Addr.add_lit] at this ⊢;rw [hc g _ rfl];exact this
theorem Ri.cells {w w':World}{size n:Nat}{v:Value}{xs:List Value}(h:Ri w size v n xs)(hc:∀ a,w'.cell? a=w.cell? a):Ri w' size v n xs:=by
  obtain ⟨hl,h|⟨g,cap,h1,h2⟩⟩:=h
  . exact ⟨hl,.inl h⟩
  . exact ⟨hl,.inr ⟨g,cap,h1,fun j u hj=>by rw [hc];exact h2 j u hj⟩⟩
theorem WW {P:Program}(w:World)(t ty e:TypeId)(i:TypeInfo)(z:Value)(size bytes:Nat)(ht:P.underlying t=some (.slice e))(hi:P.info? e=some i)(hz:i.zero=some z)(hsize:i.size=size)(hby:i.bytes=bytes)(hzs:z.cells.size=size)(hsz:0 < size)(v:Value)(n:Nat)(xs:List Value)(hown:Ri w size v n xs)(h1:∀ u∈xs,u.oneCell'=true)(h63:n<=maxLen)(hbytes:n * bytes<=140737488355328) :
    ∃ v' w',(Builtin.append_ #[t,t] ty #[.slice none 0 0,v]).run P w=.ok v' w'/\IE w' w.heap.size size v' n xs/\w.grownBy w' none:=by
  obtain ⟨hl,⟨rfl,rfl⟩|⟨g,cap,rfl,hcells⟩⟩:=hown
  . have hx:xs=[]:=List.eq_nil_of_length_eq_zero (by simpa using hl);subst hx;refine ⟨.slice none 0 0,w,?_,.nil _ _ _,World.grownBy.refl _ _⟩;simp [Builtin.append_,run_underlying ht,sizeOf,typeInfo,hi,Builtin.lenOf,Builtin.firstCells]
  . obtain ⟨v',w',r1,r2,r3,r4⟩:=M8 (P:=P) w w.heap.size t ty e i z size bytes ht hi hz hsize hby hzs hsz (.slice none 0 0) 0 [] (.nil _ _ _) ⟨g,0,none⟩ n cap xs hl hcells h1 (by omega) (by simpa using hbytes) (Nat.le_refl _);refine ⟨v',w',r1,by simpa using r2,?_⟩;rcases r4 with r4|⟨_,r4⟩
    . exact r3
    . exact r4
section
def VF {Cs:Type}(W:World)(N1:Nat)(v:Value)(u:Ij (Wk G5 Cs)):Prop:=∃ Mt:List Value,Mt.length=u.x.out.length/\IE W N1 9 v u.x.out.length (List.zipWith IY u.x.out Mt).flatten/\∀ (i:Nat) (a:QI) (iv:Value),u.x.out[i]?=some a->Mt[i]?=some iv->Jg W (fun g=>u.own g) iv a.a.ints
def RB.C (q:RB)(Kp:Nat->Prop)(g:Nat):Prop:=g=q.lg\/g=q.bz\/g=q.br\/Kp g
structure ZB {Cs Sg:Type}(m:Mem Sg)(ρ:Rn)(ws:List (Ij (Wk G5 Cs)))(q:RB)(Kp:Nat->Prop)(W0:World)(N1:Nat)(σ:Sg)(s:Nat)(cut ov:Value)(i:Nat)(vs:List Value)(av:Value)(W:World):Prop where
  lay:q.Lay Kp
  row:∀ (i b:Nat),(ws.map (·.b))[i]?=some b->W.cell? ⟨q.lg,i,none⟩=some (.pointer (some ⟨b,0,none⟩))
  run:W.heap[q.br]?=some (.cells #[av,ov,.int .i64 s,cut] 63 (0,0))
  res:W.heap[q.bz]?=some (.cells #[.slice none 0 0,.slice none 0 0,.int .i64 0,.bool false] 63 (0,0))
  inv:m.Inv σ W
  free:∀ g,q.C Kp g->(∃ c e f,W.heap[g]?=some (.cells c e f))/\g≠ρ.Wg/\ρ.Bo g=false/\¬ m.Sh g/\∀ (j:Nat) (u:Ij (Wk G5 Cs)),ws[j]?=some u->¬ u.own g
  kept:∀ g,Kp g->W.heap[g]?=W0.heap[g]?
  own:IE W N1 1 av i vs
  cop:∀ (j:Nat) (v:Value) (u:Ij (Wk G5 Cs)),vs[j]?=some v->ws[j]?=some u->VF W N1 v u/\v.oneCell'=true/\∀ g,v.ownBlock=some g->av.ownBlock≠some g
  few:ws.length<=1000
  low:q.br < N1/\N1<=W.heap.size/\(∀ g,m.Sh g->g < N1)/\∀ (j:Nat) (u:Ij (Wk G5 Cs)),ws[j]?=some u->(∀ g,u.own g->g < N1)/\u.x.out.length<=1000000/\u.x.bg=0
theorem KU {w w':World}{base size n:Nat}{v:Value}{xs:List Value}(h:IE w base size v n xs)(he:∀ g,v.ownBlock=some g->w'.heap[g]?=w.heap[g]?):IE w' base size v n xs:=Lf h fun g hg=>.of (he g hg)
theorem Mk {w:World}{base size n:Nat}{v:Value}{xs:List Value}(h:IE w base size v n xs){g:Nat}(hg:v.ownBlock=some g):base<=g/\g < w.heap.size:=h.blk g hg
section
variable {Cs Sg:Type}{D:Dr G5 Cs Sg}{m:Mem Sg}{ρ:Rn}{ws:List (Ij (Wk G5 Cs))}
variable {Fin:Iw}{GR:Ig Try.prog Fin}
variable {q:RB}{Kp:Nat->Prop}{W0 W:World}{N1 s co n nn:Nat}{σ:Sg}{left:List Int}{last:Int}{steps:List Nat}{cut Jo I6 Kh K7 LA LB u68 u69:Value}{ds:List Deferred}{K:List Item}{cs:List Frame}
variable {ov av:Value}{i:Nat}{vs:List Value}
theorem ZB.lt (h:ZB m ρ ws q Kp W0 N1 σ s cut ov i vs av W){g:Nat}(hg:q.C Kp g):g < W.heap.size:=by obtain ⟨⟨c,e,f,hc⟩,_⟩:=h.free g hg;exact (Array.getElem?_eq_some_iff.1 hc).1
theorem ZB.ltN (h:ZB m ρ ws q Kp W0 N1 σ s cut ov i vs av W){g:Nat}(hg:q.C Kp g):g < N1:=by
  have h1:=h.lay.h1;have h2:=h.lay.h2;have h3:=h.lay.h3;have h4:=h.lay.h4;have h5:=h.lay.h5;have h7:=h.low.1;rcases hg with rfl|rfl|rfl|hg
  . omega
  . omega
  . exact h7
  . have:=h.lay.h7 g hg;omega
theorem ZB.alike {W':World}(h:ZB m ρ ws q Kp W0 N1 σ s cut ov i vs av W)(hh:W'.heap=W.heap):ZB m ρ ws q Kp W0 N1 σ s cut ov i vs av W':=
  { lay:=h.lay,row:=fun i b hb=>(by rw [cell_of (w:=W) (a:=⟨q.lg,i,none⟩) (by rw [hh])];exact h.row i b hb),run:=(by rw [hh];exact h.run),res:=(by rw [hh];exact h.res),
     inv:=m.eq σ W W' (fun g _=>.of (by rw [hh])) h.inv,free:=fun g hg=>(by rw [hh];exact h.free g hg),kept:=fun g hg=>(by rw [hh];exact h.kept g hg),
     own:=KU h.own fun g _=>(by rw [hh]),
     cop:=fun j v u hv hu=>(by obtain ⟨⟨Mt,c1,c2,c3⟩,c4⟩:=h.cop j v u hv hu;exact ⟨⟨Mt,c1,KU c2 fun g _=>(by rw [hh]),fun i a iv ha hi=>(c3 i a iv ha hi).TW fun g _=>.of (by rw [hh])⟩,c4⟩),
     few:=h.few,low:=(by rw [hh];exact h.low) }
theorem qw {tm tm':Array Value}(h:Sd q co n Jo I6 Kh K7 LA LB u68 u69 tm)(hsz:tm'.size=106)(hlow:∀ s,s < 74->tm'[s]?=tm[s]?):Sd q co n Jo I6 Kh K7 LA LB u68 u69 tm':=by
  obtain ⟨v4,v5,Ai,Aj,Ak,Al,Am,Ao,Ap,Aq,Ar,Au,Av,Aw,Ay,Az,AA,AB,AJ,AL,AO,AP,AQ,AU,AV,AX,AY,AZ,A8,A9,Ba,Bb,Bc,Bf,Bh,Bj,Bl,Bp,Bq,Br,Bu,Bv,Bw,Bz,BD,BF,BG,BH,BI,BJ,BK,BL,BM,BQ,BR,BS,BU,BX,BZ,Ca,Cb,Cc,Ce,Cg,Ci,Cj,Ck,Cm,Co,Cq,Cr,Ct,Cu,Cw,Cx,Cy,Cz,CB,CF,CG,CJ,CK,CO,CQ,CS,CU,CV,CW,CX,rfl⟩:=h
  have e:tm'=#[tm'.getD 0 undef,tm'.getD 1 undef,tm'.getD 2 undef,tm'.getD 3 undef,tm'.getD 4 undef,tm'.getD 5 undef,tm'.getD 6 undef,tm'.getD 7 undef,tm'.getD 8 undef,tm'.getD 9 undef,tm'.getD 10 undef,tm'.getD 11 undef,tm'.getD 12 undef,tm'.getD 13 undef,tm'.getD 14 undef,tm'.getD 15 undef,tm'.getD 16 undef,tm'.getD 17 undef,tm'.getD 18 undef,tm'.getD 19 undef,tm'.getD 20 undef,tm'.getD 21 undef,tm'.getD 22 undef,tm'.getD 23 undef,tm'.getD 24 undef,tm'.getD 25 undef,tm'.getD 26 undef,tm'.getD 27 undef,tm'.getD 28 undef,tm'.getD 29 undef,tm'.getD 30 undef,tm'.getD 31 undef,tm'.getD 32 undef,tm'.getD 33 undef,tm'.getD 34 undef,tm'.getD 35 undef,tm'.getD 36 undef,tm'.getD 37 undef,tm'.getD 38 undef,tm'.getD 39 undef,tm'.getD 40 undef,tm'.getD 41 undef,tm'.getD 42 undef,tm'.getD 43 undef,tm'.getD 44 undef,tm'.getD 45 undef,tm'.getD 46 undef,tm'.getD 47 undef,tm'.getD 48 undef,tm'.getD 49 undef,tm'.getD 50 undef,tm'.getD 51 undef,tm'.getD 52 undef,tm'.getD 53 undef,tm'.getD 54 undef,tm'.getD 55 undef,tm'.getD 56 undef,tm'.getD 57 undef,tm'.getD 58 undef,tm'.getD 59 undef,tm'.getD 60 undef,tm'.getD 61 undef,tm'.getD 62 undef,tm'.getD 63 undef,tm'.getD 64 undef,tm'.getD 65 undef,tm'.getD 66 undef,tm'.getD 67 undef,tm'.getD 68 undef,tm'.getD 69 undef,tm'.getD 70 undef,tm'.getD 71 undef,tm'.getD 72 undef,tm'.getD 73 undef,tm'.getD 74 undef,tm'.getD 75 undef,tm'.getD 76 undef,tm'.getD 77 undef,tm'.getD 78 undef,tm'.getD 79 undef,tm'.getD 80 undef,tm'.getD 81 undef,tm'.getD 82 undef,tm'.getD 83 undef,tm'.getD 84 undef,tm'.getD 85 undef,tm'.getD 86 undef,tm'.getD 87 undef,tm'.getD 88 undef,tm'.getD 89 undef,tm'.getD 90 undef,tm'.getD 91 undef,tm'.getD 92 undef,tm'.getD 93 undef,tm'.getD 94 undef,tm'.getD 95 undef,tm'.getD 96 undef,tm'.getD 97 undef,tm'.getD 98 undef,tm'.getD 99 undef,tm'.getD 100 undef,tm'.getD 101 undef,tm'.getD 102 undef,tm'.getD 103 undef,tm'.getD 104 undef,tm'.getD 105 undef]:=oU hsz
  have e0:tm'.getD 0 undef=q.cv:=Ip (hlow 0 (by decide));have e1:tm'.getD 1 undef=.slice (some ⟨q.lg,0,none⟩) n q.lc:=Ip (hlow 1 (by decide));have e2:tm'.getD 2 undef=.chan (some co):=Ip (hlow 2 (by decide));have e3:tm'.getD 3 undef=.pointer (some ⟨q.bc,0,none⟩):=Ip (hlow 3 (by decide));have e6:tm'.getD 6 undef=.pointer (some ⟨q.bz,0,none⟩):=Ip (hlow 6 (by decide));have e7:tm'.getD 7 undef=.int .i64 q.most:=Ip (hlow 7 (by decide));have e8:tm'.getD 8 undef=.pointer (some ⟨q.ob,0,none⟩):=Ip (hlow 8 (by decide));have e9:tm'.getD 9 undef=.slice (some ⟨q.sg,0,none⟩) n n:=Ip (hlow 9 (by decide));have e10:tm'.getD 10 undef=.pointer (some ⟨q.br,0,none⟩):=Ip (hlow 10 (by decide));have e11:tm'.getD 11 undef=Jo:=Ip (hlow 11 (by decide));have e12:tm'.getD 12 undef=I6:=Ip (hlow 12 (by decide))
  have e13:tm'.getD 13 undef=Kh:=Ip (hlow 13 (by decide));have e14:tm'.getD 14 undef=K7:=Ip (hlow 14 (by decide));have e15:tm'.getD 15 undef=LA:=Ip (hlow 15 (by decide));have e67:tm'.getD 67 undef=LB:=Ip (hlow 67 (by decide));have e68:tm'.getD 68 undef=u68:=Ip (hlow 68 (by decide));have e69:tm'.getD 69 undef=u69:=Ip (hlow 69 (by decide));rw [e0,e1,e2,e3,e6,e7,e8,e9,e10,e11,e12,e13,e14,e15,e67,e68,e69] at e;exact ⟨_,_,_,_,_,_,_,_,_,_,_,_,_,_,_,_,_,_,_,_,_,_,_,_,_,_,_,_,_,_,_,_,_,_,_,_,_,_,_,_,_,_,_,_,_,_,_,_,_,_,_,_,_,_,_,_,_,_,_,_,_,_,_,_,_,_,_,_,_,_,_,_,_,_,_,_,_,_,_,_,_,_,_,_,_,_,_,_,_,e⟩
theorem kL {out:List QI}{Mt:List Value}(h:∀ iv∈Mt,iv.oneCell'=true):∀ u∈(List.zipWith IY out Mt).flatten,u.oneCell'=true:=by intro u hu;obtain ⟨l,hl,hu⟩:=List.mem_flatten.1 hu;obtain ⟨i,hi,rfl⟩:=List.getElem_of_mem hl;rw [List.getElem_zipWith] at hu;simp only [IY,List.mem_cons,List.not_mem_nil,or_false] at hu;rcases hu with rfl|rfl|rfl|rfl|rfl|rfl|rfl|rfl|rfl;all_goals first | rfl | exact h _ (List.getElem_mem _)
end
end
end Go.Proofs.Ytkdhnbcdbnpmhaa
