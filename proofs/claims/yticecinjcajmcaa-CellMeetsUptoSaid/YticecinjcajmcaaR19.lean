/-
  Part 19 of the proof that CellMeets returns true, and leaves its arguments as they were, for every input whose reading is of bulk at most 1048576. No further condition.
-/
import Derived.Test.YticecinjcajmcaaR00
import Derived.Test.YticecinjcajmcaaR17
import Derived.Test.YticecinjcajmcaaR18
set_option linter.unusedVariables false
set_option linter.unusedSectionVars false
set_option linter.unusedSimpArgs false
set_option maxHeartbeats 2000000
noncomputable section
namespace Go.Proofs.Yticecinjcajmcaa
open Go Go.Conc Go.LT Go.LC Go.LK Go.RowKit
open Go.ConcN (WgLive)
section
theorem vw:∃ (af:Array Edge) (p:String) (ty:TypeId),FB[0]?=some ⟨some 63,.load 65 (.tmp 3),ty,p,af,none⟩:=⟨_,_,_,rfl⟩
theorem yH:∃ (af:Array Edge) (p:String) (ty:TypeId),FB[1]?=some ⟨some 64,.load 65 (.tmp 3),ty,p,af,none⟩:=⟨_,_,_,rfl⟩
theorem yN:∃ (af:Array Edge) (p:String) (ty:TypeId),FB[2]?=some ⟨some 65,.nilCheck (.tmp 64),ty,p,af,none⟩:=⟨_,_,_,rfl⟩
theorem xI:∃ (af:Array Edge) (p:String) (ty:TypeId),FB[3]?=some ⟨some 66,.fieldAddr 94 (.tmp 65) 9,ty,p,af,none⟩:=⟨_,_,_,rfl⟩
theorem tF:∃ (af:Array Edge) (p:String) (ty:TypeId),FB[4]?=some ⟨some 67,.load 53 (.tmp 66),ty,p,af,none⟩:=⟨_,_,_,rfl⟩
theorem uI:∃ (af:Array Edge) (p:String) (ty:TypeId),FB[5]?=some ⟨some 68,.load 42 (.tmp 8),ty,p,af,none⟩:=⟨_,_,_,rfl⟩
theorem uF:∃ (af:Array Edge) (p:String) (ty:TypeId),FB[6]?=some ⟨some 69,.buildSlice 53 1 #[(0,.tmp 68)],ty,p,af,none⟩:=⟨_,_,_,rfl⟩
theorem yB:∃ (af:Array Edge) (p:String) (ty:TypeId),FB[7]?=some ⟨some 70,.call { callee:=.builtin .append,args:=#[.tmp 67,.tmp 69],argTypes:=#[53,53] },53,p,af,none⟩:=⟨_,_,53,rfl⟩
theorem tQ:∃ (af:Array Edge) (p:String) (ty:TypeId),FB[8]?=some ⟨some 71,.nilCheck (.tmp 63),ty,p,af,none⟩:=⟨_,_,_,rfl⟩
theorem tL:∃ (af:Array Edge) (p:String) (ty:TypeId),FB[9]?=some ⟨some 72,.fieldAddr 94 (.tmp 71) 9,ty,p,af,none⟩:=⟨_,_,_,rfl⟩
theorem ou:∃ (af:Array Edge) (p:String) (ty:TypeId),FB[10]?=some ⟨none,.store 53 (.tmp 72) (.tmp 70),ty,p,af,none⟩:=⟨_,_,_,rfl⟩
theorem uT:(FB[2]?).map GR=some [1]:=by kernel_rfl
theorem wK:(FB[3]?).map GR=some [2]:=by kernel_rfl
theorem ZC:FB.size=11:=by kernel_rfl
theorem H9 {l:Array Bool}{i j:Nat}{o:Oper}{ws:List Nat}(hw:(FB[i]?).map GR=some ws)(ho:FB[i]?=some o)(hod:∀ e∈o.after,Region.binds .any e=true->l[e.on]?=some true)(hj:j∈ws):l[j]?=some true:=by rw [ho] at hw;exact Rz (by rw [Option.some.inj hw];exact hj) hod
theorem Q9 {l:Array Bool}{i j:Nat}{o:Oper}{ws:List Nat}{n:Nat}(hw:(FB[i]?).map (fun o=>(GR o).take n)=some ws)(ho:FB[i]?=some o)(hod:∀ e∈o.after,Region.binds .any e=true->l[e.on]?=some true)(hj:j∈ws):l[j]?=some true:=by rw [ho] at hw;exact Rz (List.mem_of_mem_take (i:=n) (by rw [show (GR o).take n=ws from Option.some.inj hw];exact hj)) hod
theorem O7 {l:Array Bool}{i j:Nat}{ws:List Nat}(hw:(FB[i]?).map GR=some ws)(hi:i < 11)(hd:Down .any FB l)(h:l[i]?=some true)(hj:j∈ws):l[j]?=some true:=by have ho:FB[i]?=some (FB[i]'(by rw [ZC];exact hi)):=Array.getElem?_eq_getElem _;exact H9 hw ho (hd i _ ho h) hj
theorem ZW {l:Array Bool}{i j:Nat}{ws:List Nat}{n:Nat}(hw:(FB[i]?).map (fun o=>(GR o).take n)=some ws)(hi:i < 11)(hd:Down .any FB l)(h:l[i]?=some true)(hj:j∈ws):l[j]?=some true:=by have ho:FB[i]?=some (FB[i]'(by rw [ZC];exact hi)):=Array.getElem?_eq_getElem _;exact Q9 hw ho (hd i _ ho h) hj
theorem YN {w0 w1 w2 w3 w:World}{l:Array Bool}(h:l[10]?≠some true)(hw:w=Dc w0 w1 w2 w3 l):(l[7]?=some true/\w=w2)\/(l[6]?=some true/\w=w1)\/(l[6]?≠some true/\w=w0):=by
  unfold Dc at hw;rw [if_neg h] at hw;by_cases h7:l[7]?=some true
  . exact .inl ⟨h7,by rw [hw,if_pos h7]⟩
  . rw [if_neg h7] at hw;by_cases h6:l[6]?=some true
    . exact .inr (.inl ⟨h6,by rw [hw,if_pos h6]⟩)
    . exact .inr (.inr ⟨h6,by rw [hw,if_neg h6]⟩)
theorem G9 {w:World}{base size n:Nat}{v:Value}{xs:List Value}(h:BA.Fa w base size v n xs):∃ p n c,v=.slice p n c:=by
  obtain ⟨te,_,⟨rfl,_⟩|⟨g,cap,cur,rfl,_⟩⟩:=h
  . exact ⟨_,_,_,rfl⟩
  . exact ⟨_,_,_,rfl⟩
theorem wE {wv dv cv:Value}{pb:Nat}{u7 u8 Ob FU FC:Value}{tm tm':Array Value}(h:Sl wv dv cv pb u7 u8 Ob FU FC tm)(hsz:tm'.size=81)(hlow:∀ s,s < 63->tm'[s]?=tm[s]?):Sl wv dv cv pb u7 u8 Ob FU FC tm':=by
  obtain ⟨v9,Ae,Af,Ah,Ai,Aj,Ak,Al,Am,Ao,Ap,Ar,Au,Av,Aw,Ay,Az,AA,AB,AJ,AL,AO,AP,AQ,AU,AV,AX,AY,AZ,A8,A9,Ba,Bb,Bc,Bf,Bh,Bj,Bl,Bp,Bq,Br,Bu,Bv,Bw,Bz,BD,BF,BG,BH,BI,BJ,BK,BL,BM,BN,BO,BP,BQ,BR,BS,BU,BX,BZ,Ca,Cb,Cc,Ce,Cg,Ci,rfl⟩:=h;obtain ⟨y0,y1,y2,y3,y4,y5,y6,y7,y8,y9,y10,y11,y12,y13,y14,y15,y16,y17,y18,y19,y20,y21,y22,y23,y24,y25,y26,y27,y28,y29,y30,y31,y32,y33,y34,y35,y36,y37,y38,y39,y40,y41,y42,y43,y44,y45,y46,y47,y48,y49,y50,y51,y52,y53,y54,y55,y56,y57,y58,y59,y60,y61,y62,y63,y64,y65,y66,y67,y68,y69,y70,y71,y72,y73,y74,y75,y76,y77,y78,y79,y80,rfl⟩:=vL hsz;have e0:some y0=some (wv):=hlow 0 (by decide);have e1:some y1=some (dv):=hlow 1 (by decide);have e2:some y2=some (cv):=hlow 2 (by decide);have e3:some y3=some (.pointer (some ⟨pb,0,none⟩)):=hlow 3 (by decide);have e4:some y4=some (undef):=hlow 4 (by decide)
  have e5:some y5=some (undef):=hlow 5 (by decide);have e6:some y6=some (undef):=hlow 6 (by decide);have e7:some y7=some (u7):=hlow 7 (by decide);have e8:some y8=some (u8):=hlow 8 (by decide);have e10:some y10=some (Ob):=hlow 10 (by decide);have e11:some y11=some (FU):=hlow 11 (by decide);have e12:some y12=some (FC):=hlow 12 (by decide);cases e0
  cases e1
  cases e2
  cases e3
  cases e4
  cases e5
  cases e6
  cases e7
  cases e8
  cases e10
  cases e11
  cases e12
  exact ⟨_,_,_,_,_,_,_,_,_,_,_,_,_,_,_,_,_,_,_,_,_,_,_,_,_,_,_,_,_,_,_,_,_,_,_,_,_,_,_,_,_,_,_,_,_,_,_,_,_,_,_,_,_,_,_,_,_,_,_,_,_,_,_,_,_,_,_,_,_,rfl⟩
section
variable {Cs Sg:Type}{D:Dr Ef Cs Sg}{m:Mem Sg}{ρ:Rn}{b k:Nat}{cf:Frame}{fs:List Frame}{W:World}{σ:Sg}
variable {x:Wx (Wk Ef Cs) Sg ρ}{own core:Nat->Prop}{pb:Nat}{z:Wk Ef Cs}{ans:Value}{gr:Bool}{wv dv cv u7 u8 Ob FU FC:Value}{ds:List Deferred}{K:List Item}
theorem jq (hA:Jt m b k ⟨x,own,core,pb,z,gr,ans⟩ σ W){N8:Nat}{iv:Value}{e:An}(h8:W.heap[N8]?=some (.cells #[.int .i64 z.bg,.int .i64 z.st,.int .i64 z.ow,.bool e.ok,.int .i64 e.n,.int .i64 e.m,.int .i64 e.err,iv,.slice none 0 0] 42 (0,0)))(hiv:FR W (fun g=>own g/\g≠b/\g≠pb/\ans.ownBlock≠some g) iv e.ints){tm:Array Value}(hs:Sl wv dv cv pb u7 (.pointer (some ⟨N8,0,none⟩)) Ob FU FC tm)(hlen:z.out.length < 1000000)(hJ:∀ qz W' tm',Sl wv dv cv pb u7 (.pointer (some ⟨N8,0,none⟩)) Ob FU FC tm'->Jt m b k ⟨x,fun g=>own g\/qz.ownBlock=some g,fun g=>own g\/qz.ownBlock=some g,pb,{ z with out:=z.out ++ [⟨e,z.bg,z.st,z.ow⟩] },gr,qz⟩ σ W'->W.heap.size<=W'.heap.size->JL (SW (Eu D m) ρ Try.prog).L x (G ((base 33).at ⟨tm',ds⟩ K) (cf :: fs)) W') :
    JL (SW (Eu D m) ρ Try.prog).L x (G ((base 33).at ⟨tm,ds⟩ (.code wR :: K)) (cf :: fs)) W:=by
  have hsz:tm.size=81:=by obtain ⟨v9,Ae,Af,Ah,Ai,Aj,Ak,Al,Am,Ao,Ap,Ar,Au,Av,Aw,Ay,Az,AA,AB,AJ,AL,AO,AP,AQ,AU,AV,AX,AY,AZ,A8,A9,Ba,Bb,Bc,Bf,Bh,Bj,Bl,Bp,Bq,Br,Bu,Bv,Bw,Bz,BD,BF,BG,BH,BI,BJ,BK,BL,BM,BN,BO,BP,BQ,BR,BS,BU,BX,BZ,Ca,Cb,Cc,Ce,Cg,Ci,rfl⟩:=hs;rfl
  have ht3:tm[3]?=some (.pointer (some ⟨pb,0,none⟩)):=by obtain ⟨v9,Ae,Af,Ah,Ai,Aj,Ak,Al,Am,Ao,Ap,Ar,Au,Av,Aw,Ay,Az,AA,AB,AJ,AL,AO,AP,AQ,AU,AV,AX,AY,AZ,A8,A9,Ba,Bb,Bc,Bf,Bh,Bj,Bl,Bp,Bq,Br,Bu,Bv,Bw,Bz,BD,BF,BG,BH,BI,BJ,BK,BL,BM,BN,BO,BP,BQ,BR,BS,BU,BX,BZ,Ca,Cb,Cc,Ce,Cg,Ci,rfl⟩:=hs;rfl
  have ht8:tm[8]?=some (.pointer (some ⟨N8,0,none⟩)):=by obtain ⟨v9,Ae,Af,Ah,Ai,Aj,Ak,Al,Am,Ao,Ap,Ar,Au,Av,Aw,Ay,Az,AA,AB,AJ,AL,AO,AP,AQ,AU,AV,AX,AY,AZ,A8,A9,Ba,Bb,Bc,Bf,Bh,Bj,Bl,Bp,Bq,Br,Bu,Bv,Bw,Bz,BD,BF,BG,BH,BI,BJ,BK,BL,BM,BN,BO,BP,BQ,BR,BS,BU,BX,BZ,Ca,Cb,Cc,Ce,Cg,Ci,rfl⟩:=hs;rfl
  refine EL.EJ (S:=SW (Eu D m) ρ Try.prog) (b:=base 33) [] (by simp) zKR nE zKR fun W₁ ha=>?_;have hh:=EW ha;have hA1:=hA.alike hh;rw [← hh] at h8;obtain ⟨c5,c6,c7,c8,c9,c10,c11⟩:=hA1.row.cells;have hpc:=hA1.pc;have Abk:=hiv.QD (w':=W₁) fun g _=>.of (by rw [hh]);have Adk:iv.oneCell'=true:=by rcases hiv with ⟨_,rfl⟩|⟨_,g,c,rfl,_⟩ <;> rfl
  generalize hO:Obj.cells #[.int .i64 z.bg,.int .i64 z.st,.int .i64 z.ow,.bool e.ok,.int .i64 e.n,.int .i64 e.m,.int .i64 e.err,iv,.slice none 0 0] 42=O;have hq:∀ w:World,w.heap=W₁.heap->w.cell? ⟨N8,0,none⟩=some (.int .i64 z.bg)/\w.cell? ⟨N8,1,none⟩=some (.int .i64 z.st)/\w.cell? ⟨N8,2,none⟩=some (.int .i64 z.ow)/\w.cell? ⟨N8,3,none⟩=some (.bool e.ok)/\w.cell? ⟨N8,4,none⟩=some (.int .i64 e.n)/\w.cell? ⟨N8,5,none⟩=some (.int .i64 e.m)/\w.cell? ⟨N8,6,none⟩=some (.int .i64 e.err)/\w.cell? ⟨N8,7,none⟩=some iv/\w.cell? ⟨N8,8,none⟩=some (.slice none 0 0):=fun w hw=>by simp [World.cell?,hw,h8]
  have hinfo:(Try.prog.info? 42).map (fun i=>(i.zero,i.size,i.bytes))=some (some (.agg #[.int .i64 0,.int .i64 0,.int .i64 0,.bool false,.int .i64 0,.int .i64 0,.int .i64 0,.slice none 0 0,.slice none 0 0]),9,104):=by kernel_rfl
  obtain ⟨i0,hi,hi0,hi1,hi2⟩:=info_parts hinfo;obtain ⟨⟨I4,U9,hown,hints⟩,hblk⟩:=hA1.am;simp only at U9 hown hints hblk;have hcw:∀ a,((W₁.alloc O).drew).cell? a=(W₁.alloc O).cell? a:=fun a=>rfl;have hown2:BA.Fa (W₁.alloc O).drew 0 9 ans z.out.length (List.zipWith E9 z.out I4).flatten:=IK hown fun g hg=>.of (Below.heap_alloc W₁ O g (hA1.lt (.inl (hA1.co g (hblk g hg).1))));have hnews:∀ j u,(E9 ⟨e,z.bg,z.st,z.ow⟩ iv)[j]?=some u->(W₁.alloc O).drew.cell? ((⟨W₁.heap.size,0,none⟩:Addr).add j)=some u:=fun j u hu=>by
    rw [Addr.add_lit,hcw];have:(W₁.alloc O).heap[W₁.heap.size]?=some O:=heap_alloc_new _ _;rw [← hO] at this ⊢;simp only [World.cell?,this,Nat.zero_add]
    simpa [E9] using hu
  obtain ⟨v',w',hr,g1,g2,g3⟩:=Jo (P:=Try.prog) (W₁.alloc O).drew 0 53 53 42 i0 _ 9 104 Try.underlying53 hi hi0 hi1 hi2 rfl (by decide) ans z.out.length _ hown2 ⟨W₁.heap.size,0,none⟩ 1 1 _ rfl hnews (by intro u hu;simp [E9] at hu;rcases hu with rfl|rfl|rfl|rfl|rfl|rfl|rfl|rfl|rfl <;> first|rfl|exact Adk) (by unfold maxLen;omega) zOM (Nat.zero_le _);have hgb:∀ g,g < W₁.heap.size->(ans.ownBlock=some g->False)->w'.heap[g]?=W₁.heap[g]?:=fun g hg hne=>by rw [g2.block g (by show g < (W₁.alloc O).heap.size;simp;omega) (fun e=>hne e.symm)];exact Below.heap_alloc W₁ O g hg
  have hbl:b < W₁.heap.size:=hA1.lt (.inl (hA1.co b hA1.cb));have hpl:pb < W₁.heap.size:=hA1.lt (.inl (hA1.co pb hA1.Pb));have hwb:w'.heap[b]?=W₁.heap[b]?:=hgb b hbl fun e=>(hblk b e).2.1 rfl;have hwp:w'.heap[pb]?=W₁.heap[pb]?:=hgb pb hpl fun e=>(hblk pb e).2.2 rfl;have k1:w'.cell? ⟨pb,0,none⟩=some (.pointer (some ⟨b,0,none⟩)):=by rw [cell_of (a:=⟨pb,0,none⟩) hwp];exact hpc
  have k2:w'.cell? ⟨b,9,none⟩=some ans:=by rw [cell_of (a:=⟨b,9,none⟩) hwb];exact c9
  have k3:w'.frozen? ⟨b,9,none⟩=false:=by have:=hA1.row;unfold Fq at this;simp only [World.frozen?,hwb,this];rfl
  have Acx:(W₁.alloc O).drew.cell? ⟨pb,0,none⟩=some (.pointer (some ⟨b,0,none⟩)):=by rw [hcw,cell_of (a:=⟨pb,0,none⟩) (Below.heap_alloc W₁ O pb hpl)];exact hpc
  have c9':(W₁.alloc O).drew.cell? ⟨b,9,none⟩=some ans:=by rw [hcw,cell_of (a:=⟨b,9,none⟩) (Below.heap_alloc W₁ O b hbl)];exact c9
  obtain ⟨p',n',c',rfl⟩:=G9 g1;have Ac3:Try.prog.follows .mixedOrders=true:=by kernel_rfl
  rw [qV];refine UR (I:=zq tm [.pointer (some ⟨b,0,none⟩),.pointer (some ⟨b,0,none⟩),.pointer (some ⟨b,0,none⟩),.pointer (some ⟨b,9,none⟩),ans,.agg #[.int .i64 z.bg,.int .i64 z.st,.int .i64 z.ow,.bool e.ok,.int .i64 e.n,.int .i64 e.m,.int .i64 e.err,iv,.slice none 0 0],.slice (some ⟨W₁.heap.size,0,none⟩) 1 1,.slice p' n' c',.pointer (some ⟨b,0,none⟩),.pointer (some ⟨b,9,none⟩)] W₁.drew (W₁.alloc O).drew w' (w'.setCell ⟨b,9,none⟩ (.slice p' n' c'))) Ac3 vF ⟨rfl,hsz,fun s _=>rfl,fun j v hj=>?_,?_⟩ ?_ ?_
  . rw [Array.getElem?_replicate] at hj;split at hj <;> cases hj
  . have hrep:∀ j,(Array.replicate FB.size false)[j]?≠some true:=fun j hj=>by rw [Array.getElem?_replicate] at hj;split at hj <;> cases hj
    unfold Dc;rw [if_neg (hrep 10),if_neg (hrep 7),if_neg (hrep 6)]
  . intro l a w i o hI hl hd hb ho hod;rw [ZC] at hl;have hi:i < 11:=by have:=(zGE ho).1;rw [ZC] at this;exact this
    have D6:l[6]?=some true->l[5]?=some true:=fun h=>O7 kK (by decide) hd h (by decide);have D7a:l[7]?=some true->l[4]?=some true:=fun h=>O7 Vj (by decide) hd h (by decide);have D7b:l[7]?=some true->l[6]?=some true:=fun h=>O7 Vj (by decide) hd h (by decide);have n10:i≠10->l[10]?≠some true:=fun hne h10=>by
      have h9:l[9]?=some true:=ZW kr (by decide) hd h10 (by decide);have hall:∀ j∈[8,0,1,2,3,4,5,6,7],l[j]?=some true:=fun j hj=>O7 lu (by decide) hd h9 hj;have:l[i]?=some true:=by
        by_cases e9:i=9
        . rw [e9];exact h9
        . refine hall i ?_;simp only [List.mem_cons,List.not_mem_nil,or_false];omega
      rw [hb] at this;cases this
    have hw3:=fun (h:l[10]?≠some true) w hw=>YN (w:=w) (w0:=W₁.drew) (w1:=(W₁.alloc O).drew) (w2:=w') (w3:=w'.setCell ⟨b,9,none⟩ (.slice p' n' c')) h hw;have hpb:∀ w,w=Dc W₁.drew (W₁.alloc O).drew w' (w'.setCell ⟨b,9,none⟩ (.slice p' n' c')) l->l[10]?≠some true->w.cell? ⟨pb,0,none⟩=some (.pointer (some ⟨b,0,none⟩)):=fun w hw h=>by
      rcases hw3 h w hw with ⟨_,rfl⟩|⟨_,rfl⟩|⟨_,rfl⟩
      . exact k1
      . exact Acx
      . exact hpc
    obtain rfl|rfl|rfl|rfl|rfl|rfl|rfl|rfl|rfl|rfl|rfl:i=0\/i=1\/i=2\/i=3\/i=4\/i=5\/i=6\/i=7\/i=8\/i=9\/i=10:=by omega
    ·
      obtain ⟨af,p,ty,ho'⟩:=vw;obtain rfl:=Option.some.inj (ho.symm.trans ho');have t3:a.eval (.tmp 3)=.pointer (some ⟨pb,0,none⟩):=Eh ((hI.low 3 (by decide)).trans ht3);have hc:=hpb w hI.wo (n10 (by decide));exact FL rfl ho rfl rfl (by unfold execOp;simp only [t3];go_simp) (hI.put (i:=0) (by decide) rfl hl (hI.wo.trans (Mg (i:=0) (by decide) (by decide) (by decide)).symm))
    ·
      obtain ⟨af,p,ty,ho'⟩:=yH;obtain rfl:=Option.some.inj (ho.symm.trans ho');have t3:a.eval (.tmp 3)=.pointer (some ⟨pb,0,none⟩):=Eh ((hI.low 3 (by decide)).trans ht3);have hc:=hpb w hI.wo (n10 (by decide));exact FL rfl ho rfl rfl (by unfold execOp;simp only [t3];go_simp) (hI.put (i:=1) (by decide) rfl hl (hI.wo.trans (Mg (i:=1) (by decide) (by decide) (by decide)).symm))
    ·
      obtain ⟨af,p,ty,ho'⟩:=yN;obtain rfl:=Option.some.inj (ho.symm.trans ho');have t:=Eh (hI.val 1 _ (H9 uT ho hod (by decide)) rfl);exact FL rfl ho rfl rfl (by unfold execOp;simp only [t];go_simp) (hI.put (i:=2) (by decide) rfl hl (hI.wo.trans (Mg (i:=2) (by decide) (by decide) (by decide)).symm))
    ·
      obtain ⟨af,p,ty,ho'⟩:=xI;obtain rfl:=Option.some.inj (ho.symm.trans ho');have t:=Eh (hI.val 2 _ (H9 wK ho hod (by decide)) rfl);exact FL rfl ho rfl rfl (by unfold execOp;simp only [t];go_simp) (hI.put (i:=3) (by decide) rfl hl (hI.wo.trans (Mg (i:=3) (by decide) (by decide) (by decide)).symm))
    ·
      obtain ⟨af,p,ty,ho'⟩:=tF;obtain rfl:=Option.some.inj (ho.symm.trans ho');have t:=Eh (hI.val 3 _ (H9 sU ho hod (by decide)) rfl);have hc:w.cell? ⟨b,9,none⟩=some ans:=by
        rcases hw3 (n10 (by decide)) w hI.wo with ⟨h7,_⟩|⟨_,rfl⟩|⟨_,rfl⟩
        . exact absurd (D7a h7) (by rw [hb];decide)
        . exact c9'
        . exact c9
      exact FL rfl ho rfl rfl (by unfold execOp;simp only [t];go_simp) (hI.put (i:=4) (by decide) rfl hl (hI.wo.trans (Mg (i:=4) (by decide) (by decide) (by decide)).symm))
    ·
      obtain ⟨af,p,ty,ho'⟩:=uI;obtain rfl:=Option.some.inj (ho.symm.trans ho');have t8:a.eval (.tmp 8)=.pointer (some ⟨N8,0,none⟩):=Eh ((hI.low 8 (by decide)).trans ht8);have hw:w=W₁.drew:=by
        rcases hw3 (n10 (by decide)) w hI.wo with ⟨h7,_⟩|⟨h6,_⟩|⟨_,rfl⟩
        . exact absurd (D6 (D7b h7)) (by rw [hb];decide)
        . exact absurd (D6 h6) (by rw [hb];decide)
        . rfl
      obtain ⟨q0,q1,q2,q3,q4,q5,q6,q7,q8⟩:=hq w (by rw [hw];rfl);exact FL rfl ho rfl rfl (by unfold execOp;simp only [t8];go_simp) (hI.put (i:=5) (by decide) rfl hl (hI.wo.trans (Mg (i:=5) (by decide) (by decide) (by decide)).symm))
    ·
      obtain ⟨af,p,ty,ho'⟩:=uF;obtain rfl:=Option.some.inj (ho.symm.trans ho');have t:=Eh (hI.val 5 _ (H9 kK ho hod (by decide)) rfl);have hw:w=W₁.drew:=by
        rcases hw3 (n10 (by decide)) w hI.wo with ⟨h7,_⟩|⟨h6,_⟩|⟨_,rfl⟩
        . exact absurd (D7b h7) (by rw [hb];decide)
        . exact absurd h6 (by rw [hb];decide)
        . rfl
      subst hw;have h7:l[7]?≠some true:=fun h=>absurd (D7b h) (by rw [hb];decide);refine FL (w':=(W₁.alloc O).drew) rfl ho rfl rfl (by unfold execOp;simp only [List.map_toArray,List.map_cons,List.map_nil,t];rw [← hO];go_simp) (hI.put (i:=6) (by decide) rfl hl ?_);unfold Dc;rw [Array.getElem?_setIfInBounds_ne (by decide),Array.getElem?_setIfInBounds_ne (by decide),Array.getElem?_setIfInBounds_self_of_lt zOM,if_neg (n10 (by decide)),if_neg h7,if_pos rfl]
    ·
      obtain ⟨af,p,ty,ho'⟩:=yB;obtain rfl:=Option.some.inj (ho.symm.trans ho');have ta:=Eh (hI.val 4 _ (H9 Vj ho hod (by decide)) rfl);have tb:=Eh (hI.val 6 _ (H9 Vj ho hod (by decide)) rfl);have hw:w=(W₁.alloc O).drew:=by
        rcases hw3 (n10 (by decide)) w hI.wo with ⟨h7,_⟩|⟨_,rfl⟩|⟨h6,_⟩
        . exact absurd h7 (by rw [hb];decide)
        . rfl
        . exact absurd (H9 Vj ho hod (by decide)) h6
      subst hw;refine FL (w':=w') (v:=.slice p' n' c') rfl ho rfl rfl (by unfold execOp;simp only [resolve,invoke,builtin,Sem.run_bind,Sem.run_pure,Result.andThen_ok,List.map_toArray,List.map_cons,List.map_nil,ta,tb,hr]) (hI.put (i:=7) (by decide) rfl hl ?_);unfold Dc;rw [Array.getElem?_setIfInBounds_ne (by decide),Array.getElem?_setIfInBounds_self_of_lt zOM,if_neg (n10 (by decide)),if_pos rfl]
    ·
      obtain ⟨af,p,ty,ho'⟩:=tQ;obtain rfl:=Option.some.inj (ho.symm.trans ho');have t:=Eh (hI.val 0 _ (H9 vX ho hod (by decide)) rfl);exact FL rfl ho rfl rfl (by unfold execOp;simp only [t];go_simp) (hI.put (i:=8) (by decide) rfl hl (hI.wo.trans (Mg (i:=8) (by decide) (by decide) (by decide)).symm))
    ·
      obtain ⟨af,p,ty,ho'⟩:=tL;obtain rfl:=Option.some.inj (ho.symm.trans ho');have t:=Eh (hI.val 8 _ (H9 lu ho hod (by decide)) rfl);exact FL rfl ho rfl rfl (by unfold execOp;simp only [t];go_simp) (hI.put (i:=9) (by decide) rfl hl (hI.wo.trans (Mg (i:=9) (by decide) (by decide) (by decide)).symm))
    ·
      obtain ⟨af,p,ty,ho'⟩:=ou;obtain rfl:=Option.some.inj (ho.symm.trans ho');have h10:∀ j,j∈[9,7]->l[j]?=some true:=fun j hj=>Q9 kr ho hod hj;have ta:=Eh (hI.val 9 _ (h10 9 (by decide)) rfl);have tb:=Eh (hI.val 7 _ (h10 7 (by decide)) rfl);have hw:w=w':=by rw [hI.wo];unfold Dc;rw [if_neg (by rw [hb];decide),if_pos (h10 7 (by decide))]
      subst hw;refine RP (w':=w.setCell ⟨b,9,none⟩ (.slice p' n' c')) rfl ho rfl rfl (by unfold execOp;simp only [ta,tb];go_simp) ⟨hI.ds,hI.size,hI.low,fun j u hj hu=>?_,?_⟩
      . have Ab2:10≠j:=fun e=>by subst e;simp at hu
        rw [Array.getElem?_setIfInBounds_ne Ab2] at hj;exact hI.val j u hj hu
      . unfold Dc;rw [Array.getElem?_setIfInBounds_self_of_lt zOM,if_pos rfl]
  . intro l a w hI hl hall;rw [ZC] at hall;obtain ⟨at',eB⟩:=a;obtain rfl:eB=[]:=hI.ds;have hw:w=w'.setCell ⟨b,9,none⟩ (.slice p' n' c'):=by rw [hI.wo];unfold Dc;rw [if_pos (hall 10 (by decide))]
    have hbn:∀ g,((Value.slice p' n' c').ownBlock=some g->(own g/\ans.ownBlock=some g)\/W₁.heap.size+1<=g):=fun g hg=>by
      rcases g3 with h3|⟨h3,_⟩
      . rw [h3] at hg;exact .inl ⟨hA.co g (hblk g hg).1,hg⟩
      . have:=h3 g hg;simp at this;exact .inr this
    subst hw;refine hJ (.slice p' n' c') _ at' (wE hs hI.size hI.low) (hA1.wrote Abk U9 hints hblk g1 (fun g hg hga=>?_) (fun g hg=>(hbn g hg).imp id fun h=>by omega) ?_) ?_
    . rcases g3 with h3 | ⟨_,h3⟩
      . exact hgb g hg fun e=>hga (h3.trans e)
      . rw [h3.block g (by show g < (W₁.alloc O).heap.size;simp;omega) (by simp)]
        exact Below.heap_alloc W₁ O g hg
    . have:=g2.size;have h2:((W₁.alloc O).drew).heap.size=W₁.heap.size+1:=by show (W₁.alloc O).heap.size=_;simp
      rw [h2] at this;omega
    . have:=g2.size;have h2:((W₁.alloc O).drew).heap.size=W₁.heap.size+1:=by show (W₁.alloc O).heap.size=_;simp
      rw [h2] at this;rw [← hh];simp [World.setCell];omega
end
end
section
section
variable {Cs Sg:Type}{D:Dr Ef Cs Sg}{m:Mem Sg}{ρ:Rn}{b k:Nat}{cf:Frame}{fs:List Frame}{W:World}{σ:Sg}
variable {pb:Nat}{wv dv cv u7 u8 Ob FU FC:Value}{ds:List Deferred}{K:List Item}
theorem Jt.re {x:Wx (Wk Ef Cs) Sg ρ}{own core:Nat->Prop}{z:Wk Ef Cs}{ans:Value}{gr:Bool}(hA:Jt m b k ⟨x,own,core,pb,z,gr,ans⟩ σ W)(l:List Ef):Jt m b k ⟨x,own,core,pb,{ z with todo:=l },gr,ans⟩ σ W:=
  hA.turn hA.row ⟨fun _ _=>rfl,rfl⟩ rfl rfl rfl rfl hA.cap
theorem ZF {s:FI Ef Cs Sg ρ}{recv:Value}{OY:FuncId}(hD:OV (J2 D m ρ b k) dv OY recv)(hdv:∃ t v,dv=.iface t v)(kT:∀ tm K,Ve ρ Try.prog 120 ((base 33).at ⟨tm,ds⟩ K) (cf :: fs))(hA:Jt m b k s σ W)(hT:sw s σ)(hpb:s.pb=pb){cs:List Ef}{i:Nat}{c:Ef}{l:List Ef}(hcs:∀ σ W,m.Inv σ W->Kj W cv cs)(hi:cs[i]?=some c)(htd:s.z.todo=c :: l)(hlen:s.z.out.length < 1000000)(hwv:wv=.pointer (some ⟨b,0,none⟩)){tm:Array Value}(hs:Sl wv dv cv pb u7 u8 cv FU (.int .i64 i) tm)(hJ:∀ s' σ' W' u7' u8' tm',Sl wv dv cv pb u7' u8' cv FU (.int .i64 i) tm'->Jt m b k s' σ' W'->sw s' σ'->s'.pb=pb->s'.z.todo=l->s'.z.out.length=s.z.out.length+1->s'.x.1.1.v.h=s.x.1.1.v.h->s'.x.1.2 < s.x.1.2->JL (SW (Eu D m) ρ Try.prog).L s'.x (G ((base 33).at ⟨tm',ds⟩ K) (cf :: fs)) W') :
    JL (SW (Eu D m) ρ Try.prog).L s.x (G ((base 33).at ⟨tm,ds⟩ (.code Ti :: K)) (cf :: fs)) W:=by
  rw [rQ];refine Ei ?_;refine rA hA (hcs σ) hi hs fun s1 N7 pa pn pc W1 U1 hs1 hA1 hx1 hp1 hz1 hg1 ha1 hN7 h7 hW1=>?_;refine Ei ?_;obtain ⟨v9,Ae,Af,Ah,Ai,Aj,Ak,Al,Am,Ao,Ap,Ar,Au,Av,Aw,Ay,Az,AA,AB,AJ,AL,AO,AP,AQ,AU,AV,AX,AY,AZ,A8,A9,Ba,Bb,Bc,Bf,Bh,Bj,Bl,Bp,Bq,Br,Bu,Bv,Bw,Bz,BD,BF,BG,BH,BI,BJ,BK,BL,BM,BN,BO,BP,BQ,BR,BS,BU,BX,BZ,Ca,Cb,Cc,Ce,Cg,Ci,rfl⟩:=hs1;obtain ⟨hgr,hcur,hbg,Lj⟩:=hT;refine dM kT hA1 ⟨hg1.trans hgr,by rw [hz1];exact hcur,by rw [hz1];exact hbg,by rw [hx1,hz1];exact Lj⟩ (hp1.trans hpb) (c:=c) (l:=l) (by rw [hz1];exact htd) fun s2 t σ2 W2 hA2 J3 ht2 ho2 hc2 hp2 hr2 Ade hk2 hW2=>?_;have hcap2:=hA2.cap;simp only [Bool.toNat_true] at hcap2;refine Ei ?_
  have hs2:Sl wv dv cv pb (.pointer (some ⟨N7,0,none⟩)) u8 cv FU (.int .i64 i) #[wv,dv,cv,.pointer (some ⟨pb,0,none⟩),undef,undef,undef,.pointer (some ⟨N7,0,none⟩),u8,v9,cv,FU,.int .i64 i,Ae,Af,Ah,.pointer (some ⟨b,0,none⟩),.tuple #[],.pointer (some ⟨b,0,none⟩),.tuple #[],Am,Ao,Ap,Ar,Au,Av,Aw,Ay,Az,AA,AB,AJ,AL,AO,AP,AQ,AU,AV,AX,AY,AZ,A8,A9,Ba,Bb,Bc,Bf,Bh,Bj,Bl,Bp,Bq,Br,Bu,Bv,Bw,Bz,BD,BF,BG,BH,BI,BJ,BK,BL,BM,BN,BO,BP,BQ,BR,BS,BU,BX,BZ,Ca,Cb,Cc,Ce,Cg,Ci]:=⟨v9,Ae,Af,Ah,.pointer (some ⟨b,0,none⟩),.tuple #[],.pointer (some ⟨b,0,none⟩),.tuple #[],Am,Ao,Ap,Ar,Au,Av,Aw,Ay,Az,AA,AB,AJ,AL,AO,AP,AQ,AU,AV,AX,AY,AZ,A8,A9,Ba,Bb,Bc,Bf,Bh,Bj,Bl,Bp,Bq,Br,Bu,Bv,Bw,Bz,BD,BF,BG,BH,BI,BJ,BK,BL,BM,BN,BO,BP,BQ,BR,BS,BU,BX,BZ,Ca,Cb,Cc,Ce,Cg,Ci,rfl⟩
  have Adi:s2.pb=pb:=hp2.trans (hp1.trans hpb);rw [Adi] at hA2;refine oQ hA2 zOM hs2 fun W3 tm3 hs3 hA3 ht3=>?_;have uM:=hA3.re l;refine Ei ?_;have h7':W3.heap[N7]?=some (.cells #[.int .i64 c.kind,.int .i64 c.a,.int .i64 c.b,.int .i64 c.c,.slice pa pn pc] 44 (0,0)):=by rw [ht3.other N7 hN7.2,hk2 N7 hN7];exact h7
  refine mF (s:=⟨s2.x,s2.own,s2.core,pb,{ s1.z with st:=t,bg:=t,ow:=0,todo:=l },true,s1.ans⟩) hD hdv kT uM rfl (c:=c) ⟨rfl,?_⟩ h7' hs3 hwv fun s4 σ4 W4 e iv N8 tm4 hs4 VT Vz hk4 hE4 tO hN8 h8 XT=>?_
  . show s2.x.1.1.tgt=_;rw [Ade,hz1];have hzk:=uM.zk;simp only at hzk;unfold Dr.hold;rw [hcur,htd];simp only [FI.up,if_true];rw [hz1] at hzk;rw [hzk,hcur];cases D.init k c σ2 <;> rfl
  rw [lW];refine Ei ?_;obtain ⟨x4,YD,UD,YK,z4,su,YG⟩:=s4;obtain rfl:YK=pb:=Vz.pb;have Acg:UD=s2.core:=Vz.core;have yS:YG=s1.ans:=Vz.ans;have hb4:YD b:=VT.co b VT.cb;refine oH VT hs4 fun W5 tm5 hs5 aB ht5=>?_;have Acb:N8≠b:=fun e=>hN8 (.inl (e ▸ hb4));rw [← ht5.other N8 Acb] at h8;refine Ei ?_;refine iM aB h8 (fun h=>hN8 h) hs5 fun W6 tm6 hs6 zh h86 ht6=>?_;refine Ei ?_;have hI6:FR W6 (fun g=>YD g/\g≠b/\g≠YK/\YG.ownBlock≠some g) iv e.ints:=by
    refine (tO.QD (w':=W6) fun g hg=>.of ?_).mono fun g hg=>⟨hg.1.1,hg.1.2,fun e=>hg.2 ⟨?_,hg.1.2⟩,fun ha=>hg.2 ⟨?_,hg.1.2⟩⟩
    . rw [ht6.other g fun e=>hN8 (.inl (e ▸ hg.1.1)),ht5.other g hg.1.2]
    . rw [e];exact hA3.co _ hA3.Pb
    . have:=hA3.am.blk g (by rw [← yS];exact ha)
      exact hA3.co g this.1
  have wU:z4.out=s.z.out:=by have:=Vz.out;rw [hz1] at this;exact this
  have Aa5:z4.todo=l:=Vz.todo;have nu:(FI.up ⟨x4,YD,UD,YK,z4,su,YG⟩).out=z4.out:=by unfold FI.up;cases su <;> rfl
  have hut:(FI.up ⟨x4,YD,UD,YK,z4,su,YG⟩).todo=z4.todo:=by unfold FI.up;cases su <;> rfl
  have vW:x4.1.1.tgt=(FI.up ⟨x4,YD,UD,YK,z4,su,YG⟩).land (σ4,.inr (e,false)):=hE4;generalize FI.up ⟨x4,YD,UD,YK,z4,su,YG⟩=u at aB zh h86 nu hut vW;refine jq zh (e:=e) h86 hI6 hs6 (by rw [nu,wU];exact hlen) fun a7 W7 tm7 hs7 hA7 rY=>?_;refine Ei ?_;refine iN hA7 hs7 fun W8 tm8 xK hA8 ht8=>?_;refine jl hA8 xK fun W9 tm9 eD hA9 ht9=>?_;refine hJ _ σ4 W9 _ _ tm9 eD hA9 ⟨rfl,rfl,rfl,?_⟩ rfl (hut.trans Aa5) (by show (u.out ++ [_]).length=_;rw [nu,wU];simp) ?_ ?_
  . show x4.1.1.tgt=_;rw [vW,Wk.Mr];simp [Wk.fin]
  . show x4.1.1.v.h=_;have:=Vz.h;rw [← hx1];exact this.trans J3
  . show x4.1.2 < s.x.1.2;have h1:x4.1.2<=s2.x.1.2:=Vz.r;rw [← hx1];omega
end
end
section
section
variable {Cs Sg:Type}{D:Dr Ef Cs Sg}{m:Mem Sg}{ρ:Rn}{b k:Nat}{cf:Frame}{fs:List Frame}{W:World}{σ:Sg}
variable {pb:Nat}{wv dv cv u7 u8 Ob FU FC:Value}{ds:List Deferred}{K:List Item}
theorem UL {x:Wx (Wk Ef Cs) Sg ρ}{cs:List Ef}{i:Nat}(hi:i<=1000000)(hn:cs.length<=1000000){tm:Array Value}(hs:Sl wv dv cv pb u7 u8 cv (.int .i64 (cs.length:Nat)) (.int .i64 i) tm)(hJ:∀ W' tm',Sl wv dv cv pb u7 u8 cv (.int .i64 (cs.length:Nat)) (.int .i64 i) tm'->tm'[13]?=some (.bool (decide (i < cs.length)))->W'.heap=W.heap->JL (SW (Eu D m) ρ Try.prog).L x (G ((base 33).at ⟨tm',ds⟩ K) (cf :: fs)) W') :
    JL (SW (Eu D m) ρ Try.prog).L x (G ((base 33).at ⟨tm,ds⟩ (.code pl3 :: K)) (cf :: fs)) W:=by
  obtain ⟨v9,Ae,Af,Ah,Ai,Aj,Ak,Al,Am,Ao,Ap,Ar,Au,Av,Aw,Ay,Az,AA,AB,AJ,AL,AO,AP,AQ,AU,AV,AX,AY,AZ,A8,A9,Ba,Bb,Bc,Bf,Bh,Bj,Bl,Bp,Bq,Br,Bu,Bv,Bw,Bz,BD,BF,BG,BH,BI,BJ,BK,BL,BM,BN,BO,BP,BQ,BR,BS,BU,BX,BZ,Ca,Cb,Cc,Ce,Cg,Ci,rfl⟩:=hs;refine EL.EJ (S:=SW (Eu D m) ρ Try.prog) (b:=base 33) [] (by simp) zKR nE zKR fun W₁ ha=>?_;have hh:=EW ha;have HH:=Lib.hid (zAI hJ hh);clear hJ hh;dsimp only;simp only [pl3,Tg,Try.f33];gi_wp2;obtain ⟨hJ,hh⟩:=HH.out;refine hJ W₁ _ ⟨_,_,_,_,_,_,_,_,_,_,_,_,_,_,_,_,_,_,_,_,_,_,_,_,_,_,_,_,_,_,_,_,_,_,_,_,_,_,_,_,_,_,_,_,_,_,_,_,_,_,_,_,_,_,_,_,_,_,_,_,_,_,_,_,_,_,_,_,_,rfl⟩ (by simp) hh
theorem dJ {x:Wx (Wk Ef Cs) Sg ρ}{i:Nat}(hi:i < 1000000){tm:Array Value}(hs:Sl wv dv cv pb u7 u8 cv FU (.int .i64 i) tm)(hJ:∀ W' tm',Sl wv dv cv pb u7 u8 cv FU (.int .i64 ((i+1:Nat):Int)) tm'->W'.heap=W.heap->JL (SW (Eu D m) ρ Try.prog).L x (G ((base 33).at ⟨tm',ds⟩ K) (cf :: fs)) W') :
    JL (SW (Eu D m) ρ Try.prog).L x (G ((base 33).at ⟨tm,ds⟩ (.code pQ :: K)) (cf :: fs)) W:=by
  obtain ⟨v9,Ae,Af,Ah,Ai,Aj,Ak,Al,Am,Ao,Ap,Ar,Au,Av,Aw,Ay,Az,AA,AB,AJ,AL,AO,AP,AQ,AU,AV,AX,AY,AZ,A8,A9,Ba,Bb,Bc,Bf,Bh,Bj,Bl,Bp,Bq,Br,Bu,Bv,Bw,Bz,BD,BF,BG,BH,BI,BJ,BK,BL,BM,BN,BO,BP,BQ,BR,BS,BU,BX,BZ,Ca,Cb,Cc,Ce,Cg,Ci,rfl⟩:=hs;refine EL.EJ (S:=SW (Eu D m) ρ Try.prog) (b:=base 33) [] (by simp) zKR nE zKR fun W₁ ha=>?_;have hh:=EW ha;have hw:RowKit.wrap64 ((i:Int)+1)=((i+1:Nat):Int):=KA zOM;have hl1:(-9223372036854775808:Int)<=(i:Int)+1:=by omega
  have hl2:(i:Int)+1<=9223372036854775807:=by omega
  have HH:=Lib.hid (zAI hJ (zAI hh hw));clear hJ hh hw;dsimp only;simp only [pQ,Tg,Try.f33];gi_wp2;obtain ⟨hJ,hh,hw⟩:=HH.out;exact hJ W₁ _ ⟨_,_,_,_,_,_,_,_,_,_,_,_,_,_,_,_,_,_,_,_,_,_,_,_,_,_,_,_,_,_,_,_,_,_,_,_,_,_,_,_,_,_,_,_,_,_,_,_,_,_,_,_,_,_,_,_,_,_,_,_,_,_,_,_,_,_,_,_,_,rfl⟩ hh
theorem bZ {recv:Value}{OY:FuncId}(hD:OV (J2 D m ρ b k) dv OY recv)(hdv:∃ t v,dv=.iface t v)(kT:∀ tm K,Ve ρ Try.prog 120 ((base 33).at ⟨tm,ds⟩ K) (cf :: fs)){cs:List Ef}(hcs:∀ σ W,m.Inv σ W->Kj W cv cs)(hcl:cs.length<=1000000)(hwv:wv=.pointer (some ⟨b,0,none⟩)){h:Nat}(hJ:∀ s' σ' W' tm',Jt m b k s' σ' W'->sw s' σ'->s'.pb=pb->s'.z.todo=[]->s'.x.1.1.v.h=h->JL (SW (Eu D m) ρ Try.prog).L s'.x (G ((base 33).at ⟨tm',ds⟩ K) (cf :: fs)) W') :
    ∀ (l:List Ef) (s:FI Ef Cs Sg ρ) (σ:Sg) (W:World) (i:Nat) (u7 u8:Value) (tm:Array Value),cs.drop i=l->Jt m b k s σ W->sw s σ->s.pb=pb->s.z.todo=l->s.z.out.length=i->i<=1000000->s.x.1.1.v.h=h->Sl wv dv cv pb u7 u8 cv (.int .i64 (cs.length:Nat)) (.int .i64 i) tm->
    JL (SW (Eu D m) ρ Try.prog).L s.x (G ((base 33).at ⟨tm,ds⟩ (.code Tg :: .inLoop Tg :: .inBlock 0 :: K)) (cf :: fs)) W:=by
  intro l;induction l with
  | nil=>
    intro s σ W i u7 u8 tm hl hA hT hpb htd ho hi6 hh hs;have hge:cs.length<=i:=List.drop_eq_nil_iff.1 hl;rw [WM];refine Ei ?_;refine UL hi6 hcl hs fun W1 U1 hs1 aA hw1=>?_;rw [decide_eq_false zOM] at aA;refine Ei ?_;refine JL.Ey (Eh aA) ?_;refine JL.exit rfl ?_;exact hJ s σ W1 U1 (hA.alike hw1) hT hpb htd hh
  | cons c l ih=>
    intro s σ W i u7 u8 tm hl hA hT hpb htd ho hi6 hh hs;have hlt:i < cs.length:=by
      rcases Nat.lt_or_ge i cs.length with h|h
      . exact h
      . rw [List.drop_eq_nil_of_le h] at hl;cases hl
    have hi:cs[i]?=some c:=by
      have:=congrArg (·[0]?) hl
      simpa using this
    have hl':cs.drop (i+1)=l:=by
      have:=congrArg List.tail hl
      simpa using this
    rw [WM];refine Ei ?_;refine UL zOM hcl hs fun W1 U1 hs1 aA hw1=>?_;rw [decide_eq_true hlt] at aA;refine Ei ?_;refine JL.Fz (Eh aA) ?_;refine Er stepG_skip ?_;refine Ei ?_;refine Er stepG_block ?_;refine ZF hD hdv kT (hA.alike hw1) hT hpb hcs hi htd zOM hwv hs1 fun s' σ' W' u7' u8' tm' hs' hA' hT' qZ bS ho' hh' _=>?_;refine Er stepG_inBlock ?_;refine dJ zOM hs' fun W2 sD hs2 hw2=>?_;refine Er stepG_inLoop ?_;rw [← WM];exact ih s' σ' W2 (i+1) u7' u8' sD hl' (hA'.alike hw2) hT' qZ bS (by rw [ho',ho]) zOM (hh'.trans hh) hs2
end
end
section
def lp0:Code:=match Try.f58.body with | some (.seq (.seq c _) _)=>c | _=>.skip
def lp1:Code:=match Try.f58.body with | some (.seq (.seq _ c) _)=>c | _=>.skip
def lp2:Code:=match Try.f58.body with | some (.seq _ (.seq c _))=>c | _=>.skip
def lp3:Code:=match Try.f58.body with | some (.seq _ (.seq _ (.seq c _)))=>c | _=>.skip
def sF:Code:=match Try.f58.body with | some (.seq _ (.seq _ (.seq _ c)))=>c | _=>.skip
theorem Tv:Try.f58.body=some (.seq (.seq lp0 lp1) (.seq lp2 (.seq lp3 sF))):=rfl
def Uj:Code:=match sF with | .seq _ c=>c | _=>.skip
def RZ:Array Oper:=match sF with | .seq (.region _ ops _) _=>ops | _=>#[]
theorem gF:∃ id,sF=.seq (.region id RZ false) Uj:=⟨_,rfl⟩
section
variable {c:Frame}{cs:List Frame}
theorem mI {k co go:Nat}{v0 v1 v2 v3 v4 v5 v6 v7 v8 v9 Aa Ab Ac Ae Af Ai Aj Ak Am Ao Ap Au Av Aw Ay:Value}(w:World):stepG Try.prog false (G ((baseD 58).at ⟨#[v0,v1,v2,v3,v4,v5,v6,v7,v8,v9,Aa,Ab,Ac,Ae,Af,.chan (some co),Ai,Aj,Ak,.int .i64 k,Am,Ao,Ap,.chan (some go),Au,Av,Aw,Ay],[]⟩ [.inRegion RZ [0,1,2,3],.code Uj]) (c :: cs)) w =
    .comm (G ((baseD 58).at ⟨#[v0,v1,v2,v3,v4,v5,v6,v7,v8,v9,Aa,Ab,Ac,Ae,Af,.chan (some co),Ai,Aj,Ak,.int .i64 k,Am,Ao,Ap,.chan (some go),Au,Av,Aw,Ay],[]⟩ [.inRegion RZ [0,1,2,3],.code Uj]) (c :: cs)) #[scase co (.int .i64 k) (.int .i64 0),rcase go (.agg #[])] true .select w #[]:=by
  simp only [RZ,sF,Try.f58];rw [stepG_comm (cases:=#[scase co (.int .i64 k) (.int .i64 0),rcase go (.agg #[])]) (blocking:=true) (shape:=.select) (w':=w) rfl rfl (by decide) ?_,listed_none ?_]
  . simp [go_sem]
  . go_simp
    exact ⟨rfl,rfl⟩
theorem nM {main:Bool}{Γ:Type}{S:Ou Try.prog main Γ}{γ:Γ}{W:World}{k co go:Nat}{zi zg:Value}{v0 v1 v2 v3 v4 v5 v6 v7 v8 v9 Aa Ab Ac Ae Af Ai Aj Ak Am Ao Ap Au Av Aw Ay:Value}{tm:Array Value}(h:JL S γ (G (c.finish (.tuple #[])) cs) W) :
    JL S γ ((G ((baseD 58).at ⟨#[v0,v1,v2,v3,v4,v5,v6,v7,v8,v9,Aa,Ab,Ac,Ae,Af,.chan (some co),Ai,Aj,Ak,.int .i64 k,Am,Ao,Ap,.chan (some go),Au,Av,Aw,Ay],[]⟩ [.inRegion RZ [0,1,2,3],.code Uj]) (FT 33 tm [] [] .returning .normal :: c :: cs)).finishComm Try.prog #[scase co (.int .i64 k) zi,rcase go zg] .select (0:Nat) undef false) W:=by
  rw [Gc];simp only [RZ,sF,Uj,Try.f58];have hc:commResult #[scase co (.int .i64 k) zi,rcase go zg] .select ((0:Nat):Int) undef false=.tuple #[.int .i64 0,.bool false,zg]:=by simp [commResult,scase,rcase,goInt]
  rw [hc];walk_nrm;iterate 3 (refine Eo ?_;walk_nrm)
  refine Er stepG_region_end ?_;refine Er stepG_block ?_;refine JL.Fz rfl ?_;refine Er stepG_skip ?_;refine Er stepG_inBlock ?_;refine Er stepG_end ?_;refine JL.leaveD rfl rfl Try.func58 rfl rfl ?_;show JL S γ (G { (base 33).at ⟨tm,[]⟩ [] with mode:=.returning } (c :: cs)) W;exact JL.Xf rfl rfl Try.func33 rfl h
end
section
variable {Cs Sg:Type}{D:Dr Ef Cs Sg}{m:Mem Sg}{ρ:Rn}{b k:Nat}{cf:Frame}{fs:List Frame}{W:World}{σ:Sg}
def Qg (pb:Nat):Deferred:={ target:=.fn (.func 58) #[.pointer (some ⟨pb,0,none⟩)],args:=#[] }
theorem Zy {s:FI Ef Cs Sg ρ}{pb:Nat}{tm:Array Value}(hA:Jt m b k s σ W)(hT:sw s σ)(htd:s.z.todo=[])(hpb:s.pb=pb)(Kk:∀ W,JL (SG Try.prog ρ.ty ρ.Wg (KQ Try.prog ρ.ty ρ.Wg)) () (G (cf.finish (.tuple #[])) fs) W) :
    JL (SW (Eu D m) ρ Try.prog).L s.x (G ((base 33).at ⟨tm,[Qg pb]⟩ []) (cf :: fs)) W:=by
  obtain ⟨x,own,core,pb',z,gr,ans⟩:=s;obtain rfl:pb'=pb:=hpb;obtain ⟨hgr,hcur,hbg,Lj⟩:=hT;simp only at hgr hcur hbg Lj htd;subst hgr;have he:z.todo.isEmpty=true:=by rw [htd];rfl
  rw [he] at Lj;obtain rfl:x.1.1.v.b=b:=hA.vb;obtain rfl:x.1.1.v.k=k:=hA.vk;refine Er stepG_end ?_;refine JW.defers (S:=(SW (Eu D m) ρ Try.prog).base) Try.func58 zKR rfl (by simp) ?_;rw [enter_atD _ Try.func58 Tv];have ht:#[] ++ #[.pointer (some ⟨pb',0,none⟩)] ++ Array.replicate (Try.f58.ntmps - (#[] ++ #[.pointer (some ⟨pb',0,none⟩)]:Array Value).size) undef=#[.pointer (some ⟨pb',0,none⟩),undef,undef,undef,undef,undef,undef,undef,undef,undef,undef,undef,undef,undef,undef,undef,undef,undef,undef,undef,undef,undef,undef,undef,undef,undef,undef,undef]:=by
    have:Try.f58.ntmps=28:=by kernel_rfl
    rw [this];walk_nrm
  rw [ht];show JL (SW (Eu D m) ρ Try.prog).L x _ W;generalize hcf:(FT _ _ _ _ _ _:Frame)=cd;have hcm:cd.mode=.returning:=by rw [← hcf]
  refine Ei ?_;refine Ei ?_;simp only [lp0,Try.f58];refine EH fun _ hkk=>?_;refine JL.Uw rfl rfl rfl rfl hcm ?_;walk_nrm;refine JL.Ii (.tuple #[.agg #[],.bool false]) rfl rfl nE (fun _=>by kernel_rfl) ?_;walk_nrm
  (refine Eo ?_;walk_nrm)
  refine JL.Ii (.agg #[]) rfl rfl nE (fun _=>by kernel_rfl) ?_;walk_nrm;refine JL.Ii (.bool false) rfl rfl nE (fun _=>by kernel_rfl) ?_;walk_nrm;have HH:=Lib.hid (zAI hA (zAI Lj (zAI hcf Kk)));clear hA Lj Kk;refine EL.GU (S:=SW (Eu D m) ρ Try.prog) (b:=baseD 58) 5 [] (by simp) zKR nE rfl zKR fun W₁ ha=>?_;dsimp only [List.drop];gi_wp2;refine ⟨rfl,?_⟩;obtain ⟨hA,Lj,hcf,Kk⟩:=HH.out;clear HH;have hA1:=(hA.alike (EW ha)).lay D (N:=W₁.heap.size) (W':=W₁.alloc (.cells #[] 120)) rfl ⟨_,_,_,heap_alloc_new _ _⟩ (fun b hb=>Below.heap_alloc _ _ _ hb) (by simp);generalize W₁.alloc (.cells #[] 120)=W2 at *;generalize hown:(fun g=>own g\/g=W₁.heap.size)=bU;have hA2:Jt m x.1.1.v.b x.1.1.v.k ⟨x,bU,core,pb',z,false,ans⟩ σ W2:=by rw [← hown];exact hA1
  clear hA hA1;show JL (SW (Eu D m) ρ Try.prog).L x _ W2;dsimp only;refine EB ?_;cases hkk;simp only [lp1,Try.f58];refine Ei ?_;refine EH fun _ hkk=>?_
  (refine Eo ?_;walk_nrm)
  refine EB ?_;cases hkk;refine JL.Ey rfl ?_;refine Er stepG_skip ?_;refine Ei ?_;refine EL.EJ (S:=SW (Eu D m) ρ Try.prog) (b:=baseD 58) [] (by simp) zKR nE zKR fun W₃ LA=>?_;have hh3:=EW LA;have hA3:=hA2.alike hh3;obtain ⟨c5,c6,c7,c8,c9,c10,c11⟩:=hA3.row.cells;have f10:W₃.frozen? ⟨x.1.1.v.b,10,none⟩=false:=hA3.row.frozen;have hpc:=hA3.pc;have HH:=Lib.hid (zAI hA2 (zAI Lj (zAI hcf (zAI Kk (zAI hA3 hh3)))));clear hA2 Lj Kk hA3 hh3;simp only at hpc c5 c6 c7 c8 c9 c10 c11;simp only [lp2,Try.f58];gi_wp2;obtain ⟨hA2,Lj,hcf,Kk,hA3,hh3⟩:=HH.out;clear HH c5 c6 c7 c8 c9 c10 c11 f10;have hrow:=hA3.row;unfold Fq at hrow;generalize XT:World.setCell _ _ _=W4
  have hrow4:W4.heap[x.1.1.v.b]?=some (.cells #[.int .i64 x.1.1.v.k,.bool true,.chan (some x.1.1.v.t),.chan (some ρ.come),.chan (some ρ.gone),.bool false,.int .i64 z.st,.int .i64 z.bg,.int .i64 z.ow,ans,.bool true,.bool false] 94 (0,0)):=by rw [← XT];simp [World.setCell,Array.getElem?_modify,hrow]
  have Vi:∀ g,g≠x.1.1.v.b->W4.heap[g]?=W₃.heap[g]?:=fun g hg=>by rw [← XT];simp [World.setCell,Array.getElem?_modify,hg.symm]
  clear XT;show JL (SW (Eu D m) ρ Try.prog).L x _ W4;try dsimp only
  refine Ei ?_;refine EL.EJ (S:=SW (Eu D m) ρ Try.prog) (b:=baseD 58) [] (by simp) zKR nE zKR fun W₅ TH=>?_;have ML:=EW TH;have d0:W₅.cell? ⟨x.1.1.v.b,0,none⟩=some (.int .i64 x.1.1.v.k):=by simp [World.cell?,ML,hrow4]
  have d3:W₅.cell? ⟨x.1.1.v.b,3,none⟩=some (.chan (some ρ.come)):=by simp [World.cell?,ML,hrow4]
  have d4:W₅.cell? ⟨x.1.1.v.b,4,none⟩=some (.chan (some ρ.gone)):=by simp [World.cell?,ML,hrow4]
  have epb:W₅.heap[pb']?=W₃.heap[pb']?:=by rw [ML];exact Vi pb' hA3.TM
  have Aht:W₅.cell? ⟨pb',0,none⟩=some (.pointer (some ⟨x.1.1.v.b,0,none⟩)):=by rw [cell_of (a:=⟨pb',0,none⟩) epb];exact hA3.pc
  have HH:=Lib.hid (zAI hA2 (zAI Lj (zAI hcf (zAI Kk (zAI hA3 (zAI hh3 (zAI ML (zAI hrow4 (zAI Vi hrow)))))))));clear hA2 Lj Kk hA3 hh3 ML hrow4 Vi hrow hpc;simp only [lp3,Try.f58];gi_wp2;obtain ⟨hA2,Lj,hcf,Kk,hA3,hh3,ML,hrow4,Vi,hrow⟩:=HH.out;clear HH;show JL (SW (Eu D m) ρ Try.prog).L x _ W₅;try dsimp only
  obtain ⟨id,e⟩:=gF;rw [e];refine Ei ?_;refine JL.region (l:=[0,1,2,3]) rfl fun _ hk=>?_;cases hk
  subst hcf;have h1:=hA3.zi;have h2:=hA3.zg;have MR:=hrow4;rw [← ML] at MR;have Qb:∀ g,g≠x.1.1.v.b->W₅.heap[g]?=W₃.heap[g]?:=fun g hg=>by rw [ML];exact Vi g hg
  have hbS:¬ m.Sh x.1.1.v.b:=(hA3.o3 _ (hA3.co _ hA3.cb)).2.1;obtain ⟨mm,hm⟩:=SG.goes (P:=Try.prog) (ty:=ρ.ty) (Wg:=ρ.Wg) (Stop:=KQ Try.prog ρ.ty ρ.Wg) fun W=>nM (S:=SG Try.prog ρ.ty ρ.Wg (KQ Try.prog ρ.ty ρ.Wg)) (γ:=()) (zi:=ρ.zi) (zg:=ρ.zg) (k:=x.1.1.v.k) (co:=ρ.come) (go:=ρ.gone) (Kk W);refine SW.sit (M:=Eu D m) (own:=bU) (pb:=pb') rfl (fun w=>?_) (by rw [Lj];exact m.eq σ W₃ W₅ (fun g hg=>.of (Qb g fun e=>hbS (e ▸ hg))) hA3.inv) hA3.sh (by rw [Lj];exact ⟨hA3.zk,hA3.co _ hA3.cb,_,_,_,_,_,by have e2:=hA3.zf;simp only at e2;simp only [e2];exact MR,hA3.am.QD (fun g hg=>.of (Qb g hg.2.1)) |>.mono fun g hg=>⟨hA3.co g hg.1,hg.2.1⟩⟩) (hA3.co _ hA3.Pb) hA3.o1 hA3.o2 (fun g hg=>⟨(hA3.o3 g hg).1,(hA3.o3 g hg).2.1,?_⟩) hA3.Ld (fun _=>⟨mm,fun w hl=>.r0 (hm w hl)⟩) (fun e=>by rw [Lj] at e;cases e)
  . rw [mI];simp only [He,h1,h2];rfl
  . by_cases e:g=x.1.1.v.b
    . rw [e];exact ⟨_,_,_,MR⟩
    . rw [Qb g e];exact (hA3.o3 g hg).2.2
end
end
end Go.Proofs.Yticecinjcajmcaa
namespace Go.LK
open Go Go.Conc Go.LT Go.LC
open Go.ConcN (WgLive)
section
theorem Rf {P:Program}{main:Bool}{R:World->World->Prop}{D D':World->World->Array Event->Prop}{Stop:Goroutine->World->Prop}(hD:∀ a b e,D a b e->D' a b e):∀ (n:Nat) (g:Goroutine) (w:World),Goes P main R D Stop n g w->Goes P main R D' Stop n g w
  | 0,_,_,h=>h
  | n+1,g,w,h=>by
    rcases h with h|⟨hs,h⟩
    . exact .inl h
    . refine .inr ⟨hs,fun w₁ h₁=>?_⟩;have h2:=h w₁ h₁;cases e:stepG P main g w₁ with
      | go g' w' es=>
        rw [e,goes_go] at h2;rw [goes_go];exact ⟨hD _ _ _ h2.1,Rf hD n _ _ h2.2⟩
      | _=>rw [e] at h2;exact h2.elim
theorem FV.Ab7 {P:Program}{ρ:Rn}{g:Goroutine}(h:∀ W,JL (SG P ρ.ty ρ.Wg (KQ P ρ.ty ρ.Wg)) () g W):∃ m,FV ρ P m g:=by obtain ⟨m,hm⟩:=SG.goes h;exact ⟨m,fun w hl=>Rf (fun _ _ _ h=>⟨h.2,.inl h.1⟩) _ _ _ (hm w hl)⟩
theorem FV.VE {P:Program}{ρ:Rn}{m:Nat}{f:FuncId}{fn:Func}{tm:Array Value}{Y:List Item}{c:Frame}{cs:List Frame}(hf:P.funcs[f]?=some fn)(hr:fn.results=#[])(h:FV ρ P m (G (behind c) cs)):FV ρ P (m+1) (G (FT f tm Y [] .returning .deferred) (c :: cs)):=
  .ctl rfl (fun w _=>by
    have h1:(results fn tm).runT P w #[]=(.ok (.tuple #[]) w,#[]):=by rw [Sem.runT_eq,results_none hr,events_results_none hr]
    simp only [G,FT,stepG,unwind,hf,h1];rfl) h
theorem FV.leave {P:Program}{ρ:Rn}{m:Nat}{f:FuncId}{fn:Func}{tm:Array Value}{Y:List Item}{c:Frame}{cs:List Frame}(hf:P.funcs[f]?=some fn)(hr:fn.results=#[])(h:FV ρ P m (G (c.finish (.tuple #[])) cs)):FV ρ P (m+1) (G (FT f tm Y [] .returning .normal) (c :: cs)):=
  .ctl rfl (fun w _=>by
    have h1:(results fn tm).runT P w #[]=(.ok (.tuple #[]) w,#[]):=by rw [Sem.runT_eq,results_none hr,events_results_none hr]
    simp only [G,FT,stepG,unwind,hf,h1];rfl) h
theorem QO {c:Frame}{v:Value}{older:List PanicEntry}(hm:c.mode=.panicking (⟨v,true,false⟩ :: older))(h:∀ e∈older,e.goexit=false):behind c={ c with mode:=.returning }:=by
  have e:older.dropWhile (!·.goexit)=[]:=by
    clear hm;induction older with
    | nil=>rfl
    | cons x l ih=>rw [List.dropWhile_cons_of_pos (by simp [h x (.head _)])];exact ih fun e he=>h e (.tail _ he)
  unfold behind;rw [hm];simp only [e]
end
end Go.LK
namespace Go.Proofs.Yticecinjcajmcaa
open Go Go.Conc Go.LT Go.LC Go.LK Go.RowKit
section
variable {ρ:Rn}{cf:Frame}{fs:List Frame}
theorem Yn {pb:Nat}(Kk:∀ W,JL (SG Try.prog ρ.ty ρ.Wg (KQ Try.prog ρ.ty ρ.Wg)) () (G (cf.finish (.tuple #[])) fs) W)(tm:Array Value)(k:List Item):Ve ρ Try.prog 120 ((base 33).at ⟨tm,[Qg pb]⟩ k) (cf :: fs):=by
  intro ch hch;obtain ⟨older,hge,rfl⟩:=hch;obtain ⟨m0,h0⟩:=FV.Ab7 Kk;refine ⟨m0+40,FV.ctl (g':=G (Frame.enter Try.prog 58 (#[] ++ #[.pointer (some ⟨pb,0,none⟩)]) .deferred) (FT 33 tm k [] (.panicking (⟨V3,false,false⟩ :: older)) .normal :: cf :: fs)) rfl (fun w _=>?_) ?_⟩
  . have hc:(invoke (.fn (.func 58) #[.pointer (some ⟨pb,0,none⟩)]) #[]).runT Try.prog w #[]=(.ok (.enter 58 (#[] ++ #[.pointer (some ⟨pb,0,none⟩)])) w,#[]):=Jz Try.func58 zKR Tv _ _ _;show stepG Try.prog false (G (FT 33 tm k [Qg pb] (.panicking (⟨V3,false,false⟩ :: older)) .normal) (cf :: fs)) w=_;simp [G,FT,stepG,unwind,callDeferred,Qg,hc,GStep.after,seen,-Sem.runT_eq]
  . rw [enter_atD _ Try.func58 Tv];have ht:#[] ++ #[.pointer (some ⟨pb,0,none⟩)] ++ Array.replicate (Try.f58.ntmps - (#[] ++ #[.pointer (some ⟨pb,0,none⟩)]:Array Value).size) undef=#[.pointer (some ⟨pb,0,none⟩),undef,undef,undef,undef,undef,undef,undef,undef,undef,undef,undef,undef,undef,undef,undef,undef,undef,undef,undef,undef,undef,undef,undef,undef,undef,undef,undef]:=by
      have:Try.f58.ntmps=28:=by kernel_rfl
      rw [this];walk_nrm
    rw [ht];clear ht;refine FV.c stepG_seq ?_;refine FV.c stepG_seq ?_;simp only [lp0,Try.f58];refine FV.reg (l:=[0,1,2,3,4,5,6,7]) rfl ?_;refine FV.recover (v:=V3) (older:=older) rfl rfl rfl rfl rfl rfl ?_;walk_nrm;refine FV.op (.tuple #[.agg #[],.bool true]) rfl rfl nE (fun _=>by kernel_rfl) ?_;walk_nrm;refine FV.op (.tuple #[.agg #[],.bool true]) rfl rfl nE (fun _=>by kernel_rfl) ?_;walk_nrm;refine FV.op (.agg #[]) rfl rfl nE (fun _=>by kernel_rfl) ?_;walk_nrm;refine FV.op (.bool true) rfl rfl nE (fun _=>by kernel_rfl) ?_;walk_nrm;refine FV.lay (ob:=.cells #[] 120 (0,0)) trivial rfl rfl nE (fun _=>by kernel_rfl) fun N'=>?_;walk_nrm;refine FV.nop rfl rfl nE (fun _=>by kernel_rfl) ?_;walk_nrm;refine FV.op (.bool true) rfl rfl nE (fun _=>by kernel_rfl) ?_;walk_nrm;refine FV.c stepG_region_end ?_;simp only [lp1,Try.f58];refine FV.c stepG_seq ?_;refine FV.reg (l:=[0]) rfl ?_
    refine FV.op (.bool true) rfl rfl nE (fun _=>by kernel_rfl) ?_;walk_nrm;refine FV.c stepG_region_end ?_;refine FV.c (stepG_cond rfl) ?_;refine FV.c stepG_ret' ?_;refine FV.VE (f:=58) Try.func58 rfl ?_;rw [QO rfl hge];refine FV.leave (f:=33) Try.func33 rfl ?_;exact FV.up h0 19
end
end Go.Proofs.Yticecinjcajmcaa
end
