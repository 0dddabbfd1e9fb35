/-
  Part 18 of the proof that CellAlone returns true for every input and leaves its arguments as they were. No further condition.
-/
import Derived.Test.YtkdhnbcdbnpmhaaQ17
set_option linter.unusedVariables false
set_option linter.unusedSectionVars false
set_option maxHeartbeats 2000000
namespace Go.Proofs.Ytkdhnbcdbnpmhaa
open Go Go.Conc Go.LT Go.LC Go.LK Go.RowKit
open Go.ConcN (WgLive)
section
theorem zF:∃ (af:Array Edge) (p:String) (ty:TypeId),IX[0]?=some ⟨some 63,.load 109 (.tmp 3),ty,p,af,none⟩:=⟨_,_,_,rfl⟩
theorem xQ:∃ (af:Array Edge) (p:String) (ty:TypeId),IX[1]?=some ⟨some 64,.load 109 (.tmp 3),ty,p,af,none⟩:=⟨_,_,_,rfl⟩
theorem zD:∃ (af:Array Edge) (p:String) (ty:TypeId),IX[2]?=some ⟨some 65,.nilCheck (.tmp 64),ty,p,af,none⟩:=⟨_,_,_,rfl⟩
theorem zP:∃ (af:Array Edge) (p:String) (ty:TypeId),IX[3]?=some ⟨some 66,.fieldAddr 157 (.tmp 65) 9,ty,p,af,none⟩:=⟨_,_,_,rfl⟩
theorem xL:∃ (af:Array Edge) (p:String) (ty:TypeId),IX[4]?=some ⟨some 67,.load 66 (.tmp 66),ty,p,af,none⟩:=⟨_,_,_,rfl⟩
theorem Aau:∃ (af:Array Edge) (p:String) (ty:TypeId),IX[5]?=some ⟨some 68,.load 51 (.tmp 8),ty,p,af,none⟩:=⟨_,_,_,rfl⟩
theorem zx:∃ (af:Array Edge) (p:String) (ty:TypeId),IX[6]?=some ⟨some 69,.buildSlice 66 1 #[(0,.tmp 68)],ty,p,af,none⟩:=⟨_,_,_,rfl⟩
theorem zA:∃ (af:Array Edge) (p:String) (ty:TypeId),IX[7]?=some ⟨some 70,.call { callee:=.builtin .append,args:=#[.tmp 67,.tmp 69],argTypes:=#[66,66] },66,p,af,none⟩:=⟨_,_,66,rfl⟩
theorem wX:∃ (af:Array Edge) (p:String) (ty:TypeId),IX[8]?=some ⟨some 71,.nilCheck (.tmp 63),ty,p,af,none⟩:=⟨_,_,_,rfl⟩
theorem yj:∃ (af:Array Edge) (p:String) (ty:TypeId),IX[9]?=some ⟨some 72,.fieldAddr 157 (.tmp 71) 9,ty,p,af,none⟩:=⟨_,_,_,rfl⟩
theorem rX:∃ (af:Array Edge) (p:String) (ty:TypeId),IX[10]?=some ⟨none,.store 66 (.tmp 72) (.tmp 70),ty,p,af,none⟩:=⟨_,_,_,rfl⟩
theorem xV:(IX[2]?).map Ka=some [1]:=by kernel_rfl
theorem Aap:(IX[3]?).map Ka=some [2]:=by kernel_rfl
theorem eT:IX.size=11:=by kernel_rfl
theorem KH {l:Array Bool}{i j:Nat}{o:Oper}{ws:List Nat}(hw:(IX[i]?).map Ka=some ws)(ho:IX[i]?=some o)(hod:∀ e∈o.after,Region.binds .any e=true->l[e.on]?=some true)(hj:j∈ws):l[j]?=some true:=by rw [ho] at hw;exact U0 (by rw [Option.some.inj hw];exact hj) hod
theorem UZ {l:Array Bool}{i j:Nat}{o:Oper}{ws:List Nat}{n:Nat}(hw:(IX[i]?).map (fun o=>(Ka o).take n)=some ws)(ho:IX[i]?=some o)(hod:∀ e∈o.after,Region.binds .any e=true->l[e.on]?=some true)(hj:j∈ws):l[j]?=some true:=by rw [ho] at hw;exact U0 (List.mem_of_mem_take (i:=n) (by rw [show (Ka o).take n=ws from Option.some.inj hw];exact hj)) hod
theorem RO {l:Array Bool}{i j:Nat}{ws:List Nat}(hw:(IX[i]?).map Ka=some ws)(hi:i < 11)(hd:Down .any IX l)(h:l[i]?=some true)(hj:j∈ws):l[j]?=some true:=by have ho:IX[i]?=some (IX[i]'(by rw [eT];exact hi)):=Array.getElem?_eq_getElem _;exact KH hw ho (hd i _ ho h) hj
theorem dI {l:Array Bool}{i j:Nat}{ws:List Nat}{n:Nat}(hw:(IX[i]?).map (fun o=>(Ka o).take n)=some ws)(hi:i < 11)(hd:Down .any IX l)(h:l[i]?=some true)(hj:j∈ws):l[j]?=some true:=by have ho:IX[i]?=some (IX[i]'(by rw [eT];exact hi)):=Array.getElem?_eq_getElem _;exact UZ hw ho (hd i _ ho h) hj
theorem ZT {w0 w1 w2 w3 w:World}{l:Array Bool}(h:l[10]?≠some true)(hw:w=EA w0 w1 w2 w3 l):(l[7]?=some true/\w=w2)\/(l[6]?=some true/\w=w1)\/(l[6]?≠some true/\w=w0):=by
  unfold EA at hw;rw [if_neg h] at hw;by_cases h7:l[7]?=some true
  . exact .inl ⟨h7,by rw [hw,if_pos h7]⟩
  . rw [if_neg h7] at hw;by_cases h6:l[6]?=some true
    . exact .inr (.inl ⟨h6,by rw [hw,if_pos h6]⟩)
    . exact .inr (.inr ⟨h6,by rw [hw,if_neg h6]⟩)
theorem ML {w:World}{base size n:Nat}{v:Value}{xs:List Value}(h:BA.IE w base size v n xs):∃ p n c,v=.slice p n c:=by
  obtain ⟨te,_,⟨rfl,_⟩|⟨g,cap,cur,rfl,_⟩⟩:=h
  . exact ⟨_,_,_,rfl⟩
  . exact ⟨_,_,_,rfl⟩
theorem wY {wv dv cv:Value}{pb:Nat}{u7 u8 QV Jo I6:Value}{tm tm':Array Value}(h:Sl wv dv cv pb u7 u8 QV Jo I6 tm)(hsz:tm'.size=81)(hlow:∀ s,s < 63->tm'[s]?=tm[s]?):Sl wv dv cv pb u7 u8 QV Jo I6 tm':=by
  obtain ⟨v9,Ae,Af,Ah,Ai,Aj,Ak,Al,Am,Ao,Ap,Aq,Ar,Au,Av,Aw,Ay,Az,AA,AB,AJ,AL,AO,AP,AQ,AU,AV,AX,AY,AZ,A8,A9,Ba,Bb,Bc,Bf,Bh,Bj,Bl,Bp,Bq,Br,Bu,Bv,Bw,Bz,BD,BF,BG,BH,BI,BJ,BK,BL,BM,BN,BO,BP,BQ,BR,BS,BU,BX,BZ,Ca,Cb,Cc,Ce,Cg,rfl⟩:=h;obtain ⟨y0,y1,y2,y3,y4,y5,y6,y7,y8,y9,y10,y11,y12,y13,y14,y15,y16,y17,y18,y19,y20,y21,y22,y23,y24,y25,y26,y27,y28,y29,y30,y31,y32,y33,y34,y35,y36,y37,y38,y39,y40,y41,y42,y43,y44,y45,y46,y47,y48,y49,y50,y51,y52,y53,y54,y55,y56,y57,y58,y59,y60,y61,y62,y63,y64,y65,y66,y67,y68,y69,y70,y71,y72,y73,y74,y75,y76,y77,y78,y79,y80,rfl⟩:=yt hsz;have e0:some y0=some (wv):=hlow 0 (by decide);have e1:some y1=some (dv):=hlow 1 (by decide);have e2:some y2=some (cv):=hlow 2 (by decide);have e3:some y3=some (.pointer (some ⟨pb,0,none⟩)):=hlow 3 (by decide);have e4:some y4=some (undef):=hlow 4 (by decide)
  have e5:some y5=some (undef):=hlow 5 (by decide);have e6:some y6=some (undef):=hlow 6 (by decide);have e7:some y7=some (u7):=hlow 7 (by decide);have e8:some y8=some (u8):=hlow 8 (by decide);have e10:some y10=some (QV):=hlow 10 (by decide);have e11:some y11=some (Jo):=hlow 11 (by decide);have e12:some y12=some (I6):=hlow 12 (by decide);cases e0
  cases e1
  cases e2
  cases e3
  cases e4
  cases e5
  cases e6
  cases e7
  cases e8
  cases e10
  cases e11
  cases e12
  exact ⟨_,_,_,_,_,_,_,_,_,_,_,_,_,_,_,_,_,_,_,_,_,_,_,_,_,_,_,_,_,_,_,_,_,_,_,_,_,_,_,_,_,_,_,_,_,_,_,_,_,_,_,_,_,_,_,_,_,_,_,_,_,_,_,_,_,_,_,_,_,rfl⟩
section
variable {Cs Sg:Type}{D:Dr G5 Cs Sg}{m:Mem Sg}{ρ:Rn}{b k:Nat}{cf:Frame}{fs:List Frame}{W:World}{σ:Sg}
variable {x:Wx (Wk G5 Cs) Sg ρ}{own core:Nat->Prop}{pb:Nat}{z:Wk G5 Cs}{ans:Value}{gr:Bool}{wv dv cv u7 u8 QV Jo I6:Value}{ds:List Deferred}{K:List Item}
theorem nD (hA:Mq m b k ⟨x,own,core,pb,z,gr,ans⟩ σ W){N8:Nat}{iv:Value}{e:An}(h8:W.heap[N8]?=some (.cells #[.int .i64 z.bg,.int .i64 z.st,.int .i64 z.ow,.bool e.ok,.int .i64 e.n,.int .i64 e.m,.int .i64 e.err,iv,.slice none 0 0] 51 (0,0)))(hiv:Jg W (fun g=>own g/\g≠b/\g≠pb/\ans.ownBlock≠some g) iv e.ints){tm:Array Value}(hs:Sl wv dv cv pb u7 (.pointer (some ⟨N8,0,none⟩)) QV Jo I6 tm)(hlen:z.out.length < 1000000)(hJ:∀ vL W' tm',Sl wv dv cv pb u7 (.pointer (some ⟨N8,0,none⟩)) QV Jo I6 tm'->Mq m b k ⟨x,fun g=>own g\/vL.ownBlock=some g,fun g=>own g\/vL.ownBlock=some g,pb,{ z with out:=z.out ++ [⟨e,z.bg,z.st,z.ow⟩] },gr,vL⟩ σ W'->W.heap.size<=W'.heap.size->JL (SW (H9 D m) ρ Try.prog).L x (G ((base 78).at ⟨tm',ds⟩ K) (cf :: fs)) W') :
    JL (SW (H9 D m) ρ Try.prog).L x (G ((base 78).at ⟨tm,ds⟩ (.code p13 :: K)) (cf :: fs)) W:=by
  have hsz:tm.size=81:=by obtain ⟨v9,Ae,Af,Ah,Ai,Aj,Ak,Al,Am,Ao,Ap,Aq,Ar,Au,Av,Aw,Ay,Az,AA,AB,AJ,AL,AO,AP,AQ,AU,AV,AX,AY,AZ,A8,A9,Ba,Bb,Bc,Bf,Bh,Bj,Bl,Bp,Bq,Br,Bu,Bv,Bw,Bz,BD,BF,BG,BH,BI,BJ,BK,BL,BM,BN,BO,BP,BQ,BR,BS,BU,BX,BZ,Ca,Cb,Cc,Ce,Cg,rfl⟩:=hs;rfl
  have ht3:tm[3]?=some (.pointer (some ⟨pb,0,none⟩)):=by obtain ⟨v9,Ae,Af,Ah,Ai,Aj,Ak,Al,Am,Ao,Ap,Aq,Ar,Au,Av,Aw,Ay,Az,AA,AB,AJ,AL,AO,AP,AQ,AU,AV,AX,AY,AZ,A8,A9,Ba,Bb,Bc,Bf,Bh,Bj,Bl,Bp,Bq,Br,Bu,Bv,Bw,Bz,BD,BF,BG,BH,BI,BJ,BK,BL,BM,BN,BO,BP,BQ,BR,BS,BU,BX,BZ,Ca,Cb,Cc,Ce,Cg,rfl⟩:=hs;rfl
  have ht8:tm[8]?=some (.pointer (some ⟨N8,0,none⟩)):=by obtain ⟨v9,Ae,Af,Ah,Ai,Aj,Ak,Al,Am,Ao,Ap,Aq,Ar,Au,Av,Aw,Ay,Az,AA,AB,AJ,AL,AO,AP,AQ,AU,AV,AX,AY,AZ,A8,A9,Ba,Bb,Bc,Bf,Bh,Bj,Bl,Bp,Bq,Br,Bu,Bv,Bw,Bz,BD,BF,BG,BH,BI,BJ,BK,BL,BM,BN,BO,BP,BQ,BR,BS,BU,BX,BZ,Ca,Cb,Cc,Ce,Cg,rfl⟩:=hs;rfl
  refine HY.Ht (S:=SW (H9 D m) ρ Try.prog) (b:=base 78) [] (by simp) (by kernel_rfl) nE (by kernel_rfl) fun GQ ha=>?_;have hh:=Io ha;have hA1:=hA.alike hh;rw [← hh] at h8;obtain ⟨c5,c6,c7,c8,c9,c10,c11⟩:=hA1.row.cells;have hpc:=hA1.pc;have Ac1:=hiv.TW (w':=GQ) fun g _=>.of (by rw [hh]);have Adp:iv.oneCell'=true:=by rcases hiv with ⟨_,rfl⟩|⟨_,g,c,rfl,_⟩ <;> rfl
  generalize hO:Obj.cells #[.int .i64 z.bg,.int .i64 z.st,.int .i64 z.ow,.bool e.ok,.int .i64 e.n,.int .i64 e.m,.int .i64 e.err,iv,.slice none 0 0] 51=O;have hq:∀ w:World,w.heap=GQ.heap->w.cell? ⟨N8,0,none⟩=some (.int .i64 z.bg)/\w.cell? ⟨N8,1,none⟩=some (.int .i64 z.st)/\w.cell? ⟨N8,2,none⟩=some (.int .i64 z.ow)/\w.cell? ⟨N8,3,none⟩=some (.bool e.ok)/\w.cell? ⟨N8,4,none⟩=some (.int .i64 e.n)/\w.cell? ⟨N8,5,none⟩=some (.int .i64 e.m)/\w.cell? ⟨N8,6,none⟩=some (.int .i64 e.err)/\w.cell? ⟨N8,7,none⟩=some iv/\w.cell? ⟨N8,8,none⟩=some (.slice none 0 0):=fun w hw=>by simp [World.cell?,hw,h8]
  have hinfo:(Try.prog.info? 51).map (fun i=>(i.zero,i.size,i.bytes))=some (some (.agg #[.int .i64 0,.int .i64 0,.int .i64 0,.bool false,.int .i64 0,.int .i64 0,.int .i64 0,.slice none 0 0,.slice none 0 0]),9,104):=by kernel_rfl
  obtain ⟨i0,hi,hi0,hi1,hi2⟩:=info_parts hinfo;obtain ⟨⟨Mt,WL,hown,hints⟩,hblk⟩:=hA1.am;simp only at WL hown hints hblk;have hcw:∀ a,((GQ.alloc O).drew).cell? a=(GQ.alloc O).cell? a:=fun a=>rfl;have hown2:BA.IE (GQ.alloc O).drew 0 9 ans z.out.length (List.zipWith IY z.out Mt).flatten:=Lf hown fun g hg=>.of (Below.heap_alloc GQ O g (hA1.lt (.inl (hA1.co g (hblk g hg).1))));have hnews:∀ j u,(IY ⟨e,z.bg,z.st,z.ow⟩ iv)[j]?=some u->(GQ.alloc O).drew.cell? ((⟨GQ.heap.size,0,none⟩:Addr).add j)=some u:=fun j u hu=>by
    rw [Addr.add_lit,hcw];have:(GQ.alloc O).heap[GQ.heap.size]?=some O:=heap_alloc_new _ _;rw [← hO] at this ⊢;simp only [World.cell?,this,Nat.zero_add]
    simpa [IY] using hu
  obtain ⟨v',w',hr,g1,g2,g3⟩:=M8 (P:=Try.prog) (GQ.alloc O).drew 0 66 66 51 i0 _ 9 104 Try.underlying66 hi hi0 hi1 hi2 rfl (by decide) ans z.out.length _ hown2 ⟨GQ.heap.size,0,none⟩ 1 1 _ rfl hnews (by intro u hu;simp [IY] at hu;rcases hu with rfl|rfl|rfl|rfl|rfl|rfl|rfl|rfl|rfl <;> first|rfl|exact Adp) (by unfold maxLen;omega) (by omega) (Nat.zero_le _);have hgb:∀ g,g < GQ.heap.size->(ans.ownBlock=some g->False)->w'.heap[g]?=GQ.heap[g]?:=fun g hg hne=>by rw [g2.block g (by show g < (GQ.alloc O).heap.size;simp;omega) (fun e=>hne e.symm)];exact Below.heap_alloc GQ O g hg
  have hbl:b < GQ.heap.size:=hA1.lt (.inl (hA1.co b hA1.cb));have hpl:pb < GQ.heap.size:=hA1.lt (.inl (hA1.co pb hA1.RL));have hwb:w'.heap[b]?=GQ.heap[b]?:=hgb b hbl fun e=>(hblk b e).2.1 rfl;have hwp:w'.heap[pb]?=GQ.heap[pb]?:=hgb pb hpl fun e=>(hblk pb e).2.2 rfl;have k1:w'.cell? ⟨pb,0,none⟩=some (.pointer (some ⟨b,0,none⟩)):=by rw [cell_of (a:=⟨pb,0,none⟩) hwp];exact hpc
  have k2:w'.cell? ⟨b,9,none⟩=some ans:=by rw [cell_of (a:=⟨b,9,none⟩) hwb];exact c9
  have k3:w'.frozen? ⟨b,9,none⟩=false:=by have:=hA1.row;unfold IQ at this;simp only [World.frozen?,hwb,this];rfl
  have Aff:(GQ.alloc O).drew.cell? ⟨pb,0,none⟩=some (.pointer (some ⟨b,0,none⟩)):=by rw [hcw,cell_of (a:=⟨pb,0,none⟩) (Below.heap_alloc GQ O pb hpl)];exact hpc
  have c9':(GQ.alloc O).drew.cell? ⟨b,9,none⟩=some ans:=by rw [hcw,cell_of (a:=⟨b,9,none⟩) (Below.heap_alloc GQ O b hbl)];exact c9
  obtain ⟨p',n',c',rfl⟩:=ML g1;have Adz:Try.prog.follows .mixedOrders=true:=by kernel_rfl
  rw [uZ];refine Wi (I:=R13 tm [.pointer (some ⟨b,0,none⟩),.pointer (some ⟨b,0,none⟩),.pointer (some ⟨b,0,none⟩),.pointer (some ⟨b,9,none⟩),ans,.agg #[.int .i64 z.bg,.int .i64 z.st,.int .i64 z.ow,.bool e.ok,.int .i64 e.n,.int .i64 e.m,.int .i64 e.err,iv,.slice none 0 0],.slice (some ⟨GQ.heap.size,0,none⟩) 1 1,.slice p' n' c',.pointer (some ⟨b,0,none⟩),.pointer (some ⟨b,9,none⟩)] GQ.drew (GQ.alloc O).drew w' (w'.setCell ⟨b,9,none⟩ (.slice p' n' c'))) Adz yH ⟨rfl,hsz,fun s _=>rfl,fun j v hj=>?_,?_⟩ ?_ ?_
  . rw [Array.getElem?_replicate] at hj;split at hj <;> cases hj
  . have hrep:∀ j,(Array.replicate IX.size false)[j]?≠some true:=fun j hj=>by rw [Array.getElem?_replicate] at hj;split at hj <;> cases hj
    unfold EA;rw [if_neg (hrep 10),if_neg (hrep 7),if_neg (hrep 6)]
  . intro l a w i o hI hl hd hb ho hod;rw [eT] at hl;have hi:i < 11:=by have:=(Array.getElem?_eq_some_iff.1 ho).1;rw [eT] at this;exact this
    have D6:l[6]?=some true->l[5]?=some true:=fun h=>RO oZ (by decide) hd h (by decide);have D7a:l[7]?=some true->l[4]?=some true:=fun h=>RO VY (by decide) hd h (by decide);have D7b:l[7]?=some true->l[6]?=some true:=fun h=>RO VY (by decide) hd h (by decide);have n10:i≠10->l[10]?≠some true:=fun hne h10=>by
      have h9:l[9]?=some true:=dI qh (by decide) hd h10 (by decide);have hall:∀ j∈[8,0,1,2,3,4,5,6,7],l[j]?=some true:=fun j hj=>RO pY (by decide) hd h9 hj;have:l[i]?=some true:=by
        by_cases e9:i=9
        . rw [e9];exact h9
        . refine hall i ?_;simp only [List.mem_cons,List.not_mem_nil,or_false];omega
      rw [hb] at this;cases this
    have hw3:=fun (h:l[10]?≠some true) w hw=>ZT (w:=w) (w0:=GQ.drew) (w1:=(GQ.alloc O).drew) (w2:=w') (w3:=w'.setCell ⟨b,9,none⟩ (.slice p' n' c')) h hw;have hpb:∀ w,w=EA GQ.drew (GQ.alloc O).drew w' (w'.setCell ⟨b,9,none⟩ (.slice p' n' c')) l->l[10]?≠some true->w.cell? ⟨pb,0,none⟩=some (.pointer (some ⟨b,0,none⟩)):=fun w hw h=>by
      rcases hw3 h w hw with ⟨_,rfl⟩|⟨_,rfl⟩|⟨_,rfl⟩
      . exact k1
      . exact Aff
      . exact hpc
    obtain rfl|rfl|rfl|rfl|rfl|rfl|rfl|rfl|rfl|rfl|rfl:i=0\/i=1\/i=2\/i=3\/i=4\/i=5\/i=6\/i=7\/i=8\/i=9\/i=10:=by omega
    ·
      obtain ⟨af,p,ty,ho'⟩:=zF;obtain rfl:=Option.some.inj (ho.symm.trans ho');have t3:a.eval (.tmp 3)=.pointer (some ⟨pb,0,none⟩):=Hq ((hI.low 3 (by decide)).trans ht3);have hc:=hpb w hI.wo (n10 (by decide));exact I7 rfl ho rfl rfl (by unfold execOp;simp only [t3];go_simp) (hI.put (i:=0) (by decide) rfl hl (hI.wo.trans (OU (i:=0) (by decide) (by decide) (by decide)).symm))
    ·
      obtain ⟨af,p,ty,ho'⟩:=xQ;obtain rfl:=Option.some.inj (ho.symm.trans ho');have t3:a.eval (.tmp 3)=.pointer (some ⟨pb,0,none⟩):=Hq ((hI.low 3 (by decide)).trans ht3);have hc:=hpb w hI.wo (n10 (by decide));exact I7 rfl ho rfl rfl (by unfold execOp;simp only [t3];go_simp) (hI.put (i:=1) (by decide) rfl hl (hI.wo.trans (OU (i:=1) (by decide) (by decide) (by decide)).symm))
    ·
      obtain ⟨af,p,ty,ho'⟩:=zD;obtain rfl:=Option.some.inj (ho.symm.trans ho');have t:=Hq (hI.val 1 _ (KH xV ho hod (by decide)) rfl);exact I7 rfl ho rfl rfl (by unfold execOp;simp only [t];go_simp) (hI.put (i:=2) (by decide) rfl hl (hI.wo.trans (OU (i:=2) (by decide) (by decide) (by decide)).symm))
    ·
      obtain ⟨af,p,ty,ho'⟩:=zP;obtain rfl:=Option.some.inj (ho.symm.trans ho');have t:=Hq (hI.val 2 _ (KH Aap ho hod (by decide)) rfl);exact I7 rfl ho rfl rfl (by unfold execOp;simp only [t];go_simp) (hI.put (i:=3) (by decide) rfl hl (hI.wo.trans (OU (i:=3) (by decide) (by decide) (by decide)).symm))
    ·
      obtain ⟨af,p,ty,ho'⟩:=xL;obtain rfl:=Option.some.inj (ho.symm.trans ho');have t:=Hq (hI.val 3 _ (KH xR ho hod (by decide)) rfl);have hc:w.cell? ⟨b,9,none⟩=some ans:=by
        rcases hw3 (n10 (by decide)) w hI.wo with ⟨h7,_⟩|⟨_,rfl⟩|⟨_,rfl⟩
        . exact absurd (D7a h7) (by rw [hb];decide)
        . exact c9'
        . exact c9
      exact I7 rfl ho rfl rfl (by unfold execOp;simp only [t];go_simp) (hI.put (i:=4) (by decide) rfl hl (hI.wo.trans (OU (i:=4) (by decide) (by decide) (by decide)).symm))
    ·
      obtain ⟨af,p,ty,ho'⟩:=Aau;obtain rfl:=Option.some.inj (ho.symm.trans ho');have t8:a.eval (.tmp 8)=.pointer (some ⟨N8,0,none⟩):=Hq ((hI.low 8 (by decide)).trans ht8);have hw:w=GQ.drew:=by
        rcases hw3 (n10 (by decide)) w hI.wo with ⟨h7,_⟩|⟨h6,_⟩|⟨_,rfl⟩
        . exact absurd (D6 (D7b h7)) (by rw [hb];decide)
        . exact absurd (D6 h6) (by rw [hb];decide)
        . rfl
      obtain ⟨q0,q1,q2,q3,q4,q5,q6,q7,q8⟩:=hq w (by rw [hw];rfl);exact I7 rfl ho rfl rfl (by unfold execOp;simp only [t8];go_simp) (hI.put (i:=5) (by decide) rfl hl (hI.wo.trans (OU (i:=5) (by decide) (by decide) (by decide)).symm))
    ·
      obtain ⟨af,p,ty,ho'⟩:=zx;obtain rfl:=Option.some.inj (ho.symm.trans ho');have t:=Hq (hI.val 5 _ (KH oZ ho hod (by decide)) rfl);have hw:w=GQ.drew:=by
        rcases hw3 (n10 (by decide)) w hI.wo with ⟨h7,_⟩|⟨h6,_⟩|⟨_,rfl⟩
        . exact absurd (D7b h7) (by rw [hb];decide)
        . exact absurd h6 (by rw [hb];decide)
        . rfl
      subst hw;have h7:l[7]?≠some true:=fun h=>absurd (D7b h) (by rw [hb];decide);refine I7 (w':=(GQ.alloc O).drew) rfl ho rfl rfl (by unfold execOp;simp only [List.map_toArray,List.map_cons,List.map_nil,t];rw [← hO];go_simp) (hI.put (i:=6) (by decide) rfl hl ?_);unfold EA;rw [Array.getElem?_setIfInBounds_ne (by decide),Array.getElem?_setIfInBounds_ne (by decide),Array.getElem?_setIfInBounds_self_of_lt (by omega),if_neg (n10 (by decide)),if_neg h7,if_pos rfl]
    ·
      obtain ⟨af,p,ty,ho'⟩:=zA;obtain rfl:=Option.some.inj (ho.symm.trans ho');have ta:=Hq (hI.val 4 _ (KH VY ho hod (by decide)) rfl);have tb:=Hq (hI.val 6 _ (KH VY ho hod (by decide)) rfl);have hw:w=(GQ.alloc O).drew:=by
        rcases hw3 (n10 (by decide)) w hI.wo with ⟨h7,_⟩|⟨_,rfl⟩|⟨h6,_⟩
        . exact absurd h7 (by rw [hb];decide)
        . rfl
        . exact absurd (KH VY ho hod (by decide)) h6
      subst hw;refine I7 (w':=w') (v:=.slice p' n' c') rfl ho rfl rfl (by unfold execOp;simp only [resolve,invoke,builtin,Sem.run_bind,Sem.run_pure,Result.andThen_ok,List.map_toArray,List.map_cons,List.map_nil,ta,tb,hr]) (hI.put (i:=7) (by decide) rfl hl ?_);unfold EA;rw [Array.getElem?_setIfInBounds_ne (by decide),Array.getElem?_setIfInBounds_self_of_lt (by omega),if_neg (n10 (by decide)),if_pos rfl]
    ·
      obtain ⟨af,p,ty,ho'⟩:=wX;obtain rfl:=Option.some.inj (ho.symm.trans ho');have t:=Hq (hI.val 0 _ (KH yR ho hod (by decide)) rfl);exact I7 rfl ho rfl rfl (by unfold execOp;simp only [t];go_simp) (hI.put (i:=8) (by decide) rfl hl (hI.wo.trans (OU (i:=8) (by decide) (by decide) (by decide)).symm))
    ·
      obtain ⟨af,p,ty,ho'⟩:=yj;obtain rfl:=Option.some.inj (ho.symm.trans ho');have t:=Hq (hI.val 8 _ (KH pY ho hod (by decide)) rfl);exact I7 rfl ho rfl rfl (by unfold execOp;simp only [t];go_simp) (hI.put (i:=9) (by decide) rfl hl (hI.wo.trans (OU (i:=9) (by decide) (by decide) (by decide)).symm))
    ·
      obtain ⟨af,p,ty,ho'⟩:=rX;obtain rfl:=Option.some.inj (ho.symm.trans ho');have h10:∀ j,j∈[9,7]->l[j]?=some true:=fun j hj=>UZ qh ho hod hj;have ta:=Hq (hI.val 9 _ (h10 9 (by decide)) rfl);have tb:=Hq (hI.val 7 _ (h10 7 (by decide)) rfl);have hw:w=w':=by rw [hI.wo];unfold EA;rw [if_neg (by rw [hb];decide),if_pos (h10 7 (by decide))]
      subst hw;refine UY (w':=w.setCell ⟨b,9,none⟩ (.slice p' n' c')) rfl ho rfl rfl (by unfold execOp;simp only [ta,tb];go_simp) ⟨hI.ds,hI.size,hI.low,fun j u hj hu=>?_,?_⟩
      . have Acr:10≠j:=fun e=>by subst e;simp at hu
        rw [Array.getElem?_setIfInBounds_ne Acr] at hj;exact hI.val j u hj hu
      . unfold EA;rw [Array.getElem?_setIfInBounds_self_of_lt (by omega),if_pos rfl]
  . intro l a w hI hl hall;rw [eT] at hall;obtain ⟨at',pR⟩:=a;obtain rfl:pR=[]:=hI.ds;have hw:w=w'.setCell ⟨b,9,none⟩ (.slice p' n' c'):=by rw [hI.wo];unfold EA;rw [if_pos (hall 10 (by decide))]
    have hbn:∀ g,((Value.slice p' n' c').ownBlock=some g->(own g/\ans.ownBlock=some g)\/GQ.heap.size+1<=g):=fun g hg=>by
      rcases g3 with h3|⟨h3,_⟩
      . rw [h3] at hg;exact .inl ⟨hA.co g (hblk g hg).1,hg⟩
      . have:=h3 g hg;simp at this;exact .inr this
    subst hw;refine hJ (.slice p' n' c') _ at' (wY hs hI.size hI.low) (hA1.wrote Ac1 WL hints hblk g1 (fun g hg hga=>?_) (fun g hg=>(hbn g hg).imp id fun h=>by omega) ?_) ?_
    . rcases g3 with h3 | ⟨_,h3⟩
      . exact hgb g hg fun e=>hga (h3.trans e)
      . rw [h3.block g (by show g < (GQ.alloc O).heap.size;simp;omega) (by simp)]
        exact Below.heap_alloc GQ O g hg
    . have:=g2.size;have h2:((GQ.alloc O).drew).heap.size=GQ.heap.size+1:=by show (GQ.alloc O).heap.size=_;simp
      rw [h2] at this;omega
    . have:=g2.size;have h2:((GQ.alloc O).drew).heap.size=GQ.heap.size+1:=by show (GQ.alloc O).heap.size=_;simp
      rw [h2] at this;rw [← hh];simp [World.setCell];omega
end
end
section
section
variable {Cs Sg:Type}{D:Dr G5 Cs Sg}{m:Mem Sg}{ρ:Rn}{b k:Nat}{cf:Frame}{fs:List Frame}{W:World}{σ:Sg}
variable {pb:Nat}{wv dv cv u7 u8 QV Jo I6:Value}{ds:List Deferred}{K:List Item}
theorem Mq.re {x:Wx (Wk G5 Cs) Sg ρ}{own core:Nat->Prop}{z:Wk G5 Cs}{ans:Value}{gr:Bool}(hA:Mq m b k ⟨x,own,core,pb,z,gr,ans⟩ σ W)(l:List G5):Mq m b k ⟨x,own,core,pb,{ z with todo:=l },gr,ans⟩ σ W:=
  hA.turn hA.row ⟨fun _ _=>rfl,rfl⟩ rfl rfl rfl rfl hA.cap
theorem iy {s:Jl G5 Cs Sg ρ}{recv:Value}{Ry:FuncId}(hD:RD (MP D m ρ b k) dv Ry recv)(hdv:∃ t v,dv=.iface t v)(hns:¬ ρ.shut)(hA:Mq m b k s σ W)(hT:wu s σ)(hpb:s.pb=pb){cs:List G5}{i:Nat}{c:G5}{l:List G5}(hcs:∀ σ W,m.Inv σ W->Nf W cv cs)(hi:cs[i]?=some c)(htd:s.z.todo=c :: l)(hlen:s.z.out.length < 1000000)(hwv:wv=.pointer (some ⟨b,0,none⟩)){tm:Array Value}(hs:Sl wv dv cv pb u7 u8 cv Jo (.int .i64 i) tm)(hJ:∀ s' σ' W' u7' u8' tm',Sl wv dv cv pb u7' u8' cv Jo (.int .i64 i) tm'->Mq m b k s' σ' W'->wu s' σ'->s'.pb=pb->s'.z.todo=l->s'.z.out.length=s.z.out.length+1->s'.x.1.1.v.h=s.x.1.1.v.h->s'.x.1.2 < s.x.1.2->JL (SW (H9 D m) ρ Try.prog).L s'.x (G ((base 78).at ⟨tm',ds⟩ K) (cf :: fs)) W') :
    JL (SW (H9 D m) ρ Try.prog).L s.x (G ((base 78).at ⟨tm,ds⟩ (.code Vu :: K)) (cf :: fs)) W:=by
  rw [uU];refine GY stepG_seq ?_;refine sW hA (hcs σ) hi hs fun s1 N7 pa pn pc W1 WX hs1 hA1 hx1 hp1 hz1 hg1 ha1 hN7 h7 hW1=>?_;refine GY stepG_seq ?_;obtain ⟨v9,Ae,Af,Ah,Ai,Aj,Ak,Al,Am,Ao,Ap,Aq,Ar,Au,Av,Aw,Ay,Az,AA,AB,AJ,AL,AO,AP,AQ,AU,AV,AX,AY,AZ,A8,A9,Ba,Bb,Bc,Bf,Bh,Bj,Bl,Bp,Bq,Br,Bu,Bv,Bw,Bz,BD,BF,BG,BH,BI,BJ,BK,BL,BM,BN,BO,BP,BQ,BR,BS,BU,BX,BZ,Ca,Cb,Cc,Ce,Cg,rfl⟩:=hs1;obtain ⟨hgr,hcur,hbg,Ot⟩:=hT;refine dZ hns hA1 ⟨hg1.trans hgr,by rw [hz1];exact hcur,by rw [hz1];exact hbg,by rw [hx1,hz1];exact Ot⟩ (hp1.trans hpb) (c:=c) (l:=l) (by rw [hz1];exact htd) fun s2 t σ2 W2 hA2 PS ht2 ho2 hc2 hp2 hr2 Aek hk2 hW2=>?_;have hcap2:=hA2.cap;simp only [Bool.toNat_true] at hcap2;refine GY stepG_seq ?_
  have hs2:Sl wv dv cv pb (.pointer (some ⟨N7,0,none⟩)) u8 cv Jo (.int .i64 i) #[wv,dv,cv,.pointer (some ⟨pb,0,none⟩),undef,undef,undef,.pointer (some ⟨N7,0,none⟩),u8,v9,cv,Jo,.int .i64 i,Ae,Af,Ah,.pointer (some ⟨b,0,none⟩),.tuple #[],.pointer (some ⟨b,0,none⟩),.tuple #[],Am,Ao,Ap,Aq,Ar,Au,Av,Aw,Ay,Az,AA,AB,AJ,AL,AO,AP,AQ,AU,AV,AX,AY,AZ,A8,A9,Ba,Bb,Bc,Bf,Bh,Bj,Bl,Bp,Bq,Br,Bu,Bv,Bw,Bz,BD,BF,BG,BH,BI,BJ,BK,BL,BM,BN,BO,BP,BQ,BR,BS,BU,BX,BZ,Ca,Cb,Cc,Ce,Cg]:=⟨v9,Ae,Af,Ah,.pointer (some ⟨b,0,none⟩),.tuple #[],.pointer (some ⟨b,0,none⟩),.tuple #[],Am,Ao,Ap,Aq,Ar,Au,Av,Aw,Ay,Az,AA,AB,AJ,AL,AO,AP,AQ,AU,AV,AX,AY,AZ,A8,A9,Ba,Bb,Bc,Bf,Bh,Bj,Bl,Bp,Bq,Br,Bu,Bv,Bw,Bz,BD,BF,BG,BH,BI,BJ,BK,BL,BM,BN,BO,BP,BQ,BR,BS,BU,BX,BZ,Ca,Cb,Cc,Ce,Cg,rfl⟩
  have Ady:s2.pb=pb:=hp2.trans (hp1.trans hpb);rw [Ady] at hA2;refine qX hA2 (by omega) hs2 fun W3 tm3 hs3 hA3 ht3=>?_;have xH:=hA3.re l;refine GY stepG_seq ?_;have h7':W3.heap[N7]?=some (.cells #[.int .i64 c.kind,.int .i64 c.a,.int .i64 c.b,.int .i64 c.c,.slice pa pn pc] 32 (0,0)):=by rw [ht3.other N7 hN7.2,hk2 N7 hN7];exact h7
  refine vC (s:=⟨s2.x,s2.own,s2.core,pb,{ s1.z with st:=t,bg:=t,ow:=0,todo:=l },true,s1.ans⟩) hD hdv hns xH rfl (c:=c) ⟨rfl,?_⟩ h7' hs3 hwv fun s4 σ4 W4 e iv N8 tm4 hs4 XU XT hk4 hE4 xq hN8 h8 Ov=>?_
  . show s2.x.1.1.tgt=_;rw [Aek,hz1];have hzk:=xH.zk;simp only at hzk;unfold Dr.hold;rw [hcur,htd];simp only [Jl.up,if_true];rw [hz1] at hzk;rw [hzk,hcur];cases D.init k c σ2 <;> rfl
  rw [vw];refine GY stepG_seq ?_;obtain ⟨x4,aK,Ws,ZJ,z4,wD,ZQ⟩:=s4;obtain rfl:ZJ=pb:=XT.pb;have Ac7:Ws=s2.core:=XT.core;have xC:ZQ=s1.ans:=XT.ans;have hb4:aK b:=XU.co b XU.cb;refine rW XU hs4 fun W5 tm5 hs5 SF ht5=>?_;have Ado:N8≠b:=fun e=>hN8 (.inl (e ▸ hb4));rw [← ht5.other N8 Ado] at h8;refine GY stepG_seq ?_;refine mD SF h8 (fun h=>hN8 h) hs5 fun W6 tm6 hs6 hA6 h86 ht6=>?_;refine GY stepG_seq ?_;have hI6:Jg W6 (fun g=>aK g/\g≠b/\g≠ZJ/\ZQ.ownBlock≠some g) iv e.ints:=by
    refine (xq.TW (w':=W6) fun g hg=>.of ?_).mono fun g hg=>⟨hg.1.1,hg.1.2,fun e=>hg.2 ⟨?_,hg.1.2⟩,fun ha=>hg.2 ⟨?_,hg.1.2⟩⟩
    . rw [ht6.other g fun e=>hN8 (.inl (e ▸ hg.1.1)),ht5.other g hg.1.2]
    . rw [e];exact hA3.co _ hA3.RL
    . have:=hA3.am.blk g (by rw [← xC];exact ha)
      exact hA3.co g this.1
  have zu:z4.out=s.z.out:=by have:=XT.out;rw [hz1] at this;exact this
  have Afu:z4.todo=l:=XT.todo;have u6:(Jl.up ⟨x4,aK,Ws,ZJ,z4,wD,ZQ⟩).out=z4.out:=by unfold Jl.up;cases wD <;> rfl
  have hut:(Jl.up ⟨x4,aK,Ws,ZJ,z4,wD,ZQ⟩).todo=z4.todo:=by unfold Jl.up;cases wD <;> rfl
  have zQ:x4.1.1.tgt=(Jl.up ⟨x4,aK,Ws,ZJ,z4,wD,ZQ⟩).land (σ4,.inr (e,false)):=hE4;generalize Jl.up ⟨x4,aK,Ws,ZJ,z4,wD,ZQ⟩=u at SF hA6 h86 u6 hut zQ;refine nD hA6 (e:=e) h86 hI6 hs6 (by rw [u6,zu];exact hlen) fun a7 W7 tm7 hs7 hA7 zB=>?_;refine GY stepG_seq ?_;refine mU hA7 hs7 fun W8 tm8 hs8 hA8 ht8=>?_;refine lD hA8 hs8 fun W9 tm9 hs9 hA9 ht9=>?_;refine hJ _ σ4 W9 _ _ tm9 hs9 hA9 ⟨rfl,rfl,rfl,?_⟩ rfl (hut.trans Afu) (by show (u.out ++ [_]).length=_;rw [u6,zu];simp) ?_ ?_
  . show x4.1.1.tgt=_;rw [zQ,Wk.Xh];simp [Wk.fin]
  . show x4.1.1.v.h=_;have:=XT.h;rw [← hx1];exact this.trans PS
  . show x4.1.2 < s.x.1.2;have h1:x4.1.2<=s2.x.1.2:=XT.r;rw [← hx1];omega
end
end
section
section
variable {Cs Sg:Type}{D:Dr G5 Cs Sg}{m:Mem Sg}{ρ:Rn}{b k:Nat}{cf:Frame}{fs:List Frame}{W:World}{σ:Sg}
variable {pb:Nat}{wv dv cv u7 u8 QV Jo I6:Value}{ds:List Deferred}{K:List Item}
theorem Xu {x:Wx (Wk G5 Cs) Sg ρ}{cs:List G5}{i:Nat}(hi:i<=1000000)(hn:cs.length<=1000000){tm:Array Value}(hs:Sl wv dv cv pb u7 u8 cv (.int .i64 (cs.length:Nat)) (.int .i64 i) tm)(hJ:∀ W' tm',Sl wv dv cv pb u7 u8 cv (.int .i64 (cs.length:Nat)) (.int .i64 i) tm'->tm'[13]?=some (.bool (decide (i < cs.length)))->W'.heap=W.heap->JL (SW (H9 D m) ρ Try.prog).L x (G ((base 78).at ⟨tm',ds⟩ K) (cf :: fs)) W') :
    JL (SW (H9 D m) ρ Try.prog).L x (G ((base 78).at ⟨tm,ds⟩ (.code pl3 :: K)) (cf :: fs)) W:=by
  obtain ⟨v9,Ae,Af,Ah,Ai,Aj,Ak,Al,Am,Ao,Ap,Aq,Ar,Au,Av,Aw,Ay,Az,AA,AB,AJ,AL,AO,AP,AQ,AU,AV,AX,AY,AZ,A8,A9,Ba,Bb,Bc,Bf,Bh,Bj,Bl,Bp,Bq,Br,Bu,Bv,Bw,Bz,BD,BF,BG,BH,BI,BJ,BK,BL,BM,BN,BO,BP,BQ,BR,BS,BU,BX,BZ,Ca,Cb,Cc,Ce,Cg,rfl⟩:=hs;refine HY.Ht (S:=SW (H9 D m) ρ Try.prog) (b:=base 78) [] (by simp) (by kernel_rfl) nE (by kernel_rfl) fun GQ ha=>?_;have hh:=Io ha;have HH:=Lib.hid (And.intro hJ hh);clear hJ hh;dsimp only;simp only [pl3,VO,Try.f78];gi_wp2;obtain ⟨hJ,hh⟩:=HH.out;refine hJ GQ _ ⟨_,_,_,_,_,_,_,_,_,_,_,_,_,_,_,_,_,_,_,_,_,_,_,_,_,_,_,_,_,_,_,_,_,_,_,_,_,_,_,_,_,_,_,_,_,_,_,_,_,_,_,_,_,_,_,_,_,_,_,_,_,_,_,_,_,_,_,_,_,rfl⟩ (by simp) hh
theorem dG {x:Wx (Wk G5 Cs) Sg ρ}{i:Nat}(hi:i < 1000000){tm:Array Value}(hs:Sl wv dv cv pb u7 u8 cv Jo (.int .i64 i) tm)(hJ:∀ W' tm',Sl wv dv cv pb u7 u8 cv Jo (.int .i64 ((i+1:Nat):Int)) tm'->W'.heap=W.heap->JL (SW (H9 D m) ρ Try.prog).L x (G ((base 78).at ⟨tm',ds⟩ K) (cf :: fs)) W') :
    JL (SW (H9 D m) ρ Try.prog).L x (G ((base 78).at ⟨tm,ds⟩ (.code vU :: K)) (cf :: fs)) W:=by
  obtain ⟨v9,Ae,Af,Ah,Ai,Aj,Ak,Al,Am,Ao,Ap,Aq,Ar,Au,Av,Aw,Ay,Az,AA,AB,AJ,AL,AO,AP,AQ,AU,AV,AX,AY,AZ,A8,A9,Ba,Bb,Bc,Bf,Bh,Bj,Bl,Bp,Bq,Br,Bu,Bv,Bw,Bz,BD,BF,BG,BH,BI,BJ,BK,BL,BM,BN,BO,BP,BQ,BR,BS,BU,BX,BZ,Ca,Cb,Cc,Ce,Cg,rfl⟩:=hs;refine HY.Ht (S:=SW (H9 D m) ρ Try.prog) (b:=base 78) [] (by simp) (by kernel_rfl) nE (by kernel_rfl) fun GQ ha=>?_;have hh:=Io ha;have hw:RowKit.wrap64 ((i:Int)+1)=((i+1:Nat):Int):=Nq (by omega);have hl1:(-9223372036854775808:Int)<=(i:Int)+1:=by omega
  have hl2:(i:Int)+1<=9223372036854775807:=by omega
  have HH:=Lib.hid (And.intro hJ (And.intro hh hw));clear hJ hh hw;dsimp only;simp only [vU,VO,Try.f78];gi_wp2;obtain ⟨hJ,hh,hw⟩:=HH.out;exact hJ GQ _ ⟨_,_,_,_,_,_,_,_,_,_,_,_,_,_,_,_,_,_,_,_,_,_,_,_,_,_,_,_,_,_,_,_,_,_,_,_,_,_,_,_,_,_,_,_,_,_,_,_,_,_,_,_,_,_,_,_,_,_,_,_,_,_,_,_,_,_,_,_,_,rfl⟩ hh
theorem fF {recv:Value}{Ry:FuncId}(hD:RD (MP D m ρ b k) dv Ry recv)(hdv:∃ t v,dv=.iface t v)(hns:¬ ρ.shut){cs:List G5}(hcs:∀ σ W,m.Inv σ W->Nf W cv cs)(hcl:cs.length<=1000000)(hwv:wv=.pointer (some ⟨b,0,none⟩)){h:Nat}(hJ:∀ s' σ' W' tm',Mq m b k s' σ' W'->wu s' σ'->s'.pb=pb->s'.z.todo=[]->s'.x.1.1.v.h=h->JL (SW (H9 D m) ρ Try.prog).L s'.x (G ((base 78).at ⟨tm',ds⟩ K) (cf :: fs)) W') :
    ∀ (l:List G5) (s:Jl G5 Cs Sg ρ) (σ:Sg) (W:World) (i:Nat) (u7 u8:Value) (tm:Array Value),cs.drop i=l->Mq m b k s σ W->wu s σ->s.pb=pb->s.z.todo=l->s.z.out.length=i->i<=1000000->s.x.1.1.v.h=h->Sl wv dv cv pb u7 u8 cv (.int .i64 (cs.length:Nat)) (.int .i64 i) tm->
    JL (SW (H9 D m) ρ Try.prog).L s.x (G ((base 78).at ⟨tm,ds⟩ (.code VO :: .inLoop VO :: .inBlock 0 :: K)) (cf :: fs)) W:=by
  intro l;induction l with
  | nil=>
    intro s σ W i u7 u8 tm hl hA hT hpb htd ho hi6 hh hs;have hge:cs.length<=i:=List.drop_eq_nil_iff.1 hl;rw [Yl];refine GY stepG_seq ?_;refine Xu hi6 hcl hs fun W1 WX hs1 rG hw1=>?_;rw [decide_eq_false (by omega)] at rG;refine GY stepG_seq ?_;refine JL.Ho (Hq rG) ?_;refine JL.exit rfl ?_;exact hJ s σ W1 WX (hA.alike hw1) hT hpb htd hh
  | cons c l ih=>
    intro s σ W i u7 u8 tm hl hA hT hpb htd ho hi6 hh hs;have hlt:i < cs.length:=by
      rcases Nat.lt_or_ge i cs.length with h|h
      . exact h
      . rw [List.drop_eq_nil_of_le h] at hl;cases hl
    have hi:cs[i]?=some c:=by
      have:=congrArg (·[0]?) hl
      simpa using this
    have hl':cs.drop (i+1)=l:=by
      have:=congrArg List.tail hl
      simpa using this
    rw [Yl];refine GY stepG_seq ?_;refine Xu (by omega) hcl hs fun W1 WX hs1 rG hw1=>?_;rw [decide_eq_true hlt] at rG;refine GY stepG_seq ?_;refine JL.Iq (Hq rG) ?_;refine GY stepG_skip ?_;refine GY stepG_seq ?_;refine GY stepG_block ?_;refine iy hD hdv hns (hA.alike hw1) hT hpb hcs hi htd (by omega) hwv hs1 fun s' σ' W' u7' u8' tm' hs' hA' hT' vO jl ho' hh' _=>?_;refine GY stepG_inBlock ?_;refine dG (by omega) hs' fun W2 wF hs2 hw2=>?_;refine GY stepG_inLoop ?_;rw [← Yl];exact ih s' σ' W2 (i+1) u7' u8' wF hl' (hA'.alike hw2) hT' vO jl (by rw [ho',ho]) (by omega) (hh'.trans hh) hs2
end
end
section
noncomputable def lp0:Code:=match Try.f103.body with | some (.seq (.seq c _) _)=>c | _=>.skip
noncomputable def lp1:Code:=match Try.f103.body with | some (.seq (.seq _ c) _)=>c | _=>.skip
noncomputable def lp2:Code:=match Try.f103.body with | some (.seq _ (.seq c _))=>c | _=>.skip
noncomputable def lp3:Code:=match Try.f103.body with | some (.seq _ (.seq _ (.seq c _)))=>c | _=>.skip
noncomputable def wC:Code:=match Try.f103.body with | some (.seq _ (.seq _ (.seq _ c)))=>c | _=>.skip
theorem lK:Try.f103.body=some (.seq (.seq lp0 lp1) (.seq lp2 (.seq lp3 wC))):=rfl
noncomputable def Xj:Code:=match wC with | .seq _ c=>c | _=>.skip
noncomputable def UD:Array Oper:=match wC with | .seq (.region _ ops _) _=>ops | _=>#[]
theorem oI:∃ id,wC=.seq (.region id UD false) Xj:=⟨_,rfl⟩
section
variable {c:Frame}{cs:List Frame}
theorem tu {k co go:Nat}{v0 v1 v2 v3 v4 v5 v6 v7 v8 v9 Aa Ab Ac Ae Af Ai Aj Ak Am Ao Ap Ar Au Av Aw:Value}(w:World):stepG Try.prog false (G ((baseD 103).at ⟨#[v0,v1,v2,v3,v4,v5,v6,v7,v8,v9,Aa,Ab,Ac,Ae,Af,.chan (some co),Ai,Aj,Ak,.int .i64 k,Am,Ao,Ap,.chan (some go),Ar,Au,Av,Aw],[]⟩ [.inRegion UD [0,1,2,3],.code Xj]) (c :: cs)) w =
    .comm (G ((baseD 103).at ⟨#[v0,v1,v2,v3,v4,v5,v6,v7,v8,v9,Aa,Ab,Ac,Ae,Af,.chan (some co),Ai,Aj,Ak,.int .i64 k,Am,Ao,Ap,.chan (some go),Ar,Au,Av,Aw],[]⟩ [.inRegion UD [0,1,2,3],.code Xj]) (c :: cs)) #[scase co (.int .i64 k) (.int .i64 0),rcase go (.agg #[])] true .select w #[]:=by
  simp only [UD,wC,Try.f103];rw [stepG_comm (cases:=#[scase co (.int .i64 k) (.int .i64 0),rcase go (.agg #[])]) (blocking:=true) (shape:=.select) (w':=w) rfl rfl (by decide) ?_,listed_none ?_]
  . simp [go_sem]
  . go_simp
    exact ⟨rfl,rfl⟩
theorem uz {main:Bool}{Γ:Type}{S:Sn Try.prog main Γ}{γ:Γ}{W:World}{k co go:Nat}{zi zg:Value}{v0 v1 v2 v3 v4 v5 v6 v7 v8 v9 Aa Ab Ac Ae Af Ai Aj Ak Am Ao Ap Ar Au Av Aw:Value}{tm:Array Value}(h:JL S γ (G (c.finish (.tuple #[])) cs) W) :
    JL S γ ((G ((baseD 103).at ⟨#[v0,v1,v2,v3,v4,v5,v6,v7,v8,v9,Aa,Ab,Ac,Ae,Af,.chan (some co),Ai,Aj,Ak,.int .i64 k,Am,Ao,Ap,.chan (some go),Ar,Au,Av,Aw],[]⟩ [.inRegion UD [0,1,2,3],.code Xj]) (Jz 78 tm [] [] .returning .normal :: c :: cs)).finishComm Try.prog #[scase co (.int .i64 k) zi,rcase go zg] .select (0:Nat) undef false) W:=by
  rw [JC];simp only [UD,wC,Xj,Try.f103];have hc:commResult #[scase co (.int .i64 k) zi,rcase go zg] .select ((0:Nat):Int) undef false=.tuple #[.int .i64 0,.bool false,zg]:=by simp [commResult,scase,rcase,goInt]
  rw [hc];walk_nrm;iterate 3 (refine Hf ?_;walk_nrm)
  refine GY stepG_region_end ?_;refine GY stepG_block ?_;refine JL.Iq rfl ?_;refine GY stepG_skip ?_;refine GY stepG_inBlock ?_;refine GY stepG_end ?_;refine JL.leaveD rfl rfl Try.func103 rfl rfl ?_;show JL S γ (G { (base 78).at ⟨tm,[]⟩ [] with mode:=.returning } (c :: cs)) W;exact JL.Za rfl rfl Try.func78 rfl h
end
section
variable {Cs Sg:Type}{D:Dr G5 Cs Sg}{m:Mem Sg}{ρ:Rn}{b k:Nat}{cf:Frame}{fs:List Frame}{W:World}{σ:Sg}
def eZ (pb:Nat):Deferred:={ target:=.fn (.func 103) #[.pointer (some ⟨pb,0,none⟩)],args:=#[] }
theorem ji {s:Jl G5 Cs Sg ρ}{pb:Nat}{tm:Array Value}(hns:¬ ρ.shut)(hA:Mq m b k s σ W)(hT:wu s σ)(htd:s.z.todo=[])(hpb:s.pb=pb)(OC:∀ W,JL (SG Try.prog ρ.ty ρ.Wg (Qx Try.prog ρ.ty ρ.Wg)) () (G (cf.finish (.tuple #[])) fs) W) :
    JL (SW (H9 D m) ρ Try.prog).L s.x (G ((base 78).at ⟨tm,[eZ pb]⟩ []) (cf :: fs)) W:=by
  obtain ⟨x,own,core,pb',z,gr,ans⟩:=s;obtain rfl:pb'=pb:=hpb;obtain ⟨hgr,hcur,hbg,Ot⟩:=hT;simp only at hgr hcur hbg Ot htd;subst hgr;have he:z.todo.isEmpty=true:=by rw [htd];rfl
  rw [he] at Ot;obtain rfl:x.1.1.v.b=b:=hA.vb;obtain rfl:x.1.1.v.k=k:=hA.vk;refine GY stepG_end ?_;refine JW.defers (S:=(SW (H9 D m) ρ Try.prog).base) Try.func103 (by kernel_rfl) rfl (by simp) ?_;rw [enter_atD _ Try.func103 lK];have ht:#[] ++ #[.pointer (some ⟨pb',0,none⟩)] ++ Array.replicate (Try.f103.ntmps - (#[] ++ #[.pointer (some ⟨pb',0,none⟩)]:Array Value).size) undef=#[.pointer (some ⟨pb',0,none⟩),undef,undef,undef,undef,undef,undef,undef,undef,undef,undef,undef,undef,undef,undef,undef,undef,undef,undef,undef,undef,undef,undef,undef,undef,undef,undef,undef]:=by
    have:Try.f103.ntmps=28:=by kernel_rfl
    rw [this];walk_nrm
  rw [ht];show JL (SW (H9 D m) ρ Try.prog).L x _ W;generalize hcf:(Jz _ _ _ _ _ _:Frame)=cd;have hcm:cd.mode=.returning:=by rw [← hcf]
  refine GY stepG_seq ?_;refine GY stepG_seq ?_;simp only [lp0,Try.f103];refine Hu fun _ hkk=>?_;refine JL.WY rfl rfl rfl rfl hcm ?_;walk_nrm;refine JL.KX (.tuple #[.agg #[],.bool false]) rfl rfl nE (fun _=>by kernel_rfl) ?_;walk_nrm
  (refine Hf ?_;walk_nrm)
  refine JL.KX (.agg #[]) rfl rfl nE (fun _=>by kernel_rfl) ?_;walk_nrm;refine JL.KX (.bool false) rfl rfl nE (fun _=>by kernel_rfl) ?_;walk_nrm;have HH:=Lib.hid (And.intro hA (And.intro Ot (And.intro hcf OC)));clear hA Ot OC;refine HY.JR (S:=SW (H9 D m) ρ Try.prog) (b:=baseD 103) 5 [] (by simp) (by kernel_rfl) nE rfl (by kernel_rfl) fun GQ ha=>?_;dsimp only [List.drop];gi_wp2;refine ⟨rfl,?_⟩;obtain ⟨hA,Ot,hcf,OC⟩:=HH.out;clear HH;have hA1:=(hA.alike (Io ha)).lay D (N:=GQ.heap.size) (W':=GQ.alloc (.cells #[] 180)) rfl ⟨_,_,_,heap_alloc_new _ _⟩ (fun b hb=>Below.heap_alloc _ _ _ hb) (by simp);generalize GQ.alloc (.cells #[] 180)=W2 at *;generalize hown:(fun g=>own g\/g=GQ.heap.size)=jF;have hA2:Mq m x.1.1.v.b x.1.1.v.k ⟨x,jF,core,pb',z,false,ans⟩ σ W2:=by rw [← hown];exact hA1
  clear hA hA1;show JL (SW (H9 D m) ρ Try.prog).L x _ W2;dsimp only;refine Hw ?_;cases hkk;simp only [lp1,Try.f103];refine GY stepG_seq ?_;refine Hu fun _ hkk=>?_
  (refine Hf ?_;walk_nrm)
  refine Hw ?_;cases hkk;refine JL.Ho rfl ?_;refine GY stepG_skip ?_;refine GY stepG_seq ?_;refine HY.Ht (S:=SW (H9 D m) ρ Try.prog) (b:=baseD 103) [] (by simp) (by kernel_rfl) nE (by kernel_rfl) fun Hl Ky=>?_;have hh3:=Io Ky;have hA3:=hA2.alike hh3;obtain ⟨c5,c6,c7,c8,c9,c10,c11⟩:=hA3.row.cells;have f10:Hl.frozen? ⟨x.1.1.v.b,10,none⟩=false:=hA3.row.frozen;have hpc:=hA3.pc;have HH:=Lib.hid (And.intro hA2 (And.intro Ot (And.intro hcf (And.intro OC (And.intro hA3 hh3)))));clear hA2 Ot OC hA3 hh3;simp only at hpc c5 c6 c7 c8 c9 c10 c11;simp only [lp2,Try.f103];gi_wp2;obtain ⟨hA2,Ot,hcf,OC,hA3,hh3⟩:=HH.out;clear HH c5 c6 c7 c8 c9 c10 c11 f10;have hrow:=hA3.row;unfold IQ at hrow;generalize Ov:World.setCell _ _ _=W4
  have hrow4:W4.heap[x.1.1.v.b]?=some (.cells #[.int .i64 x.1.1.v.k,.bool true,.chan (some x.1.1.v.t),.chan (some ρ.come),.chan (some ρ.gone),.bool false,.int .i64 z.st,.int .i64 z.bg,.int .i64 z.ow,ans,.bool true,.bool false] 157 (0,0)):=by rw [← Ov];simp [World.setCell,Array.getElem?_modify,hrow]
  have XB:∀ g,g≠x.1.1.v.b->W4.heap[g]?=Hl.heap[g]?:=fun g hg=>by rw [← Ov];simp [World.setCell,Array.getElem?_modify,hg.symm]
  clear Ov;show JL (SW (H9 D m) ρ Try.prog).L x _ W4;try dsimp only
  refine GY stepG_seq ?_;refine HY.Ht (S:=SW (H9 D m) ρ Try.prog) (b:=baseD 103) [] (by simp) (by kernel_rfl) nE (by kernel_rfl) fun KQ aT=>?_;have Pw:=Io aT;have d0:KQ.cell? ⟨x.1.1.v.b,0,none⟩=some (.int .i64 x.1.1.v.k):=by simp [World.cell?,Pw,hrow4]
  have d3:KQ.cell? ⟨x.1.1.v.b,3,none⟩=some (.chan (some ρ.come)):=by simp [World.cell?,Pw,hrow4]
  have d4:KQ.cell? ⟨x.1.1.v.b,4,none⟩=some (.chan (some ρ.gone)):=by simp [World.cell?,Pw,hrow4]
  have epb:KQ.heap[pb']?=Hl.heap[pb']?:=by rw [Pw];exact XB pb' hA3.VW
  have Akf:KQ.cell? ⟨pb',0,none⟩=some (.pointer (some ⟨x.1.1.v.b,0,none⟩)):=by rw [cell_of (a:=⟨pb',0,none⟩) epb];exact hA3.pc
  have HH:=Lib.hid (And.intro hA2 (And.intro Ot (And.intro hcf (And.intro OC (And.intro hA3 (And.intro hh3 (And.intro Pw (And.intro hrow4 (And.intro XB hrow)))))))));clear hA2 Ot OC hA3 hh3 Pw hrow4 XB hrow hpc;simp only [lp3,Try.f103];gi_wp2;obtain ⟨hA2,Ot,hcf,OC,hA3,hh3,Pw,hrow4,XB,hrow⟩:=HH.out;clear HH;show JL (SW (H9 D m) ρ Try.prog).L x _ KQ;try dsimp only
  obtain ⟨id,e⟩:=oI;rw [e];refine GY stepG_seq ?_;refine JL.region (l:=[0,1,2,3]) rfl fun _ hk=>?_;cases hk
  subst hcf;have h1:=hA3.zi;have h2:=hA3.zg;have PN:=hrow4;rw [← Pw] at PN;have Sm:∀ g,g≠x.1.1.v.b->KQ.heap[g]?=Hl.heap[g]?:=fun g hg=>by rw [Pw];exact XB g hg
  have hbS:¬ m.Sh x.1.1.v.b:=(hA3.o3 _ (hA3.co _ hA3.cb)).2.1;obtain ⟨mm,hm⟩:=SG.goes (P:=Try.prog) (ty:=ρ.ty) (Wg:=ρ.Wg) (Stop:=Qx Try.prog ρ.ty ρ.Wg) fun W=>uz (S:=SG Try.prog ρ.ty ρ.Wg (Qx Try.prog ρ.ty ρ.Wg)) (γ:=()) (zi:=ρ.zi) (zg:=ρ.zg) (k:=x.1.1.v.k) (co:=ρ.come) (go:=ρ.gone) (OC W);refine SW.sit (M:=H9 D m) (own:=jF) (pb:=pb') rfl (fun w=>?_) (by rw [Ot];exact m.eq σ Hl KQ (fun g hg=>.of (Sm g fun e=>hbS (e ▸ hg))) hA3.inv) hA3.sh (by rw [Ot];exact ⟨hA3.zk,hA3.co _ hA3.cb,_,_,_,_,_,by have e2:=hA3.zf;simp only at e2;simp only [e2];exact PN,hA3.am.TW (fun g hg=>.of (Sm g hg.2.1)) |>.mono fun g hg=>⟨hA3.co g hg.1,hg.2.1⟩⟩) (hA3.co _ hA3.RL) hA3.o1 hA3.o2 (fun g hg=>⟨(hA3.o3 g hg).1,(hA3.o3 g hg).2.1,?_⟩) hA3.NU (fun _=>⟨mm,fun w hl=>.r0 (hm w hl)⟩) (fun e=>by rw [Ot] at e;cases e)
  . rw [tu];simp only [Kj,h1,h2];rfl
  . by_cases e:g=x.1.1.v.b
    . rw [e];exact ⟨_,_,_,PN⟩
    . rw [Sm g e];exact (hA3.o3 g hg).2.2
end
end
section
section
variable {Cs Sg:Type}{D:Dr G5 Cs Sg}{m:Mem Sg}{ρ:Rn}{b k:Nat}{cf:Frame}{fs:List Frame}{W:World}{σ:Sg}
variable {wv dv cv:Value}
structure Xk (D:Dr G5 Cs Sg)(m:Mem Sg)(b k:Nat)(x:Wx (Wk G5 Cs) Sg ρ)(own:Nat->Prop)(z:Wk G5 Cs)(σ:Sg)(W:World):Prop where
  zi:ρ.zi=.int .i64 0
  zg:ρ.zg=.agg #[]
  vb:x.1.1.v.b=b
  vk:x.1.1.v.k=k
  row:IQ W b k x.1.1.v.t ρ.come ρ.gone false z.st z.bg z.ow (.slice none 0 0) false false
  zk:z.k=k
  zo:z.over=false
  zf:z.fell=false
  sN:z.out=[]
  inv:m.Inv σ W
  sh:∀ b,m.Sh b->x.1.1.B b=false
  low:∀ b,x.1.1.B b=true->b < x.1.1.n0
  size:x.1.1.n0<=W.heap.size
  Yu:∀ b,x.1.1.v.own b->b < x.1.1.n0
  cb:own b
  o1:∀ b,x.1.1.v.own b->own b
  o2:∀ b,own b->x.1.1.v.own b\/x.1.1.n0<=b
  o3:∀ b,own b->x.1.1.B b=false/\¬ m.Sh b/\∃ c e f,W.heap[b]?=some (.cells c e f)
  NU:x.1.1.v.own b
  cap:z.ow+x.1.2 < 2 ^ 62
theorem Xk.at {x:Wx (Wk G5 Cs) Sg ρ}{own:Nat->Prop}{z:Wk G5 Cs}(h:Xk D m b k x own z σ W){W':World}(ho:∀ g,g < W.heap.size->W'.heap[g]?=W.heap[g]?)(hs:W.heap.size<=W'.heap.size)(hr:W'.heap[W.heap.size]?=some (.cells #[.pointer (some ⟨b,0,none⟩)] 109 (0,0))) :
    Mq m b k ⟨x,fun g=>own g\/g=W.heap.size,fun g=>own g\/g=W.heap.size,W.heap.size,z,false,.slice none 0 0⟩ σ W':=by
  have hlt:∀ {g},own g->g < W.heap.size:=fun hg=>by obtain ⟨_,_,c,e,f,hc⟩:=h.o3 _ hg;exact (Array.getElem?_eq_some_iff.1 hc).1
  have PK:∀ {g},m.Sh g->g < W.heap.size:=fun hg=>by obtain ⟨c,e,f,hc⟩:=m.rows σ W _ hg h.inv;exact (Array.getElem?_eq_some_iff.1 hc).1
  have hb:=hlt h.cb;exact {
          zi:=h.zi,zg:=h.zg,vb:=h.vb,vk:=h.vk
          row:=by have:=h.row;unfold IQ at this ⊢;rw [ho b hb];exact this
          zk:=h.zk,zo:=h.zo,zf:=h.zf
          am:=by show Nn W' _ _ z.out;rw [h.sN];exact ⟨⟨[],rfl,⟨0,rfl,.inl ⟨rfl,rfl⟩⟩,fun i a iv hi=>by simp at hi⟩,fun g hg=>by cases hg⟩
          inv:=m.eq σ W W' (fun g hg=>.of (ho g (PK hg))) h.inv
          sh:=h.sh,low:=h.low,size:=Nat.le_trans h.size hs,Yu:=h.Yu
          cb:=.inl h.cb,RL:=.inr rfl,co:=fun g hg=>hg
          o1:=fun g hg=>.inl (h.o1 g hg)
          o2:=fun g hg=>hg.elim (h.o2 g) fun e=>.inr (e ▸ h.size)
          o3:=fun g hg=>by
            rcases hg with hg|rfl
            . exact ⟨(h.o3 g hg).1,(h.o3 g hg).2.1,by rw [ho g (hlt hg)];exact (h.o3 g hg).2.2⟩
            . refine ⟨?_,fun hg=>by have:=PK hg;omega,⟨_,_,_,hr⟩⟩
              cases hB:x.1.1.B W.heap.size with
              | false=>rfl
              | true=>
                have h1:W.heap.size < x.1.1.n0:=h.low _ hB;have:=h.size;omega
          NU:=h.NU,VW:=by show W.heap.size≠b;omega
          pc:=by show W'.cell? ⟨W.heap.size,0,none⟩=_;simp [World.cell?,hr]
          cap:=by simpa using h.cap }
theorem j5 {x:Wx (Wk G5 Cs) Sg ρ}{own:Nat->Prop}{z:Wk G5 Cs}{Ry:FuncId}{recv:Value}(hD:RD (MP D m ρ b k) dv Ry recv)(hdv:∃ t v,dv=.iface t v)(hns:¬ ρ.shut)(h:Xk D m b k x own z σ W)(hcur:z.cur=none)(hbg:z.bg=0)(Ot:x.1.1.tgt=({ z with over:=z.todo.isEmpty },σ,z.todo.isEmpty))(hcs:∀ σ W,m.Inv σ W->Nf W cv z.todo)(OC:∀ W,JL (SG Try.prog ρ.ty ρ.Wg (Qx Try.prog ρ.ty ρ.Wg)) () (G (cf.finish (.tuple #[])) fs) W) :
    JW (SW (H9 D m) ρ Try.prog).base x (G (Frame.enter Try.prog 78 #[.pointer (some ⟨b,0,none⟩),dv,cv] .normal) (cf :: fs)) W:=by
  have ht:#[.pointer (some ⟨b,0,none⟩),dv,cv] ++ Array.replicate (Try.f78.ntmps - (#[.pointer (some ⟨b,0,none⟩),dv,cv]:Array Value).size) undef=#[.pointer (some ⟨b,0,none⟩),dv,cv,undef,undef,undef,undef,undef,undef,undef,undef,undef,undef,undef,undef,undef,undef,undef,undef,undef,undef,undef,undef,undef,undef,undef,undef,undef,undef,undef,undef,undef,undef,undef,undef,undef,undef,undef,undef,undef,undef,undef,undef,undef,undef,undef,undef,undef,undef,undef,undef,undef,undef,undef,undef,undef,undef,undef,undef,undef,undef,undef,undef,undef,undef,undef,undef,undef,undef,undef,undef,undef,undef,undef,undef,undef,undef,undef,undef,undef,undef]:=by
    have:Try.f78.ntmps=81:=by kernel_rfl
    rw [this];walk_nrm
  obtain ⟨p,cap,hcv,hcl,_⟩:=hcs σ W h.inv;obtain ⟨dt,dw,rfl⟩:=hdv;rw [enter_at _ Try.func78 kR,ht];show JL (SW (H9 D m) ρ Try.prog).L x _ W;refine GY stepG_seq ?_;refine HY.Ht (S:=SW (H9 D m) ρ Try.prog) (b:=base 78) [] (by simp) (by kernel_rfl) nE (by kernel_rfl) fun GQ ha=>?_;have hh:=Io ha;have HH:=Lib.hid (And.intro hD (And.intro h (And.intro Ot (And.intro hcs (And.intro OC hh)))));clear hD h Ot hcs OC hh;simp only [pc0,Try.f78];gi_wp2;obtain ⟨hD,h,Ot,hcs,OC,hh⟩:=HH.out;clear HH;have h':=h.at (W':=GQ.alloc (.cells #[.pointer (some ⟨b,0,none⟩)] 109 (0,0))) (fun g hg=>by rw [Below.heap_alloc GQ _ g (by rw [hh];exact hg),hh]) (by simp [hh]) (by rw [← hh];exact heap_alloc_new _ _);rw [← hh] at h';generalize GQ.alloc (.cells #[.pointer (some ⟨b,0,none⟩)] 109 (0,0))=W2 at *;generalize GQ.heap.size=pb at *;generalize (fun g=>own g\/g=pb)=jF at *
  show JL (SW (H9 D m) ρ Try.prog).L x _ W2;dsimp only;refine GY stepG_seq ?_;simp only [pc1,Try.f78];refine Hu fun _ hkk=>?_;refine JL.KX (.func (.func 103) #[] #[.pointer (some ⟨pb,0,none⟩)]) rfl rfl nE (fun _=>by kernel_rfl) ?_;walk_nrm;refine JL.Yd rfl rfl nE rfl rfl ?_;walk_nrm;refine Hw ?_;cases hkk;refine GY stepG_seq ?_;have HH:=Lib.hid (And.intro hD (And.intro h' (And.intro Ot (And.intro hcs (And.intro OC h)))));clear hD h Ot hcs OC h' hh;subst hcv;refine HY.Ht (S:=SW (H9 D m) ρ Try.prog) (b:=base 78) [] (by simp) (by kernel_rfl) nE (by kernel_rfl) fun Hl ha=>?_;simp only [pc2,Try.f78];gi_wp2;obtain ⟨hD,h',Ot,hcs,OC,h⟩:=HH.out;clear HH;show JL (SW (H9 D m) ρ Try.prog).L x _ Hl;try dsimp only
  refine GY stepG_block ?_;refine GY stepG_loop ?_;refine fF (K:=[]) (ds:=[eZ pb]) hD ⟨dt,dw,rfl⟩ hns hcs hcl rfl (h:=x.1.1.v.h) (fun s' σ' W' tm' hA' hT' vO jl hh'=>ji hns hA' hT' jl vO OC) z.todo ⟨x,jF,jF,pb,z,false,.slice none 0 0⟩ σ Hl 0 undef undef _ rfl (h'.alike (Io ha)) ⟨rfl,hcur,hbg,Ot⟩ rfl rfl (by rw [h.sN];rfl) (Nat.zero_le _) rfl (by refine ⟨.func (.func 103) #[] #[.pointer (some ⟨pb,0,none⟩)],undef,undef,undef,undef,undef,undef,undef,undef,undef,undef,undef,undef,undef,undef,undef,undef,undef,undef,undef,undef,undef,undef,undef,undef,undef,undef,undef,undef,undef,undef,undef,undef,undef,undef,undef,undef,undef,undef,undef,undef,undef,undef,undef,undef,undef,undef,undef,undef,undef,undef,undef,undef,undef,undef,undef,undef,undef,undef,undef,undef,undef,undef,undef,undef,undef,undef,undef,undef,?_⟩;simp)
end
end
end Go.Proofs.Ytkdhnbcdbnpmhaa
