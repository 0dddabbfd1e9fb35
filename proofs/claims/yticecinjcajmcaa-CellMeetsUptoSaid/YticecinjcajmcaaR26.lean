/-
  Part 26 of the proof that CellMeets returns true, and leaves its arguments as they were, for every input whose reading is of bulk at most 1048576. No further condition.
-/
import Derived.Test.YticecinjcajmcaaR00
import Derived.Test.YticecinjcajmcaaR12
import Derived.Test.YticecinjcajmcaaR13
import Derived.Test.YticecinjcajmcaaR24
import Derived.Test.YticecinjcajmcaaR25
set_option linter.unusedVariables false
set_option linter.unusedSectionVars false
set_option linter.unusedSimpArgs false
set_option maxHeartbeats 4000000
noncomputable section
namespace Go.Proofs.Yticecinjcajmcaa
open Go Go.Conc Go.LT Go.LC Go.LK Go.RowKit
open Go.ConcN (WgLive)
open BA TU
section
def N9:Code:=match Try.f34.body with | some c=>c | _=>.skip
def pd0:Code:=match N9 with | .seq c _=>c | _=>.skip
def pd1:Code:=match N9 with | .seq _ (.seq c _)=>c | _=>.skip
def pd2:Code:=match N9 with | .seq _ (.seq _ (.seq c _))=>c | _=>.skip
def pd4:Code:=match N9 with | .seq _ (.seq _ (.seq _ (.seq c _)))=>c | _=>.skip
def pd5:Code:=match N9 with | .seq _ (.seq _ (.seq _ (.seq _ (.seq c _))))=>c | _=>.skip
def pd6:Code:=match N9 with | .seq _ (.seq _ (.seq _ (.seq _ (.seq _ (.seq c _)))))=>c | _=>.skip
def TF:Code:=match N9 with | .seq _ (.seq _ (.seq _ (.seq _ (.seq _ (.seq _ (.seq (.block _ (.loop (.block _ c))) _))))))=>c | _=>.skip
def dK:Code:=match N9 with | .seq _ (.seq _ (.seq _ (.seq _ (.seq _ (.seq _ (.seq _ c))))))=>c | _=>.skip
theorem iR:Try.f34.body=some (.seq pd0 (.seq pd1 (.seq pd2 (.seq pd4 (.seq pd5 (.seq pd6 (.seq (.block 0 (.loop (.block 1 TF))) dK))))))):=rfl
def pd7:Code:=match TF with | .seq c _=>c | _=>.skip
def pd8:Code:=match TF with | .seq _ (.seq c _)=>c | _=>.skip
def pd9:Code:=match TF with | .seq _ (.seq _ (.seq (.seq c _) _))=>c | _=>.skip
def qG:Code:=match TF with | .seq _ (.seq _ (.seq _ (.seq c _)))=>c | _=>.skip
def nS:Code:=match TF with | .seq _ (.seq _ (.seq _ (.seq _ (.seq c _))))=>c | _=>.skip
def mg:Code:=match TF with | .seq _ (.seq _ (.seq _ (.seq _ (.seq _ (.seq c _)))))=>c | _=>.skip
def eT:Code:=match TF with | .seq _ (.seq _ (.seq _ (.seq _ (.seq _ (.seq _ (.seq c _))))))=>c | _=>.skip
def Yg:Code:=match TF with | .seq _ (.seq _ (.seq _ (.seq _ (.seq _ (.seq _ (.seq _ c))))))=>c | _=>.skip
theorem qy:TF=.seq pd7 (.seq pd8 (.seq (.seq pd9 (.cond (.tmp 42) (.exit 0) .skip)) (.seq qG (.seq nS (.seq mg (.seq eT Yg)))))):=rfl
def pW:Code:=match dK with | .seq (.seq c _) _=>c | _=>.skip
def Ws:Code:=match dK with | .seq (.seq _ (.block _ (.loop c))) _=>c | _=>.skip
def dP:Code:=match dK with | .seq _ c=>c | _=>.skip
theorem lX:dK=.seq (.seq pW (.block 2 (.loop Ws))) dP:=rfl
def qD:Code:=match Ws with | .seq c _=>c | _=>.skip
def qC:Code:=match Ws with | .seq _ (.seq _ (.seq (.block _ (.seq c _)) _))=>c | _=>.skip
def fP:Code:=match Ws with | .seq _ (.seq _ (.seq (.block _ (.seq _ (.seq c _))) _))=>c | _=>.skip
def pV:Code:=match Ws with | .seq _ (.seq _ (.seq (.block _ (.seq _ (.seq _ (.seq c _)))) _))=>c | _=>.skip
def jV:Code:=match Ws with | .seq _ (.seq _ (.seq (.block _ (.seq _ (.seq _ (.seq _ (.cond _ c _))))) _))=>c | _=>.skip
def nZ:Code:=match Ws with | .seq _ (.seq _ (.seq _ c))=>c | _=>.skip
theorem Sk:Ws=.seq qD (.seq (.cond (.tmp 70) .skip (.exit 2)) (.seq (.block 3 (.seq qC (.seq fP (.seq pV (.cond (.tmp 88) jV .skip))))) nZ)):=rfl
structure OI where
  lg:Nat
  lc:Nat
  bc:Nat
  bz:Nat
  ob:Nat
  sg:Nat
  br:Nat
  most:Nat
  wa:Option Addr
  wn:Nat
  wc:Nat
  ta:Option Addr
  tn:Nat
  tc:Nat
  ya:Option Addr
  yc:Nat
  u:Int
  ol:Option Nat
  hl:List Int
  hg:Nat
  ho:Nat
def OI.cv (q:OI):Value:=.agg #[.slice q.wa q.wn q.wc,.slice q.ta q.tn q.tc,.slice q.ya q.hl.length q.yc,.int .i64 q.u]
def Sd (q:OI)(co n:Nat)(FU FC Gv Im IY Iu u68 u69:Value)(tm:Array Value):Prop:=∃ v4 v5 Ai Aj Ak Al Am Ao Ap Ar Au Av Aw Ay Az AA AB AJ AL AO AP AQ AU AV AX AY AZ A8 A9 Ba Bb Bc Bf Bh Bj Bl Bp Bq Br Bu Bv Bw Bz BD BF BG BH BI BJ BK BL BM BN BR BS BU BX BZ Ca Cb Cc Ce Cg Ci Cj Ck Cm Co Cq Cr Ct Cu Cw Cx Cy Cz CB CF CG CJ CK CO CQ CS CU CV CW CX CY,tm=#[q.cv,.slice (some ⟨q.lg,0,none⟩) n q.lc,.chan (some co),.pointer (some ⟨q.bc,0,none⟩),v4,v5,.pointer (some ⟨q.bz,0,none⟩),.int .i64 q.most,.pointer (some ⟨q.ob,0,none⟩),.slice (some ⟨q.sg,0,none⟩) n n,.pointer (some ⟨q.br,0,none⟩),FU,FC,Gv,Im,IY,Ai,Aj,Ak,Al,Am,Ao,Ap,Ar,Au,Av,Aw,Ay,Az,AA,AB,AJ,AL,AO,AP,AQ,AU,AV,AX,AY,AZ,A8,A9,Ba,Bb,Bc,Bf,Bh,Bj,Bl,Bp,Bq,Br,Bu,Bv,Bw,Bz,BD,BF,BG,BH,BI,BJ,BK,BL,BM,BN,Iu,u68,u69,BR,BS,BU,BX,BZ,Ca,Cb,Cc,Ce,Cg,Ci,Cj,Ck,Cm,Co,Cq,Cr,Ct,Cu,Cw,Cx,Cy,Cz,CB,CF,CG,CJ,CK,CO,CQ,CS,CU,CV,CW,CX,CY]
structure yt (q:OI)(bs:List Nat)(left:List Int)(last:Int)(steps:List Nat)(s:Nat)(cut:Value)(W:World):Prop where
  row:∀ (i b:Nat),bs[i]?=some b->W.cell? ⟨q.lg,i,none⟩=some (.pointer (some ⟨b,0,none⟩))
  cse:W.heap[q.bc]?=some (.cells #[.slice q.wa q.wn q.wc,.slice q.ta q.tn q.tc,.slice q.ya q.hl.length q.yc,.int .i64 q.u] 25 (0,0))
  ord:∃ Sc,SB W 145 q.ob Sc left last/\Sc.ownBlock=q.ol
  TQ:W.heap[q.sg]?=some (.cells (steps.map fun (k:Nat)=>Value.int .i64 k).toArray 3 (0,0))
  run:W.heap[q.br]?=some (.cells #[.slice none 0 0,.slice none 0 0,.int .i64 s,cut] 31 (0,0))
  res:W.heap[q.bz]?=some (.cells #[.slice none 0 0,.slice none 0 0,.int .i64 0,.bool false] 31 (0,0))
def OI.K (q:OI)(Kp:Nat->Prop)(g:Nat):Prop:=g=q.lg\/g=q.bc\/g=q.bz\/g=q.ob\/q.ol=some g\/g=q.sg\/g=q.br\/Kp g
structure OI.Lay (q:OI)(Kp:Nat->Prop):Prop where
  h1:q.lg < q.bc
  h2:q.bc < q.bz
  h3:q.bz < q.ob
  h4:q.ob < q.sg
  h5:q.sg < q.br
  h6:∀ g,q.ol=some g->q.bz < g/\g < q.sg/\g≠q.ob
  h7:∀ g,Kp g->g < q.bc
structure Lr {Cs Sg:Type}(m:Mem Sg)(ρ:Rn)(ws:List (EK (Wk Ef Cs)))(q:OI)(Kp:Nat->Prop)(W0:World)(R:Nat)(σ:Sg)(left:List Int)(last:Int)(s:Nat)(steps:List Nat)(cut:Value)(W:World):Prop where
  rows:yt q (ws.map (·.b)) left last steps s cut W
  lay:q.Lay Kp
  inv:m.Inv σ W
  free:∀ g,q.K Kp g->(∃ c e f,W.heap[g]?=some (.cells c e f))/\g≠ρ.Wg/\ρ.Bo g=false/\¬ m.Sh g/\∀ (j:Nat) (u:EK (Wk Ef Cs)),ws[j]?=some u->¬ u.own g
  kept:∀ g,Kp g->W.heap[g]?=W0.heap[g]?
  ov:∀ (j:Nat) (u:EK (Wk Ef Cs)),ws[j]?=some u->u.over=u.x.over/\gq u.x
  fuel:∀ (j:Nat) (u:EK (Wk Ef Cs)),ws[j]?=some u->R<=u.r+s
  UO:steps.length=ws.length
  few:ws.length<=1000
  hal:q.hl.length<=1000000/\∀ (i:Nat) (x:Int),q.hl[i]?=some x->-9223372036854775808<=x/\x<=9223372036854775807/\q.ya=some ⟨q.hg,q.ho,none⟩/\∀ σ W,m.Inv σ W->W.cell? ⟨q.hg,q.ho+i,none⟩=some (.int .i64 x)
section
variable {Cs Sg:Type}{D:Dr Ef Cs Sg}{m:Mem Sg}{ρ:Rn}{ws:List (EK (Wk Ef Cs))}
variable {Fin:FE}{Ea:E5 Try.prog Fin}
variable {q:OI}{Kp:Nat->Prop}{W0 W:World}{R s co n nn:Nat}{σ:Sg}{left:List Int}{last:Int}{steps:List Nat}{cut FU FC Gv Im IY Iu u68 u69:Value}{ds:List Deferred}{K:List Item}{cs:List Frame}
theorem yt.keep {bs:List Nat}{W':World}(h:yt q bs left last steps s cut W)(hk:∀ g,q.K (fun _=>False) g->W'.heap[g]?=W.heap[g]?):yt q bs left last steps s cut W':=by
  have hc:∀ a:Addr,q.K (fun _=>False) a.block->W'.cell? a=W.cell? a:=fun a ha=>cell_of (hk _ ha);refine ⟨fun i b hb=>?_,?_,?_,?_,?_,?_⟩
  . rw [hc ⟨q.lg,i,none⟩ (.inl rfl)];exact h.row i b hb
  . rw [hk _ (.inr (.inl rfl))];exact h.cse
  . obtain ⟨Sc,⟨o1,o2,o3⟩,o4⟩:=h.ord;refine ⟨Sc,⟨?_,o2.same fun k hk' _=>hk _ (.inr (.inr (.inr (.inr (.inl (by rw [← o4];exact hk')))))),o3⟩,o4⟩;rw [hk _ (.inr (.inr (.inr (.inl rfl))))];exact o1
  . rw [hk _ (.inr (.inr (.inr (.inr (.inr (.inl rfl))))))];exact h.TQ
  . rw [hk _ (.inr (.inr (.inr (.inr (.inr (.inr (.inl rfl)))))))];exact h.run
  . rw [hk _ (.inr (.inr (.inl rfl)))];exact h.res
theorem OI.K.weak {g:Nat}(h:q.K (fun _=>False) g):q.K Kp g:=by
  rcases h with h|h|h|h|h|h|h|h
  . exact .inl h
  . exact .inr (.inl h)
  . exact .inr (.inr (.inl h))
  . exact .inr (.inr (.inr (.inl h)))
  . exact .inr (.inr (.inr (.inr (.inl h))))
  . exact .inr (.inr (.inr (.inr (.inr (.inl h)))))
  . exact .inr (.inr (.inr (.inr (.inr (.inr (.inl h))))))
  . exact h.elim
theorem Lr.lt (h:Lr m ρ ws q Kp W0 R σ left last s steps cut W){g:Nat}(hg:q.K Kp g):g < W.heap.size:=by obtain ⟨⟨c,e,f,hc⟩,_⟩:=h.free g hg;exact (zGE hc).1
theorem Lr.rO (h:Lr m ρ ws q Kp W0 R σ left last s steps cut W){g:Nat}(hg:m.Sh g):g < W.heap.size:=by obtain ⟨c,e,f,hc⟩:=m.rows σ W g hg h.inv;exact (zGE hc).1
theorem Lr.keep {W':World}(h:Lr m ρ ws q Kp W0 R σ left last s steps cut W)(hk:∀ g,q.K Kp g->W'.heap[g]?=W.heap[g]?)(hs:∀ g,m.Sh g->W'.heap[g]?=W.heap[g]?):Lr m ρ ws q Kp W0 R σ left last s steps cut W':=
  { rows:=h.rows.keep fun g hg=>hk g hg.weak,lay:=h.lay,
     inv:=m.eq σ W W' (fun g hg=>.of (hs g hg)) h.inv,
     free:=fun g hg=>(by rw [hk g hg];exact h.free g hg),
     kept:=fun g hg=>(by rw [hk g (.inr (.inr (.inr (.inr (.inr (.inr (.inr hg)))))))];exact h.kept g hg),
     ov:=h.ov,fuel:=h.fuel,UO:=h.UO,few:=h.few,
     hal:=h.hal }
theorem Lr.olds {W':World}(h:Lr m ρ ws q Kp W0 R σ left last s steps cut W)(ho:IL W W'):Lr m ρ ws q Kp W0 R σ left last s steps cut W':=h.keep (fun g hg=>ho.blk g (h.lt hg)) fun g hg=>ho.blk g (h.rO hg)
theorem Lr.alike {W':World}(h:Lr m ρ ws q Kp W0 R σ left last s steps cut W)(hh:W'.heap=W.heap):Lr m ρ ws q Kp W0 R σ left last s steps cut W':=h.keep (fun g _=>by rw [hh]) fun g _=>by rw [hh]
theorem Lr.turn {W':World}{left':List Int}{last':Int}{s':Nat}{NW:List Nat}{cut':Value}(h:Lr m ρ ws q Kp W0 R σ left last s steps cut W){x:Nat}(hx:q.K Kp x)(hb:q.bc < x)(ho:∀ g,g < W.heap.size->g≠x->W'.heap[g]?=W.heap[g]?)(hr:∃ c e f,W'.heap[x]?=some (.cells c e f))(hR:yt q (ws.map (·.b)) left' last' NW s' cut' W')(hss:s<=s')(hsl:NW.length=steps.length):Lr m ρ ws q Kp W0 R σ left' last' s' NW cut' W':=
  { rows:=hR,lay:=h.lay,
     inv:=m.eq σ W W' (fun g hg=>.of (ho g (h.rO hg) fun e=>(h.free x hx).2.2.2.1 (e ▸ hg))) h.inv,
     free:=fun g hg=>(by
       by_cases e:g=x
       . rw [e];exact ⟨hr,(h.free x hx).2⟩
       . rw [ho g (h.lt hg) e];exact h.free g hg),
     kept:=fun g hg=>(by have h7:=h.lay.h7 g hg;rw [ho g (h.lt (.inr (.inr (.inr (.inr (.inr (.inr (.inr hg)))))))) zOM];exact h.kept g hg),
     ov:=h.ov,
     fuel:=fun j u hu=>(by have:=h.fuel j u hu;omega),
     UO:=(by rw [hsl];exact h.UO),
     few:=h.few,
     hal:=h.hal }
theorem PU {M:Md (Wk Ef Cs) Sg}(hM:M=Eu D m)(hK:Known M ρ ws W){i:Nat}{v:EK (Wk Ef Cs)}(hv:ws[i]?=some v):W.cell? ⟨v.b,10,none⟩=some (.bool v.x.over)/\W.cell? ⟨v.b,7,none⟩=some (.int .i64 v.x.bg)/\W.cell? ⟨v.b,8,none⟩=some (.int .i64 v.x.ow):=by
  subst hM;obtain ⟨_,hb,t,co,go,gr,ans,hrow,_⟩:=hK.record i v hv;have hin:=(hK.inside i v hv).1;have hc:=hrow.cells;refine ⟨?_,?_,?_⟩
  . rw [hK.cell i v hv ⟨v.b,10,none⟩ hin];exact hc.2.2.2.2.2.1
  . rw [hK.cell i v hv ⟨v.b,7,none⟩ hin];exact hc.2.2.1
  . rw [hK.cell i v hv ⟨v.b,8,none⟩ hin];exact hc.2.2.2.1
end
end
section
theorem Wp:∀ g∈[63],@Lets (Host.only 34) Try.prog g:=fun g hg=>by obtain rfl:=List.mem_singleton.1 hg;exact ⟨by kernel_rfl,.inl ⟨_,_,Try.func63,by kernel_rfl,rfl,by kernel_rfl⟩⟩
section
variable {Cs Sg:Type}{D:Dr Ef Cs Sg}{m:Mem Sg}{ρ:Rn}{ws:List (EK (Wk Ef Cs))}
variable {Fin:FE}{Ea:E5 Try.prog Fin}
variable {q:OI}{Kp:Nat->Prop}{W0 W:World}{R s co n nn:Nat}{σ:Sg}{left:List Int}{last:Int}{steps:List Nat}{cut FU FC Gv Im IY Iu u68 u69:Value}{ds:List Deferred}{K:List Item}{cs:List Frame}
theorem vo (h:Lr m ρ ws q Kp W0 R σ left last s steps cut W)(hn:n=ws.length)(hsb:∀ (i c:Nat),steps[i]?=some c->c<=1000000){tm:Array Value}(hs:Sd q co n FU FC Gv Im IY Iu u68 u69 tm)(hK:∀ W' tm' wb,Sd q co n (.slice (some ⟨wb,0,none⟩) n n) (.bool ((List.range n).any (M5 q.hl steps (ws.map fun u=>u.x.over)))) Gv Im IY Iu u68 u69 tm'->Lr m ρ ws q Kp W0 R σ left last s steps cut W'->(∀ i,i < n->W'.cell? ⟨wb,i,none⟩=some (.bool (M5 q.hl steps (ws.map fun u=>u.x.over) i)))->JL (S0 Try.prog Fin Ea).L (.Ev (Eu D m) ρ ws 0 false nn) (G ((base 34).at ⟨tm',ds⟩ K) cs) W') :
    JL (S0 Try.prog Fin Ea).L (.Ev (Eu D m) ρ ws 0 false nn) (G ((base 34).at ⟨tm,ds⟩ (.code pd7 :: K)) cs) W:=by
  refine J0.know (Ea:=Ea) fun hKn=>?_;have hov:∀ (i b:Nat),(ws.map (·.b))[i]?=some b->W.cell? ⟨b,10,none⟩=some (.bool ((ws.map fun u=>u.x.over).getD i false)):=fun i b hb=>by rw [List.getElem?_map] at hb;obtain ⟨u,hu,rfl⟩:=Option.map_eq_some_iff.1 hb;rw [(PU (D:=D) rfl hKn hu).1];simp [hu]
  obtain ⟨v4,v5,Ai,Aj,Ak,Al,Am,Ao,Ap,Ar,Au,Av,Aw,Ay,Az,AA,AB,AJ,AL,AO,AP,AQ,AU,AV,AX,AY,AZ,A8,A9,Ba,Bb,Bc,Bf,Bh,Bj,Bl,Bp,Bq,Br,Bu,Bv,Bw,Bz,BD,BF,BG,BH,BI,BJ,BK,BL,BM,BN,BR,BS,BU,BX,BZ,Ca,Cb,Cc,Ce,Cg,Ci,Cj,Ck,Cm,Co,Cq,Cr,Ct,Cu,Cw,Cx,Cy,Cz,CB,CF,CG,CJ,CK,CO,CQ,CS,CU,CV,CW,CX,CY,rfl⟩:=hs;refine EL.EJ (S:=S0 Try.prog Fin Ea) (b:=base 34) [63] Wp zKR nE zKR fun W₁ ha=>?_;have hh:W₁.heap=W.heap:=by obtain ⟨τ,d,rfl⟩:=ha;rfl
  have hcell:∀ a,W₁.cell? a=W.cell? a:=fun a=>by simp only [World.cell?,hh]
  have h1:=h.alike hh;have hbl:(ws.map (·.b)).length=n:=by simp [hn]
  have hn8:=h.few;have hdl:(ws.map fun u=>u.x.over).length=(ws.map (·.b)).length:=by simp
  have hrd:∀ (i b:Nat),(ws.map (·.b))[i]?=some b->W₁.cell? ⟨q.lg,0+i,none⟩=some (.pointer (some ⟨b,0,none⟩))/\W₁.cell? ⟨b,10,none⟩=some (.bool ((ws.map fun u=>u.x.over).getD i false)):=fun i b hb=>⟨by rw [Nat.zero_add];exact h1.rows.row i b hb,by rw [hcell];exact hov i b hb⟩
  have c0:W₁.cell? ⟨q.bc,0,none⟩=some (.slice q.wa q.wn q.wc):=by simp [World.cell?,h1.rows.cse]
  have c1:W₁.cell? ⟨q.bc,1,none⟩=some (.slice q.ta q.tn q.tc):=by simp [World.cell?,h1.rows.cse]
  have c2:W₁.cell? ⟨q.bc,2,none⟩=some (.slice q.ya q.hl.length q.yc):=by simp [World.cell?,h1.rows.cse]
  have c3:W₁.cell? ⟨q.bc,3,none⟩=some (.int .i64 q.u):=by simp [World.cell?,h1.rows.cse]
  have hbn:(ws.map (·.b)).length<=1000:=by simp;omega
  have hsl:steps.length=(ws.map (·.b)).length:=by rw [h.UO];simp
  have YT:=h1.hal;have hst:∀ (i c:Nat),steps[i]?=some c->W₁.cell? ⟨q.sg,i,none⟩=some (.int .i64 c):=fun i c hc=>by simp [World.cell?,h1.rows.TQ,hc]
  have HH:=Lib.hid (zAI hK (zAI h1 (zAI hrd (zAI hdl (zAI hbn (zAI hsl (zAI YT (zAI hst hsb))))))));clear hK h h1 hov hcell hKn hrd hdl hn hn8 hbn hsl YT hst hsb;generalize hdn:(ws.map fun u=>u.x.over)=dn at *;generalize hbs:ws.map (·.b)=bs at *;subst hbl;have HD:=Lib.hid (zAI hdn hbs);clear hdn hbs;dsimp only;simp only [pd7,TF,N9,Try.f34];gi_wp2_with (gi_at_call 63;refine (bM (lg:=q.lg) (lo:=0) (bs:=bs) (dn:=dn) (st:=steps) (hl:=q.hl) _ HH.out.2.2.2.1 HH.out.2.2.2.2.2.1 HH.out.2.2.2.2.1 HH.out.2.2.2.2.2.2.1.1 HH.out.2.2.2.2.2.2.2.2 (fun i x hx=>⟨(HH.out.2.2.2.2.2.2.1.2 i x hx).1,(HH.out.2.2.2.2.2.2.1.2 i x hx).2.1,q.hg,q.ho,(HH.out.2.2.2.2.2.2.1.2 i x hx).2.2.1,(HH.out.2.2.2.2.2.2.1.2 i x hx).2.2.2 _ _ HH.out.2.1.inv⟩) HH.out.2.2.2.2.2.2.2.1 HH.out.2.2.1).mono ?_;rintro e w1 ⟨wb,hwb,rfl,hB,hcells⟩)
  obtain ⟨hK,h1,_⟩:=HH.out;obtain ⟨rfl,rfl⟩:=HD.out;clear HH HD;exact hK w1 _ wb ⟨_,_,_,_,_,_,_,_,_,_,_,_,_,_,_,_,_,_,_,_,_,_,_,_,_,_,_,_,_,_,_,_,_,_,_,_,_,_,_,_,_,_,_,_,_,_,_,_,_,_,_,_,_,_,_,_,_,_,_,_,_,_,_,_,_,_,_,_,_,_,_,_,_,_,_,_,_,_,_,_,_,_,_,_,_,_,_,_,_,rfl⟩ (h1.olds ((IL.refl W₁).below hB (Nat.le_refl _))) hcells
theorem xQ (h:Lr m ρ ws q Kp W0 R σ left last s steps cut W){bv:Bool}{tm:Array Value}(hs:Sd q co n FU (.bool bv) Gv Im IY Iu u68 u69 tm)(hK:∀ W' tm',Sd q co n FU (.bool bv) Gv Im IY Iu u68 u69 tm'->Lr m ρ ws q Kp W0 R σ left last s steps (.bool bv) W'->(∀ g,g≠q.br->W'.heap[g]?=W.heap[g]?)->JL (S0 Try.prog Fin Ea).L (.Ev (Eu D m) ρ ws 0 false nn) (G ((base 34).at ⟨tm',ds⟩ K) cs) W') :
    JL (S0 Try.prog Fin Ea).L (.Ev (Eu D m) ρ ws 0 false nn) (G ((base 34).at ⟨tm,ds⟩ (.code pd8 :: K)) cs) W:=by
  obtain ⟨v4,v5,Ai,Aj,Ak,Al,Am,Ao,Ap,Ar,Au,Av,Aw,Ay,Az,AA,AB,AJ,AL,AO,AP,AQ,AU,AV,AX,AY,AZ,A8,A9,Ba,Bb,Bc,Bf,Bh,Bj,Bl,Bp,Bq,Br,Bu,Bv,Bw,Bz,BD,BF,BG,BH,BI,BJ,BK,BL,BM,BN,BR,BS,BU,BX,BZ,Ca,Cb,Cc,Ce,Cg,Ci,Cj,Ck,Cm,Co,Cq,Cr,Ct,Cu,Cw,Cx,Cy,Cz,CB,CF,CG,CJ,CK,CO,CQ,CS,CU,CV,CW,CX,CY,rfl⟩:=hs;refine EL.EJ (S:=S0 Try.prog Fin Ea) (b:=base 34) [] (by simp) zKR nE zKR fun W₁ ha=>?_;have hh:W₁.heap=W.heap:=by obtain ⟨τ,d,rfl⟩:=ha;rfl
  have h1:=h.alike hh;have c3:W₁.cell? ⟨q.br,3,none⟩=some cut:=by simp [World.cell?,h1.rows.run]
  have f3:W₁.frozen? ⟨q.br,3,none⟩=false:=by simp [World.frozen?,h1.rows.run]
  have HH:=Lib.hid (zAI hK (zAI h1 hh));clear hK h h1 hh;dsimp only;simp only [pd8,TF,N9,Try.f34];gi_wp2;obtain ⟨hK,h1,hh⟩:=HH.out;clear HH;generalize hW':World.setCell _ _ _=W';have hoth:∀ g,g≠q.br->W'.heap[g]?=W₁.heap[g]?:=fun g hg=>by rw [← hW'];simp [World.setCell,Array.getElem?_modify,Ne.symm hg]
  have hrow:W'.heap[q.br]?=some (.cells #[.slice none 0 0,.slice none 0 0,.int .i64 s,.bool bv] 31 (0,0)):=by rw [← hW'];have:=h1.rows.run;simp [World.setCell,Array.getElem?_modify,this]
  have hl:=h1.lay;have l1:=hl.h1;have l2:=hl.h2;have l3:=hl.h3;have l4:=hl.h4;have l5:=hl.h5;refine hK W' _ ⟨_,_,_,_,_,_,_,_,_,_,_,_,_,_,_,_,_,_,_,_,_,_,_,_,_,_,_,_,_,_,_,_,_,_,_,_,_,_,_,_,_,_,_,_,_,_,_,_,_,_,_,_,_,_,_,_,_,_,_,_,_,_,_,_,_,_,_,_,_,_,_,_,_,_,_,_,_,_,_,_,_,_,_,_,_,_,_,_,_,rfl⟩ (h1.turn (x:=q.br) (.inr (.inr (.inr (.inr (.inr (.inr (.inl rfl))))))) zOM (fun g _ hg=>hoth g hg) ⟨_,_,_,hrow⟩ ?_ (Nat.le_refl _) rfl) fun g hg=>by rw [hoth g hg,hh]
  have hk:∀ g,q.K (fun _=>False) g->g≠q.br->W'.heap[g]?=W₁.heap[g]?:=fun g _ hg=>hoth g hg;obtain ⟨r1,r2,⟨Sc,⟨o1,o2,o3⟩,o4⟩,r4,r5,r6⟩:=h1.rows;have h6:=hl.h6;refine ⟨fun i b hb=>?_,by rw [hoth _ zOM];exact r2,⟨Sc,⟨by rw [hoth _ zOM];exact o1,o2.same fun k hk' _=>hoth k ?_,o3⟩,o4⟩,by rw [hoth _ zOM];exact r4,hrow,by rw [hoth _ zOM];exact r6⟩
  . rw [cell_of (a:=⟨q.lg,i,none⟩) (hoth q.lg zOM)];exact r1 i b hb
  . have:=h6 k (by rw [← o4];exact hk')
    omega
theorem sQ (h:Lr m ρ ws q Kp W0 R σ left last s steps cut W)(hsb:s<=1000000)(hm:q.most<=1000000){bv:Bool}{tm:Array Value}(hs:Sd q co n FU (.bool bv) Gv Im IY Iu u68 u69 tm)(hK:∀ W' tm',Sd q co n FU (.bool bv) Gv Im IY Iu u68 u69 tm'->tm'[42]?=some (.bool (!bv || decide (q.most<=s)))->W'.heap=W.heap->JL (S0 Try.prog Fin Ea).L (.Ev (Eu D m) ρ ws 0 false nn) (G ((base 34).at ⟨tm',ds⟩ K) cs) W') :
    JL (S0 Try.prog Fin Ea).L (.Ev (Eu D m) ρ ws 0 false nn) (G ((base 34).at ⟨tm,ds⟩ (.code pd9 :: K)) cs) W:=by
  obtain ⟨v4,v5,Ai,Aj,Ak,Al,Am,Ao,Ap,Ar,Au,Av,Aw,Ay,Az,AA,AB,AJ,AL,AO,AP,AQ,AU,AV,AX,AY,AZ,A8,A9,Ba,Bb,Bc,Bf,Bh,Bj,Bl,Bp,Bq,Br,Bu,Bv,Bw,Bz,BD,BF,BG,BH,BI,BJ,BK,BL,BM,BN,BR,BS,BU,BX,BZ,Ca,Cb,Cc,Ce,Cg,Ci,Cj,Ck,Cm,Co,Cq,Cr,Ct,Cu,Cw,Cx,Cy,Cz,CB,CF,CG,CJ,CK,CO,CQ,CS,CU,CV,CW,CX,CY,rfl⟩:=hs;refine EL.EJ (S:=S0 Try.prog Fin Ea) (b:=base 34) [] (by simp) zKR nE zKR fun W₁ ha=>?_;have hh:W₁.heap=W.heap:=by obtain ⟨τ,d,rfl⟩:=ha;rfl
  have h1:=h.alike hh;have c2:W₁.cell? ⟨q.br,2,none⟩=some (.int .i64 s):=by simp [World.cell?,h1.rows.run]
  have HH:=Lib.hid (zAI hK (zAI h1 hh));clear hK h h1 hh;dsimp only;simp only [pd9,TF,N9,Try.f34];cases bv with
  | true=>
    gi_wp2;obtain ⟨hK,h1,hh⟩:=HH.out;refine hK W₁ _ ⟨_,_,_,_,_,_,_,_,_,_,_,_,_,_,_,_,_,_,_,_,_,_,_,_,_,_,_,_,_,_,_,_,_,_,_,_,_,_,_,_,_,_,_,_,_,_,_,_,_,_,_,_,_,_,_,_,_,_,_,_,_,_,_,_,_,_,_,_,_,_,_,_,_,_,_,_,_,_,_,_,_,_,_,_,_,_,_,_,_,rfl⟩ ?_ hh;by_cases e:q.most<=s <;> simp [e]
  | false=>
    gi_wp2;obtain ⟨hK,h1,hh⟩:=HH.out;refine hK W₁ _ ⟨_,_,_,_,_,_,_,_,_,_,_,_,_,_,_,_,_,_,_,_,_,_,_,_,_,_,_,_,_,_,_,_,_,_,_,_,_,_,_,_,_,_,_,_,_,_,_,_,_,_,_,_,_,_,_,_,_,_,_,_,_,_,_,_,_,_,_,_,_,_,_,_,_,_,_,_,_,_,_,_,_,_,_,_,_,_,_,_,_,rfl⟩ ?_ hh
    simp
theorem nY (h:Lr m ρ ws q Kp W0 R σ left last s steps cut W)(hsb:s<=1000000){tm:Array Value}(hs:Sd q co n FU FC Gv Im IY Iu u68 u69 tm)(hK:∀ W' tm',Sd q co n FU FC Gv Im IY Iu u68 u69 tm'->Lr m ρ ws q Kp W0 R σ left last (s+1) steps cut W'->JL (S0 Try.prog Fin Ea).L (.Ev (Eu D m) ρ ws 0 false nn) (G ((base 34).at ⟨tm',ds⟩ K) cs) W') :
    JL (S0 Try.prog Fin Ea).L (.Ev (Eu D m) ρ ws 0 false nn) (G ((base 34).at ⟨tm,ds⟩ (.code nS :: K)) cs) W:=by
  obtain ⟨v4,v5,Ai,Aj,Ak,Al,Am,Ao,Ap,Ar,Au,Av,Aw,Ay,Az,AA,AB,AJ,AL,AO,AP,AQ,AU,AV,AX,AY,AZ,A8,A9,Ba,Bb,Bc,Bf,Bh,Bj,Bl,Bp,Bq,Br,Bu,Bv,Bw,Bz,BD,BF,BG,BH,BI,BJ,BK,BL,BM,BN,BR,BS,BU,BX,BZ,Ca,Cb,Cc,Ce,Cg,Ci,Cj,Ck,Cm,Co,Cq,Cr,Ct,Cu,Cw,Cx,Cy,Cz,CB,CF,CG,CJ,CK,CO,CQ,CS,CU,CV,CW,CX,CY,rfl⟩:=hs;refine EL.EJ (S:=S0 Try.prog Fin Ea) (b:=base 34) [] (by simp) zKR nE zKR fun W₁ ha=>?_;have hh:W₁.heap=W.heap:=by obtain ⟨τ,d,rfl⟩:=ha;rfl
  have h1:=h.alike hh;have c2:W₁.cell? ⟨q.br,2,none⟩=some (.int .i64 s):=by simp [World.cell?,h1.rows.run]
  have f2:W₁.frozen? ⟨q.br,2,none⟩=false:=by simp [World.frozen?,h1.rows.run]
  have hl1:(-9223372036854775808:Int)<=(s:Int)+1:=by omega
  have hl2:(s:Int)+1<=9223372036854775807:=by omega
  have HH:=Lib.hid (zAI hK (zAI h1 hh));clear hK h h1 hh;dsimp only;simp only [nS,TF,N9,Try.f34];gi_wp2;obtain ⟨hK,h1,hh⟩:=HH.out;clear HH;generalize hW':World.setCell _ _ _=W';have hoth:∀ g,g≠q.br->W'.heap[g]?=W₁.heap[g]?:=fun g hg=>by rw [← hW'];simp [World.setCell,Array.getElem?_modify,Ne.symm hg]
  have hrow:W'.heap[q.br]?=some (.cells #[.slice none 0 0,.slice none 0 0,.int .i64 ((s+1:Nat):Int),cut] 31 (0,0)):=by rw [← hW'];have:=h1.rows.run;simp [World.setCell,Array.getElem?_modify,this]
  have hl:=h1.lay;have l1:=hl.h1;have l2:=hl.h2;have l3:=hl.h3;have l4:=hl.h4;have l5:=hl.h5;refine hK W' _ ⟨_,_,_,_,_,_,_,_,_,_,_,_,_,_,_,_,_,_,_,_,_,_,_,_,_,_,_,_,_,_,_,_,_,_,_,_,_,_,_,_,_,_,_,_,_,_,_,_,_,_,_,_,_,_,_,_,_,_,_,_,_,_,_,_,_,_,_,_,_,_,_,_,_,_,_,_,_,_,_,_,_,_,_,_,_,_,_,_,_,rfl⟩ (h1.turn (x:=q.br) (.inr (.inr (.inr (.inr (.inr (.inr (.inl rfl))))))) zOM (fun g _ hg=>hoth g hg) ⟨_,_,_,hrow⟩ ?_ zOM rfl);obtain ⟨r1,r2,⟨Sc,⟨o1,o2,o3⟩,o4⟩,r4,r5,r6⟩:=h1.rows;have h6:=hl.h6;refine ⟨fun i b hb=>?_,by rw [hoth _ zOM];exact r2,⟨Sc,⟨by rw [hoth _ zOM];exact o1,o2.same fun k hk' _=>hoth k ?_,o3⟩,o4⟩,by rw [hoth _ zOM];exact r4,hrow,by rw [hoth _ zOM];exact r6⟩
  . rw [cell_of (a:=⟨q.lg,i,none⟩) (hoth q.lg zOM)];exact r1 i b hb
  . have:=h6 k (by rw [← o4];exact hk')
    omega
theorem oW (h:Lr m ρ ws q Kp W0 R σ left last s steps cut W)(hn:n=ws.length){k:Nat}(hk:k < n)(hst:∀ (i c:Nat),steps[i]?=some c->c<=1000000){tm:Array Value}(hs:Sd q co n FU FC (.int .i64 k) Im IY Iu u68 u69 tm)(hK:∀ W' tm',Sd q co n FU FC (.int .i64 k) Im IY Iu u68 u69 tm'->Lr m ρ ws q Kp W0 R σ left last s (steps.set k (steps.getD k 0+1)) cut W'->JL (S0 Try.prog Fin Ea).L (.Ev (Eu D m) ρ ws 0 false nn) (G ((base 34).at ⟨tm',ds⟩ K) cs) W') :
    JL (S0 Try.prog Fin Ea).L (.Ev (Eu D m) ρ ws 0 false nn) (G ((base 34).at ⟨tm,ds⟩ (.code mg :: K)) cs) W:=by
  obtain ⟨v4,v5,Ai,Aj,Ak,Al,Am,Ao,Ap,Ar,Au,Av,Aw,Ay,Az,AA,AB,AJ,AL,AO,AP,AQ,AU,AV,AX,AY,AZ,A8,A9,Ba,Bb,Bc,Bf,Bh,Bj,Bl,Bp,Bq,Br,Bu,Bv,Bw,Bz,BD,BF,BG,BH,BI,BJ,BK,BL,BM,BN,BR,BS,BU,BX,BZ,Ca,Cb,Cc,Ce,Cg,Ci,Cj,Ck,Cm,Co,Cq,Cr,Ct,Cu,Cw,Cx,Cy,Cz,CB,CF,CG,CJ,CK,CO,CQ,CS,CU,CV,CW,CX,CY,rfl⟩:=hs;refine EL.EJ (S:=S0 Try.prog Fin Ea) (b:=base 34) [] (by simp) zKR nE zKR fun W₁ ha=>?_;have hh:W₁.heap=W.heap:=by obtain ⟨τ,d,rfl⟩:=ha;rfl
  have h1:=h.alike hh;have hkl:k < steps.length:=by rw [h.UO];omega
  have zB:steps[k]?=some (steps.getD k 0):=by simp [List.getD,hkl]
  have hcb:=hst k _ zB;have ck:W₁.cell? ⟨q.sg,k,none⟩=some (.int .i64 (steps.getD k 0:Nat)):=by have:=h1.rows.TQ;simp only [World.cell?,this];simp [hkl]
  have fk:W₁.frozen? ⟨q.sg,k,none⟩=false:=by simp [World.frozen?,h1.rows.TQ]
  generalize hc:steps.getD k 0=c at *;have hl1:(-9223372036854775808:Int)<=(c:Int)+1:=by omega
  have hl2:(c:Int)+1<=9223372036854775807:=by omega
  have hk0:¬ ((k:Int) < 0):=by omega
  have HH:=Lib.hid (zAI hK (zAI h1 (zAI hh (zAI zB (zAI hc hn)))));clear hK h h1 hh zB hc hn;dsimp only;simp only [mg,TF,N9,Try.f34];gi_wp2;obtain ⟨hK,h1,hh,zB,hc,hn⟩:=HH.out;clear HH;generalize hW':World.setCell _ _ _=W';have hoth:∀ g,g≠q.sg->W'.heap[g]?=W₁.heap[g]?:=fun g hg=>by rw [← hW'];simp [World.setCell,Array.getElem?_modify,Ne.symm hg]
  have hrow:W'.heap[q.sg]?=some (.cells ((steps.set k (c+1)).map fun (k:Nat)=>Value.int .i64 k).toArray 3 (0,0)):=by rw [← hW'];have:=h1.rows.TQ;simp [World.setCell,Array.getElem?_modify,this]
  have hl:=h1.lay;have l1:=hl.h1;have l2:=hl.h2;have l3:=hl.h3;have l4:=hl.h4;have l5:=hl.h5;refine hK W' _ ⟨_,_,_,_,_,_,_,_,_,_,_,_,_,_,_,_,_,_,_,_,_,_,_,_,_,_,_,_,_,_,_,_,_,_,_,_,_,_,_,_,_,_,_,_,_,_,_,_,_,_,_,_,_,_,_,_,_,_,_,_,_,_,_,_,_,_,_,_,_,_,_,_,_,_,_,_,_,_,_,_,_,_,_,_,_,_,_,_,_,rfl⟩ (h1.turn (x:=q.sg) (.inr (.inr (.inr (.inr (.inr (.inl rfl)))))) zOM (fun g _ hg=>hoth g hg) ⟨_,_,_,hrow⟩ ?_ (Nat.le_refl _) (by simp));obtain ⟨r1,r2,⟨Sc,⟨o1,o2,o3⟩,o4⟩,r4,r5,r6⟩:=h1.rows;have h6:=hl.h6;refine ⟨fun i b hb=>?_,by rw [hoth _ zOM];exact r2,⟨Sc,⟨by rw [hoth _ zOM];exact o1,o2.same fun k hk' _=>hoth k ?_,o3⟩,o4⟩,hrow,by rw [hoth _ zOM];exact r5,by rw [hoth _ zOM];exact r6⟩
  . rw [cell_of (a:=⟨q.lg,i,none⟩) (hoth q.lg zOM)];exact r1 i b hb
  . have:=h6 k (by rw [← o4];exact hk')
    omega
end
end
section
section
variable {Cs Sg:Type}{D:Dr Ef Cs Sg}{m:Mem Sg}{ρ:Rn}{ws:List (EK (Wk Ef Cs))}
variable {Fin:FE}{Ea:E5 Try.prog Fin}
variable {q:OI}{Kp:Nat->Prop}{W0 W:World}{R s co n nn:Nat}{σ:Sg}{left:List Int}{last:Int}{steps:List Nat}{cut FU FC Gv Im IY Iu u68 u69:Value}{ds:List Deferred}{K:List Item}{cs:List Frame}
theorem pK (h:Lr m ρ ws q Kp W0 R σ left last s steps cut W)(hn:n=ws.length){wb:Nat}{rd:List Bool}(hrl:rd.length=n)(hne:LB rd≠[])(hcells:∀ i,i < n->W.cell? ⟨wb,i,none⟩=some (.bool (rd.getD i false))){tm:Array Value}(hs:Sd q co n (.slice (some ⟨wb,0,none⟩) n n) FC Gv Im IY Iu u68 u69 tm)(hK:∀ W' tm',Sd q co n (.slice (some ⟨wb,0,none⟩) n n) FC (.int .i64 (KC left last (LB rd))) Im IY Iu u68 u69 tm'->Lr m ρ ws q Kp W0 R σ (KH left (LB rd)) (Kw left last (LB rd)) s steps cut W'->JL (S0 Try.prog Fin Ea).L (.Ev (Eu D m) ρ ws 0 false nn) (G ((base 34).at ⟨tm',ds⟩ K) cs) W') :
    JL (S0 Try.prog Fin Ea).L (.Ev (Eu D m) ρ ws 0 false nn) (G ((base 34).at ⟨tm,ds⟩ (.code qG :: K)) cs) W:=by
  subst hrl;have HN:=Lib.hid hn;clear hn;obtain ⟨v4,v5,Ai,Aj,Ak,Al,Am,Ao,Ap,Ar,Au,Av,Aw,Ay,Az,AA,AB,AJ,AL,AO,AP,AQ,AU,AV,AX,AY,AZ,A8,A9,Ba,Bb,Bc,Bf,Bh,Bj,Bl,Bp,Bq,Br,Bu,Bv,Bw,Bz,BD,BF,BG,BH,BI,BJ,BK,BL,BM,BN,BR,BS,BU,BX,BZ,Ca,Cb,Cc,Ce,Cg,Ci,Cj,Ck,Cm,Co,Cq,Cr,Ct,Cu,Cw,Cx,Cy,Cz,CB,CF,CG,CJ,CK,CO,CQ,CS,CU,CV,CW,CX,CY,rfl⟩:=hs;dsimp only;simp only [qG,TF,N9,Try.f34];refine EH fun _ hkk=>?_;iterate 2 (refine Eo ?_;walk_nrm)
  refine JL.enter rfl rfl nE rfl Try.func64 zKR zKR ?_;walk_nrm;have hn8:=h.few;obtain ⟨Sc,SI,ho4⟩:=h.rows.ord;refine iL (S:=S0 Try.prog Fin Ea) (l:=rd) (b:=wb) (o:=0) SI (fun i u hu=>?_) (by have:=HN.out;omega) hne fun W' hP=>?_
  . have hlt:i < rd.length:=by
      have:=(List.getElem?_eq_some_iff.1 hu).1
      simpa [bools] using this
    rw [Nat.zero_add,hcells i hlt];simp [bools,hlt] at hu;rw [← hu];simp [hlt]
  . rw [Frame.finish_at];show JL (S0 Try.prog Fin Ea).L _ _ W';walk_nrm
    (refine Eo ?_;walk_nrm)
    refine EB ?_;cases hkk;have hl:=h.lay;have l1:=hl.h1;have l2:=hl.h2;have l3:=hl.h3;have l4:=hl.h4;have l5:=hl.h5;have h6:=hl.h6;obtain ⟨Ab6,ho',Abo⟩:=hP.ord;have hx:q.K Kp q.ob:=.inr (.inr (.inr (.inl rfl)));have hoth:=fun g (hg:g < W.heap.size) (hne:g≠q.ob)=>hP.blk g hg hne;refine hK W' _ ⟨_,_,_,_,_,_,_,_,_,_,_,_,_,_,_,_,_,_,_,_,_,_,_,_,_,_,_,_,_,_,_,_,_,_,_,_,_,_,_,_,_,_,_,_,_,_,_,_,_,_,_,_,_,_,_,_,_,_,_,_,_,_,_,_,_,_,_,_,_,_,_,_,_,_,_,_,_,_,_,_,_,_,_,_,_,_,_,_,_,rfl⟩ (h.turn (x:=q.ob) hx zOM hoth ⟨_,_,_,ho'.1⟩ ?_ (Nat.le_refl _) rfl);obtain ⟨r1,r2,_,r4,r5,r6⟩:=h.rows;have k1:q.lg < W.heap.size:=h.lt (.inl rfl);have k2:q.bc < W.heap.size:=h.lt (.inr (.inl rfl));have k3:q.bz < W.heap.size:=h.lt (.inr (.inr (.inl rfl)));have k4:q.sg < W.heap.size:=h.lt (.inr (.inr (.inr (.inr (.inr (.inl rfl))))))
    have k5:q.br < W.heap.size:=h.lt (.inr (.inr (.inr (.inr (.inr (.inr (.inl rfl)))))));refine ⟨fun i b hb=>?_,by rw [hoth _ k2 zOM];exact r2,⟨Ab6,ho',Abo.trans ho4⟩,by rw [hoth _ k4 zOM];exact r4,by rw [hoth _ k5 zOM];exact r5,by rw [hoth _ k3 zOM];exact r6⟩;rw [cell_of (a:=⟨q.lg,i,none⟩) (hoth q.lg k1 zOM)];exact r1 i b hb
end
end
section
def NI:Array Oper:=match eT with | .region _ ops _=>ops | _=>#[]
def HY:Array Oper:=(NI.toList.take 9).toArray
def Tz:Array Oper:=match Yg with | .region _ ops _=>ops | _=>#[]
theorem fC:eT=.region 13 NI true:=rfl
theorem jT:Yg=.region 14 Tz false:=rfl
theorem vC:∃ (af:Array Edge) (p:String) (ty:TypeId),HY[0]?=some ⟨some 56,.move (.tmp 1),ty,p,af,none⟩:=⟨_,_,_,rfl⟩
theorem u6:∃ (af:Array Edge) (p:String) (ty:TypeId),HY[1]?=some ⟨some 57,.move (.tmp 13),ty,p,af,none⟩:=⟨_,_,_,rfl⟩
theorem yO:∃ (af:Array Edge) (p:String) (ty:TypeId),HY[2]?=some ⟨some 58,.indexAddr 90 (.tmp 56) (.tmp 57),ty,p,af,none⟩:=⟨_,_,_,rfl⟩
theorem yg:∃ (af:Array Edge) (p:String) (ty:TypeId),HY[3]?=some ⟨some 59,.load 65 (.tmp 58),ty,p,af,none⟩:=⟨_,_,_,rfl⟩
theorem xJ:∃ (af:Array Edge) (p:String) (ty:TypeId),HY[4]?=some ⟨some 60,.nilCheck (.tmp 59),ty,p,af,none⟩:=⟨_,_,_,rfl⟩
theorem uh:∃ (af:Array Edge) (p:String) (ty:TypeId),HY[5]?=some ⟨some 61,.fieldAddr 94 (.tmp 60) 2,ty,p,af,none⟩:=⟨_,_,_,rfl⟩
theorem xC:∃ (af:Array Edge) (p:String) (ty:TypeId),HY[6]?=some ⟨some 62,.load 81 (.tmp 61),ty,p,af,none⟩:=⟨_,_,_,rfl⟩
theorem wZ:∃ (af:Array Edge) (p:String) (ty:TypeId),HY[7]?=some ⟨some 63,.fieldAddr 31 (.tmp 10) 2,ty,p,af,none⟩:=⟨_,_,_,rfl⟩
theorem uP:∃ (af:Array Edge) (p:String) (ty:TypeId),HY[8]?=some ⟨some 64,.load 3 (.tmp 63),ty,p,af,none⟩:=⟨_,_,_,rfl⟩
theorem ZB:(HY[2]?).map EM=some [0,1]:=by kernel_rfl
theorem oL:(HY[3]?).map EM=some [2]:=by kernel_rfl
theorem qb:(HY[4]?).map EM=some [3]:=by kernel_rfl
theorem pI:(HY[5]?).map EM=some [4]:=by kernel_rfl
theorem oJ:(HY[6]?).map EM=some [5]:=by kernel_rfl
theorem qW:(HY[8]?).map EM=some [7]:=by kernel_rfl
theorem vD:∃ (af:Array Edge) (p:String) (ty:TypeId),NI[9]?=some ⟨none,.send (.tmp 62) (.tmp 64),ty,p,af,none⟩:=⟨_,_,_,rfl⟩
theorem rR:NI.size=10:=by kernel_rfl
theorem WZ:HY.size=9:=by kernel_rfl
theorem gX (i:Nat)(hi:i < 9):HY[i]?=NI[i]?:=by have:HY=(NI.toList.take 9).toArray:=rfl;rw [this,List.getElem?_toArray,List.getElem?_take,if_pos hi,Array.getElem?_toList]
theorem iB (i:Nat)(o:Oper)(ho:NI[i]?=some o):∀ e∈o.after,e.on < i:=by
  have h:(NI.toList.zipIdx.all fun x=>x.1.after.all fun e=>decide (e.on < x.2))=true:=by kernel_rfl
  rw [List.all_eq_true] at h;have h1:=h (o,i) (by rw [List.mem_zipIdx_iff_getElem?];simpa using ho);simp only [Array.all_eq_true'] at h1;exact fun e he=>of_decide_eq_true (h1 e he)
theorem xS (i:Nat)(o:Oper)(ho:HY[i]?=some o):o.guard=none/\o.dst=some (56+i):=by
  have h:(HY.toList.zipIdx.all fun x=>x.1.guard.isNone && x.1.dst == some (56+x.2))=true:=by kernel_rfl
  rw [List.all_eq_true] at h;have h1:=h (o,i) (by rw [List.mem_zipIdx_iff_getElem?];simpa using ho);simp only [Bool.and_eq_true,Option.isNone_iff_eq_none,beq_iff_eq] at h1;exact h1
theorem pO (i:Nat)(ws:List Nat)(h:(NI[i]?).map EM=some ws){l:Array Bool}(hd:Down .any NI l)(hl:l[i]?=some true):∀ j∈ws,l[j]?=some true:=fun j hj=>EF h hd hl hj
theorem nN (l:Array Bool)(hs:l.size=10)(hd:Down .any NI l)(hr:9∈Region.ready .any NI l):∀ i,i < 9->l[i]?=some true:=by
  obtain ⟨_,o,ho,hod⟩:=mem_ready.1 hr;have w9:(NI[9]?).map EM=some [6,8]:=by kernel_rfl
  have h68:∀ j∈[6,8],l[j]?=some true:=fun j hj=>by rw [ho] at w9;exact Nc (by rw [Option.some.inj w9];exact hj) (fun e he hb=>I5.1 (hod e he hb))
  have h8:=h68 8 (by decide);have h6:=h68 6 (by decide);have h7:=pO 8 [7] zKR hd h8 7 (by decide);have h5:=pO 6 [5] zKR hd h6 5 (by decide);have h4:=pO 5 [4] zKR hd h5 4 (by decide);have h3:=pO 4 [3] zKR hd h4 3 (by decide);have h2:=pO 3 [2] zKR hd h3 2 (by decide);have h1:=pO 2 [0,1] zKR hd h2 1 (by decide);have h0:=pO 2 [0,1] zKR hd h2 0 (by decide);intro i hi;obtain rfl|rfl|rfl|rfl|rfl|rfl|rfl|rfl|rfl:i=0\/i=1\/i=2\/i=3\/i=4\/i=5\/i=6\/i=7\/i=8:=by omega
  all_goals assumption
section
variable {Cs Sg:Type}{D:Dr Ef Cs Sg}{m:Mem Sg}{ρ:Rn}{ws:List (EK (Wk Ef Cs))}
variable {Fin:FE}{Ea:E5 Try.prog Fin}
variable {q:OI}{Kp:Nat->Prop}{W0 W:World}{R s co n nn:Nat}{σ:Sg}{left:List Int}{last:Int}{steps:List Nat}{cut FU FC Gv Im IY Iu u68 u69:Value}{ds:List Deferred}{K:List Item}{cs:List Frame}
theorem getElem?_set' {α:Type}{l:List α}{i j:Nat}{a b:α}(h:(l.set i a)[j]?=some b):(j=i/\b=a)\/(j≠i/\l[j]?=some b):=by
  by_cases e:i=j
  . subst e;rw [List.getElem?_set_self'] at h;cases hl:l[i]? with
    | none=>rw [hl] at h;cases h
    | some x=>rw [hl] at h;cases h;exact .inl ⟨rfl,rfl⟩
  . rw [List.getElem?_set_ne e] at h;exact .inr ⟨fun z=>e z.symm,h⟩
theorem Lr.gave (h:Lr m ρ ws q Kp W0 R σ left last s steps cut W){k r:Nat}{v v':EK (Wk Ef Cs)}{W':World}(hv:ws[k]?=some v)(hov:v.over=false)(hfu:R+1<=v.r+s)(hr:v.r=r+1){sn:Nat}(hG:aL (Eu D m) ρ ws v (D.hold v.x sn σ) r W v' W'):Lr m ρ (ws.set k v') q Kp W0 R (D.hold v.x sn σ).2.1 left last s steps cut W':=by
  have hsame:∀ g,q.K Kp g->W'.heap[g]?=W.heap[g]?:=fun g hg=>by obtain ⟨f1,f2,f3,f4,f5⟩:=h.free g hg;exact hG.block g f1 (Ij f2 f3) (f5 k v hv) f4
  have hx:=(h.ov k v hv)
  have hh:=fQ D hx.2 (hx.1 ▸ hov) sn σ;have hmap:(ws.set k v').map (·.b)=ws.map (·.b):=by
    rw [List.map_set,hG.b];refine List.ext_getElem? fun j=>?_;by_cases e:k=j
    . subst e;rw [List.getElem?_set_self',List.getElem?_map,hv];rfl
    . rw [List.getElem?_set_ne e]
  refine ⟨by rw [hmap];exact h.rows.keep fun g hg=>hsame g hg.weak,h.lay,hG.inv,fun g hg=>?_,fun g hg=>?_,fun j u hu=>?_,fun j u hu=>?_,by rw [List.length_set];exact h.UO,by rw [List.length_set];exact h.few,h.hal⟩
  . rw [hsame g hg];obtain ⟨f1,f2,f3,f4,f5⟩:=h.free g hg;refine ⟨f1,f2,f3,f4,fun j u hu ho=>?_⟩;rcases getElem?_set' hu with ⟨rfl,rfl⟩|⟨_,hu⟩
    . rcases hG.own g ho with ho | ho
      . exact f5 j v hv ho
      . have:=h.lt hg;omega
    . exact f5 j u hu ho
  . rw [hsame g (.inr (.inr (.inr (.inr (.inr (.inr (.inr hg)))))))];exact h.kept g hg
  . rcases getElem?_set' hu with ⟨rfl,rfl⟩ | ⟨_,hu⟩
    . rw [hG.over,hG.x];exact ⟨hh.2,hh.1⟩
    . exact h.ov j u hu
  . rcases getElem?_set' hu with ⟨rfl,rfl⟩ | ⟨_,hu⟩
    . rw [hG.r];omega
    . exact h.fuel j u hu
theorem kH {tm:Array Value}{n:Nat}(h:tm.size=n):tm=((List.range n).map fun i=>tm.getD i undef).toArray:=by refine Array.ext (by simp [h]) fun i h1 h2=>?_;simp [Array.getD,h1]
theorem EU {tm:Array Value}{i:Nat}{v:Value}(h:tm[i]?=some v):tm.getD i undef=v:=by rw [Array.getD_eq_getD_getElem?,h];rfl
theorem wm {tm tm':Array Value}(h:Sd q co n FU FC Gv Im IY Iu u68 u69 tm)(hsz:tm'.size=106)(hlow:∀ s,s < 16->tm'[s]?=tm[s]?):∃ Iu u68 u69,Sd q co n FU FC Gv Im IY Iu u68 u69 tm':=by
  obtain ⟨v4,v5,Ai,Aj,Ak,Al,Am,Ao,Ap,Ar,Au,Av,Aw,Ay,Az,AA,AB,AJ,AL,AO,AP,AQ,AU,AV,AX,AY,AZ,A8,A9,Ba,Bb,Bc,Bf,Bh,Bj,Bl,Bp,Bq,Br,Bu,Bv,Bw,Bz,BD,BF,BG,BH,BI,BJ,BK,BL,BM,BN,BR,BS,BU,BX,BZ,Ca,Cb,Cc,Ce,Cg,Ci,Cj,Ck,Cm,Co,Cq,Cr,Ct,Cu,Cw,Cx,Cy,Cz,CB,CF,CG,CJ,CK,CO,CQ,CS,CU,CV,CW,CX,CY,rfl⟩:=h
  have e:tm'=#[tm'.getD 0 undef,tm'.getD 1 undef,tm'.getD 2 undef,tm'.getD 3 undef,tm'.getD 4 undef,tm'.getD 5 undef,tm'.getD 6 undef,tm'.getD 7 undef,tm'.getD 8 undef,tm'.getD 9 undef,tm'.getD 10 undef,tm'.getD 11 undef,tm'.getD 12 undef,tm'.getD 13 undef,tm'.getD 14 undef,tm'.getD 15 undef,tm'.getD 16 undef,tm'.getD 17 undef,tm'.getD 18 undef,tm'.getD 19 undef,tm'.getD 20 undef,tm'.getD 21 undef,tm'.getD 22 undef,tm'.getD 23 undef,tm'.getD 24 undef,tm'.getD 25 undef,tm'.getD 26 undef,tm'.getD 27 undef,tm'.getD 28 undef,tm'.getD 29 undef,tm'.getD 30 undef,tm'.getD 31 undef,tm'.getD 32 undef,tm'.getD 33 undef,tm'.getD 34 undef,tm'.getD 35 undef,tm'.getD 36 undef,tm'.getD 37 undef,tm'.getD 38 undef,tm'.getD 39 undef,tm'.getD 40 undef,tm'.getD 41 undef,tm'.getD 42 undef,tm'.getD 43 undef,tm'.getD 44 undef,tm'.getD 45 undef,tm'.getD 46 undef,tm'.getD 47 undef,tm'.getD 48 undef,tm'.getD 49 undef,tm'.getD 50 undef,tm'.getD 51 undef,tm'.getD 52 undef,tm'.getD 53 undef,tm'.getD 54 undef,tm'.getD 55 undef,tm'.getD 56 undef,tm'.getD 57 undef,tm'.getD 58 undef,tm'.getD 59 undef,tm'.getD 60 undef,tm'.getD 61 undef,tm'.getD 62 undef,tm'.getD 63 undef,tm'.getD 64 undef,tm'.getD 65 undef,tm'.getD 66 undef,tm'.getD 67 undef,tm'.getD 68 undef,tm'.getD 69 undef,tm'.getD 70 undef,tm'.getD 71 undef,tm'.getD 72 undef,tm'.getD 73 undef,tm'.getD 74 undef,tm'.getD 75 undef,tm'.getD 76 undef,tm'.getD 77 undef,tm'.getD 78 undef,tm'.getD 79 undef,tm'.getD 80 undef,tm'.getD 81 undef,tm'.getD 82 undef,tm'.getD 83 undef,tm'.getD 84 undef,tm'.getD 85 undef,tm'.getD 86 undef,tm'.getD 87 undef,tm'.getD 88 undef,tm'.getD 89 undef,tm'.getD 90 undef,tm'.getD 91 undef,tm'.getD 92 undef,tm'.getD 93 undef,tm'.getD 94 undef,tm'.getD 95 undef,tm'.getD 96 undef,tm'.getD 97 undef,tm'.getD 98 undef,tm'.getD 99 undef,tm'.getD 100 undef,tm'.getD 101 undef,tm'.getD 102 undef,tm'.getD 103 undef,tm'.getD 104 undef,tm'.getD 105 undef]:=kH hsz
  have e0:tm'.getD 0 undef=q.cv:=EU (hlow 0 (by decide));have e1:tm'.getD 1 undef=.slice (some ⟨q.lg,0,none⟩) n q.lc:=EU (hlow 1 (by decide));have e2:tm'.getD 2 undef=.chan (some co):=EU (hlow 2 (by decide));have e3:tm'.getD 3 undef=.pointer (some ⟨q.bc,0,none⟩):=EU (hlow 3 (by decide));have e6:tm'.getD 6 undef=.pointer (some ⟨q.bz,0,none⟩):=EU (hlow 6 (by decide));have e7:tm'.getD 7 undef=.int .i64 q.most:=EU (hlow 7 (by decide));have e8:tm'.getD 8 undef=.pointer (some ⟨q.ob,0,none⟩):=EU (hlow 8 (by decide));have e9:tm'.getD 9 undef=.slice (some ⟨q.sg,0,none⟩) n n:=EU (hlow 9 (by decide));have e10:tm'.getD 10 undef=.pointer (some ⟨q.br,0,none⟩):=EU (hlow 10 (by decide));have e11:tm'.getD 11 undef=FU:=EU (hlow 11 (by decide));have e12:tm'.getD 12 undef=FC:=EU (hlow 12 (by decide))
  have e13:tm'.getD 13 undef=Gv:=EU (hlow 13 (by decide));have e14:tm'.getD 14 undef=Im:=EU (hlow 14 (by decide));have e15:tm'.getD 15 undef=IY:=EU (hlow 15 (by decide));rw [e0,e1,e2,e3,e6,e7,e8,e9,e10,e11,e12,e13,e14,e15] at e;exact ⟨_,_,_,_,_,_,_,_,_,_,_,_,_,_,_,_,_,_,_,_,_,_,_,_,_,_,_,_,_,_,_,_,_,_,_,_,_,_,_,_,_,_,_,_,_,_,_,_,_,_,_,_,_,_,_,_,_,_,_,_,_,_,_,_,_,_,_,_,_,_,_,_,_,_,_,_,_,_,_,_,_,_,_,_,_,_,_,_,_,_,_,_,e⟩
end
end
section
section
variable {Cs Sg:Type}{D:Dr Ef Cs Sg}{m:Mem Sg}{ρ:Rn}{ws:List (EK (Wk Ef Cs))}
variable {Fin:FE}{Ea:E5 Try.prog Fin}
variable {q:OI}{Kp:Nat->Prop}{W0 W:World}{R s co n nn:Nat}{σ:Sg}{left:List Int}{last:Int}{steps:List Nat}{cut FU FC Gv Im IY Iu u68 u69:Value}{ds:List Deferred}{K:List Item}{cs:List Frame}
theorem gJ (h:Lr m ρ ws q Kp W0 R σ left last s steps cut W)(hcl:¬ ρ.SN)(hzi:ρ.zi=.int .i64 0)(hco:co=ρ.come){k r:Nat}{v:EK (Wk Ef Cs)}(hkn:k < n)(hv:ws[k]?=some v)(hov:v.over=false)(hr:v.r=r+1)(hfu:R+1<=v.r+s){tm:Array Value}(hs:Sd q co n FU FC (.int .i64 k) Im IY Iu u68 u69 tm)(hK:∀ v' W' W1 tm' Iu u68 u69,Sd q co n FU FC (.int .i64 k) Im IY Iu u68 u69 tm'->aL (Eu D m) ρ ws v (D.hold v.x s σ) r W1 v' W'->Lr m ρ (ws.set k v') q Kp W0 R (D.hold v.x s σ).2.1 left last s steps cut W'->JL (S0 Try.prog Fin Ea).L (.Ev (Eu D m) ρ (ws.set k v') 0 false nn) (G ((base 34).at ⟨tm',ds⟩ K) cs) W') :
    JL (S0 Try.prog Fin Ea).L (.Ev (Eu D m) ρ ws 0 false nn) (G ((base 34).at ⟨tm,ds⟩ (.code (.seq eT Yg) :: K)) cs) W:=by
  subst hco;refine J0.know (Ea:=Ea) fun hKn=>?_;have hvb:W.cell? ⟨v.b,2,none⟩=some (.chan (some v.t)):=hKn.turn k v hv hov;have hvl:W.cell? ⟨q.lg,k,none⟩=some (.pointer (some ⟨v.b,0,none⟩)):=h.rows.row k v.b (by rw [List.getElem?_map,hv];rfl);have hvs:W.cell? ⟨q.br,2,none⟩=some (.int .i64 s):=by simp [World.cell?,h.rows.run]
  have hs0:=hs;obtain ⟨v4,v5,Ai,Aj,Ak,Al,Am,Ao,Ap,Ar,Au,Av,Aw,Ay,Az,AA,AB,AJ,AL,AO,AP,AQ,AU,AV,AX,AY,AZ,A8,A9,Ba,Bb,Bc,Bf,Bh,Bj,Bl,Bp,Bq,Br,Bu,Bv,Bw,Bz,BD,BF,BG,BH,BI,BJ,BK,BL,BM,BN,BR,BS,BU,BX,BZ,Ca,Cb,Cc,Ce,Cg,Ci,Cj,Ck,Cm,Co,Cq,Cr,Ct,Cu,Cw,Cx,Cy,Cz,CB,CF,CG,CJ,CK,CO,CQ,CS,CU,CV,CW,CX,CY,rfl⟩:=hs;show JL (S0 Try.prog Fin Ea).L _ _ W;refine Ei ?_;rw [fC];refine EL.Ya (S:=S0 Try.prog Fin Ea) (Il:=HY) (N:=9) (s0:=56) (vs:=[.slice (some ⟨q.lg,0,none⟩) n q.lc,.int .i64 k,.pointer (some ⟨q.lg,k,none⟩),.pointer (some ⟨v.b,0,none⟩),.pointer (some ⟨v.b,0,none⟩),.pointer (some ⟨v.b,2,none⟩),.chan (some v.t),.pointer (some ⟨q.br,2,none⟩),.int .i64 s]) zKR zKR nE rR WZ gX iB nN zKR rfl (by simp) xS ?_ ?_
  . intro w ha l a i o hI hb ho hod;have hcell:∀ a,w.cell? a=W.cell? a:=fun a=>by obtain ⟨τ,d,rfl⟩:=ha;rfl
    rw [← hcell] at hvb hvl hvs;have hi:i < 9:=by have:=(zGE ho).1;rw [WZ] at this;exact this
    clear hK h hKn hs0 hcell;obtain rfl|rfl|rfl|rfl|rfl|rfl|rfl|rfl|rfl:i=0\/i=1\/i=2\/i=3\/i=4\/i=5\/i=6\/i=7\/i=8:=by omega
    . obtain ⟨af,p,ty,ho'⟩:=vC;obtain rfl:=Option.some.inj (ho.symm.trans ho');have t:a.eval (.tmp 1)=.slice (some ⟨q.lg,0,none⟩) n q.lc:=Eh ((hI.low 1 (by decide)).trans rfl);exact ⟨rfl,_,rfl,by unfold execOp;simp only [t];go_simp⟩
    . obtain ⟨af,p,ty,ho'⟩:=u6;obtain rfl:=Option.some.inj (ho.symm.trans ho');have t:a.eval (.tmp 13)=.int .i64 k:=Eh ((hI.low 13 (by decide)).trans rfl);exact ⟨rfl,_,rfl,by unfold execOp;simp only [t];go_simp⟩
    . obtain ⟨af,p,ty,ho'⟩:=yO;obtain rfl:=Option.some.inj (ho.symm.trans ho');have t0:=Eh (hI.val 0 _ (Ep ZB ho hod (by decide)) rfl);have t1:=Eh (hI.val 1 _ (Ep ZB ho hod (by decide)) rfl);refine ⟨rfl,_,rfl,?_⟩;unfold execOp;simp only [t0,t1];go_simp
    . obtain ⟨af,p,ty,ho'⟩:=yg;obtain rfl:=Option.some.inj (ho.symm.trans ho');have t:=Eh (hI.val 2 _ (Ep oL ho hod (by decide)) rfl);exact ⟨rfl,_,rfl,by unfold execOp;simp only [t];go_simp⟩
    . obtain ⟨af,p,ty,ho'⟩:=xJ;obtain rfl:=Option.some.inj (ho.symm.trans ho');have t:=Eh (hI.val 3 _ (Ep qb ho hod (by decide)) rfl);exact ⟨rfl,_,rfl,by unfold execOp;simp only [t];go_simp⟩
    . obtain ⟨af,p,ty,ho'⟩:=uh;obtain rfl:=Option.some.inj (ho.symm.trans ho');have t:=Eh (hI.val 4 _ (Ep pI ho hod (by decide)) rfl);exact ⟨rfl,_,rfl,by unfold execOp;simp only [t];go_simp⟩
    . obtain ⟨af,p,ty,ho'⟩:=xC;obtain rfl:=Option.some.inj (ho.symm.trans ho');have t:=Eh (hI.val 5 _ (Ep oJ ho hod (by decide)) rfl);exact ⟨rfl,_,rfl,by unfold execOp;simp only [t];go_simp⟩
    . obtain ⟨af,p,ty,ho'⟩:=wZ;obtain rfl:=Option.some.inj (ho.symm.trans ho');have t:a.eval (.tmp 10)=.pointer (some ⟨q.br,0,none⟩):=Eh ((hI.low 10 (by decide)).trans rfl);exact ⟨rfl,_,rfl,by unfold execOp;simp only [t];go_simp⟩
    . obtain ⟨af,p,ty,ho'⟩:=uP;obtain rfl:=Option.some.inj (ho.symm.trans ho');have t:=Eh (hI.val 7 _ (Ep qW ho hod (by decide)) rfl);exact ⟨rfl,_,rfl,by unfold execOp;simp only [t];go_simp⟩
  . intro l tm' W' hI hall ha;have hh:W'.heap=W.heap:=by obtain ⟨τ,d,rfl⟩:=ha;rfl
    have h1:=h.alike hh;obtain ⟨vQ,yC,ug,hs1⟩:=wm hs0 hI.size (fun s h1=>hI.low s zOM);have t62:=hI.val 6 _ (hall 6 (by decide)) rfl;have t64:=hI.val 8 _ (hall 8 (by decide)) rfl;clear hI;obtain ⟨v4,v5,Ai,Aj,Ak,Al,Am,Ao,Ap,Ar,Au,Av,Aw,Ay,Az,AA,AB,AJ,AL,AO,AP,AQ,AU,AV,AX,AY,AZ,A8,A9,Ba,Bb,Bc,Bf,Bh,Bj,Bl,Bp,Bq,Br,Bu,Bv,Bw,Bz,BD,BF,BG,BH,BI,BJ,BK,BL,BM,BN,BR,BS,BU,BX,BZ,Ca,Cb,Cc,Ce,Cg,Ci,Cj,Ck,Cm,Co,Cq,Cr,Ct,Cu,Cw,Cx,Cy,Cz,CB,CF,CG,CJ,CK,CO,CQ,CS,CU,CV,CW,CX,CY,rfl⟩:=hs1;have Aas:some BJ=some (.chan (some v.t)):=t62;have Aaq:some BL=some (.int .i64 (s:Int)):=t64;cases Aas
    cases Aaq
    clear t62 t64 hs0 hvb hvl hvs;obtain ⟨af,p,ty,h9⟩:=vD;generalize hg0:(G ((base 34).at ⟨#[q.cv,.slice (some ⟨q.lg,0,none⟩) n q.lc,.chan (some ρ.come),.pointer (some ⟨q.bc,0,none⟩),v4,v5,.pointer (some ⟨q.bz,0,none⟩),.int .i64 q.most,.pointer (some ⟨q.ob,0,none⟩),.slice (some ⟨q.sg,0,none⟩) n n,.pointer (some ⟨q.br,0,none⟩),FU,FC,.int .i64 k,Im,IY,Ai,Aj,Ak,Al,Am,Ao,Ap,Ar,Au,Av,Aw,Ay,Az,AA,AB,AJ,AL,AO,AP,AQ,AU,AV,AX,AY,AZ,A8,A9,Ba,Bb,Bc,Bf,Bh,Bj,Bl,Bp,Bq,Br,Bu,Bv,Bw,Bz,BD,BF,BG,BH,BI,.chan (some v.t),BK,.int .i64 s,.chan (some ρ.come),BN,vQ,yC,ug,BR,BS,BU,BX,BZ,Ca,Cb,Cc,Ce,Cg,Ci,Cj,Ck,Cm,Co,Cq,Cr,Ct,Cu,Cw,Cx,Cy,Cz,CB,CF,CG,CJ,CK,CO,CQ,CS,CU,CV,CW,CX,CY],ds⟩ (.inRegion Tz [1] :: K)) cs)=g0
    obtain ⟨nq,hS⟩:=Pg (P:=Try.prog) (main:=true) (K:=fun _=>True) (Still:=fun _=>False) (Bd:=0) (st:=Seat.one ρ.come ρ.zi false (·=g0)) (g:=(G ((base 34).at ⟨#[q.cv,.slice (some ⟨q.lg,0,none⟩) n q.lc,.chan (some ρ.come),.pointer (some ⟨q.bc,0,none⟩),v4,v5,.pointer (some ⟨q.bz,0,none⟩),.int .i64 q.most,.pointer (some ⟨q.ob,0,none⟩),.slice (some ⟨q.sg,0,none⟩) n n,.pointer (some ⟨q.br,0,none⟩),FU,FC,.int .i64 k,Im,IY,Ai,Aj,Ak,Al,Am,Ao,Ap,Ar,Au,Av,Aw,Ay,Az,AA,AB,AJ,AL,AO,AP,AQ,AU,AV,AX,AY,AZ,A8,A9,Ba,Bb,Bc,Bf,Bh,Bj,Bl,Bp,Bq,Br,Bu,Bv,Bw,Bz,BD,BF,BG,BH,BI,.chan (some v.t),BK,.int .i64 s,BM,BN,vQ,yC,ug,BR,BS,BU,BX,BZ,Ca,Cb,Cc,Ce,Cg,Ci,Cj,Ck,Cm,Co,Cq,Cr,Ct,Cu,Cw,Cx,Cy,Cz,CB,CF,CG,CJ,CK,CO,CQ,CS,CU,CV,CW,CX,CY],ds⟩ (.inRegion NI [9] :: .code Yg :: K)) cs).finishComm Try.prog #[scase v.t (.int .i64 s) (.tuple #[])] .send (0:Nat) undef false) fun W₁=>by
      rw [Gc,h9];refine Er stepG_region_end ?_;rw [jT];refine JL.region (l:=[0,1]) rfl fun _ hk2=>?_;cases hk2
      simp only [Tz,Yg,TF,N9,Try.f34]
      (refine Eo ?_;walk_nrm)
      refine JQ.sit rfl rfl nE (fun w=>?_) (fun w=>?_) ?_
      . go_simp
        simp [Seat.one,rcase,hzi]
      . simp [go_sem]
      . exact hg0
    refine J0.give (Ea:=Ea) hcl (i:=k) (v:=v) (r:=r) (s:=s) (σ:=σ) (zs:=.tuple #[]) hv hov hr h1.inv rfl (fun w=>?_) hS fun v' W'' hG=>?_
    . rw [stepG_comm (cases:=#[scase v.t (.int .i64 s) (.tuple #[])]) (blocking:=true) (shape:=.send) (w':=w) h9 rfl nE ?_,listed_none ?_]
      . unfold execOp;simp [go_sem]
      . unfold execOp;go_simp
        rfl
    . subst hg0;rw [Gc];have s66:(Tz[1]?).bind (·.dst)=some 66:=by kernel_rfl
      rw [s66];walk_nrm;show JL (S0 Try.prog Fin Ea).L _ _ _;refine Er stepG_region_end ?_;exact hK v' W'' W' _ _ _ _ ⟨_,_,_,_,_,_,_,_,_,_,_,_,_,_,_,_,_,_,_,_,_,_,_,_,_,_,_,_,_,_,_,_,_,_,_,_,_,_,_,_,_,_,_,_,_,_,_,_,_,_,_,_,_,_,_,_,_,_,_,_,_,_,_,_,_,_,_,_,_,_,_,_,_,_,_,_,_,_,_,_,_,_,_,_,_,_,_,_,_,rfl⟩ hG (h1.gave hv hov hfu hr hG)
end
end
end Go.Proofs.Yticecinjcajmcaa
end
