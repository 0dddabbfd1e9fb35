/-
  Part 15 of the proof that CellOrders is true of every input of bulk at most 1048576.
-/
import Derived.Test.YtdkfdedgfilhbaaQ14
import Derived.Stop.RegionWithIn
set_option linter.unusedVariables false
set_option linter.unusedSectionVars false
set_option linter.unusedSimpArgs false
set_option maxHeartbeats 4000000
set_option maxRecDepth 100000
noncomputable section
namespace Go.Proofs.Ytdkfdedgfilhbaa
open Go Go.Conc Go.LT Go.LC Go.LK Go.RowKit
open Go.ConcN (WgLive)
open BA TU
section
section
variable {Cs Sg:Type}{D:Dr EP Cs Sg}{m:Mem Sg}{ρ:Rn}{ws:List (FE (Wk EP Cs))}
variable {Fin:Gb}{EH:FM Try.prog Fin}
variable {q:PO}{Kp:Nat->Prop}{W0 W:World}{R N1 s co n nn:Nat}{σ:Sg}{left:List Int}{last:Int}{steps:List Nat}{cut GK Gi Ia Jh JD IE u68 u69:Value}{ds:List Deferred}{K:List Item}{cs:List Frame}
variable {ov:sN}{av:Value}{i:Nat}{vs:List Value}
theorem MO.gather(h:MO m ρ ws q Kp W0 R σ left last s steps cut W)(hn:∀(i:Nat) (v:FE (Wk EP Cs)),ws[i]?=some v->∀b,v.own b->∃c e f,W.heap[b]?=some (.cells c e f))(hall:∀(j:Nat) (u:FE (Wk EP Cs)),ws[j]?=some u->u.x.out.length<=1000000):Va m ρ ws q Kp W0 W.heap.size σ s cut ⟨.slice none 0 0,[]⟩ 0 [] (.slice none 0 0) W:=
  { lay:=h.lay,row:=h.rows.row,run:=h.rows.run,res:=h.rows.res,inv:=h.inv,
     free:=fun g hg=>h.free g (hg.elim .inl fun hg=>hg.elim (fun h=>.inr (.inr (.inl h))) fun hg=>hg.elim (fun h=>.inr (.inr (.inr (.inr (.inr (.inr (.inl h))))))) fun h=>.inr (.inr (.inr (.inr (.inr (.inr (.inr h))))))),
     kept:=h.kept,own:=⟨0,World.ownsRow_nil _ _ _ _⟩,cop:=fun j v u hj _=>(by simp at hj),opn:=⟨0,World.ownsRow_nil _ _ _ _⟩,jq:=fun g hg=>(by cases hg),few:=h.few,
     low:=⟨h.lt (.inr (.inr (.inr (.inr (.inr (.inr (.inl rfl))))))),Nat.le_refl _,fun g hg=>h.uV hg,fun j u hu=>⟨fun g hg=>(by obtain⟨c,e,f,hc⟩:=hn j u hu g hg;exact(zGE hc).1),hall j u hu⟩⟩ }
theorem aK(hn:n=ws.length)(hK:∀W' vs av RL Jh JD IE u68 u69 tm',Sd q co n GK Gi Ia Jh JD IE u68 u69 tm'->Va m ρ ws q Kp W0 N1 σ s cut ⟨RL,opens (ws.map (·.x))⟩ n vs av W'->JL (S0 Try.prog Fin EH).L (.Fg (Fe D m) ρ ws 0 false nn) (G ((base 31).at ⟨tm',ds⟩ K) cs) W') :
  ∀(d i:Nat) (vs:List Value) (av RL Jh JD:Value) (W:World) (tm:Array Value),n-i=d->i<=n->Va m ρ ws q Kp W0 N1 σ s cut ⟨RL,opens ((ws.map (·.x)).take i)⟩ i vs av W->Sd q co n GK Gi Ia Jh JD (.slice (some ⟨q.lg,0,none⟩) n q.lc) (.int .i64 n) (.int .i64 i) tm->
  JL (S0 Try.prog Fin EH).L (.Fg (Fe D m) ρ ws 0 false nn) (G ((base 31).at ⟨tm,ds⟩ (.code XU :: .inLoop XU :: .inBlock 2 :: K)) cs) W:=by
 intro d;induction d with
 | zero=>
  intro i vs av RL Jh JD W tm hd hi h hs;obtain rfl:i=n:=by omega
  have Qe:=h.few;rw[TN];refine EO ?_;refine eO zOM zOM hs fun W1 VU hs1 uM hw1=>?_;rw[decide_eq_false zOM]at uM;refine EO ?_;refine JL.EX (EN uM) ?_;refine JL.exit rfl ?_;have e:(ws.map (·.x)).take i=ws.map (·.x):=List.take_of_length_le (by simp;omega);rw[e]at h;exact hK W1 _ _ _ _ _ _ _ _ VU hs1 (h.alike hw1)
 | succ d ih=>
  intro i vs av RL Jh JD W tm hd hi h hs;have hlt:i<n:=by omega
  have Qe:=h.few;obtain⟨v,hv⟩:∃v,ws[i]?=some v:=⟨_,List.getElem?_eq_getElem zOM⟩
  rw[TN];refine EO ?_;refine eO zOM zOM hs fun W1 VU hs1 uM hw1=>?_;rw[decide_eq_true hlt]at uM;have h1:=h.alike hw1;refine EO ?_;refine JL.F3 (EN uM) ?_;refine EU stepG_skip ?_;refine EO ?_;refine EU stepG_block ?_;refine EO ?_;refine sW hlt (h1.row i v.b (by rw[List.getElem?_map,hv];rfl)) hs1 fun W2 xI hs2 hw2=>?_;have h2:=h1.alike hw2;refine EO ?_;refine sQ h2 hv zOM hs2 fun W3 tm3 v1 av' hs3 h3=>?_;refine EO ?_;refine J0.know (EH:=EH) fun hKn=>?_;show JL (S0 Try.prog Fin EH).L _ _ W3;have hko:=Rf (D:=D) rfl hKn hv;refine wD (b:=v.b) hko.2.1 hs3 fun W4 tm4 hs4 h88 hw4=>?_;have h4:=h3.alike hw4;have hop:=Xi (xs:=ws.map (·.x)) (i:=i) (x:=v.x) (by rw[List.getElem?_map,hv];rfl);by_cases hbg:v.x.bg=0
  . rw[hbg]at h88;rw[if_pos hbg,List.append_nil]at hop;rw[← hop]at h4;refine JL.EX (EN h88) ?_;refine EU stepG_skip ?_;refine EU stepG_inBlock ?_;refine fJ zOM hs4 fun W5 tm5 hs5 hw5=>?_;have h5:=h4.alike hw5;refine EU stepG_inLoop ?_;rw[← TN];exact ih (i+1) _ _ _ _ _ W5 tm5 zOM hlt h5 hs5
  . rw[decide_eq_true (Nat.pos_of_ne_zero hbg)]at h88;rw[if_neg hbg]at hop;refine JL.F3 (EN h88) ?_;have hc4:∀a,W4.cell? a=W3.cell? a:=fun a=>by simp only[World.cell?,hw4]
    have hvl:(vs++[v1]).length=i+1:=by
     obtain⟨te,hl,_⟩:=h3.own
     simpa using hl
    have hol:=ZF ((ws.map (·.x)).take i);refine uh (k:=i) (bg:=v.x.bg) (ow:=v.x.ow) h4 (by rw[hc4];exact hko.2.1) (by rw[hc4];exact hko.2.2) (Nat.le_trans hol (by simp;omega)) (fun j hj=>⟨_,List.getElem?_eq_getElem zOM⟩) hs4 fun W5 tm5 Anl hs5 h5=>?_;rw[← hop]at h5;refine EU stepG_inBlock ?_;refine fJ zOM hs5 fun W6 tm6 hs6 hw6=>?_;have h6:=h5.alike hw6;refine EU stepG_inLoop ?_;rw[← TN];exact ih (i+1) _ _ _ _ _ W6 tm6 zOM hlt h6 hs6
end
end
section
def pF:Code:=match bE with | .seq c _=>c | _=>.skip
theorem lq:bE=.seq pF .ret:=rfl
section
variable {Cs Sg:Type}{D:Dr EP Cs Sg}{m:Mem Sg}{ρ:Rn}{ws:List (FE (Wk EP Cs))}
variable {Fin:Gb}{EH:FM Try.prog Fin}
variable {q:PO}{Kp:Nat->Prop}{W0 W:World}{R N1 s co n nn:Nat}{σ:Sg}{left:List Int}{last:Int}{steps:List Nat}{cut GK Gi Ia Jh JD IE u68 u69:Value}{ds:List Deferred}{K:List Item}{cs:List Frame}
variable {ov:sN}{av:Value}{i:Nat}{vs:List Value}{cf:Frame}
theorem uj{ow:Option Addr}{on oc:Nat}{cv:Bool}(h:Va m ρ ws q Kp W0 N1 σ s (.bool cv) ov i vs av W)(hov:ov.v=.slice ow on oc){tm:Array Value}(hs:Sd q co n GK Gi Ia Jh JD IE u68 u69 tm)(hK:∀W',(∀g,g≠q.bz->W'.heap[g]?=W.heap[g]?)->W'.heap.size=W.heap.size->JW (S0 Try.prog Fin EH).base (.Fg (Fe D m) ρ ws 0 false nn) (G (cf.finish (.agg #[av,.slice ow on oc,.int .i64 s,.bool cv])) cs) W') :
  JL (S0 Try.prog Fin EH).L (.Fg (Fe D m) ρ ws 0 false nn) (G ((base 31).at ⟨tm,[]⟩ [.code bE]) (cf :: cs)) W:=by
 obtain⟨v4,v5,Ai,Aj,Ak,Al,Am,Ao,Ap,Ar,Au,Av,Aw,Ay,Az,AA,AB,AJ,AL,AO,AP,AQ,AU,AV,AX,AY,AZ,A8,A9,Ba,Bb,Bc,Bf,Bh,Bj,Bl,Bp,Bq,Br,Bu,Bv,Bw,Bz,BD,BF,BG,BH,BI,BJ,BK,BL,BM,BN,BR,BS,BU,BX,BZ,Ca,Cb,Cc,Ce,Cg,Ci,Cj,Ck,Cm,Co,Cq,Cr,Ct,Cu,Cw,Cx,Cy,Cz,CB,CF,CG,CJ,CK,CO,CQ,CS,CU,CV,CW,CX,CY,rfl⟩:=hs;obtain⟨p1,n1,c1,rfl⟩:=Iy h.own;obtain⟨RL,os⟩:=ov;obtain rfl:RL=.slice ow on oc:=hov;rw[lq];refine EO ?_;refine Fp.Fz (S:=S0 Try.prog Fin EH) (b:=base 31) [] (by simp) zKR nE zKR fun EG ha=>?_;have hh:EG.heap=W.heap:=by obtain⟨τ,d,rfl⟩:=ha;rfl
 have h1:=h.alike hh;have a0:EG.cell? ⟨q.br,0,none⟩=some (.slice p1 n1 c1):=by simp[World.cell?,h1.run]
 have a1:EG.cell? ⟨q.br,1,none⟩=some (.slice ow on oc):=by simp[World.cell?,h1.run]
 have a2:EG.cell? ⟨q.br,2,none⟩=some (.int .i64 s):=by simp[World.cell?,h1.run]
 have a3:EG.cell? ⟨q.br,3,none⟩=some (.bool cv):=by simp[World.cell?,h1.run]
 have b0:EG.cell? ⟨q.bz,0,none⟩=some (.slice none 0 0):=by simp[World.cell?,h1.res]
 have b1:EG.cell? ⟨q.bz,1,none⟩=some (.slice none 0 0):=by simp[World.cell?,h1.res]
 have b2:EG.cell? ⟨q.bz,2,none⟩=some (.int .i64 0):=by simp[World.cell?,h1.res]
 have b3:EG.cell? ⟨q.bz,3,none⟩=some (.bool false):=by simp[World.cell?,h1.res]
 have f0:∀o,EG.frozen? ⟨q.bz,o,none⟩=false:=fun o=>by simp[World.frozen?,h1.res]
 have f0':=f0 0;have f1':=f0 1;have f2':=f0 2;have f3':=f0 3;have HH:=Lib.hid (zAI hK (zAI hh h1));clear hK hh h1 h;dsimp only;simp only[pF,bE,fU,Py,Try.f31];gi_wp2;obtain⟨hK,hh,h1⟩:=HH.out;clear HH;generalize hW':World.setCell _ _ _=W';have hoth:∀g,g≠q.bz->W'.heap[g]?=W.heap[g]?:=fun g hg=>by rw[← hW',← hh];simp[World.setCell,Array.getElem?_modify,Ne.symm hg]
 have hrow:W'.heap[q.bz]?=some (.cells #[.slice p1 n1 c1,.slice ow on oc,.int .i64 s,.bool cv] 31 (0,0)):=by rw[← hW'];have:=h1.res;simp[World.setCell,Array.getElem?_modify,this]
 have hsz:W'.heap.size=W.heap.size:=by rw[← hW',← hh];simp[World.setCell]
 clear hW';show JL (S0 Try.prog Fin EH).L _ (G ((base 31).at ⟨_,[]⟩ [.code .ret]) (cf :: cs)) W';refine EU stepG_ret' ?_;refine JW.returns (S:=S0 Try.prog Fin EH) Try.func31 (v:=.agg #[.slice p1 n1 c1,.slice ow on oc,.int .i64 s,.bool cv]) (fun F8 ha2=>?_) (hK W' hoth hsz);have KX:F8.heap=W'.heap:=by obtain⟨τ,d,rfl⟩:=ha2;rfl
 have d0:F8.cell? ⟨q.bz,0,none⟩=some (.slice p1 n1 c1):=by simp[World.cell?,KX,hrow]
 have d1:F8.cell? ⟨q.bz,1,none⟩=some (.slice ow on oc):=by simp[World.cell?,KX,hrow]
 have d2:F8.cell? ⟨q.bz,2,none⟩=some (.int .i64 s):=by simp[World.cell?,KX,hrow]
 have d3:F8.cell? ⟨q.bz,3,none⟩=some (.bool cv):=by simp[World.cell?,KX,hrow]
 clear KX hrow hoth hsz hh h1 hK a0 a1 a2 a3 b0 b1 b2 b3 f0 f0' f1' f2' f3';simp[results,Try.results31,go_sem,Frame.at, *]
end
end
section
theorem gY(v:Value)(n:Nat):madeCells #[v] n=(List.replicate n v).toArray:=by refine Array.ext (by simp[size_madeCells]) fun i h1 h2=>?_;simp[madeCells,Nat.mod_one]
theorem fB:∀g∈[59,75],@Lets (Host.only 31) Try.prog g:=fun g hg=>by
 simp only[List.mem_cons,List.not_mem_nil,or_false]at hg;rcases hg with rfl|rfl
 . exact⟨by kernel_rfl,.inl ⟨_,_,Try.func59,by kernel_rfl,rfl,by kernel_rfl⟩⟩
 . exact⟨by kernel_rfl,.inl ⟨_,_,Try.func75,by kernel_rfl,rfl,by kernel_rfl⟩⟩
section
variable {Cs Sg:Type}{M:Md (Wk EP Cs) Sg}{ρ:Rn}{ws:List (FE (Wk EP Cs))}
variable {Fin:Gb}{EH:FM Try.prog Fin}
variable {W:World}{nn:Nat}{ds:List Deferred}{K:List Item}{cs:List Frame}
variable {v0 v1 v2 v3 v4 v5 v6 v7 v8 v9 Aa Ab Ac Ae Af Ah Ai Aj Ak Al Am Ao Ap Ar Au Av Aw Ay Az AA AB AJ AL AO AP AQ AU AV AX AY AZ A8 A9 Ba Bb Bc Bf Bh Bj Bl Bp Bq Br Bu Bv Bw Bz BD BF BG BH BI BJ BK BL BM BN BO BP BQ BR BS BU BX BZ Ca Cb Cc Ce Cg Ci Cj Ck Cm Co Cq Cr Ct Cu Cw Cx Cy Cz CB CF CG CJ CK CO CQ CS CU CV CW CX CY:Value}{wa ta ya:Option Addr}{wn wc tn tc yn yc:Nat}{u:Int}
theorem Ack(hK:∀W',W'.heap=(W.heap.push (.cells #[.slice wa wn wc,.slice ta tn tc,.slice ya yn yc,.int .i64 u] 25 (0,0))).push (.cells #[.slice none 0 0,.slice none 0 0,.int .i64 0,.bool false] 31 (0,0))->JL (S0 (X:=Wk EP Cs) (Sg:=Sg) Try.prog Fin EH).L (.Fg M ρ ws 0 false nn) (G ((base 31).at ⟨#[.agg #[.slice wa wn wc,.slice ta tn tc,.slice ya yn yc,.int .i64 u],v1,v2,.pointer (some ⟨W.heap.size,0,none⟩),v4,v5,.pointer (some ⟨W.heap.size+1,0,none⟩),v7,v8,v9,Aa,Ab,Ac,Ae,Af,Ah,Ai,Aj,Ak,Al,Am,Ao,Ap,Ar,Au,Av,Aw,Ay,Az,AA,AB,AJ,AL,AO,AP,AQ,AU,AV,AX,AY,AZ,A8,A9,Ba,Bb,Bc,Bf,Bh,Bj,Bl,Bp,Bq,Br,Bu,Bv,Bw,Bz,BD,BF,BG,BH,BI,BJ,BK,BL,BM,BN,BO,BP,BQ,BR,BS,BU,BX,BZ,Ca,Cb,Cc,Ce,Cg,Ci,Cj,Ck,Cm,Co,Cq,Cr,Ct,Cu,Cw,Cx,Cy,Cz,CB,CF,CG,CJ,CK,CO,CQ,CS,CU,CV,CW,CX,CY],ds⟩ K) cs) W') :
  JL (S0 (X:=Wk EP Cs) (Sg:=Sg) Try.prog Fin EH).L (.Fg M ρ ws 0 false nn) (G ((base 31).at ⟨#[.agg #[.slice wa wn wc,.slice ta tn tc,.slice ya yn yc,.int .i64 u],v1,v2,v3,v4,v5,v6,v7,v8,v9,Aa,Ab,Ac,Ae,Af,Ah,Ai,Aj,Ak,Al,Am,Ao,Ap,Ar,Au,Av,Aw,Ay,Az,AA,AB,AJ,AL,AO,AP,AQ,AU,AV,AX,AY,AZ,A8,A9,Ba,Bb,Bc,Bf,Bh,Bj,Bl,Bp,Bq,Br,Bu,Bv,Bw,Bz,BD,BF,BG,BH,BI,BJ,BK,BL,BM,BN,BO,BP,BQ,BR,BS,BU,BX,BZ,Ca,Cb,Cc,Ce,Cg,Ci,Cj,Ck,Cm,Co,Cq,Cr,Ct,Cu,Cw,Cx,Cy,Cz,CB,CF,CG,CJ,CK,CO,CQ,CS,CU,CV,CW,CX,CY],ds⟩ (.code pd0 :: K)) cs) W:=by
 refine Fp.Fz (S:=(S0 (X:=Wk EP Cs) (Sg:=Sg) Try.prog Fin EH)) (b:=base 31) [] (by simp) zKR nE zKR fun EG ha=>?_;have hh:EG.heap=W.heap:=by obtain⟨τ,d,rfl⟩:=ha;rfl
 have HH:=Lib.hid (zAI hK hh);clear hK hh;dsimp only;simp only[pd0,Py,Try.f31];gi_wp2;obtain⟨hK,hh⟩:=HH.out;clear HH;rw[← hh]at hK;exact hK _ rfl
theorem zY{b:Nat}(hc:W.cell? ⟨b,3,none⟩=some (.int .i64 u))(hK:∀W' Dh Di,W'.heap=W.heap->JL (S0 (X:=Wk EP Cs) (Sg:=Sg) Try.prog Fin EH).L (.Fg M ρ ws 0 false nn) (G ((base 31).at ⟨#[v0,v1,v2,.pointer (some ⟨b,0,none⟩),v4,v5,v6,.int .i64 u,v8,v9,Aa,Ab,Ac,Ae,Af,Ah,Dh,Di,Ak,Al,Am,Ao,Ap,Ar,Au,Av,Aw,Ay,Az,AA,AB,AJ,AL,AO,AP,AQ,AU,AV,AX,AY,AZ,A8,A9,Ba,Bb,Bc,Bf,Bh,Bj,Bl,Bp,Bq,Br,Bu,Bv,Bw,Bz,BD,BF,BG,BH,BI,BJ,BK,BL,BM,BN,BO,BP,BQ,BR,BS,BU,BX,BZ,Ca,Cb,Cc,Ce,Cg,Ci,Cj,Ck,Cm,Co,Cq,Cr,Ct,Cu,Cw,Cx,Cy,Cz,CB,CF,CG,CJ,CK,CO,CQ,CS,CU,CV,CW,CX,CY],ds⟩ K) cs) W') :
  JL (S0 (X:=Wk EP Cs) (Sg:=Sg) Try.prog Fin EH).L (.Fg M ρ ws 0 false nn) (G ((base 31).at ⟨#[v0,v1,v2,.pointer (some ⟨b,0,none⟩),v4,v5,v6,v7,v8,v9,Aa,Ab,Ac,Ae,Af,Ah,Ai,Aj,Ak,Al,Am,Ao,Ap,Ar,Au,Av,Aw,Ay,Az,AA,AB,AJ,AL,AO,AP,AQ,AU,AV,AX,AY,AZ,A8,A9,Ba,Bb,Bc,Bf,Bh,Bj,Bl,Bp,Bq,Br,Bu,Bv,Bw,Bz,BD,BF,BG,BH,BI,BJ,BK,BL,BM,BN,BO,BP,BQ,BR,BS,BU,BX,BZ,Ca,Cb,Cc,Ce,Cg,Ci,Cj,Ck,Cm,Co,Cq,Cr,Ct,Cu,Cw,Cx,Cy,Cz,CB,CF,CG,CJ,CK,CO,CQ,CS,CU,CV,CW,CX,CY],ds⟩ (.code pd1 :: K)) cs) W:=by
 refine Fp.Fz (S:=(S0 (X:=Wk EP Cs) (Sg:=Sg) Try.prog Fin EH)) (b:=base 31) [] (by simp) zKR nE zKR fun EG ha=>?_;have hh:EG.heap=W.heap:=by obtain⟨τ,d,rfl⟩:=ha;rfl
 have hc1:EG.cell? ⟨b,3,none⟩=some (.int .i64 u):=by simp only[World.cell?,hh]at hc ⊢;exact hc
 clear hc;have HH:=Lib.hid (zAI hK hh);clear hK hh;dsimp only;simp only[pd1,Py,Try.f31];gi_wp2;obtain⟨hK,hh⟩:=HH.out;exact hK EG _ _ hh
theorem Aay(hu:0<=u)(hK:∀W' Dj Dk,W'.heap=W.heap->JL (S0 (X:=Wk EP Cs) (Sg:=Sg) Try.prog Fin EH).L (.Fg M ρ ws 0 false nn) (G ((base 31).at ⟨#[v0,v1,v2,v3,v4,v5,v6,.int .i64 ((if u=0 then 20000 else u.toNat:Nat):Int),v8,v9,Aa,Ab,Ac,Ae,Af,Ah,Ai,Aj,Dj,Dk,Am,Ao,Ap,Ar,Au,Av,Aw,Ay,Az,AA,AB,AJ,AL,AO,AP,AQ,AU,AV,AX,AY,AZ,A8,A9,Ba,Bb,Bc,Bf,Bh,Bj,Bl,Bp,Bq,Br,Bu,Bv,Bw,Bz,BD,BF,BG,BH,BI,BJ,BK,BL,BM,BN,BO,BP,BQ,BR,BS,BU,BX,BZ,Ca,Cb,Cc,Ce,Cg,Ci,Cj,Ck,Cm,Co,Cq,Cr,Ct,Cu,Cw,Cx,Cy,Cz,CB,CF,CG,CJ,CK,CO,CQ,CS,CU,CV,CW,CX,CY],ds⟩ K) cs) W') :
   JL (S0 (X:=Wk EP Cs) (Sg:=Sg) Try.prog Fin EH).L (.Fg M ρ ws 0 false nn) (G ((base 31).at ⟨#[v0,v1,v2,v3,v4,v5,v6,.int .i64 u,v8,v9,Aa,Ab,Ac,Ae,Af,Ah,Ai,Aj,Ak,Al,Am,Ao,Ap,Ar,Au,Av,Aw,Ay,Az,AA,AB,AJ,AL,AO,AP,AQ,AU,AV,AX,AY,AZ,A8,A9,Ba,Bb,Bc,Bf,Bh,Bj,Bl,Bp,Bq,Br,Bu,Bv,Bw,Bz,BD,BF,BG,BH,BI,BJ,BK,BL,BM,BN,BO,BP,BQ,BR,BS,BU,BX,BZ,Ca,Cb,Cc,Ce,Cg,Ci,Cj,Ck,Cm,Co,Cq,Cr,Ct,Cu,Cw,Cx,Cy,Cz,CB,CF,CG,CJ,CK,CO,CQ,CS,CU,CV,CW,CX,CY],ds⟩ (.code pd2 :: K)) cs) W:=by
 refine Fp.Fz (S:=(S0 (X:=Wk EP Cs) (Sg:=Sg) Try.prog Fin EH)) (b:=base 31) [] (by simp) zKR nE zKR fun EG ha=>?_;have hh:EG.heap=W.heap:=by obtain⟨τ,d,rfl⟩:=ha;rfl
 have HH:=Lib.hid (zAI hK hh);clear hK hh;dsimp only;simp only[pd2,Py,Try.f31];by_cases hu0:u=0
 . subst hu0;gi_wp2;obtain⟨hK,hh⟩:=HH.out;exact hK EG _ _ hh
 . have g1:((u:Int)==0)=false:=by simpa using hu0
   gi_wp2;obtain⟨hK,hh⟩:=HH.out;have e:((if u=0 then 20000 else u.toNat:Nat):Int)=u:=by rw[if_neg hu0];omega
   rw[e]at hK;exact hK EG _ _ hh
theorem yT{b:Nat}{turns:List Int}(hc:W.cell? ⟨b,1,none⟩=some (.slice ta tn tc))(hr:Reads W (.slice ta tn tc) (turns.map (Value.int .i64)))(hlen:turns.length<=1000000)(hK:∀W' ob Ux Dl Dm Dn,UD W' 143 ob Ux turns (-1)->Jz W W'->W.heap.size<=ob->(∀k,Ux.ownBlock=some k->W.heap.size<=k/\k<W'.heap.size/\∃c e f,W'.heap[k]?=some (.cells c e f))->JL (S0 (X:=Wk EP Cs) (Sg:=Sg) Try.prog Fin EH).L (.Fg M ρ ws 0 false nn) (G ((base 31).at ⟨#[v0,v1,v2,.pointer (some ⟨b,0,none⟩),v4,v5,v6,v7,.pointer (some ⟨ob,0,none⟩),v9,Aa,Ab,Ac,Ae,Af,Ah,Ai,Aj,Ak,Al,Dl,Dm,Dn,Ar,Au,Av,Aw,Ay,Az,AA,AB,AJ,AL,AO,AP,AQ,AU,AV,AX,AY,AZ,A8,A9,Ba,Bb,Bc,Bf,Bh,Bj,Bl,Bp,Bq,Br,Bu,Bv,Bw,Bz,BD,BF,BG,BH,BI,BJ,BK,BL,BM,BN,BO,BP,BQ,BR,BS,BU,BX,BZ,Ca,Cb,Cc,Ce,Cg,Ci,Cj,Ck,Cm,Co,Cq,Cr,Ct,Cu,Cw,Cx,Cy,Cz,CB,CF,CG,CJ,CK,CO,CQ,CS,CU,CV,CW,CX,CY],ds⟩ K) cs) W') :
  JL (S0 (X:=Wk EP Cs) (Sg:=Sg) Try.prog Fin EH).L (.Fg M ρ ws 0 false nn) (G ((base 31).at ⟨#[v0,v1,v2,.pointer (some ⟨b,0,none⟩),v4,v5,v6,v7,v8,v9,Aa,Ab,Ac,Ae,Af,Ah,Ai,Aj,Ak,Al,Am,Ao,Ap,Ar,Au,Av,Aw,Ay,Az,AA,AB,AJ,AL,AO,AP,AQ,AU,AV,AX,AY,AZ,A8,A9,Ba,Bb,Bc,Bf,Bh,Bj,Bl,Bp,Bq,Br,Bu,Bv,Bw,Bz,BD,BF,BG,BH,BI,BJ,BK,BL,BM,BN,BO,BP,BQ,BR,BS,BU,BX,BZ,Ca,Cb,Cc,Ce,Cg,Ci,Cj,Ck,Cm,Co,Cq,Cr,Ct,Cu,Cw,Cx,Cy,Cz,CB,CF,CG,CJ,CK,CO,CQ,CS,CU,CV,CW,CX,CY],ds⟩ (.code pd4 :: K)) cs) W:=by
 refine Fp.Fz (S:=(S0 (X:=Wk EP Cs) (Sg:=Sg) Try.prog Fin EH)) (b:=base 31) [59,75] fB zKR nE zKR fun EG ha=>?_;have hh:EG.heap=W.heap:=by obtain⟨τ,d,rfl⟩:=ha;rfl
 have hc1:EG.cell? ⟨b,1,none⟩=some (.slice ta tn tc):=by simp only[World.cell?,hh]at hc ⊢;exact hc
 have hr1:Reads EG (.slice ta tn tc) (turns.map (Value.int .i64)):=hr.same fun k _ _=>by rw[hh]
 have HR:=Lib.hid (zAI hr1 hlen);clear hc hr hr1 hlen;have HH:=Lib.hid (zAI hK hh);clear hK hh;dsimp only;simp only[pd4,Py,Try.f31];gi_wp2_with (gi_at_call 59;refine(rz _ turns _ HR.out.1 (by have:=HR.out.2;omega)).mono ?_;rintro e w1 ⟨ob,Ux,rfl,ho1,hb1,Pk,hol⟩)
 obtain⟨hK,hh⟩:=HH.out;refine hK w1 ob _ _ _ _ ho1 ((Jz.refl W).alike hh |>.below hb1 (by rw[hh];exact Nat.le_refl _)) (by rw[hh]at Pk;exact Pk) (fun k hk=>by have:=hol k hk;rw[hh]at this;exact this)
theorem yC{pg:Option Addr}{n lc:Nat}(hn:n<=1000)(hK:∀W' Dp Dq Dt,W'.heap=W.heap.push (.cells (List.replicate n (Value.int .i64 0)).toArray 3 (0,0))->JL (S0 (X:=Wk EP Cs) (Sg:=Sg) Try.prog Fin EH).L (.Fg M ρ ws 0 false nn) (G ((base 31).at ⟨#[v0,.slice pg n lc,v2,v3,v4,v5,v6,v7,v8,.slice (some ⟨W.heap.size,0,none⟩) n n,Aa,Ab,Ac,Ae,Af,Ah,Ai,Aj,Ak,Al,Am,Ao,Ap,Dp,Dq,Dt,Aw,Ay,Az,AA,AB,AJ,AL,AO,AP,AQ,AU,AV,AX,AY,AZ,A8,A9,Ba,Bb,Bc,Bf,Bh,Bj,Bl,Bp,Bq,Br,Bu,Bv,Bw,Bz,BD,BF,BG,BH,BI,BJ,BK,BL,BM,BN,BO,BP,BQ,BR,BS,BU,BX,BZ,Ca,Cb,Cc,Ce,Cg,Ci,Cj,Ck,Cm,Co,Cq,Cr,Ct,Cu,Cw,Cx,Cy,Cz,CB,CF,CG,CJ,CK,CO,CQ,CS,CU,CV,CW,CX,CY],ds⟩ K) cs) W') :
  JL (S0 (X:=Wk EP Cs) (Sg:=Sg) Try.prog Fin EH).L (.Fg M ρ ws 0 false nn) (G ((base 31).at ⟨#[v0,.slice pg n lc,v2,v3,v4,v5,v6,v7,v8,v9,Aa,Ab,Ac,Ae,Af,Ah,Ai,Aj,Ak,Al,Am,Ao,Ap,Ar,Au,Av,Aw,Ay,Az,AA,AB,AJ,AL,AO,AP,AQ,AU,AV,AX,AY,AZ,A8,A9,Ba,Bb,Bc,Bf,Bh,Bj,Bl,Bp,Bq,Br,Bu,Bv,Bw,Bz,BD,BF,BG,BH,BI,BJ,BK,BL,BM,BN,BO,BP,BQ,BR,BS,BU,BX,BZ,Ca,Cb,Cc,Ce,Cg,Ci,Cj,Ck,Cm,Co,Cq,Cr,Ct,Cu,Cw,Cx,Cy,Cz,CB,CF,CG,CJ,CK,CO,CQ,CS,CU,CV,CW,CX,CY],ds⟩ (.code pd5 :: K)) cs) W:=by
 refine Fp.Fz (S:=(S0 (X:=Wk EP Cs) (Sg:=Sg) Try.prog Fin EH)) (b:=base 31) [] (by simp) zKR nE zKR fun EG ha=>?_;have hh:EG.heap=W.heap:=by obtain⟨τ,d,rfl⟩:=ha;rfl
 obtain⟨i0,hi,hz0,hz1,hz2⟩:=info_parts Vo;have hmk:∀wx:World,(Instr.makeSlice 22 (.int .i64 n) (.int .i64 n)).run Try.prog wx=.ok (.slice (some ⟨wx.heap.size,0,none⟩) n n) (wx.alloc (.cells (madeCells #[.int .i64 0] n) 3)):=fun wx=>by
  have:=run_makeSlice (P:=Try.prog) (w:=wx) 22 3 i0 (.int .i64 0) Try.underlying22 hi hz0 .i64 .i64 n n zOM (Int.le_refl _) (by rw[hz1];simp;omega) (by rw[hz2];omega) zOM;rw[hz1,show(Value.int .i64 0).cells=#[.int .i64 0]from rfl]at this
  simpa using this
 have HH:=Lib.hid (zAI hK hh);clear hK hh;dsimp only;simp only[pd5,Py,Try.f31];gi_wp2;obtain⟨hK,hh⟩:=HH.out;clear HH;rw[← hh]at hK;exact hK _ _ _ _ (by rw[← gY];rfl)
theorem Aar(hK:∀W',W'.heap=W.heap.push (.cells #[.slice none 0 0,.slice none 0 0,.int .i64 0,.bool false] 31 (0,0))->JL (S0 (X:=Wk EP Cs) (Sg:=Sg) Try.prog Fin EH).L (.Fg M ρ ws 0 false nn) (G ((base 31).at ⟨#[v0,v1,v2,v3,v4,v5,v6,v7,v8,v9,.pointer (some ⟨W.heap.size,0,none⟩),Ab,Ac,Ae,Af,Ah,Ai,Aj,Ak,Al,Am,Ao,Ap,Ar,Au,Av,Aw,Ay,Az,AA,AB,AJ,AL,AO,AP,AQ,AU,AV,AX,AY,AZ,A8,A9,Ba,Bb,Bc,Bf,Bh,Bj,Bl,Bp,Bq,Br,Bu,Bv,Bw,Bz,BD,BF,BG,BH,BI,BJ,BK,BL,BM,BN,BO,BP,BQ,BR,BS,BU,BX,BZ,Ca,Cb,Cc,Ce,Cg,Ci,Cj,Ck,Cm,Co,Cq,Cr,Ct,Cu,Cw,Cx,Cy,Cz,CB,CF,CG,CJ,CK,CO,CQ,CS,CU,CV,CW,CX,CY],ds⟩ K) cs) W') :
  JL (S0 (X:=Wk EP Cs) (Sg:=Sg) Try.prog Fin EH).L (.Fg M ρ ws 0 false nn) (G ((base 31).at ⟨#[v0,v1,v2,v3,v4,v5,v6,v7,v8,v9,Aa,Ab,Ac,Ae,Af,Ah,Ai,Aj,Ak,Al,Am,Ao,Ap,Ar,Au,Av,Aw,Ay,Az,AA,AB,AJ,AL,AO,AP,AQ,AU,AV,AX,AY,AZ,A8,A9,Ba,Bb,Bc,Bf,Bh,Bj,Bl,Bp,Bq,Br,Bu,Bv,Bw,Bz,BD,BF,BG,BH,BI,BJ,BK,BL,BM,BN,BO,BP,BQ,BR,BS,BU,BX,BZ,Ca,Cb,Cc,Ce,Cg,Ci,Cj,Ck,Cm,Co,Cq,Cr,Ct,Cu,Cw,Cx,Cy,Cz,CB,CF,CG,CJ,CK,CO,CQ,CS,CU,CV,CW,CX,CY],ds⟩ (.code pd6 :: K)) cs) W:=by
 refine Fp.Fz (S:=(S0 (X:=Wk EP Cs) (Sg:=Sg) Try.prog Fin EH)) (b:=base 31) [] (by simp) zKR nE zKR fun EG ha=>?_;have hh:EG.heap=W.heap:=by obtain⟨τ,d,rfl⟩:=ha;rfl
 have HH:=Lib.hid (zAI hK hh);clear hK hh;dsimp only;simp only[pd6,Py,Try.f31];gi_wp2;obtain⟨hK,hh⟩:=HH.out;clear HH;rw[← hh]at hK;exact hK _ rfl
end
end
section
structure qL{Cs Sg:Type}(m:Mem Sg)(ws:List (FE (Wk EP Cs)))(N1:Nat)(σ:Sg)(vs:List Value)(av RL:Value)(W:World):Prop where
 inv:m.Inv σ W
 own:FY W N1 1 av ws.length vs
 cop:∀(j:Nat) (v:Value) (u:FE (Wk EP Cs)),vs[j]?=some v->ws[j]?=some u->T9 W N1 v u/\v.oneCell'=true/\∀g,v.ownBlock=some g->av.ownBlock≠some g
 low:N1<=W.heap.size/\∀(j:Nat) (u:FE (Wk EP Cs)),ws[j]?=some u->∀g,u.own g->g<N1
 sh:∀g,m.Sh g->g<N1
 opn:FY W N1 3 RL (opens (ws.map (·.x))).length ((opens (ws.map (·.x))).map Lf).flatten
def F5(u:Int):Nat:=if u=0 then 20000 else u.toNat
section
variable {Cs Sg:Type}{D:Dr EP Cs Sg}{m:Mem Sg}{ρ:Rn}{ws:List (FE (Wk EP Cs))}
variable {Fin:Gb}{EH:FM Try.prog Fin}
variable {Kp:Nat->Prop}{W0 W:World}{R nn:Nat}{σ:Sg}{turns:List Int}{cs:List Frame}{cf:Frame}
variable {wa ta ya:Option Addr}{wn wc tn tc yc lg lc hg ho:Nat}{u:Int}{hl:List Int}
theorem Xr (hcl:¬ ρ.UM)(hzi:ρ.zi=.int .i64 0)(hinv:m.Inv σ W)(hrow:∀ (i b:Nat),(ws.map (·.b))[i]?=some b->W.cell? ⟨lg,i,none⟩=some (.pointer (some ⟨b,0,none⟩)))(hfree:∀ g,g=lg\/Kp g->(∃ c e f,W.heap[g]?=some (.cells c e f))/\g≠ρ.Wg/\ρ.Bo g=false/\¬ m.Sh g/\∀ (j:Nat) (u:FE (Wk EP Cs)),ws[j]?=some u->¬ u.own g)(hkept:∀ g,Kp g->W.heap[g]?=W0.heap[g]?)(XA:ρ.Wg < W.heap.size)(WY:∀ g,ρ.Bo g=true->g < W.heap.size)(zF:∀ (j:Nat) (u:FE (Wk EP Cs)),ws[j]?=some u->∀ g,u.own g->g < W.heap.size)(hov:∀ (j:Nat) (u:FE (Wk EP Cs)),ws[j]?=some u->u.over=u.x.over/\kV u.x)(hfu:∀ (j:Nat) (u:FE (Wk EP Cs)),ws[j]?=some u->R<=u.r)(Qe:ws.length<=1000)(Jg:Reads W (.slice ta tn tc) (turns.map (Value.int .i64)))(hlen:turns.length<=1000000)(ZB:hl.length<=1000000)(Ow:∀ (i:Nat) (x:Int),hl[i]?=some x->-9223372036854775808<=x/\x<=9223372036854775807/\ya=some ⟨hg,ho,none⟩/\∀ σ W,m.Inv σ W->W.cell? ⟨hg,ho+i,none⟩=some (.int .i64 x))(hu0:0<=u)(hu1:u<=20000)(hR:20000<=R)(z:Rs EP Cs Sg)(hz:z=Rs.go D (F5 u) (F5 u) ⟨ws.map (·.x),σ,turns,-1,0,List.replicate ws.length 0,hl⟩)(hend:∀ x∈z.xs,x.out.length<=1000000)(hK:∀ ws' W' N1 vs av RL,ws'.map (·.x)=z.xs->W.heap.size<=N1->qL m ws' N1 z.σ vs av RL W'->(∀ g,Kp g->W'.heap[g]?=W0.heap[g]?/\∀ (j:Nat) (u:FE (Wk EP Cs)),ws'[j]?=some u->¬ u.own g)->
      JW (S0 Try.prog Fin EH).base (.Fg (Fe D m) ρ ws' 0 false nn) (G (cf.finish (.agg #[av,RL,.int .i64 z.s,.bool (z.rd.any id)])) cs) W') :
    JW (S0 Try.prog Fin EH).base (.Fg (Fe D m) ρ ws 0 false nn) (G (Frame.enter Try.prog 31 #[.agg #[.slice wa wn wc,.slice ta tn tc,.slice ya hl.length yc,.int .i64 u],.slice (some ⟨lg,0,none⟩) ws.length lc,.chan (some ρ.come)] .normal) (cf :: cs)) W:=by
  rw[enter_at _ Try.func31 jQ,show Try.f31.ntmps=106 from by kernel_rfl];walk_nrm;have hkl:∀g,g=lg\/Kp g->g<W.heap.size:=fun g hg=>by obtain⟨⟨c,e,f,hc⟩,_⟩:=hfree g hg;exact(zGE hc).1
  have Xy:∀g,m.Sh g->g<W.heap.size:=fun g hg=>by obtain⟨c,e,f,hc⟩:=m.rows σ W g hg hinv;exact(zGE hc).1
  have Aj5:F5 u<=20000:=by unfold F5;split<;>omega
  show JL (S0 Try.prog Fin EH).L _ _ W;refine EO ?_;refine Ack fun W1 hW1=>?_;have o1:Jz W W1:=⟨fun g hg=>by rw[hW1,Array.getElem?_push,Array.getElem?_push,if_neg (by simp;omega),if_neg zOM],by rw[hW1];simp;omega⟩
  have z1:W1.heap.size=W.heap.size+2:=by rw[hW1];simp
  have q0:W1.heap[W.heap.size]?=some (.cells #[.slice wa wn wc,.slice ta tn tc,.slice ya hl.length yc,.int .i64 u] 25 (0,0)):=by rw[hW1,Array.getElem?_push,Array.getElem?_push,if_neg (by simp),if_pos rfl]
  have q1:W1.heap[W.heap.size+1]?=some (.cells #[.slice none 0 0,.slice none 0 0,.int .i64 0,.bool false] 31 (0,0)):=by rw[hW1,Array.getElem?_push,if_pos (by simp)]
  clear hW1;refine EO ?_;refine zY (b:=W.heap.size) (u:=u) (by simp[World.cell?,q0]) fun W2 Dh Di hW2=>?_;refine EO ?_;refine Aay (u:=u) hu0 fun W3 Dj Dk hW3=>?_;have hh3:W3.heap=W1.heap:=hW3.trans hW2;refine EO ?_;refine yT (b:=W.heap.size) (turns:=turns) (ta:=ta) (tn:=tn) (tc:=tc) (by simp[World.cell?,hh3,q0]) (Jg.same fun k _ hk=>by rw[hh3];exact o1.blk k hk) hlen fun W4 ob Ux Dl Dm Dn TR o4 Pk hol=>?_;have o34:Jz W1 W4:=⟨fun g hg=>by rw[o4.blk g (by rw[hh3];exact hg),hh3],by have:=o4.size;rw[hh3]at this;exact this⟩
  rw[hh3,z1]at Pk;have jV:∀k,Ux.ownBlock=some k->W.heap.size+2<=k/\k<W4.heap.size/\∃c e f,W4.heap[k]?=some (.cells c e f):=fun k hk=>by have:=hol k hk;rw[hh3,z1]at this;exact this
  have vT:ob<W4.heap.size:=(zGE TR.1).1;clear hol;refine EO ?_;refine yC (pg:=some ⟨lg,0,none⟩) (n:=ws.length) (lc:=lc) Qe fun W5 Dp Dq Dt Xp=>?_;have o5:Jz W4 W5:=⟨fun g hg=>by rw[Xp,Array.getElem?_push,if_neg zOM],by rw[Xp];simp⟩
  have q5:W5.heap[W4.heap.size]?=some (.cells (List.replicate ws.length (Value.int .i64 0)).toArray 3 (0,0)):=by rw[Xp,Array.getElem?_push,if_pos rfl]
  have z5:W5.heap.size=W4.heap.size+1:=by rw[Xp];simp
  clear Xp;refine EO ?_;refine Aar fun W6 Rq=>?_;have o6:Jz W5 W6:=⟨fun g hg=>by rw[Rq,Array.getElem?_push,if_neg zOM],by rw[Rq];simp⟩
  have q6:W6.heap[W5.heap.size]?=some (.cells #[.slice none 0 0,.slice none 0 0,.int .i64 0,.bool false] 31 (0,0)):=by rw[Rq,Array.getElem?_push,if_pos rfl]
  clear Rq;have o46:=o5.trans o6;have o16:=o34.trans o46;have o06:=o1.trans o16;have z4:=o34.size;rw[z1]at z4;obtain⟨q,hq⟩:∃q:PO,q=⟨lg,lc,W.heap.size,W.heap.size+1,ob,W4.heap.size,W5.heap.size,F5 u,wa,wn,wc,ta,tn,tc,ya,yc,u,Ux.ownBlock,hl,hg,ho⟩:=⟨_,rfl⟩
  have hcells:∀g,q.K Kp g->(∃c e f,W6.heap[g]?=some (.cells c e f))/\(g=lg\/Kp g\/W.heap.size<=g):=fun g hg=>by
    have old:∀g,g=lg\/Kp g->∃c e f,W6.heap[g]?=some (.cells c e f):=fun g hg=>by rw[o06.blk g (hkl g hg)];exact(hfree g hg).1
    subst hq;rcases hg with e|e|e|e|e|e|e|e
    . exact⟨old g (.inl e),.inl e⟩
    . subst e;exact⟨⟨_,_,_,(o16.blk _ (by show W.heap.size<_;omega)).trans q0⟩,.inr (.inr (Nat.le_refl _))⟩
    . subst e;exact⟨⟨_,_,_,(o16.blk _ (by show W.heap.size+1<_;omega)).trans q1⟩,.inr (.inr (by show _<=W.heap.size+1;omega))⟩
    . have e:g=ob:=e;rw[e];exact⟨⟨_,_,_,(o46.blk _ vT).trans TR.1⟩,.inr (.inr zOM)⟩
    . have h1:=jV g e;refine⟨?_,.inr (.inr zOM)⟩;rw[o46.blk g h1.2.1];exact h1.2.2
    . subst e;exact⟨⟨_,_,_,(o6.blk _ (by show W4.heap.size<_;omega)).trans q5⟩,.inr (.inr (by show _<=W4.heap.size;omega))⟩
    . subst e;exact⟨⟨_,_,_,q6⟩,.inr (.inr (by show _<=W5.heap.size;omega))⟩
    . exact⟨old g (.inr e),.inr (.inl e)⟩
  have hl1:lg<W.heap.size:=hkl lg (.inl rfl);have Afp:q.Lay Kp:=by
    rw[hq];exact⟨hl1,by show W.heap.size<W.heap.size+1;omega,by show W.heap.size+1<ob;omega,by show ob<W4.heap.size;exact vT,by show W4.heap.size<W5.heap.size;omega,fun g hg=>by have h1:=jV g hg;refine⟨by show W.heap.size+1<g;omega,by show g<W4.heap.size;exact h1.2.1,fun e=>TR.2.2 ?_⟩;have e:g=ob:=e;rw[← e];exact hg,fun g hg=>by show g<W.heap.size;exact hkl g (.inr hg)⟩
  have hP:MO m ρ ws q Kp W0 R σ turns (-1) 0 (List.replicate ws.length 0) (.bool false) W6:=by
    refine⟨⟨fun i b hb=>?_,?_,⟨Ux,⟨?_,?_,?_⟩,?_⟩,?_,?_,?_⟩,Afp,?_,fun g hg=>?_,fun g hg=>?_,hov,fun j u hu=>?_,by simp,Qe,by rw[hq];exact ZB,fun i x hx=>?_⟩
    . rw[hq,cell_of (w:=W) (a:=⟨lg,i,none⟩) (o06.blk lg hl1)];exact hrow i b hb
    . rw[hq];exact(o16.blk _ (by show W.heap.size<_;omega)).trans q0
    . rw[hq];exact(o46.blk _ vT).trans TR.1
    . exact TR.2.1.same fun k hk _=>o46.blk k (jV k hk).2.1
    . rw[hq];exact TR.2.2
    . rw[hq]
    . rw[hq];have:=(o6.blk _ (by show W4.heap.size<_;omega)).trans q5
      simpa using this
    . rw[hq];exact q6
    . rw[hq];exact(o16.blk _ (by show W.heap.size+1<_;omega)).trans q1
    . exact m.eq σ W W6 (fun g hg=>.of (o06.blk g (Xy g hg))) hinv
    . obtain⟨c1,c2⟩:=hcells g hg;refine⟨c1,?_⟩;rcases c2 with e|e|e
      . exact(hfree g (.inl e)).2
      . exact(hfree g (.inr e)).2
      . refine⟨by omega,?_,fun hs=>by have:=Xy g hs;omega,fun j u hu ho=>by have:=zF j u hu g ho;omega⟩
        cases hb:ρ.Bo g with
        | false=>rfl
        | true=>have:=WY g hb;omega
    . rw[o06.blk g (hkl g (.inr hg))];exact hkept g hg
    . have:=hfu j u hu;omega
    . rw[hq]at hx ⊢;exact Ow i x hx
  have hqm:q.most=F5 u:=by rw[hq]
  have hqb:q.bc=W.heap.size:=by rw[hq]
  have hqh:q.hl=hl:=by rw[hq]
  have hqs:q.cv=.agg #[.slice wa wn wc,.slice ta tn tc,.slice ya hl.length yc,.int .i64 u]:=by rw[hq];rfl
  have hSd:∃GK Gi Ia Jh JD IE u68 u69,Sd q ρ.come ws.length GK Gi Ia Jh JD IE u68 u69 #[.agg #[.slice wa wn wc,.slice ta tn tc,.slice ya hl.length yc,.int .i64 u],.slice (some ⟨lg,0,none⟩) ws.length lc,.chan (some ρ.come),.pointer (some ⟨W.heap.size,0,none⟩),undef,undef,.pointer (some ⟨W.heap.size+1,0,none⟩),.int .i64 (F5 u:Nat),.pointer (some ⟨ob,0,none⟩),.slice (some ⟨W4.heap.size,0,none⟩) ws.length ws.length,.pointer (some ⟨W5.heap.size,0,none⟩),undef,undef,undef,undef,undef,Dh,Di,Dj,Dk,Dl,Dm,Dn,Dp,Dq,Dt,undef,undef,undef,undef,undef,undef,undef,undef,undef,undef,undef,undef,undef,undef,undef,undef,undef,undef,undef,undef,undef,undef,undef,undef,undef,undef,undef,undef,undef,undef,undef,undef,undef,undef,undef,undef,undef,undef,undef,undef,undef,undef,undef,undef,undef,undef,undef,undef,undef,undef,undef,undef,undef,undef,undef,undef,undef,undef,undef,undef,undef,undef,undef,undef,undef,undef,undef,undef,undef,undef,undef,undef,undef,undef,undef,undef,undef,undef,undef,undef]:=by
    rw[hq];exact⟨_,_,_,_,_,_,_,_,_,_,_,_,_,_,_,_,_,_,_,_,_,_,_,_,_,_,_,_,_,_,_,_,_,_,_,_,_,_,_,_,_,_,_,_,_,_,_,_,_,_,_,_,_,_,_,_,_,_,_,_,_,_,_,_,_,_,_,_,_,_,_,_,_,_,_,_,_,_,_,_,_,_,_,_,_,_,_,_,_,_,_,_,_,_,_,_,_,rfl⟩
  obtain⟨GK,Gi,Ia,Jh,JD,IE,u68,u69,hSd⟩:=hSd;clear hq hcells q0 q1 q5 q6 TR jV;refine EO ?_;refine EU stepG_block ?_;refine EU stepG_loop ?_;have hN6:=o06.size;refine kT (ws:=ws) (σ:=σ) (left:=turns) (last:=-1) (s:=0) (R:=R) (co:=ρ.come) (n:=ws.length) (q:=q) hcl hzi rfl (by rw[hqm];omega) (by rw[hqm];omega) ?_ (F5 u) ws σ turns (-1) 0 _ _ W6 _ _ _ _ _ _ _ _ _ (by rw[hqm];omega) rfl rfl hP (fun i c hc=>?_) (Nat.zero_le _) (by rw[hqm]) hSd
  . intro ws' σ' left' last' s' Pq cut' W7 jw a12 fA a14 a15 a67 a68 a69 tm7 hs7 h7 hz0 hb;obtain⟨z0,e0,e1,e2,e3,e4,e5,e6⟩:=hz0;rw[hqm,hqh]at e0;obtain rfl:z0=z:=e0.trans hz.symm;subst e2 e3 e4 e5 e6;refine J0.know (EH:=EH) fun hKn=>?_;show JL (S0 Try.prog Fin EH).L _ _ W7;have Kl:ws'.length=ws.length:=by
      have:=congrArg List.length hb
      simpa using this
    have mG:∀(j:Nat) (u:FE (Wk EP Cs)),ws'[j]?=some u->u.x.out.length<=1000000:=fun j u hu=>hend u.x (by rw[← e1];exact List.mem_map.2 ⟨u,List.mem_of_getElem? hu,rfl⟩)
    have hC:=h7.gather (fun i v hv b hb=>(hKn.own i v hv b hb).2.2.2) mG;rw[tV];refine EO ?_;refine EO ?_;refine qR hs7 fun W8 tm8 zR hw8=>?_;refine EU stepG_block ?_;refine EU stepG_loop ?_;have hC8:=hC.alike hw8;refine aK (ws:=ws') (n:=ws.length) Kl.symm ?_ (ws.length) 0 [] (.slice none 0 0) (.slice none 0 0) _ _ W8 tm8 zOM (Nat.zero_le _) hC8 zR;intro W9 vs av RL c14 c15 c67 c68 c69 tm9 jo h9;have hz7:W.heap.size<=W7.heap.size:=by have l1:=hC.lay.h2;have l2:=hC.lay.h3;have l3:=hC.lay.h4;have l4:=hC.lay.h5;have l5:=hC.low.1;omega
    obtain⟨ow,on,oc,rfl⟩:=Iy h9.opn;refine uj h9 rfl jo fun W10 h10 Ag6=>?_;have hbz:=h9.free q.bz (.inr (.inl rfl));have Alc:q.bz<W7.heap.size:=h9.ltN (.inr (.inl rfl));refine hK ws' W10 W7.heap.size vs av _ e1 hz7 ⟨?_,?_,fun j v u hv hu=>?_,⟨by rw[Ag6];exact h9.low.2.1,fun j u hu=>(h9.low.2.2.2 j u hu).1⟩,h9.low.2.2.1,Gl h9.opn fun g hg=>h10 g (by have:=Gx h9.opn hg;omega)⟩ fun g hg=>?_
    . exact m.eq _ W9 W10 (fun g hg=>.of (h10 g fun e=>hbz.2.2.2.1 (e ▸ hg))) h9.inv
    . rw[Kl];exact Gl h9.own fun g hg=>h10 g (by have:=Gx h9.own hg;omega)
    . obtain⟨⟨JH,c1,c2,c3⟩,c4⟩:=h9.cop j v u hv hu;refine⟨⟨JH,c1,Gl c2 fun g hg=>h10 g (by have:=Gx c2 hg;omega),fun i a iv ha hi=>(c3 i a iv ha hi).RN fun g hg=>.of (h10 g fun e=>hbz.2.2.2.2 j u hu (e ▸ hg))⟩,c4⟩
    . refine⟨?_,(h9.free g (.inr (.inr (.inr hg)))).2.2.2.2⟩;have:=h9.lay.h7 g hg;have:=h9.lay.h2;rw[h10 g zOM];exact h9.kept g hg
  . rw[List.getElem?_replicate]at hc;split at hc
    . cases hc;exact Nat.le_refl _
    . cases hc
end
end
end Go.Proofs.Ytdkfdedgfilhbaa
namespace Go.Proofs.Ytdkfdedgfilhbaa
open Go Go.Conc Go.LT Go.LC Go.LK Go.RowKit
open Go.ConcN (WgLive)
section
section
variable {X Sg:Type}
variable {Fin:Gb}{EH:FM Try.prog Fin}
variable {W:World}{n:Nat}{K:List Item}{cs:List Frame}{ds:List Deferred}{M:Md X Sg}{ρ:Rn}{ws:List (FE X)}
variable {v0 v1 v2 v3 v4 v5 v6 v7 v8 v9 Aa Ab Ac Ae Af Ah Ai Aj Ak Al Am Ao Ap Ar Au Av Aw Ay Az AA AB AJ AL AO AP AQ AU AV AX AY AZ A8 A9 Ba Bb Bc Bf Bh Bj Bl Bp Bq Br:Value}{wa ta ya:Option Addr}{wn wc tn tc yn yc bp lg pn lc co:Nat}{u:Int}
theorem vI (hc:W.heap[bp]?=some (.cells #[.slice wa wn wc,.slice ta tn tc,.slice ya yn yc,.int .i64 u] 25 (0,0)))(hcall:∀ EG cf,EG.heap=W.heap->(∀ (a1:Option Addr) (a2 a3:Nat) (o1:Option Addr) (o2 o3:Nat) on st cv W2,(∀ DX DY DZ D5 W3,W3.heap=W2.heap.push (.cells #[.slice a1 a2 a3,.slice o1 o2 o3,.int .i64 st,.bool cv] 31 (0,0))->JL (S0 (X:=X) (Sg:=Sg) Try.prog Fin EH).L (on) (G ((base 16).at ⟨#[v0,v1,.pointer (some ⟨bp,0,none⟩),v3,v4,v5,v6,.chan (some co),v8,v9,.slice (some ⟨lg,0,none⟩) pn lc,Ab,Ac,Ae,.pointer (some ⟨W2.heap.size,0,none⟩),Ah,Ai,Aj,Ak,Al,Am,Ao,Ap,Ar,Au,Av,Aw,Ay,Az,AA,AB,AJ,AL,AO,AP,AQ,AU,AV,AX,AY,AZ,A8,A9,Ba,Bb,Bc,DX,DY,DZ,D5,Bp,Bq,Br],ds⟩ K) cs) W3)->
        JW (S0 (X:=X) (Sg:=Sg) Try.prog Fin EH).base on (G (cf.finish (.agg #[.slice a1 a2 a3,.slice o1 o2 o3,.int .i64 st,.bool cv])) cs) W2)->
      JW (S0 (X:=X) (Sg:=Sg) Try.prog Fin EH).base (.Fg M ρ ws 0 false n) (G (Frame.enter Try.prog 31 #[.agg #[.slice wa wn wc,.slice ta tn tc,.slice ya yn yc,.int .i64 u],.slice (some ⟨lg,0,none⟩) pn lc,.chan (some co)] .normal) (cf :: cs)) EG) :
    JL (S0 (X:=X) (Sg:=Sg) Try.prog Fin EH).L (.Fg M ρ ws 0 false n) (G ((base 16).at ⟨#[v0,v1,.pointer (some ⟨bp,0,none⟩),v3,v4,v5,v6,.chan (some co),v8,v9,.slice (some ⟨lg,0,none⟩) pn lc,Ab,Ac,Ae,Af,Ah,Ai,Aj,Ak,Al,Am,Ao,Ap,Ar,Au,Av,Aw,Ay,Az,AA,AB,AJ,AL,AO,AP,AQ,AU,AV,AX,AY,AZ,A8,A9,Ba,Bb,Bc,Bf,Bh,Bj,Bl,Bp,Bq,Br],ds⟩ (.code rP :: K)) cs) W:=by
  dsimp only;simp only[rP,Pv,SX,Try.f16];refine E9 fun _ hkk=>?_;refine Fp.Kk (S:=(S0 (X:=X) (Sg:=Sg) Try.prog Fin EH)) (b:=base 16) 0 3 [] (by simp) zKR nE (rest:=[3,4,5]) rfl zKR fun EG ha=>?_;have hh:EG.heap=W.heap:=by obtain⟨τ,d,rfl⟩:=ha;rfl
  have c0:EG.cell? ⟨bp,0,none⟩=some (.slice wa wn wc):=by simp[World.cell?,hh,hc]
  have c1:EG.cell? ⟨bp,1,none⟩=some (.slice ta tn tc):=by simp[World.cell?,hh,hc]
  have c2:EG.cell? ⟨bp,2,none⟩=some (.slice ya yn yc):=by simp[World.cell?,hh,hc]
  have c3:EG.cell? ⟨bp,3,none⟩=some (.int .i64 u):=by simp[World.cell?,hh,hc]
  have HH:=Lib.hid (zAI hcall hh);clear hcall hh;dsimp only[List.drop,List.take];gi_wp2;refine⟨rfl,?_⟩;obtain⟨hcall,hh⟩:=HH.out;clear HH c0 c1 c2 c3 hc ha;show JL (S0 (X:=X) (Sg:=Sg) Try.prog Fin EH).L _ _ EG;try dsimp only
  refine JL.enter rfl rfl nE rfl Try.func31 zKR zKR ?_;walk_nrm;refine hcall EG _ hh fun a1 a2 a3 o1 o2 o3 on st cv W2 hJ=>?_;rw[Frame.finish_at];walk_nrm;show JL (S0 (X:=X) (Sg:=Sg) Try.prog Fin EH).L on _ W2;refine Fp.Gs (S:=(S0 (X:=X) (Sg:=Sg) Try.prog Fin EH)) (b:=base 16) 4 [] (by simp) zKR nE rfl zKR fun Fh Lm=>?_;have hh3:Fh.heap=W2.heap:=by obtain⟨τ,d,rfl⟩:=Lm;rfl
  have HH:=Lib.hid (zAI hJ hh3);clear hJ hh3 hcall;dsimp only[List.drop];gi_wp2;refine⟨rfl,?_⟩;obtain⟨hJ,hh3⟩:=HH.out;clear HH;show JL (S0 (X:=X) (Sg:=Sg) Try.prog Fin EH).L on _ _;try dsimp only
  cases hkk;refine EU stepG_region_end ?_;rw[← hh3]at hJ;exact hJ _ _ _ _ _ rfl
theorem tC{b14 br:Nat}{a1 o1:Option Addr}{a2 a3 o2 o3 st:Nat}{cv:Bool}{γ:G0 X Sg}{cf:Frame}(qm:W.heap[b14]?=some (.cells #[.slice a1 a2 a3,.slice o1 o2 o3,.int .i64 st,.bool cv] 31 (0,0)))(h4:W.heap[br]?=some (.cells #[.slice none 0 0,.slice none 0 0,.int .i64 0,.bool false] 31 (0,0)))(hK:∀W',(∀g,g≠br->W'.heap[g]?=W.heap[g]?)->W'.heap.size=W.heap.size->JW (S0 (X:=X) (Sg:=Sg) Try.prog Fin EH).base γ (G (cf.finish (.tuple #[.agg #[.slice a1 a2 a3,.slice o1 o2 o3,.int .i64 st,.bool cv],.int .i64 0])) cs) W') :
  JL (S0 (X:=X) (Sg:=Sg) Try.prog Fin EH).L γ (G ((base 16).at ⟨#[v0,v1,v2,v3,.pointer (some ⟨br,0,none⟩),v5,v6,v7,v8,v9,Aa,Ab,Ac,Ae,.pointer (some ⟨b14,0,none⟩),Ah,Ai,Aj,Ak,Al,Am,Ao,Ap,Ar,Au,Av,Aw,Ay,Az,AA,AB,AJ,AL,AO,AP,AQ,AU,AV,AX,AY,AZ,A8,A9,Ba,Bb,Bc,Bf,Bh,Bj,Bl,Bp,Bq,Br],[]⟩ [.code iZ]) (cf :: cs)) W:=by
 refine Fp.Fz (S:=(S0 (X:=X) (Sg:=Sg) Try.prog Fin EH)) (b:=base 16) [] (by simp) zKR nE zKR fun EG ha=>?_;have hh:EG.heap=W.heap:=by obtain⟨τ,d,rfl⟩:=ha;rfl
 rw[← hh]at qm h4;have c0:EG.cell? ⟨b14,0,none⟩=some (.slice a1 a2 a3):=by simp[World.cell?,qm]
 have c1:EG.cell? ⟨b14,1,none⟩=some (.slice o1 o2 o3):=by simp[World.cell?,qm]
 have c2:EG.cell? ⟨b14,2,none⟩=some (.int .i64 st):=by simp[World.cell?,qm]
 have c3:EG.cell? ⟨b14,3,none⟩=some (.bool cv):=by simp[World.cell?,qm]
 have d0:EG.cell? ⟨br,0,none⟩=some (.slice none 0 0):=by simp[World.cell?,h4]
 have d1:EG.cell? ⟨br,1,none⟩=some (.slice none 0 0):=by simp[World.cell?,h4]
 have d2:EG.cell? ⟨br,2,none⟩=some (.int .i64 0):=by simp[World.cell?,h4]
 have d3:EG.cell? ⟨br,3,none⟩=some (.bool false):=by simp[World.cell?,h4]
 have f0:∀o,EG.frozen? ⟨br,o,none⟩=false:=fun o=>by simp[World.frozen?,h4]
 have f0':=f0 0;have f1':=f0 1;have f2':=f0 2;have f3':=f0 3;have HH:=Lib.hid (zAI hK (zAI hh h4));clear hK hh h4 qm;dsimp only;simp only[iZ,Pv,SX,Try.f16];gi_wp2;obtain⟨hK,hh,h4⟩:=HH.out;clear HH;intro Y;generalize hW':World.setCell _ _ _=W';have hoth:∀g,g≠br->W'.heap[g]?=W.heap[g]?:=fun g hg=>by rw[← hW',← hh];simp[World.setCell,Array.getElem?_modify,Ne.symm hg]
 have hrow:W'.heap[br]?=some (.cells #[.slice a1 a2 a3,.slice o1 o2 o3,.int .i64 st,.bool cv] 31 (0,0)):=by rw[← hW'];simp[World.setCell,Array.getElem?_modify,h4]
 have hsz:W'.heap.size=W.heap.size:=by rw[← hW',← hh];simp[World.setCell]
 clear hW';refine JW.returns (S:=(S0 (X:=X) (Sg:=Sg) Try.prog Fin EH)) Try.func16 (v:=.tuple #[.agg #[.slice a1 a2 a3,.slice o1 o2 o3,.int .i64 st,.bool cv],.int .i64 0]) (fun F8 ha2=>?_) (hK W' hoth hsz);have KX:F8.heap=W'.heap:=by obtain⟨τ,d,rfl⟩:=ha2;rfl
 have g0:F8.cell? ⟨br,0,none⟩=some (.slice a1 a2 a3):=by simp[World.cell?,KX,hrow]
 have g1:F8.cell? ⟨br,1,none⟩=some (.slice o1 o2 o3):=by simp[World.cell?,KX,hrow]
 have g2:F8.cell? ⟨br,2,none⟩=some (.int .i64 st):=by simp[World.cell?,KX,hrow]
 have g3:F8.cell? ⟨br,3,none⟩=some (.bool cv):=by simp[World.cell?,KX,hrow]
 clear KX hrow hoth hsz hh h4 hK c0 c1 c2 c3 d0 d1 d2 d3 f0 f0' f1' f2' f3';simp[results,Try.results16,go_sem,Frame.at, *]
end
end
end Go.Proofs.Ytdkfdedgfilhbaa
namespace Go.LK
open Go Go.Conc Go.LT Go.LC
section
variable {X Sg:Type}{P:Program}{Fin:Gb}{EH:FM P Fin}
variable {M:Md X Sg}{ρ:Rn}{ws:List (FE X)}{W:World}{ex n:Nat}{df:Bool}{g:Goroutine}
theorem J0.apart(hcl:¬ ρ.UM)(h:(∀(i:Nat) (v:FE X),ws[i]?=some v->∀b,v.own b->b≠ρ.gone)->JW (S0 P Fin EH).base (.Fg M ρ ws ex df n) g W):JW (S0 P Fin EH).base (.Fg M ρ ws ex df n) g W:=by intro w hw gs T sl role bd live hg hn C H hL hdf Kl;refine h (fun i v hv b hb e=>?_) w hw gs T sl role bd live hg hn C H hL hdf Kl;obtain⟨_,_,_,c,e',f,hc⟩:=C.own i v hv b hb;obtain⟨k,hk⟩:=C.gone hcl;rw[e,hk]at hc;cases hc
end
end Go.LK
namespace Go.Proofs.Ytdkfdedgfilhbaa
open Go Go.Conc Go.LT Go.LC Go.LK Go.RowKit
open Go.ConcN (WgLive)
open BA TU
structure Ran{Cs Sg:Type}(N1:Nat)(z:Rs EP Cs Sg)(av RL:Value)(W:World):Prop where
 ex:∃vs:List Value,FY W N1 1 av z.xs.length vs/\∀(j:Nat) (v:Value) (x:Wk EP Cs),vs[j]?=some v->z.xs[j]?=some x->
  (∃JH:List Value,JH.length=x.out.length/\FY W N1 9 v x.out.length (List.zipWith FZ x.out JH).flatten/\∀(i:Nat) (a:Gg) (iv:Value),x.out[i]?=some a->JH[i]?=some iv->GQ W (fun _=>True) iv a.a.ints)/\v.oneCell'=true/\∀g,v.ownBlock=some g->av.ownBlock≠some g
 opn:FY W N1 3 RL (opens z.xs).length ((opens z.xs).map Lf).flatten
theorem j5{Cs Sg:Type}{ws:List (FE (Wk EP Cs))}{plans:List (List EP)}(hl:ws.length=plans.length)(h:∀(j:Nat) (u:FE (Wk EP Cs)),ws[j]?=some u->∃pl,plans[j]?=some pl/\u.x=Wk.new j pl):ws.map (·.x)=plans.zipIdx.map fun p=>Wk.new p.2 p.1:=by
 refine List.ext_getElem? fun j=>?_;rw[List.getElem?_map,List.getElem?_map,List.getElem?_zipIdx];cases hj:ws[j]? with
 | none=>
  have:plans[j]?=none:=by rw[List.getElem?_eq_none_iff]at hj ⊢;omega
  rw[this];rfl
 | some u=>
  obtain⟨pl,h1,h2⟩:=h j u hj;rw[h1];simp[h2]
section
variable {Cs Sg:Type}{D:Dr EP Cs Sg}{m:Mem Sg}
variable {Fin:Gb}{EH:FM Try.prog Fin}
variable {B:Nat->Bool}{W:World}{n:Nat}{c:Frame}{cs:List Frame}{σ:Sg}
theorem dG {plans:List (List EP)}{turns:List Int}{pg po Ga:Nat}{Km:List Value}{Qb:FuncId}{recv:Value}{dt:TypeId}{dw:Value}{ta ya:Option Addr}{tn tc yc hg ho:Nat}{u:Int}{hl:List Int}{Kp:Nat->Prop}(hD:∀ bd ρ b k,P9 (KO D (RZ m bd (.iface dt dw)) ρ b k) (.iface dt dw) Qb recv)(hP:K9 m pg po Km plans)(h64:∀ pl∈plans,pl.length<=64)(h0:0 < plans.length)(h8:plans.length<=8)(hu:0<=u)(hu2:u<=20000)(Jg:∀ σ W,m.Inv σ W->Reads W (.slice ta tn tc) (turns.map (Value.int .i64)))(hlen:turns.length<=1000000)(ZB:hl.length<=1000000)(Ow:∀ (i:Nat) (x:Int),hl[i]?=some x->-9223372036854775808<=x/\x<=9223372036854775807/\ya=some ⟨hg,ho,none⟩/\∀ σ W,m.Inv σ W->W.cell? ⟨hg,ho+i,none⟩=some (.int .i64 x))(hcap:n+8 < 1000000)(hI:m.Inv σ W)(hB:∀ g,B g=true->g < W.heap.size)(hSB:∀ g,m.Sh g->B g=false)(He:∀ g,Kp g->(∃ c e f,W.heap[g]?=some (.cells c e f))/\B g=false/\¬ m.Sh g)(z:Rs EP Cs Sg)(hz:z=Rs.go D (F5 u) (F5 u) (Rs.new plans σ turns hl))(hend:∀ x∈z.xs,x.out.length<=1000000)(hK:∀ B' W' N1 a1 a2 a3 o1 o2 o3,(∀ g,B' g=true->B g=true\/(W.heap.size<=g/\g < N1))->W.heap.size<=N1->N1<=W'.heap.size->m.Inv z.σ W'->Ran N1 z (.slice a1 a2 a3) (.slice o1 o2 o3) W'->(∀ g,Kp g->W'.heap[g]?=W.heap[g]?)->
      JW (S0 (X:=Wk EP Cs) (Sg:=Sg) Try.prog Fin EH).base (.Gj B' (n+plans.length)) (G (c.finish (.tuple #[.agg #[.slice a1 a2 a3,.slice o1 o2 o3,.int .i64 z.s,.bool (z.rd.any id)],.int .i64 0])) cs) W') :
    JW (S0 (X:=Wk EP Cs) (Sg:=Sg) Try.prog Fin EH).base (.Gj B n) (G (Frame.enter Try.prog 16 #[.agg #[.slice (some ⟨pg,po,none⟩) Km.length Ga,.slice ta tn tc,.slice ya hl.length yc,.int .i64 u],.iface dt dw] .normal) (c :: cs)) W:=by
  have hlenp:=hP.len;have Xy:∀g,m.Sh g->g<W.heap.size:=fun g hg=>by obtain⟨c,e,f,hc⟩:=m.rows σ W g hg hI;exact(zGE hc).1
  have hkl:∀g,Kp g->g<W.heap.size:=fun g hg=>by obtain⟨⟨c,e,f,hc⟩,_⟩:=He g hg;exact(zGE hc).1
  refine dP (u:=u) (fun i hi=>?_) zOM zOM hu hu2 fun W1 VU Ahh hW1 hz1 q0 q1 q2=>?_
  . obtain⟨cv,hcv⟩:∃cv,Km[i]?=some cv:=⟨_,List.getElem?_eq_getElem hi⟩
    obtain⟨pl,hpl⟩:∃pl,plans[i]?=some pl:=⟨_,List.getElem?_eq_getElem zOM⟩
    obtain⟨p,cap,e,_⟩:=hP.calls i cv pl hcv hpl σ W hI;have:=hP.cell σ W hI i cv hcv;rw[e]at this;exact⟨p,pl.length,cap,h64 pl (List.mem_of_getElem? hpl),this⟩
  . subst Ahh;obtain⟨bp,hbp⟩:∃bp,bp=W.heap.size:=⟨_,rfl⟩
    obtain⟨bd,hbd⟩:∃bd,bd=W.heap.size+1:=⟨_,rfl⟩
    obtain⟨br,hbr⟩:∃br,br=W.heap.size+2:=⟨_,rfl⟩
    rw[← hbp]at q0;rw[← hbd]at q1;rw[← hbr]at q2;have hI1:(RZ m bd (.iface dt dw)).Inv σ W1:=⟨m.eq σ W W1 (fun g hg=>.of (hW1 g (Xy g hg))) hI,q1⟩
    have hrow:∀g,(g=bp\/g=br\/Kp g)->(∃c e f,W1.heap[g]?=some (.cells c e f)):=fun g hg=>by
      rcases hg with rfl|rfl|hg
      . exact⟨_,_,_,q0⟩
      . exact⟨_,_,_,q2⟩
      . rw[hW1 g (hkl g hg)];exact(He g hg).1
    have VX:∀g,W.heap.size<=g->B g=false:=fun g hg=>by
      cases hb:B g with
      | false=>rfl
      | true=>have:=hB g hb;omega
    refine mq (D:=D) (m:=RZ m bd (.iface dt dw)) (dv:=.iface dt dw) (bp:=bp) (bd:=bd) (br:=br) (R:=20000) (plans:=plans) (Km:=Km) (pg:=pg) (po:=po) (Ga:=Ga) (σ:=σ) (Kp:=fun g=>g=bp\/g=br\/Kp g)
      (hD bd) ⟨_,_,rfl⟩ (fun σ W h=>dM h) (by decide) zOM (Y9 hP) hI1 (fun g hg=>by have:=hB g hg;omega) (fun g hg=>?_) (fun g hg=>⟨hrow g hg,?_,?_⟩) (by rw[← hlenp];simp[World.cell?,q0]) (by rw[hbp]) (by rw[hbd]) (by rw[hbr]) ?_
    . rcases hg with hg | rfl
      . exact hSB g hg
      . exact VX _ zOM
    . rcases hg with rfl | rfl | hg
      . exact VX _ zOM
      . exact VX _ zOM
      . exact(He g hg).2.1
    . rintro(hs | hs)
      . rcases hg with rfl | rfl | hg
        . have:=Xy _ hs;omega
        . have:=Xy _ hs;omega
        . exact(He g hg).2.2 hs
      . rcases hg with rfl | rfl | hg
        . omega
        . omega
        . have:=hkl g hg;omega
    . intro ρ ws lv W2 a12 fA a26 xI r1 r2 r3 r4 r5 r6 r7 r8 hs2 hH hwl;have hlv:∃lg lc,lv=.slice (some ⟨lg,0,none⟩) ws.length lc:=by
        obtain⟨te,hl,⟨_,h⟩|⟨g,cap,cur,rfl,_⟩⟩:=hH.TS
        . omega
        . exact⟨_,_,rfl⟩
      obtain⟨lg,lc,rfl⟩:=hlv;obtain⟨v0,v1,v5,v6,Ab,Af,Ah,Ai,Aj,Ak,Al,Am,Ao,Ap,Ar,Ay,Az,AA,AB,AJ,AL,AO,AP,AQ,AU,AV,AX,AY,AZ,A8,A9,Ba,Bb,Bc,Bf,Bh,Bj,Bl,Bp,Bq,Br,rfl⟩:=hs2;have kp:=fun g hg=>hH.kp g hg;have hqb:W2.heap[bp]?=some (.cells #[.slice (some ⟨pg,po,none⟩) Km.length Ga,.slice ta tn tc,.slice ya hl.length yc,.int .i64 u] 25 (0,0)):=(kp bp (.inl rfl)).1.trans q0;have Ada:=MS hH.TS (g:=lg) rfl;have Agv:=hH.iC lg rfl;have Am6:lg<W2.heap.size:=by obtain⟨c,e,f,hc⟩:=Ada;exact(zGE hc).1
      have TA:=hH.gone;rw[nZ];refine EO ?_;refine vI (wa:=some ⟨pg,po,none⟩) (wn:=Km.length) (wc:=Ga) (bp:=bp) (lg:=lg) (pn:=ws.length) (lc:=lc) (co:=ρ.come) hqb fun W3 cf hW3 hback=>?_;have hc3:∀a,W3.cell? a=W2.cell? a:=fun a=>by simp only[World.cell?,hW3]
      refine Xr (D:=D) (m:=RZ m bd (.iface dt dw)) (Kp:=fun g=>g=bp\/g=br\/Kp g) (W0:=W1) (R:=20000) (σ:=σ) (turns:=turns) (hl:=hl) (hg:=hg) (ho:=ho) r5 r2 ((RZ m bd (.iface dt dw)).eq σ W2 W3 (fun g _=>.of (by rw[hW3])) hH.inv) (fun i b hb=>?_) (fun g hg=>?_) (fun g hg=>by rw[hW3];exact(kp g hg).1) (by rw[hW3];exact hH.wg) (fun g hg=>by rw[hW3];exact hH.bo g hg)
        (fun j w hw g hg=>by rw[hW3];exact((hH.lt j w hw).2 g hg).1) (fun j w hw=>?_) (fun j w hw=>?_) zOM ?_ hlen ZB (fun i x hx=>?_) hu hu2 (by decide) z ?_ hend ?_
      . rw[hc3,List.getElem?_map]at *;obtain⟨w,hw,rfl⟩:=Option.map_eq_some_iff.1 hb;obtain⟨te,hl⟩:=hH.TS;have:=World.ownsRow.cells (h:=hl) rfl i (.pointer (some ⟨w.b,0,none⟩)) (by rw[List.getElem?_map,hw];rfl);rw[Addr.add_lit,Nat.zero_add]at this;exact this
      . rw[hW3];rcases hg with rfl|hg
        . exact⟨Ada,Agv⟩
        . obtain⟨k1,k2,k3,k4,k5,k6,k7⟩:=kp g hg;exact⟨by rw[k1];exact k2,k3,k4,k5,k7⟩
      . obtain⟨pl,x1,x2,x3,x4,x5⟩:=hH.xs j w hw;rw[x2];exact⟨x3,.new j pl⟩
      . obtain⟨pl,x1,x2,x3,x4,x5⟩:=hH.xs j w hw;omega
      . exact Jg σ W3 (m.eq σ W2 W3 (fun g _=>.of (by rw[hW3])) hH.inv.1)
      . obtain⟨a1,a2,a3,a4⟩:=Ow i x hx;exact⟨a1,a2,a3,fun σ W h=>a4 σ W h.1⟩
      . rw[hz];unfold Rs.new;rw[hwl,j5 (Sg:=Sg) hwl fun j w hw=>by obtain⟨pl,x1,x2,_⟩:=hH.xs j w hw;exact⟨pl,x1,x2⟩]
      . intro ws' W4 N1 vs av RL e1 hN1 hres hkp;obtain⟨a1,a2,a3,rfl⟩:=Iy hres.own;obtain⟨o1,o2,o3,rfl⟩:=Iy hres.opn;refine hback a1 a2 a3 o1 o2 o3 (.Fg (Fe D (RZ m bd (.iface dt dw))) ρ ws' 0 false (n+plans.length)) z.s (z.rd.any id) W4 fun DX DY DZ D5 W5 Xp=>?_;refine J0.know (EH:=EH) fun hKn=>?_;refine J0.apart (EH:=EH) r5 fun hap=>?_;show JL (S0 (X:=Wk EP Cs) (Sg:=Sg) Try.prog Fin EH).L _ _ W5;have hz5:W5.heap.size=W4.heap.size+1:=by rw[Xp];simp
        have h5:∀g,g<W4.heap.size->W5.heap[g]?=W4.heap[g]?:=fun g hg=>by rw[Xp,Array.getElem?_push,if_neg zOM]
        have h5n:W5.heap[W4.heap.size]?=some (.cells #[.slice a1 a2 a3,.slice o1 o2 o3,.int .i64 z.s,.bool (z.rd.any id)] 31 (0,0)):=by rw[Xp,Array.getElem?_push,if_pos rfl]
        clear Xp;rw[hW3]at hN1;have hlow:=hres.low;have hgl:ρ.gone<N1:=by omega
        have hno:∀g,N1<=g->ownB ws' g=false:=fun g hg=>KV fun i v hv ho=>by have:=hlow.2 i v hv g ho;omega
        have Anj:ownB ws' br=false:=KV fun i v hv ho=>(hkp br (.inr (.inl rfl))).2 i v hv ho;have Ak0:ρ.Wg<N1:=by have:=hH.wg;omega
        refine dK r4 r5 fun W6 D7 D8 hT=>?_;have hs6:=hT.size;have hb6:∀b,b<W5.heap.size->b≠ρ.gone->b≠ρ.Wg->ownB ws' b=false->W6.heap[b]?=W5.heap[b]?:=hT.block;have hc6:∀a:Addr,a.block<W5.heap.size->a.block≠ρ.gone->a.block≠ρ.Wg->W6.cell? a=W5.cell? a:=hT.cell;have h46:∀g,N1<=g->g<W4.heap.size->W6.heap[g]?=W4.heap[g]?:=fun g h1 h2=>(hb6 g zOM zOM zOM (hno g h1)).trans (h5 g h2);have yx:∀g,g=bp\/g=br\/Kp g->W6.heap[g]?=W1.heap[g]?:=fun g hg=>by
          have hlt:g<W1.heap.size:=by obtain⟨c,e,f,hc⟩:=hrow g hg;exact(zGE hc).1
          have h1:=hkp g hg;have hg4:g<W4.heap.size:=by obtain⟨c,e,f,hc⟩:=hrow g hg;rw[← h1.1]at hc;exact(zGE hc).1
          rw[hb6 g zOM zOM zOM (KV fun i v hv ho=>h1.2 i v hv ho),h5 g hg4,h1.1]
        refine tC (b14:=W4.heap.size) (br:=br) (a1:=a1) (a2:=a2) (a3:=a3) (o1:=o1) (o2:=o2) (o3:=o3) (st:=z.s) (cv:=z.rd.any id) ((hb6 _ zOM (by have:=hlow.1;omega) (by have:=hlow.1;omega) (hno _ hlow.1)).trans h5n) ((yx br (.inr (.inl rfl))).trans q2) fun W7 h7 hs7=>?_;have hWN:W.heap.size<=N1:=by have:=hH.wg;omega
        have Aod:br<N1:=by omega
        refine hK (fun b=>ρ.Bo b||b==ρ.Wg) W7 N1 a1 a2 a3 o1 o2 o3 (fun g hg=>?_) hWN zOM ?_ ⟨⟨vs,?_,fun j v x hv hx=>?_⟩,?_⟩ (fun g hg=>?_)
        . simp only[Bool.or_eq_true,beq_iff_eq]at hg;rcases hg with hg|rfl
          . rw[r6]at hg;exact .inl hg
          . have:=hH.wg;exact .inr ⟨by omega,by omega⟩
        . refine m.eq z.σ W4 W7 (fun g hg=>.of ?_) hres.inv.1;have hl:=Xy g hg;have:=hlow.1;have:=hres.sh g (.inl hg);rw[h7 g zOM,hb6 g zOM zOM zOM (KV fun i v hv ho=>(hKn.own i v hv g ho).1 (.inl hg)),h5 g zOM]
        . have sH:ws'.length=z.xs.length:=by rw[← e1];simp
          rw[← sH];exact Gl hres.own fun g hg=>by have:=Gx hres.own hg;rw[h7 g zOM,h46 g this.1 this.2]
        . rw[← e1,List.getElem?_map]at hx;obtain⟨w,hw,rfl⟩:=Option.map_eq_some_iff.1 hx;obtain⟨⟨JH,c1,c2,c3⟩,c4⟩:=hres.cop j v w hv hw;refine⟨⟨JH,c1,Gl c2 fun g hg=>?_,fun i a iv ha hi=>?_⟩,c4⟩
          . have:=Gx c2 hg;rw[h7 g zOM,h46 g this.1 this.2]
          . rcases c3 i a iv ha hi with h | ⟨h0,g,cap,i1,i2,i3,i4,i5⟩
            . exact .inl h
            . refine .inr ⟨h0,g,cap,i1,trivial,i3,i4,fun k y hy=>?_⟩;have hgN:=hlow.2 j w hw g i2;rw[cell_of (w:=W6) (a:=⟨g,k,none⟩) (h7 g fun e=>(hkp br (.inr (.inl rfl))).2 j w hw (e ▸ i2)),hc6 ⟨g,k,none⟩ (by show g<_;have:=hlow.1;omega) (hap j w hw g i2) (hKn.own j w hw g i2).2.1,cell_of (w:=W4) (a:=⟨g,k,none⟩) (h5 g zOM)];exact i5 k y hy
        . rw[← e1];exact Gl hres.opn fun g hg=>by have:=Gx hres.opn hg;rw[h7 g zOM,h46 g this.1 this.2]
        . have hl:=hkl g hg;rw[h7 g zOM,yx g (.inr (.inr hg)),hW1 g hl]
end
end Go.Proofs.Ytdkfdedgfilhbaa
namespace Go.Proofs.Ytdkfdedgfilhbaa
open Go Go.Conc Go.LT Go.LC Go.LK
section
section
variable {Cl Cs Sg:Type}
def Jl(D:Dr Cl Cs Sg):Nat->Cs->Sg->Option (Sg × (An × Bool))
 | 0,_,_=>none
 | f+1,cs,σ=>
  match D.next 0 cs σ with
  | (σ',.inr e)=>some (σ',e)
  | (σ',.inl cs')=>Jl D f cs' σ'
def PX(D:Dr Cl Cs Sg)(f:Nat)(c:Cl)(σ:Sg):Option (Sg × (An × Bool)):=
 match D.init 0 c σ with
 | .inl cs=>Jl D f cs σ
 | .inr e=>some (σ,e)
structure Lst(Sg:Type) where
 own:Nat->Prop
 f:Nat
 res:Sg × (An × Bool)
variable {X XZ:Type}{Fin:Gb}{EH:FM Try.prog Fin}
theorem step_nil{S:Fp Try.prog true (G0 X XZ)}{γ:G0 X XZ}{c:Frame}{k:List Frame}{W:World}(hJ:JW S.base γ (G (c.finish (.tuple #[])) k) W) :
  JW S.base γ (G (Frame.enter Try.prog 33 #[.pointer none] .normal) (c :: k)) W:=by
 have ht:#[.pointer none]++Array.replicate (Try.f33.ntmps-(#[.pointer none]:Array Value).size) undef=(#[.pointer none]++Array.replicate (Try.f33.ntmps-1) undef):=rfl;have hn:Try.f33.ntmps=30:=by kernel_rfl
 rw[enter_at (c:=(Try.f33.body).get rfl) _ Try.func33 rfl,ht,hn];walk_nrm;show JL S.L γ _ W;refine Fp.Fz (S:=S) (b:=base 33) [] (by simp) zKR nE zKR fun EG ha=>?_;have hend:=JW.tape (S:=S.base) hJ ha;have HH:=Lib.hid hend;clear hJ hend;simp only[Try.f33,Option.get_some];gi_wp2;intro Y;exact JL.back rfl Try.func33 (v:=.tuple #[]) (fun w=>by kernel_rfl) HH.out
variable (D:Dr Cl Cs Sg)(m:Mem Sg)(γ:G0 X XZ)
structure LAt(s:Lst Sg)(σ:Sg)(W:World):Prop where
 inv:m.Inv σ W
 own:∀b,s.own b->¬ m.Sh b/\∃c e f,W.heap[b]?=some (.cells c e f)
def YA(S:Fp Try.prog true (G0 X XZ)):GJ S D m 33 where
 St:=Lst Sg
 γ:=fun _=>γ
 wv:=.pointer none
 num:=0
 At:=LAt m
 core:=fun _ _=>False
 own:=fun s=>s.own
 kept:=fun s=>s.own
 n0:=fun _=>0
 fuel:=fun s=>s.f
 Le:=fun s s'=>s'.res=s.res
 Pf:=fun s σ c=>PX D s.f c σ=some s.res
 Step:=fun s σ cs=>Jl D s.f cs σ=some s.res
 bD:=fun s r=>(match r with | (σ,.inl cs)=>Jl D s.f cs σ | (σ,.inr e)=>some (σ,e))=some s.res
 End:=fun s σ e=>(σ,e)=s.res
 Leaves:=fun _ _=>True
 add:=fun s N=>{ s with own:=fun g=>s.own g\/g=N }
 refl:=fun _=>rfl
 trans:=fun _ _ _ h k=>k.trans h
 NI:=fun{s σ c cs} h hi=>by unfold PX at h;rw[hi]at h;exact h
 ends:=fun{s σ c e} h hi=>by unfold PX at h;rw[hi]at h;exact Option.some.inj h
 more:=fun h=>h
 done:=fun h=>Option.some.inj h
 inv:=fun h=>h.inv
 size:=fun _=>Nat.zero_le _
 row:=fun h hb=>h.own _ hb
 Ld:=fun _ h=>h.elim
 Gm:=fun _ h=>h
 put:=fun hA hI _ ho _=>⟨hI,fun b hb=>⟨(hA.own b hb).1,ho b hb⟩⟩
 Yo:=fun{s σ W N} hA _ h2 h3=>⟨⟨hA.inv,fun b hb=>hb.elim (hA.own b) fun e=>by rw[e];exact⟨h2,h3⟩⟩,rfl,rfl,rfl,fun _=>.rfl,fun _=>.rfl,fun _=>.rfl⟩
 Yf:=fun h=>h
 Uy:=fun h=>h
 XP:=fun h=>h
 XJ:=fun h=>h
 pop:=fun _ _=>trivial
 step:=fun{s σ W cs c k} hA hS _ hJ=>by
  cases hf:s.f with
  | zero=>rw[hf]at hS;cases hS
  | succ f=>
   refine step_nil (hJ { s with f:=f } σ W ⟨hA.inv,hA.own⟩ rfl rfl rfl rfl (fun _ _=>rfl) (Nat.le_refl _) (by show f<s.f;omega) ?_);rw[hf]at hS;simp only[Jl]at hS;show(match D.next 0 cs σ with | (σ,.inl cs)=>Jl D f cs σ | (σ,.inr e)=>some (σ,e))=some s.res;rw[← hS];cases hn:D.next 0 cs σ with
   | mk σ' r=>cases r<;>rfl
end
end
end Go.Proofs.Ytdkfdedgfilhbaa
namespace Go.Proofs.Ytdkfdedgfilhbaa
open Go Go.Conc Go.LT Go.LC Go.LK Go.RowKit
open BA TU
section
def NT(ct cb n:Nat)(Fx:Nat->Prop)(W0:World)(UC:∀g,Fx g->∃c e f,W0.heap[g]?=some (.cells c e f)):Mem (List Int) where
 Sh g:=g=ct\/g=cb\/Fx g
 Inv σ W:=σ.length=n/\W.heap[ct]?=some (.cells #[.slice (some ⟨cb,0,none⟩) n n] 62 (0,0))/\W.heap[cb]?=some (.cells (σ.map (Value.int .i64)).toArray 76 (0,0))/\∀g,Fx g->W.heap[g]?=W0.heap[g]?
 rows:=fun σ W g hg h=>by
  rcases hg with rfl|rfl|hg
  . exact⟨_,_,_,h.2.1⟩
  . exact⟨_,_,_,h.2.2.1⟩
  . rw[h.2.2.2 g hg];exact UC g hg
 eq:=fun σ W W' he h=>⟨h.1,(he ct (.inl rfl)).cells h.2.1,(he cb (.inr (.inl rfl))).cells h.2.2.1,fun g hg=>by obtain⟨c,e,f,hc⟩:=UC g hg;rw[hc];exact(he g (.inr (.inr hg))).cells ((h.2.2.2 g hg).trans hc)⟩
section
variable {ct cb n:Nat}{Fx:Nat->Prop}{W0:World}{UC:∀g,Fx g->∃c e f,W0.heap[g]?=some (.cells c e f)}
theorem Mr(hn:n<=256)(h1:ct≠cb)(h2:∀g,Fx g->g≠cb):FI (NT ct cb n Fx W0 UC) ct cb n where
 len:=hn
 sh:=.inr (.inl rfl)
 get:=fun σ W h=>⟨h.1,by simp[World.cell?,h.2.1],_,h.2.2.1⟩
 set:=fun σ W i v h hi=>by
  have ho:∀g,g≠cb->(W.setCell ⟨cb,i,none⟩ (.int .i64 v)).heap[g]?=W.heap[g]?:=fun g hg=>by simp[World.setCell,Array.getElem?_modify,Ne.symm hg]
  refine⟨by simp[h.1],by rw[ho ct h1];exact h.2.1,?_,fun g hg=>by rw[ho g (h2 g hg)];exact h.2.2.2 g hg⟩;have:=h.2.2.1;simp[World.setCell,Array.getElem?_modify,this]
theorem V7{m:Mem (List Int)}{bd:Nat}{t:TypeId}{v:Value}(h:FI m ct cb n)(hn:0<n):FI (RZ m bd (.iface t v)) ct cb n where
 len:=h.len
 sh:=.inl h.sh
 get:=fun σ W hI=>h.get σ W hI.1
 set:=fun σ W i x hI hi=>by
  refine⟨h.set σ W i x hI.1 hi,?_⟩;have hne:bd≠cb:=fun e=>by
   obtain⟨h1,_,ty,h2⟩:=h.get σ W hI.1;have h3:=hI.2;rw[e,h2]at h3;cases σ with
   | nil=>simp at h1;omega
   | cons y l=>simp at h3
  have:=hI.2;simp[World.setCell,Array.getElem?_modify,hne.symm,this]
theorem au{main:Bool}{Γ:Type}{S:Fp Try.prog main Γ}{m:Mem (List Int)}(I:GJ S EK m 33)(hm:FI m ct cb n):P9 I (.iface 36 (.pointer (some ⟨ct,0,none⟩))) 95 (.pointer (some ⟨ct,0,none⟩)) where
 Ach:=fun wv cv w es=>by kernel_rfl
 doj:=fun hA hS hL hJ=>kr I hm hA hS hL fun s' σ' W' e h1 h2 h3 h4=>hJ s' σ' W' e _ h1 h2 h3 (.inl ⟨h4,rfl⟩)
end
end
section
theorem ZU:(Try.prog.info? 76).map (fun i=>(i.zero,i.size,i.bytes))=some (some (.agg #[.int .i64 0]),1,8):=by kernel_rfl
theorem Zg(v:Value)(n:Nat):madeCells #[v] n=(List.replicate n v).toArray:=by refine Array.ext (by simp[size_madeCells]) fun i h1 h2=>?_;simp[madeCells,Nat.mod_one]
section
variable {main:Bool}{Γ:Type}{S:Fp Try.prog main Γ}{γ:Γ}{W:World}{cf:Frame}{cs:List Frame}
theorem KN{n:Nat}(h1:1<=n)(h2:n<=256)(hJ:∀W',W'.heap=(W.heap.push (.cells (List.replicate n (Value.int .i64 0)).toArray 76 (0,0))).push (.cells #[.slice (some ⟨W.heap.size,0,none⟩) n n] 62 (0,0))->JW S.base γ (G (cf.finish (.tuple #[.pointer (some ⟨W.heap.size+1,0,none⟩),.int .i64 0])) cs) W') :
  JW S.base γ (G (Frame.enter Try.prog 8 #[.int .i64 n] .normal) (cf :: cs)) W:=by
 have ht:#[.int .i64 n]++Array.replicate (Try.f8.ntmps-(#[.int .i64 n]:Array Value).size) undef=#[.int .i64 n,undef,undef,undef,undef,undef,undef,undef,undef,undef,undef,undef,undef,undef]:=by
  have:Try.f8.ntmps=14:=by kernel_rfl
  rw[this];walk_nrm
 rw[enter_at (c:=(Try.f8.body).get rfl) _ Try.func8 rfl,ht];obtain⟨i0,hi,hz0,hz1,hz2⟩:=info_parts ZU;have hmk:∀wx:World,(Instr.makeSlice 60 (.int .i64 n) (.int .i64 n)).run Try.prog wx=.ok (.slice (some ⟨wx.heap.size,0,none⟩) n n) (wx.alloc (.cells (madeCells #[.int .i64 0] n) 76)):=fun wx=>by
  have:=run_makeSlice (P:=Try.prog) (w:=wx) 60 76 i0 (.agg #[.int .i64 0]) Try.underlying60 hi hz0 .i64 .i64 n n zOM (Int.le_refl _) (by rw[hz1];simp;omega) (by rw[hz2];omega) zOM;rw[hz1,show(Value.agg #[.int .i64 0]).cells=#[.int .i64 0]from rfl]at this
  simpa using this
 show JL S.L γ _ W;refine Fp.Fz (S:=S) (b:=base 8) [] (by simp) zKR nE zKR fun EG ha=>?_;have hh:EG.heap=W.heap:=by obtain⟨τ,d,rfl⟩:=ha;rfl
 have g1:decide ((n:Int)<1)=false:=by simp;omega
 have g2:decide (256<(n:Int))=false:=by simp;omega
 have HH:=Lib.hid (zAI hJ hh);clear hJ hh;simp only[Try.f8,Option.get_some];gi_wp2;intro Y;obtain⟨hJ,hh⟩:=HH.out;clear HH;rw[← hh]at hJ;exact JL.back rfl Try.func8 (v:=.tuple #[.pointer (some ⟨EG.heap.size+1,0,none⟩),.int .i64 0]) (fun w=>by kernel_rfl) (hJ _ (by rw[← Zg];rfl))
end
theorem ND{h:FuncId}(k1:@Hg (Host.only h) Try.prog ((Try.f14.body).get rfl)=true)(k2:@Hg (Host.only h) Try.prog ((Try.f25.body).get rfl)=true):∀g∈[14,25,41],@Lets (Host.only h) Try.prog g:=fun g hg=>by
 simp only[List.mem_cons,List.not_mem_nil,or_false]at hg;rcases hg with rfl|rfl|rfl
 . exact⟨by kernel_rfl,.inl ⟨_,_,Try.func14,by kernel_rfl,rfl,k1⟩⟩
 . exact⟨by kernel_rfl,.inl ⟨_,_,Try.func25,by kernel_rfl,rfl,k2⟩⟩
 . exact⟨by kernel_rfl,.inr (.inl (H7 Try.func41 zKR rfl zKR (e:=Extern.Atomic.loadT (.int .i64)) zKR (Ul fun _=>trivial)))⟩
theorem Zf(h:FuncId){g o:Nat}{y:Int}(w:World)(hc:w.cell? ⟨g,o,none⟩=some (.int .i64 y)) :
  CallsIn (Fence.list [h,14,25,41] none) 0 Try.prog 25 #[.pointer (some ⟨g,o,none⟩)] w fun e w'=>e=.returned (.int .i64 y)/\w=w':=by
 have hl:=run_call_load (P:=Try.prog) Try.func41 zKR zKR zKR .i64 zKR hc;gi_enter Try.func25,Try.ntmps25
 gi_wp2;go_ret
 exact⟨rfl,rfl⟩
theorem values_in(h:FuncId){ct cb n:Nat}{σ:List Int}(w:World)(hn:n<=256)(hl:σ.length=n)(h1:w.heap[ct]?=some (.cells #[.slice (some ⟨cb,0,none⟩) n n] 62 (0,0)))(h2:w.heap[cb]?=some (.cells (σ.map (Value.int .i64)).toArray 76 (0,0))) :
  CallsIn (Fence.list [h,14,25,41] none) 0 Try.prog 14 #[.pointer (some ⟨ct,0,none⟩)] w fun e w'=>∃v,e=.returned v/\FY w' w.heap.size 1 v n (σ.map (Value.int .i64))/\Below w.heap.size w w':=by
 obtain⟨i0,hi,hz0,hz1,hz2⟩:=info_parts OX;have c0:w.cell? ⟨ct,0,none⟩=some (.slice (some ⟨cb,0,none⟩) n n):=by simp[World.cell?,h1]
 have hlt1:ct<w.heap.size:=(zGE h1).1;have hlt2:cb<w.heap.size:=(zGE h2).1;have hcell:∀i,i<n->w.cell? ⟨cb,i,none⟩=some (.int .i64 (σ.getD i 0)):=fun i hi=>by simp[World.cell?,h2,hl,hi]
 have HC:=Lib.hid (zAI hcell (zAI hl (zAI hlt1 hlt2)));clear hcell hl h1 h2 hlt1 hlt2;gi_enter Try.func14,Try.ntmps14
 gi_wp2;gi_loopw [3,10] (fun v i wr=>∃k:Nat,k<=n/\i=.int .i64 k/\RowKit.Hid (FY wr w.heap.size 1 v k ((σ.take k).map (Value.int .i64))/\Below w.heap.size w wr)) (fun _ i _=>n-(intOf i).toNat)
 case atStart=>exact⟨0,Nat.zero_le _,rfl,Lib.hid ⟨by simpa using FY.nil w w.heap.size 1,Below.refl _ _⟩⟩
 case round=>
  obtain⟨k,hk,rfl,hinv⟩:=hrel;by_cases hlt:k<n
  . obtain⟨hcell,hl,hlt1,hlt2⟩:=HC.out;obtain⟨ho,hb⟩:=hinv.out;have d0:wr.cell? ⟨ct,0,none⟩=some (.slice (some ⟨cb,0,none⟩) n n):=(hb.cell (p:=⟨ct,0,none⟩) hlt1).trans c0;have dk:wr.cell? ⟨cb,k,none⟩=some (.int .i64 (σ.getD k 0)):=(hb.cell (p:=⟨cb,k,none⟩) hlt2).trans (hcell k hlt);have htk:(σ.take (k+1)).map (Value.int .i64)=(σ.take k).map (Value.int .i64)++[.int .i64 (σ.getD k 0)]:=by
     have:σ[k]?=some (σ.getD k 0):=by simp[List.getD,hl,hlt]
     rw[List.take_add_one,this]
     simp
    have HT:=Lib.hid htk;generalize σ.getD k 0=y at dk htk;have HT2:=Lib.hid htk;clear htk hcell hl hlt1 hlt2 c0 hinv;gi_wp2_with (first | (gi_at_call 25;refine(Zf h _ dk).mono ?_;rintro e w2 ⟨rfl,rfl⟩) | (gi_at_builtin;refine G8 _ rfl _ _ 22 rfl w.heap.size 3 i0 (.int .i64 0) 1 8 Try.underlying22 hi hz0 hz1 hz2 rfl (by decide) _ _ _ rfl (ho.alloc _) ⟨wr.heap.size,0,none⟩ 1 1 [.int .i64 y] rfl rfl ?c1 ?c2 ?c3 ?c4 ?c5 ?_))
    case c1=>exact cell_one_new _ _ _
    case c2=>intro u hu;simp at hu;subst hu;rfl
    case c3=>unfold maxLen;omega
    case c4=>omega
    case c5=>have:=hb.size;simp;omega
    intro v' w1 g1 g2 g3;have hb1:Below w.heap.size w w1:=(hb.alloc hb.size _).grown g2 (by have:=hb.size;simp;omega) (fun j hj=>(ho.blk j hj).1);have HI:=Lib.hid (zAI g1 hb1);clear g1 g2 g3 hb1 ho hb;gi_wp2;go_roundw
    case rel=>exact⟨k+1,by omega,by go_num,Lib.hid ⟨by rw[HT2.out,List.map_take];exact HI.out.1,HI.out.2⟩⟩
    case measure=>simp[intOf];omega
  . obtain rfl:k=n:=by omega
    gi_wp2;go_ret
    obtain⟨ho,hb⟩:=hinv.out;have:σ.take k=σ:=List.take_of_length_le (by have:=HC.out.2.1;omega);rw[this]at ho;exact⟨_,rfl,ho,hb⟩
end
section
def Zb:Code:=match Try.f6.body with | some (.seq _ (.seq _ (.seq _ (.seq c _))))=>c | _=>.skip
def WQ:Code:=match Zb with | .seq _ (.block _ (.loop c))=>c | _=>.skip
def uw:Code:=match WQ with | .seq c _=>c | _=>.skip
def za:Code:=match WQ with | .seq _ (.seq _ (.seq (.block _ (.seq c _)) _))=>c | _=>.skip
def zI:Code:=match WQ with | .seq _ (.seq _ (.seq (.block _ (.seq _ c)) _))=>c | _=>.skip
def qb:Code:=match WQ with | .seq _ (.seq _ (.seq _ c))=>c | _=>.skip
theorem aX:WQ=.seq uw (.seq (.cond (.tmp 34) .skip (.exit 1)) (.seq (.block 2 (.seq za zI)) qb)):=rfl
theorem Y8{σ:List Int}{i:Nat}{v:Int}(hi:i<σ.length):Jl EK 5 (.one ⟨2,i,v,0⟩) σ=some (σ.set i v,({},false)):=by
 have h1:inn σ.length (i:Int)=true:=by simp[inn,hi]
 simp[Jl,EK,h1,FW]
theorem NP{fs σ:List Int}{i:Nat}{x:Int}(hx:fs[i]?=some x)(hl:fs.length<=σ.length):(fs.take i++σ.drop i).set i x=fs.take (i+1)++σ.drop (i+1):=by
 have hi:i<fs.length:=(List.getElem?_eq_some_iff.1 hx).1;refine List.ext_getElem? fun j=>?_;rw[List.getElem?_set];have e1:(fs.take i).length=i:=by simp;omega
 have e2:(fs.take (i+1)).length=i+1:=by simp;omega
 by_cases h:i=j
 . subst h;rw[if_pos rfl,if_pos (by simp;omega),List.getElem?_append_left zOM,List.getElem?_take,if_pos zOM,hx]
 . rw[if_neg h,List.getElem?_append,List.getElem?_append,e1,e2];by_cases h1:j<i
   . rw[if_pos h1,if_pos zOM,List.getElem?_take,List.getElem?_take,if_pos h1,if_pos zOM]
   . rw[if_neg h1,if_neg zOM,List.getElem?_drop,List.getElem?_drop];congr 1
     omega
section
variable {Fin:Gb}{EH:FM Try.prog Fin}
variable {B:Nat->Bool}{nn:Nat}{cs:List Frame}{K:List Item}
variable {v0 v2 v3 v4 v5 v6 v7 v8 Aa Ab Ac Ae Af Ah Ai Aj Ak Al Am Ao Ap Ar Au Av Aw Ay Az AA AB AP AQ AU AV AX AY AZ A8 A9 Ba Bb Bc Bf Bh Bj Bl Bp Bq Br Bu Bv Bw Bz BD:Value}
variable {fa:Option Addr}{fb fo fl fc ct cb n:Nat}{fs Qo:List Int}{Kq:Nat->Prop}{W0:World}
theorem YW (hn:n<=256)(hl:fs.length=fl)(hfn:fl<=n)(hσ:Qo.length=n)(hcc:ct≠cb)(xS:∀ g,Kq g->(∃ c e f,W0.heap[g]?=some (.cells c e f))/\g≠cb)(hfs:∀ i x,fs[i]?=some x->fa=some ⟨fb,fo,none⟩/\Kq fb/\W0.cell? ⟨fb,fo+i,none⟩=some (.int .i64 x))(hJ:∀ W' Da Db DI DJ DL DN DR DT DU DV DW,W0.heap.size<=W'.heap.size->(∀ g,Kq g->W'.heap[g]?=W0.heap[g]?)->W'.heap[ct]?=some (.cells #[.slice (some ⟨cb,0,none⟩) n n] 62 (0,0))->W'.heap[cb]?=some (.cells ((fs ++ Qo.drop fl).map (Value.int .i64)).toArray 76 (0,0))->
      JL (FU EH).L (.Gj B nn) (G ((base 6).at ⟨#[v0,.slice fa fl fc,v2,v3,v4,v5,v6,v7,v8,.pointer (some ⟨ct,0,none⟩),Aa,Da,Db,Ae,Af,Ah,Ai,Aj,Ak,Al,Am,Ao,Ap,Ar,Au,Av,Aw,Ay,Az,AA,AB,.slice fa fl fc,.int .i64 fl,.int .i64 fl,DI,DJ,DL,DN,DR,DT,DU,DV,DW,Ba,Bb,Bc,Bf,Bh,Bj,Bl,Bp,Bq,Br,Bu,Bv,Bw,Bz,BD],[]⟩ K) cs) W') :
    ∀(d i:Nat) (W:World) (Ab Ac AP AQ AU AV AX AY AZ A8 A9:Value),fl-i=d->i<=fl->W0.heap.size<=W.heap.size->(∀g,Kq g->W.heap[g]?=W0.heap[g]?)->W.heap[ct]?=some (.cells #[.slice (some ⟨cb,0,none⟩) n n] 62 (0,0))->W.heap[cb]?=some (.cells ((fs.take i++Qo.drop i).map (Value.int .i64)).toArray 76 (0,0))->
      JL (FU EH).L (.Gj B nn) (G ((base 6).at ⟨#[v0,.slice fa fl fc,v2,v3,v4,v5,v6,v7,v8,.pointer (some ⟨ct,0,none⟩),Aa,Ab,Ac,Ae,Af,Ah,Ai,Aj,Ak,Al,Am,Ao,Ap,Ar,Au,Av,Aw,Ay,Az,AA,AB,.slice fa fl fc,.int .i64 fl,.int .i64 i,AP,AQ,AU,AV,AX,AY,AZ,A8,A9,Ba,Bb,Bc,Bf,Bh,Bj,Bl,Bp,Bq,Br,Bu,Bv,Bw,Bz,BD],[]⟩ (.code WQ :: .inLoop WQ :: .inBlock 1 :: K)) cs) W:=by
  intro d;induction d with
  | zero=>
    intro i W Ab Ac AP AQ AU AV AX AY AZ A8 A9 hd hi hs hk h1 h2;obtain rfl:i=fl:=by omega
    have e:fs.take i=fs:=List.take_of_length_le zOM;rw[e]at h2;generalize hK2:(Item.inLoop WQ :: Item.inBlock 1 :: K:List Item)=K2;rw[aX];refine EO ?_;simp only[uw,WQ,Zb,Try.f6];refine E9 fun _ hkk=>?_
    (refine ET ?_;walk_nrm)
    refine E5 ?_;cases hkk;refine EO ?_;refine JL.EX (by simp[Act.eval]) ?_;refine JL.exit (k':=K) (by rw[← hK2];rfl) ?_;exact hJ W _ _ _ _ _ _ _ _ _ _ _ hs hk h1 h2
  | succ d ih=>
    intro i W Ab Ac AP AQ AU AV AX AY AZ A8 A9 hd hi hs hk h1 h2;have hlt:i<fl:=by omega
    obtain⟨x,hx⟩:∃x,fs[i]?=some x:=⟨_,List.getElem?_eq_getElem zOM⟩
    obtain⟨rfl,xk,hfc⟩:=hfs i x hx;have hcx:W.cell? ⟨fb,fo+i,none⟩=some (.int .i64 x):=by rw[cell_of (w:=W0) (a:=⟨fb,fo+i,none⟩) (hk fb xk)];exact hfc
    generalize hK2:(Item.inLoop WQ :: Item.inBlock 1 :: K:List Item)=K2;rw[aX];refine EO ?_;simp only[uw,WQ,Zb,Try.f6];refine E9 fun _ hkk=>?_
    (refine ET ?_;walk_nrm)
    refine E5 ?_;cases hkk;refine EO ?_;refine JL.F3 (by simp[Act.eval]<;>omega) ?_;refine EU stepG_skip ?_;refine EO ?_;refine EU stepG_block ?_;refine EO ?_;refine Fp.Fz (S:=(FU EH)) (b:=base 6) [] (by simp) zKR nE zKR fun EG ha=>?_;have hh:EG.heap=W.heap:=by obtain⟨τ,dd,rfl⟩:=ha;rfl
    replace hcx:EG.cell? ⟨fb,fo+i,none⟩=some (.int .i64 x):=by simp only[World.cell?,hh]at hcx ⊢;exact hcx
    have HH:=Lib.hid (zAI @ih (zAI @hJ (zAI hh (zAI hk (zAI h1 (zAI h2 (zAI hs (zAI hx (zAI hfs xS)))))))));clear ih hJ hh hk h1 h2 hs hx hfs xS;simp only[za,WQ,Zb,Try.f6];gi_wp2;obtain⟨ih,hJ,hh,hk,h1,h2,hs,hx,hfs,xS⟩:=HH.out;clear HH;show JL (FU EH).L _ _ EG;try dsimp only
    simp only[zI,WQ,Zb,Try.f6];refine E9 fun _ hkk=>?_;iterate 3(refine ET ?_;walk_nrm)
    refine JL.enter rfl rfl nE rfl Try.func9 zKR zKR ?_;walk_nrm;have hW1:∀g,Kq g->∃c e f,EG.heap[g]?=some (.cells c e f):=fun g hg=>by rw[hh,hk g hg];exact(xS g hg).1
    have Aa8:(fs.take i++Qo.drop i).length=n:=by simp;omega
    refine Qq (YA EK (NT ct cb n Kq EG hW1) (.Gj B nn) (FU EH)) (Mr hn hcc fun g hg=>(xS g hg).2) (s:={ own:=fun _=>False,f:=5,res:=((fs.take i++Qo.drop i).set i x,({},false)) }) (σ:=fs.take i++Qo.drop i) (c:=⟨2,i,x,0⟩) rfl ⟨⟨Aa8,by rw[hh];exact h1,by rw[hh];exact h2,fun g _=>rfl⟩,fun b hb=>hb.elim⟩ ?hS trivial ?_
    case hS=>
      show Jl EK 5 _ _=some _;exact Y8 zOM
    intro s' σ' W' e hA' hO hE _;have hE':(σ',(e,false))=s'.res:=hE;have hr:s'.res=(((fs.take i++Qo.drop i).set i x,({},false)):List Int × (An × Bool)):=hO.le;rw[hr]at hE';cases hE'
    obtain⟨i1,i2,i3,i4⟩:=hA'.inv;have s4:EG.heap.size<=W'.heap.size:=hO.size;rw[Frame.finish_at];show JL (FU EH).L (.Gj B nn) _ W';walk_nrm;cases hkk;refine EU stepG_region_end ?_;refine EU stepG_inBlock ?_;simp only[qb,WQ,Zb,Try.f6];have hl1:(-9223372036854775808:Int)<=(i:Int)+1:=by omega
    have hl2:(i:Int)+1<=9223372036854775807:=by omega
    refine E9 fun _ hkk=>?_;iterate 2(refine ET ?_;walk_nrm)
    have e:IntKind.i64.wrap ((i:Int)+1)=((i+1:Nat):Int):=by rw[IntKind.wrap_i64];omega
    rw[e];refine E5 ?_;cases hkk;rw[← hK2];refine EU stepG_inLoop ?_;rw[NP hx zOM]at i3;exact ih (i+1) W' _ _ _ _ _ _ _ _ _ _ _ zOM zOM (by rw[hh]at s4;omega) (fun g hg=>by rw[i4 g hg,hh,hk g hg]) i2 i3
end
end
section
def zG:Code:=match Try.f6.body with | some (.seq c _)=>c | _=>.skip
def zy:Code:=match Try.f6.body with | some (.seq _ (.seq c _))=>c | _=>.skip
def pyB:Code:=match Try.f6.body with | some (.seq _ (.seq _ (.seq c _)))=>c | _=>.skip
def wF:Code:=match Try.f6.body with | some (.seq _ (.seq _ (.seq _ (.seq _ (.seq c _)))))=>c | _=>.skip
def sD:Code:=match Try.f6.body with | some (.seq _ (.seq _ (.seq _ (.seq _ (.seq _ (.seq c _))))))=>c | _=>.skip
def rC:Code:=match Try.f6.body with | some (.seq _ (.seq _ (.seq _ (.seq _ (.seq _ (.seq _ (.seq c _)))))))=>c | _=>.skip
def yX:Code:=match Try.f6.body with | some (.seq _ (.seq _ (.seq _ (.seq _ (.seq _ (.seq _ (.seq _ c)))))))=>c | _=>.skip
theorem oG{P:Program}{t:TypeId}{e:TypeId}(h:P.underlying t=some (.pointer e))(x:Value)(w:World)(es:Array Event):(Instr.makeInterface t x).events P w es=es:=by unfold Instr.makeInterface;simp[go_sem,underlying,h]
theorem Qv:Try.f6.body=some (.seq zG (.seq zy (.seq pyB (.seq Zb (.seq wF (.seq sD (.seq rC yX))))))):=rfl
section
variable {Fin:Gb}{EH:FM Try.prog Fin}
variable {B:Nat->Bool}{W:World}{nn:Nat}{c:Frame}{cs:List Frame}
theorem Ti {n:Nat}{plans:List (List EP)}{turns:List Int}{pg po Ga:Nat}{Km:List Value}{ta ya fa:Option Addr}{tn tc yc fb fo fl fc hg ho:Nat}{u:Int}{fs hl:List Int}{Kp Fx:Nat->Prop}(hfl:fs.length=fl)(hfn:fl<=n)(hfs:∀ i x,fs[i]?=some x->fa=some ⟨fb,fo,none⟩/\Fx fb/\W.cell? ⟨fb,fo+i,none⟩=some (.int .i64 x))(ZB:hl.length<=1000000)(Ow:∀ (i:Nat) (x:Int),hl[i]?=some x->-9223372036854775808<=x/\x<=9223372036854775807/\ya=some ⟨hg,ho,none⟩/\Fx hg/\W.cell? ⟨hg,ho+i,none⟩=some (.int .i64 x))(hn1:1<=n)(hn2:n<=256)(UC:∀ g,Fx g->∃ c e f,W.heap[g]?=some (.cells c e f))(bO:∀ g,Fx g->B g=false)(hP:∀ {Sg:Type} (m:Mem Sg),(∀ σ W',m.Inv σ W'->∀ g,Fx g->W'.heap[g]?=W.heap[g]?)->K9 m pg po Km plans)(h64:∀ pl∈plans,pl.length<=64)(h0:0 < plans.length)(h8:plans.length<=8)(hu:0<=u)(hu2:u<=20000)(Jg:Reads W (.slice ta tn tc) (turns.map (Value.int .i64)))(hlen:turns.length<=1000000)(hcap:nn+8 < 1000000)(hB:∀ g,B g=true->g < W.heap.size)(Yc:0 < turns.length->∀ g,(Value.slice ta tn tc).ownBlock=some g->Fx g)(He:∀ g,Kp g->(∃ c e f,W.heap[g]?=some (.cells c e f))/\B g=false/\¬ Fx g)(z:Rs EP Fw (List Int))(hz:z=Rs.go EK (F5 u) (F5 u) (Rs.new plans (fs ++ (List.replicate n 0).drop fl) turns hl))(hend:∀ x∈z.xs,x.out.length<=1000000)(hK:∀ B' W' N1 a1 a2 a3 y1 y2 y3 vv,(∀ g,B' g=true->B g=true\/(W.heap.size<=g/\g < N1))->W.heap.size<=N1->N1<=W'.heap.size->Ran N1 z (.slice a1 a2 a3) (.slice y1 y2 y3) W'->FY W' N1 1 vv n (z.σ.map (Value.int .i64))->(∀ g,Kp g\/Fx g->W'.heap[g]?=W.heap[g]?)->
      JW (FU EH).base (.Gj B' (nn+plans.length)) (G (c.finish (.tuple #[.agg #[.slice a1 a2 a3,.slice y1 y2 y3,.int .i64 z.s,.bool (z.rd.any id)],vv,.int .i64 0])) cs) W') :
    JW (FU EH).base (.Gj B nn) (G (Frame.enter Try.prog 6 #[.int .i64 n,.slice fa fl fc,.agg #[.slice (some ⟨pg,po,none⟩) Km.length Ga,.slice ta tn tc,.slice ya hl.length yc,.int .i64 u]] .normal) (c :: cs)) W:=by
  rw[enter_at _ Try.func6 Qv,show Try.f6.ntmps=58 from by kernel_rfl];walk_nrm;have hkl:∀g,Kp g\/Fx g->g<W.heap.size:=fun g hg=>by
    rcases hg with hg|hg
    . obtain⟨⟨c,e,f,hc⟩,_⟩:=He g hg;exact(zGE hc).1
    . obtain⟨c,e,f,hc⟩:=UC g hg;exact(zGE hc).1
  have HA:=Lib.hid (zAI UC (zAI bO (zAI @hP (zAI h64 (zAI Jg (zAI hB (zAI Yc (zAI He (zAI hz (zAI hend (zAI hK (zAI hkl (zAI hfs Ow)))))))))))));clear UC bO hP h64 Jg hB Yc He hz hend hK hkl hfs Ow;show JL (FU EH).L _ _ W;refine EO ?_;refine Fp.Fz (S:=(FU EH)) (b:=base 6) [] (by simp) zKR nE zKR fun EG ha=>?_;have hh:EG.heap=W.heap:=by obtain⟨τ,d,rfl⟩:=ha;rfl
  have HH:=Lib.hid hh;clear hh;simp only[zG,Try.f6];gi_wp2;generalize hW1:World.alloc (World.alloc EG _) _=W1;have q1:W1.heap=(W.heap.push (.cells #[.slice (some ⟨pg,po,none⟩) Km.length Ga,.slice ta tn tc,.slice ya hl.length yc,.int .i64 u] 25 (0,0))).push (.cells #[.slice none 0 0,.slice none 0 0,.int .i64 0,.bool false] 31 (0,0)):=by rw[← hW1,← HH.out];rfl
  have hs:EG.heap.size=W.heap.size:=by rw[HH.out]
  clear HH hW1 ha;rw[hs];clear hs;show JL (FU EH).L _ _ W1;try dsimp only
  refine EO ?_;simp only[zy,Try.f6];refine E9 fun _ hkk=>?_
  (refine ET ?_;walk_nrm)
  refine JL.enter rfl rfl nE rfl Try.func8 zKR zKR ?_;walk_nrm;refine KN (S:=(FU EH)) hn1 hn2 fun W2 q2=>?_;rw[Frame.finish_at];show JL (FU EH).L _ _ W2;walk_nrm;iterate 5(refine ET ?_;walk_nrm)
  refine E5 ?_;cases hkk;refine EO ?_;simp only[pyB,Try.f6];refine EU stepG_block ?_;refine EO ?_;refine E9 fun _ hkk=>?_;iterate 3(refine ET ?_;walk_nrm)
  refine E5 ?_;cases hkk;refine JL.EX (by simp[Act.eval]) ?_;refine EO ?_;refine E9 fun _ hkk=>?_;iterate 5(refine ET ?_;walk_nrm)
  refine E5 ?_;cases hkk;refine JL.EX (by simp[Act.eval]<;>omega) ?_;refine EU stepG_skip ?_;refine EU stepG_inBlock ?_;have z1:W1.heap.size=W.heap.size+2:=by rw[q1];simp
  have z2:W2.heap.size=W.heap.size+4:=by rw[q2];simp[z1]
  have o2:∀g,g<W.heap.size->W2.heap[g]?=W.heap[g]?:=fun g hg=>by rw[q2,q1];simp only[Array.getElem?_push,Array.size_push];rw[if_neg zOM,if_neg zOM,if_neg zOM,if_neg zOM]
  have r0:W2.heap[W.heap.size]?=some (.cells #[.slice (some ⟨pg,po,none⟩) Km.length Ga,.slice ta tn tc,.slice ya hl.length yc,.int .i64 u] 25 (0,0)):=by
    rw[q2,q1];simp only[Array.getElem?_push,Array.size_push];rw[if_neg zOM,if_neg zOM,if_neg zOM]
    simp
  have r1:W2.heap[W.heap.size+1]?=some (.cells #[.slice none 0 0,.slice none 0 0,.int .i64 0,.bool false] 31 (0,0)):=by
    rw[q2,q1];simp only[Array.getElem?_push,Array.size_push];rw[if_neg zOM,if_neg zOM]
    simp
  have r2:W2.heap[W.heap.size+2]?=some (.cells (List.replicate n (Value.int .i64 0)).toArray 76 (0,0)):=by
    rw[q2];simp only[Array.getElem?_push,Array.size_push,z1];rw[if_neg zOM]
    simp
  have r3:W2.heap[W.heap.size+3]?=some (.cells #[.slice (some ⟨W.heap.size+2,0,none⟩) n n] 62 (0,0)):=by
    rw[q2];simp only[Array.getElem?_push,Array.size_push,z1]
    simp
  clear q1 q2;rw[z1];clear z1;obtain⟨UC,bO,hP,h64,Jg,hB,Yc,He,hz,hend,hK,hkl,hfs,Ow⟩:=HA.out;refine EO ?_;have uH:Zb=.seq (match Zb with | .seq c _=>c | _=>.skip) (.block 1 (.loop WQ)):=rfl;rw[uH];refine EO ?_;simp only[Zb,Try.f6];refine E9 fun _ hkk=>?_;iterate 3(refine ET ?_;walk_nrm)
  refine E5 ?_;cases hkk;refine EU stepG_block ?_;refine EU stepG_loop ?_;refine YW (n:=n) (fs:=fs) (fb:=fb) (fo:=fo) (Qo:=List.replicate n 0) (ct:=W.heap.size+3) (cb:=W.heap.size+2) (W0:=W2) (Kq:=fun g=>g=W.heap.size\/g=W.heap.size+1\/Kp g\/Fx g) hn2 hfl hfn (by simp) zOM (fun g hg=>?_) (fun i x hx=>?_) ?_ fl 0 W2 _ _ _ _ _ _ _ _ _ _ _ zOM (Nat.zero_le _) (Nat.le_refl _) (fun g _=>rfl) r3 (by simpa using r2)
  . rcases hg with rfl | rfl | hg | hg
    . exact⟨⟨_,_,_,r0⟩,by omega⟩
    . exact⟨⟨_,_,_,r1⟩,by omega⟩
    . have:=hkl g (.inl hg);exact⟨by rw[o2 g this];exact(He g hg).1,by omega⟩
    . have:=hkl g (.inr hg);exact⟨by rw[o2 g this];exact UC g hg,by omega⟩
  . obtain⟨h1,h2,h3⟩:=hfs i x hx;exact⟨h1,.inr (.inr (.inr h2)),by rw[cell_of (w:=W) (a:=⟨fb,fo+i,none⟩) (o2 fb (hkl fb (.inr h2)))];exact h3⟩
  clear UC bO hP h64 Jg hB Yc He hz hend hK hkl hfs Ow;intro W2' Da Db DI DJ DL DN DR DT DU DV DW z2' k2' r3' r2';obtain⟨UC,bO,hP,h64,Jg,hB,Yc,He,hz,hend,hK,hkl,hfs,Ow⟩:=HA.out;have o8:∀g,Kp g\/Fx g->W2'.heap[g]?=W.heap[g]?:=fun g hg=>by rw[k2' g (hg.elim (fun h=>.inr (.inr (.inl h))) fun h=>.inr (.inr (.inr h)))];exact o2 g (hkl g hg)
  have r0':=(k2' (W.heap.size) (.inl rfl)).trans r0;have r1':=(k2' (W.heap.size+1) (.inr (.inl rfl))).trans r1;rw[z2]at z2';clear UC bO hP h64 Jg hB Yc He hz hend hK hkl hfs Ow r0 r1 r2 r3 o2 k2' z2;generalize W2'=W2 at *;have z2:=z2';have o2:=o8;have r0:=r0';have r1:=r1';have r2:=r2';have r3:=r3';clear z2' o8 r0' r1' r2' r3';refine EO ?_;simp only[wF,Try.f6];have hev:=fun(x:Value) (w:World) (es:Array Event)=>oG Try.underlying36 x w es;refine E9 fun _ hkk=>?_;iterate 3(refine ET ?_;walk_nrm)
  refine E5 ?_;cases hkk;clear hev;refine EO ?_;simp only[sD,Try.f6];refine E9 fun _ hkk=>?_;refine Fp.Kk (S:=(FU EH)) (b:=base 6) 0 2 [] (by simp) zKR nE (rest:=[2,3,4,5,6,7,8]) rfl zKR fun Fh Lm=>?_;have hh3:Fh.heap=W2.heap:=by obtain⟨τ,d,rfl⟩:=Lm;rfl
  have c0:Fh.cell? ⟨W.heap.size,0,none⟩=some (.slice (some ⟨pg,po,none⟩) Km.length Ga):=by simp[World.cell?,hh3,r0]
  have c1:Fh.cell? ⟨W.heap.size,1,none⟩=some (.slice ta tn tc):=by simp[World.cell?,hh3,r0]
  have c2:Fh.cell? ⟨W.heap.size,2,none⟩=some (.slice ya hl.length yc):=by simp[World.cell?,hh3,r0]
  have c3:Fh.cell? ⟨W.heap.size,3,none⟩=some (.int .i64 u):=by simp[World.cell?,hh3,r0]
  have HH:=Lib.hid (zAI hh3 (zAI z2 (zAI o2 (zAI r0 (zAI r1 (zAI r2 r3))))));clear hh3 z2 o2 r0 r1 r2 r3;dsimp only[List.drop,List.take];gi_wp2;refine⟨rfl,?_⟩;obtain⟨hh3,z2,o2,r0,r1,r2,r3⟩:=HH.out;clear HH c0 c1 c2 c3 Lm;show JL (FU EH).L _ _ Fh;try dsimp only
  refine JL.enter rfl rfl nE rfl Try.func16 zKR zKR ?_;walk_nrm;obtain⟨UC,bO,hP,h64,Jg,hB,Yc,He,hz,hend,hK,hkl,hfs,Ow⟩:=HA.out;clear HA;obtain⟨M0,hM0⟩:∃M0,M0=NT (W.heap.size+3) (W.heap.size+2) n Fx W UC:=⟨_,rfl⟩
  have hCM:FI M0 (W.heap.size+3) (W.heap.size+2) n:=by rw[hM0];exact Mr hn2 zOM fun g hg e=>by have:=hkl g (.inr hg);omega
  have VX:∀g,W.heap.size<=g->B g=false:=fun g hg=>by
    cases hb:B g with
    | false=>rfl
    | true=>have:=hB g hb;omega
  have Vk:∀σ W',M0.Inv σ W'->∀g,Fx g->W'.heap[g]?=W.heap[g]?:=fun σ W' h=>by rw[hM0]at h;exact h.2.2.2
  have jP:∀g,M0.Sh g->g=W.heap.size+3\/g=W.heap.size+2\/Fx g:=fun g hg=>by rw[hM0]at hg;exact hg
  refine dG (D:=EK) (m:=M0) (σ:=fs++(List.replicate n 0).drop fl) (turns:=turns) (plans:=plans) (Kp:=fun g=>g=W.heap.size+1\/Kp g) (fun bd ρ b k=>au (KO EK (RZ M0 bd (.iface 36 (.pointer (some ⟨W.heap.size+3,0,none⟩)))) ρ b k) (V7 hCM hn1)) (hP M0 Vk) h64 h0 h8 hu hu2
    (fun σ W' h=>(by
      rcases Jg with h1|h1
      . exact .inl h1
      . exact Reads.same (.inr h1) fun k hk' _=>Vk σ W' h k (Yc (List.length_pos_iff.2 fun e=>h1.1 (by rw[e];rfl)) k hk'))) hlen (hl:=hl) (hg:=hg) (ho:=ho) ZB (fun i x hx=>?_) hcap ?_ (fun g hg=>by rw[hh3];have:=hB g hg;omega) (fun g hg=>?_) (fun g hg=>?_) z hz hend ?_
  . obtain⟨a1,a2,a3,a4,a5⟩:=Ow i x hx;exact⟨a1,a2,a3,fun σ W' h=>by rw[cell_of (w:=W) (a:=⟨hg,ho+i,none⟩) (Vk σ W' h hg a4)];exact a5⟩
  . rw[hM0];exact⟨by simp;omega,by rw[hh3];exact r3,by rw[hh3];exact r2,fun g hg=>by rw[hh3];exact o2 g (.inr hg)⟩
  . rcases jP g hg with rfl | rfl | hg
    . exact VX _ zOM
    . exact VX _ zOM
    . exact bO g hg
  . rw[hh3];rcases hg with rfl|hg
    . exact⟨⟨_,_,_,r1⟩,VX _ zOM,fun hs=>by
        rcases jP _ hs with e|e|e
        . omega
        . omega
        . have:=hkl _ (.inr e);omega⟩
    . have hl:=hkl g (.inl hg);refine⟨by rw[o2 g (.inl hg)];exact(He g hg).1,(He g hg).2.1,fun hs=>?_⟩;rcases jP g hs with e|e|e
      . omega
      . omega
      . exact(He g hg).2.2 e
  . intro B' W4 N1 a1 a2 a3 y1 y2 y3 hB' hN1 hN2 zL OO Z5;rw[Frame.finish_at];show JL (FU EH).L _ _ W4;walk_nrm;have hz1:W.heap.size+1<W4.heap.size:=by rw[hh3]at hN1;omega
    have hbz:=Z5 (W.heap.size+1) (.inl rfl);rw[hh3,r1]at hbz;have dz:∀g,Kp g\/Fx g->W4.heap[g]?=W.heap[g]?:=fun g hg=>by
      rcases hg with h|h
      . rw[Z5 g (.inr h),hh3];exact o2 g (.inl h)
      . exact Vk _ _ zL g h
    have hI5:=zL;rw[hM0]at hI5;obtain⟨i1,i2,i3,_⟩:=hI5;rw[hh3]at hN1;have HH:=Lib.hid (zAI hK (zAI hB' (zAI OO (zAI dz (zAI hN1 (zAI hbz (zAI i1 (zAI i2 (zAI i3 hkl)))))))));have Ael:Fh.heap.size=W2.heap.size:=by rw[hh3]
    clear hK hB' OO dz hbz i1 i2 i3 hkl Z5 zL Vk jP hCM hM0 VX UC bO hP h64 Jg hB Yc He hz hend hh3 o2 r0 r1 r2 r3;refine Fp.Gs (S:=(FU EH)) (b:=base 6) 3 [] (by simp) zKR nE rfl zKR fun GZ RP=>?_;have H5:=Lib.hid (show GZ.heap=W4.heap by obtain⟨τ,d,rfl⟩:=RP;rfl);dsimp only[List.drop];gi_wp2;refine⟨rfl,?_⟩;generalize Rq:World.alloc GZ _=W6;have q6:W6.heap=W4.heap.push (.cells #[.slice a1 a2 a3,.slice y1 y2 y3,.int .i64 z.s,.bool (z.rd.any id)] 31 (0,0)):=by rw[← Rq,← H5.out];rfl
    have hs5:GZ.heap.size=W4.heap.size:=by rw[H5.out]
    rw[hs5];clear Rq hs5 H5 RP;show JL (FU EH).L _ _ W6;try dsimp only
    cases hkk;refine EU stepG_region_end ?_;refine EO ?_;simp only[rC,Try.f6];refine EO ?_;refine E9 fun _ hkk=>?_;iterate 2(refine ET ?_;walk_nrm)
    refine E5 ?_;cases hkk;refine JL.EX (by simp[Act.eval]) ?_;refine EU stepG_skip ?_;obtain⟨hK,hB',OO,dz,hN1,hbz,i1,i2,i3,hkl⟩:=HH.out;clear HH;have z6:W6.heap.size=W4.heap.size+1:=by rw[q6];simp
    have o6:∀g,g<W4.heap.size->W6.heap[g]?=W4.heap[g]?:=fun g hg=>by rw[q6,Array.getElem?_push,if_neg zOM]
    have n6:W6.heap[W4.heap.size]?=some (.cells #[.slice a1 a2 a3,.slice y1 y2 y3,.int .i64 z.s,.bool (z.rd.any id)] 31 (0,0)):=by rw[q6,Array.getElem?_push,if_pos rfl]
    clear q6;refine Fp.Fz (S:=(FU EH)) (b:=base 6) [14,25,41] (ND zKR zKR) zKR nE zKR fun K4 ha7=>?_;have uW:K4.heap=W6.heap:=by obtain⟨τ,d,rfl⟩:=ha7;rfl
    have j2:K4.heap[W.heap.size+3]?=some (.cells #[.slice (some ⟨W.heap.size+2,0,none⟩) n n] 62 (0,0)):=by rw[uW,o6 _ zOM];exact i2
    have j3:K4.heap[W.heap.size+2]?=some (.cells (z.σ.map (Value.int .i64)).toArray 76 (0,0)):=by rw[uW,o6 _ zOM];exact i3
    have n7:K4.heap[W4.heap.size]?=some (.cells #[.slice a1 a2 a3,.slice y1 y2 y3,.int .i64 z.s,.bool (z.rd.any id)] 31 (0,0)):=by rw[uW];exact n6
    have b7:K4.heap[W.heap.size+1]?=some (.cells #[.slice none 0 0,.slice none 0 0,.int .i64 0,.bool false] 31 (0,0)):=by rw[uW,o6 _ zOM];exact hbz
    have s7:K4.heap.size=W4.heap.size+1:=by rw[uW,z6]
    have d0:K4.cell? ⟨W4.heap.size,0,none⟩=some (.slice a1 a2 a3):=by simp[World.cell?,n7]
    have d1:K4.cell? ⟨W4.heap.size,1,none⟩=some (.slice y1 y2 y3):=by simp[World.cell?,n7]
    have d2:K4.cell? ⟨W4.heap.size,2,none⟩=some (.int .i64 z.s):=by simp[World.cell?,n7]
    have d3:K4.cell? ⟨W4.heap.size,3,none⟩=some (.bool (z.rd.any id)):=by simp[World.cell?,n7]
    have hfin:∀(w1 W':World) vv,FY w1 K4.heap.size 1 vv n (z.σ.map (Value.int .i64))->Below K4.heap.size K4.drew w1->(∀g,g≠W.heap.size+1->W'.heap[g]?=w1.heap[g]?)->W'.heap.size=w1.heap.size->JW (FU EH).base (.Gj B' (nn+plans.length)) (G (c.finish (.tuple #[.agg #[.slice a1 a2 a3,.slice y1 y2 y3,.int .i64 z.s,.bool (z.rd.any id)],vv,.int .i64 0])) cs) W':=fun w1 W' vv hov hB hst hsz=>by
      have wX:∀g,g<W4.heap.size->g≠W.heap.size+1->W'.heap[g]?=W4.heap[g]?:=fun g hg hne=>by rw[hst g hne,hB.block g zOM];show K4.heap[g]?=_;rw[uW,o6 g hg]
      have hs1:K4.heap.size<=w1.heap.size:=hB.size;refine hK B' W' N1 a1 a2 a3 y1 y2 y3 vv (fun g hg=>?_) zOM zOM ?_ ?_ fun g hg=>?_
      . rcases hB' g hg with h | h
        . exact .inl h
        . rw[Ael]at h;exact .inr ⟨by omega,h.2⟩
      . obtain⟨vs,k1,k2⟩:=OO.ex;refine⟨⟨vs,Gl k1 fun g hg=>by have:=Gx k1 hg;exact wX g this.2 zOM,fun j v x hv hx=>?_⟩,Gl OO.opn fun g hg=>by have:=Gx OO.opn hg;exact wX g this.2 zOM⟩;obtain⟨⟨JH,l1,l2,l3⟩,l4⟩:=k2 j v x hv hx;refine⟨⟨JH,l1,Gl l2 fun g hg=>by have:=Gx l2 hg;exact wX g this.2 zOM,fun i a iv ha hi=>?_⟩,l4⟩;rcases l3 i a iv ha hi with h|⟨h0,g,cap,x1,_,x3,x4,x5⟩
        . exact .inl h
        . have hne:g≠W.heap.size+1:=fun e=>by
            cases hl:a.a.ints with
            | nil=>exact h0 hl
            | cons y0 l0=>
              have:=x5 0 y0 (by rw[hl];rfl);rw[e]at this;simp[World.cell?,hbz]at this
          refine .inr ⟨h0,g,cap,x1,trivial,x3,x4,fun k y hy=>?_⟩;have hlt:g<W4.heap.size:=Fa (x5 k y hy);rw[cell_of (w:=W4) (a:=⟨g,k,none⟩) (wX g hlt hne)];exact x5 k y hy
      . obtain⟨te,m1,m2 | ⟨g,cap,cur,m3,m4,m5,m6⟩⟩:=hov
        . exact⟨te,m1,.inl m2⟩
        . exact⟨te,m1,.inr ⟨g,cap,cur,m3,by omega,by rw[hst g zOM];exact m5,m6⟩⟩
      . have hl:=hkl g hg;rw[wX g zOM zOM];exact dz g hg
    have HV:=Lib.hid (zAI hfin (zAI i1 (zAI j2 (zAI j3 (zAI n7 (zAI b7 s7))))));clear hfin hK hB' OO dz hN1 hbz i1 i2 i3 hkl j2 j3 n7 b7 s7 z6 o6 n6 uW ha7;simp only[yX,Try.f6];gi_wp2
    gi_region_with (gi_at_call 14;refine(values_in 6 (cb:=W.heap.size+2) (σ:=z.σ) K4.drew hn2 HV.out.2.1 HV.out.2.2.1 HV.out.2.2.2.1).mono ?_;rintro e w1 ⟨v,rfl,ho,hB⟩;have e0:w1.cell? ⟨W4.heap.size,0,none⟩=some (.slice a1 a2 a3):=(hB.cell (p:=⟨W4.heap.size,0,none⟩) (by have:=HV.out.2.2.2.2.2.2;show W4.heap.size<K4.heap.size;omega)).trans d0;have e1:w1.cell? ⟨W4.heap.size,1,none⟩=some (.slice y1 y2 y3):=(hB.cell (p:=⟨W4.heap.size,1,none⟩) (by have:=HV.out.2.2.2.2.2.2;show W4.heap.size<K4.heap.size;omega)).trans d1;have e2:w1.cell? ⟨W4.heap.size,2,none⟩=some (.int .i64 z.s):=(hB.cell (p:=⟨W4.heap.size,2,none⟩) (by have:=HV.out.2.2.2.2.2.2;show W4.heap.size<K4.heap.size;omega)).trans d2;have e3:w1.cell? ⟨W4.heap.size,3,none⟩=some (.bool (z.rd.any id)):=(hB.cell (p:=⟨W4.heap.size,3,none⟩) (by have:=HV.out.2.2.2.2.2.2;show W4.heap.size<K4.heap.size;omega)).trans d3;have hbb:w1.heap[W.heap.size+1]?=some (.cells #[.slice none 0 0,.slice none 0 0,.int .i64 0,.bool false] 31 (0,0)):=(hB.block _ (by have:=HV.out.2.2.2.2.2.2;show W.heap.size+1<K4.heap.size;omega)).trans HV.out.2.2.2.2.2.1;have x0:w1.cell? ⟨W.heap.size+1,0,none⟩=some (.slice none 0 0):=(by simp[World.cell?,hbb]);have x1:w1.cell? ⟨W.heap.size+1,1,none⟩=some (.slice none 0 0):=(by simp[World.cell?,hbb]);have x2:w1.cell? ⟨W.heap.size+1,2,none⟩=some (.int .i64 0):=(by simp[World.cell?,hbb]);have x3:w1.cell? ⟨W.heap.size+1,3,none⟩=some (.bool false):=(by simp[World.cell?,hbb]);have f0:w1.frozen? ⟨W.heap.size+1,0,none⟩=false:=(by simp[World.frozen?,hbb]);have f1:w1.frozen? ⟨W.heap.size+1,1,none⟩=false:=(by simp[World.frozen?,hbb]);have f2:w1.frozen? ⟨W.heap.size+1,2,none⟩=false:=(by simp[World.frozen?,hbb]);have f3:w1.frozen? ⟨W.heap.size+1,3,none⟩=false:=(by simp[World.frozen?,hbb]);have HB:=Lib.hid (zAI hB (zAI ho hbb));clear hB ho hbb)
    all_goals
      gi_wp2;intro Y;obtain⟨hfin,_⟩:=HV.out;obtain⟨hB,ho,hbb⟩:=HB.out;generalize hW':World.setCell _ _ _=W';have hoth:∀g,g≠W.heap.size+1->W'.heap[g]?=w1.heap[g]?:=fun g hg=>by rw[← hW'];simp[World.setCell,Array.getElem?_modify,Ne.symm hg]
      have hrow:W'.heap[W.heap.size+1]?=some (.cells #[.slice a1 a2 a3,.slice y1 y2 y3,.int .i64 z.s,.bool (z.rd.any id)] 31 (0,0)):=by rw[← hW'];simp[World.setCell,Array.getElem?_modify,hbb]
      have hsz:W'.heap.size=w1.heap.size:=by rw[← hW'];simp[World.setCell]
      clear hW';refine JW.returns (S:=(FU EH)) Try.func6 (v:=.tuple #[.agg #[.slice a1 a2 a3,.slice y1 y2 y3,.int .i64 z.s,.bool (z.rd.any id)],v,.int .i64 0]) (fun F8 ha2=>?_) (hfin w1 W' v ho hB hoth hsz);have KX:F8.heap=W'.heap:=by obtain⟨τ,d,rfl⟩:=ha2;rfl
      have g0:F8.cell? ⟨W.heap.size+1,0,none⟩=some (.slice a1 a2 a3):=by simp[World.cell?,KX,hrow]
      have g1:F8.cell? ⟨W.heap.size+1,1,none⟩=some (.slice y1 y2 y3):=by simp[World.cell?,KX,hrow]
      have g2:F8.cell? ⟨W.heap.size+1,2,none⟩=some (.int .i64 z.s):=by simp[World.cell?,KX,hrow]
      have g3:F8.cell? ⟨W.heap.size+1,3,none⟩=some (.bool (z.rd.any id)):=by simp[World.cell?,KX,hrow]
      clear KX hrow hoth hsz hfin hB ho hbb HV HB x0 x1 x2 x3 e0 e1 e2 e3 f0 f1 f2 f3 d0 d1 d2 d3;simp[results,Try.results6,go_sem,Frame.at,g0,g1,g2,g3]
end
end
end Go.Proofs.Ytdkfdedgfilhbaa
end
