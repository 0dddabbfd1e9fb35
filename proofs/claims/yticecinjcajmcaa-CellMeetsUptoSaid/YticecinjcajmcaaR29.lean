/-
  Part 29 of the proof that CellMeets returns true, and leaves its arguments as they were, for every input whose reading is of bulk at most 1048576. No further condition.
-/
import Derived.Test.YticecinjcajmcaaR00
import Derived.Test.YticecinjcajmcaaR11
import Derived.Test.YticecinjcajmcaaR16
import Derived.Test.YticecinjcajmcaaR24
import Derived.Test.YticecinjcajmcaaR28
import Derived.LoopIn
set_option linter.unusedVariables false
set_option linter.unusedSectionVars false
set_option linter.unusedSimpArgs false
set_option maxHeartbeats 4000000
set_option maxRecDepth 100000
noncomputable section
namespace Go.Proofs.Yticecinjcajmcaa
open Go Go.Conc Go.LT Go.LC Go.LK Go.RowKit
open Go.ConcN (WgLive)
open BA TU
section
structure oK {Cs Sg:Type}(m:Mem Sg)(ws:List (EK (Wk Ef Cs)))(N1:Nat)(σ:Sg)(vs:List Value)(av QC:Value)(W:World):Prop where
  inv:m.Inv σ W
  own:Fa W N1 1 av ws.length vs
  cop:∀ (j:Nat) (v:Value) (u:EK (Wk Ef Cs)),vs[j]?=some v->ws[j]?=some u->Sj W N1 v u/\v.oneCell'=true/\∀ g,v.ownBlock=some g->av.ownBlock≠some g
  low:N1<=W.heap.size/\∀ (j:Nat) (u:EK (Wk Ef Cs)),ws[j]?=some u->∀ g,u.own g->g < N1
  sh:∀ g,m.Sh g->g < N1
  opn:Fa W N1 3 QC (opens (ws.map (·.x))).length ((opens (ws.map (·.x))).map Ki).flatten
def Fv (u:Int):Nat:=if u=0 then 20000 else u.toNat
section
variable {Cs Sg:Type}{D:Dr Ef Cs Sg}{m:Mem Sg}{ρ:Rn}{ws:List (EK (Wk Ef Cs))}
variable {Fin:FE}{Ea:E5 Try.prog Fin}
variable {Kp:Nat->Prop}{W0 W:World}{R nn:Nat}{σ:Sg}{turns:List Int}{cs:List Frame}{cf:Frame}
variable {wa ta ya:Option Addr}{wn wc tn tc yc lg lc hg ho:Nat}{u:Int}{hl:List Int}
theorem Wi (hcl:¬ ρ.SN)(hzi:ρ.zi=.int .i64 0)(hinv:m.Inv σ W)(hrow:∀ (i b:Nat),(ws.map (·.b))[i]?=some b->W.cell? ⟨lg,i,none⟩=some (.pointer (some ⟨b,0,none⟩)))(hfree:∀ g,g=lg\/Kp g->(∃ c e f,W.heap[g]?=some (.cells c e f))/\g≠ρ.Wg/\ρ.Bo g=false/\¬ m.Sh g/\∀ (j:Nat) (u:EK (Wk Ef Cs)),ws[j]?=some u->¬ u.own g)(hkept:∀ g,Kp g->W.heap[g]?=W0.heap[g]?)(V8:ρ.Wg < W.heap.size)(VU:∀ g,ρ.Bo g=true->g < W.heap.size)(vg:∀ (j:Nat) (u:EK (Wk Ef Cs)),ws[j]?=some u->∀ g,u.own g->g < W.heap.size)(hov:∀ (j:Nat) (u:EK (Wk Ef Cs)),ws[j]?=some u->u.over=u.x.over/\gq u.x)(hfu:∀ (j:Nat) (u:EK (Wk Ef Cs)),ws[j]?=some u->R<=u.r)(O1:ws.length<=1000)(Ik:Reads W (.slice ta tn tc) (turns.map (Value.int .i64)))(hlen:turns.length<=1000000)(YT:hl.length<=1000000)(NJ:∀ (i:Nat) (x:Int),hl[i]?=some x->-9223372036854775808<=x/\x<=9223372036854775807/\ya=some ⟨hg,ho,none⟩/\∀ σ W,m.Inv σ W->W.cell? ⟨hg,ho+i,none⟩=some (.int .i64 x))(hu0:0<=u)(hu1:u<=20000)(hR:20000<=R)(z:Rs Ef Cs Sg)(hz:z=Rs.go D (Fv u) (Fv u) ⟨ws.map (·.x),σ,turns,-1,0,List.replicate ws.length 0,hl⟩)(hend:∀ x∈z.xs,x.out.length<=1000000)(hK:∀ ws' W' N1 vs av QC,ws'.map (·.x)=z.xs->W.heap.size<=N1->oK m ws' N1 z.σ vs av QC W'->(∀ g,Kp g->W'.heap[g]?=W0.heap[g]?/\∀ (j:Nat) (u:EK (Wk Ef Cs)),ws'[j]?=some u->¬ u.own g)->
      JW (S0 Try.prog Fin Ea).base (.Ev (Eu D m) ρ ws' 0 false nn) (G (cf.finish (.agg #[av,QC,.int .i64 z.s,.bool (z.rd.any id)])) cs) W') :
    JW (S0 Try.prog Fin Ea).base (.Ev (Eu D m) ρ ws 0 false nn) (G (Frame.enter Try.prog 34 #[.agg #[.slice wa wn wc,.slice ta tn tc,.slice ya hl.length yc,.int .i64 u],.slice (some ⟨lg,0,none⟩) ws.length lc,.chan (some ρ.come)] .normal) (cf :: cs)) W:=by
  rw [enter_at _ Try.func34 iR,show Try.f34.ntmps=106 from by kernel_rfl];walk_nrm;have hkl:∀ g,g=lg\/Kp g->g < W.heap.size:=fun g hg=>by obtain ⟨⟨c,e,f,hc⟩,_⟩:=hfree g hg;exact (zGE hc).1
  have WT:∀ g,m.Sh g->g < W.heap.size:=fun g hg=>by obtain ⟨c,e,f,hc⟩:=m.rows σ W g hg hinv;exact (zGE hc).1
  have Ae5:Fv u<=20000:=by unfold Fv;split <;> omega
  show JL (S0 Try.prog Fin Ea).L _ _ W;refine Ei ?_;refine sN fun W1 hW1=>?_;have o1:IL W W1:=⟨fun g hg=>by rw [hW1,Array.getElem?_push,Array.getElem?_push,if_neg (by simp;omega),if_neg zOM],by rw [hW1];simp;omega⟩
  have z1:W1.heap.size=W.heap.size+2:=by rw [hW1];simp
  have q0:W1.heap[W.heap.size]?=some (.cells #[.slice wa wn wc,.slice ta tn tc,.slice ya hl.length yc,.int .i64 u] 25 (0,0)):=by rw [hW1,Array.getElem?_push,Array.getElem?_push,if_neg (by simp),if_pos rfl]
  have q1:W1.heap[W.heap.size+1]?=some (.cells #[.slice none 0 0,.slice none 0 0,.int .i64 0,.bool false] 31 (0,0)):=by rw [hW1,Array.getElem?_push,if_pos (by simp)]
  clear hW1;refine Ei ?_;refine wM (b:=W.heap.size) (u:=u) (by simp [World.cell?,q0]) fun W2 Dh Di hW2=>?_;refine Ei ?_;refine uH (u:=u) hu0 fun W3 Dj Dk hW3=>?_;have hh3:W3.heap=W1.heap:=hW3.trans hW2;refine Ei ?_;refine xD (b:=W.heap.size) (turns:=turns) (ta:=ta) (tn:=tn) (tc:=tc) (by simp [World.cell?,hh3,q0]) (Ik.same fun k _ hk=>by rw [hh3];exact o1.blk k hk) hlen fun W4 ob Sc Dl Dm Dn SI o4 Ow hol=>?_;have o34:IL W1 W4:=⟨fun g hg=>by rw [o4.blk g (by rw [hh3];exact hg),hh3],by have:=o4.size;rw [hh3] at this;exact this⟩
  rw [hh3,z1] at Ow;have jf:∀ k,Sc.ownBlock=some k->W.heap.size+2<=k/\k < W4.heap.size/\∃ c e f,W4.heap[k]?=some (.cells c e f):=fun k hk=>by have:=hol k hk;rw [hh3,z1] at this;exact this
  have nO:ob < W4.heap.size:=(zGE SI.1).1;clear hol;refine Ei ?_;refine uq (pg:=some ⟨lg,0,none⟩) (n:=ws.length) (lc:=lc) O1 fun W5 Dp Dq Dt VW=>?_;have o5:IL W4 W5:=⟨fun g hg=>by rw [VW,Array.getElem?_push,if_neg zOM],by rw [VW];simp⟩
  have q5:W5.heap[W4.heap.size]?=some (.cells (List.replicate ws.length (Value.int .i64 0)).toArray 3 (0,0)):=by rw [VW,Array.getElem?_push,if_pos rfl]
  have z5:W5.heap.size=W4.heap.size+1:=by rw [VW];simp
  clear VW;refine Ei ?_;refine uS fun W6 Ro=>?_;have o6:IL W5 W6:=⟨fun g hg=>by rw [Ro,Array.getElem?_push,if_neg zOM],by rw [Ro];simp⟩
  have q6:W6.heap[W5.heap.size]?=some (.cells #[.slice none 0 0,.slice none 0 0,.int .i64 0,.bool false] 31 (0,0)):=by rw [Ro,Array.getElem?_push,if_pos rfl]
  clear Ro;have wQ:=o5.trans o6;have o16:=o34.trans wQ;have wS:=o1.trans o16;have z4:=o34.size;rw [z1] at z4;obtain ⟨q,hq⟩:∃ q:OI,q=⟨lg,lc,W.heap.size,W.heap.size+1,ob,W4.heap.size,W5.heap.size,Fv u,wa,wn,wc,ta,tn,tc,ya,yc,u,Sc.ownBlock,hl,hg,ho⟩:=⟨_,rfl⟩
  have hcells:∀ g,q.K Kp g->(∃ c e f,W6.heap[g]?=some (.cells c e f))/\(g=lg\/Kp g\/W.heap.size<=g):=fun g hg=>by
    have old:∀ g,g=lg\/Kp g->∃ c e f,W6.heap[g]?=some (.cells c e f):=fun g hg=>by rw [wS.blk g (hkl g hg)];exact (hfree g hg).1
    subst hq;rcases hg with e|e|e|e|e|e|e|e
    . exact ⟨old g (.inl e),.inl e⟩
    . subst e;exact ⟨⟨_,_,_,(o16.blk _ (by show W.heap.size < _;omega)).trans q0⟩,.inr (.inr (Nat.le_refl _))⟩
    . subst e;exact ⟨⟨_,_,_,(o16.blk _ (by show W.heap.size+1 < _;omega)).trans q1⟩,.inr (.inr (by show _<=W.heap.size+1;omega))⟩
    . have e:g=ob:=e;rw [e];exact ⟨⟨_,_,_,(wQ.blk _ nO).trans SI.1⟩,.inr (.inr zOM)⟩
    . have h1:=jf g e;refine ⟨?_,.inr (.inr zOM)⟩;rw [wQ.blk g h1.2.1];exact h1.2.2
    . subst e;exact ⟨⟨_,_,_,(o6.blk _ (by show W4.heap.size < _;omega)).trans q5⟩,.inr (.inr (by show _<=W4.heap.size;omega))⟩
    . subst e;exact ⟨⟨_,_,_,q6⟩,.inr (.inr (by show _<=W5.heap.size;omega))⟩
    . exact ⟨old g (.inr e),.inr (.inl e)⟩
  have hl1:lg < W.heap.size:=hkl lg (.inl rfl);have Acs:q.Lay Kp:=by
    rw [hq];exact ⟨hl1,by show W.heap.size < W.heap.size+1;omega,by show W.heap.size+1 < ob;omega,by show ob < W4.heap.size;exact nO,by show W4.heap.size < W5.heap.size;omega,fun g hg=>by have h1:=jf g hg;refine ⟨by show W.heap.size+1 < g;omega,by show g < W4.heap.size;exact h1.2.1,fun e=>SI.2.2 ?_⟩;have e:g=ob:=e;rw [← e];exact hg,fun g hg=>by show g < W.heap.size;exact hkl g (.inr hg)⟩
  have hP:Lr m ρ ws q Kp W0 R σ turns (-1) 0 (List.replicate ws.length 0) (.bool false) W6:=by
    refine ⟨⟨fun i b hb=>?_,?_,⟨Sc,⟨?_,?_,?_⟩,?_⟩,?_,?_,?_⟩,Acs,?_,fun g hg=>?_,fun g hg=>?_,hov,fun j u hu=>?_,by simp,O1,by rw [hq];exact YT,fun i x hx=>?_⟩
    . rw [hq,cell_of (w:=W) (a:=⟨lg,i,none⟩) (wS.blk lg hl1)];exact hrow i b hb
    . rw [hq];exact (o16.blk _ (by show W.heap.size < _;omega)).trans q0
    . rw [hq];exact (wQ.blk _ nO).trans SI.1
    . exact SI.2.1.same fun k hk _=>wQ.blk k (jf k hk).2.1
    . rw [hq];exact SI.2.2
    . rw [hq]
    . rw [hq];have:=(o6.blk _ (by show W4.heap.size < _;omega)).trans q5
      simpa using this
    . rw [hq];exact q6
    . rw [hq];exact (o16.blk _ (by show W.heap.size+1 < _;omega)).trans q1
    . exact m.eq σ W W6 (fun g hg=>.of (wS.blk g (WT g hg))) hinv
    . obtain ⟨c1,c2⟩:=hcells g hg;refine ⟨c1,?_⟩;rcases c2 with e|e|e
      . exact (hfree g (.inl e)).2
      . exact (hfree g (.inr e)).2
      . refine ⟨by omega,?_,fun hs=>by have:=WT g hs;omega,fun j u hu ho=>by have:=vg j u hu g ho;omega⟩
        cases hb:ρ.Bo g with
        | false=>rfl
        | true=>have:=VU g hb;omega
    . rw [wS.blk g (hkl g (.inr hg))];exact hkept g hg
    . have:=hfu j u hu;omega
    . rw [hq] at hx ⊢;exact NJ i x hx
  have hqm:q.most=Fv u:=by rw [hq]
  have hqb:q.bc=W.heap.size:=by rw [hq]
  have hqh:q.hl=hl:=by rw [hq]
  have hqs:q.cv=.agg #[.slice wa wn wc,.slice ta tn tc,.slice ya hl.length yc,.int .i64 u]:=by rw [hq];rfl
  have hSd:∃ FU FC Gv Im IY Iu u68 u69,Sd q ρ.come ws.length FU FC Gv Im IY Iu u68 u69 #[.agg #[.slice wa wn wc,.slice ta tn tc,.slice ya hl.length yc,.int .i64 u],.slice (some ⟨lg,0,none⟩) ws.length lc,.chan (some ρ.come),.pointer (some ⟨W.heap.size,0,none⟩),undef,undef,.pointer (some ⟨W.heap.size+1,0,none⟩),.int .i64 (Fv u:Nat),.pointer (some ⟨ob,0,none⟩),.slice (some ⟨W4.heap.size,0,none⟩) ws.length ws.length,.pointer (some ⟨W5.heap.size,0,none⟩),undef,undef,undef,undef,undef,Dh,Di,Dj,Dk,Dl,Dm,Dn,Dp,Dq,Dt,undef,undef,undef,undef,undef,undef,undef,undef,undef,undef,undef,undef,undef,undef,undef,undef,undef,undef,undef,undef,undef,undef,undef,undef,undef,undef,undef,undef,undef,undef,undef,undef,undef,undef,undef,undef,undef,undef,undef,undef,undef,undef,undef,undef,undef,undef,undef,undef,undef,undef,undef,undef,undef,undef,undef,undef,undef,undef,undef,undef,undef,undef,undef,undef,undef,undef,undef,undef,undef,undef,undef,undef,undef,undef,undef,undef,undef,undef,undef,undef]:=by
    rw [hq];exact ⟨_,_,_,_,_,_,_,_,_,_,_,_,_,_,_,_,_,_,_,_,_,_,_,_,_,_,_,_,_,_,_,_,_,_,_,_,_,_,_,_,_,_,_,_,_,_,_,_,_,_,_,_,_,_,_,_,_,_,_,_,_,_,_,_,_,_,_,_,_,_,_,_,_,_,_,_,_,_,_,_,_,_,_,_,_,_,_,_,_,_,_,_,_,_,_,_,_,rfl⟩
  obtain ⟨FU,FC,Gv,Im,IY,Iu,u68,u69,hSd⟩:=hSd;clear hq hcells q0 q1 q5 q6 SI jf;refine Ei ?_;refine Er stepG_block ?_;refine Er stepG_loop ?_;have hN6:=wS.size;refine jI (ws:=ws) (σ:=σ) (left:=turns) (last:=-1) (s:=0) (R:=R) (co:=ρ.come) (n:=ws.length) (q:=q) hcl hzi rfl (by rw [hqm];omega) (by rw [hqm];omega) ?_ (Fv u) ws σ turns (-1) 0 _ _ W6 _ _ _ _ _ _ _ _ _ (by rw [hqm];omega) rfl rfl hP (fun i c hc=>?_) (Nat.zero_le _) (by rw [hqm]) hSd
  . intro ws' σ' left' last' s' NW cut' W7 eu a12 ZO a14 a15 a67 a68 a69 tm7 hs7 h7 hz0 hb;obtain ⟨z0,e0,e1,e2,e3,e4,e5,e6⟩:=hz0;rw [hqm,hqh] at e0;obtain rfl:z0=z:=e0.trans hz.symm;subst e2 e3 e4 e5 e6;refine J0.know (Ea:=Ea) fun hKn=>?_;show JL (S0 Try.prog Fin Ea).L _ _ W7;have Jw:ws'.length=ws.length:=by
      have:=congrArg List.length hb
      simpa using this
    have iI:∀ (j:Nat) (u:EK (Wk Ef Cs)),ws'[j]?=some u->u.x.out.length<=1000000:=fun j u hu=>hend u.x (by rw [← e1];exact List.mem_map.2 ⟨u,List.mem_of_getElem? hu,rfl⟩)
    have hC:=h7.gather (fun i v hv b hb=>(hKn.own i v hv b hb).2.2.2) iI;rw [lX];refine Ei ?_;refine Ei ?_;refine nP hs7 fun W8 tm8 xK hw8=>?_;refine Er stepG_block ?_;refine Er stepG_loop ?_;have hC8:=hC.alike hw8;refine X8 (ws:=ws') (n:=ws.length) Jw.symm ?_ (ws.length) 0 [] (.slice none 0 0) (.slice none 0 0) _ _ W8 tm8 zOM (Nat.zero_le _) hC8 xK;intro W9 vs av QC c14 c15 c67 c68 c69 tm9 eD h9;have hz7:W.heap.size<=W7.heap.size:=by have l1:=hC.lay.h2;have l2:=hC.lay.h3;have l3:=hC.lay.h4;have l4:=hC.lay.h5;have l5:=hC.low.1;omega
    obtain ⟨ow,on,oc,rfl⟩:=G9 h9.opn;refine pX h9 rfl eD fun W10 h10 Adj=>?_;have hbz:=h9.free q.bz (.inr (.inl rfl));have Agl:q.bz < W7.heap.size:=h9.ltN (.inr (.inl rfl));refine hK ws' W10 W7.heap.size vs av _ e1 hz7 ⟨?_,?_,fun j v u hv hu=>?_,⟨by rw [Adj];exact h9.low.2.1,fun j u hu=>(h9.low.2.2.2 j u hu).1⟩,h9.low.2.2.1,FD h9.opn fun g hg=>h10 g (by have:=FM h9.opn hg;omega)⟩ fun g hg=>?_
    . exact m.eq _ W9 W10 (fun g hg=>.of (h10 g fun e=>hbz.2.2.2.1 (e ▸ hg))) h9.inv
    . rw [Jw];exact FD h9.own fun g hg=>h10 g (by have:=FM h9.own hg;omega)
    . obtain ⟨⟨I4,c1,c2,c3⟩,c4⟩:=h9.cop j v u hv hu;refine ⟨⟨I4,c1,FD c2 fun g hg=>h10 g (by have:=FM c2 hg;omega),fun i a iv ha hi=>(c3 i a iv ha hi).QD fun g hg=>.of (h10 g fun e=>hbz.2.2.2.2 j u hu (e ▸ hg))⟩,c4⟩
    . refine ⟨?_,(h9.free g (.inr (.inr (.inr hg)))).2.2.2.2⟩;have:=h9.lay.h7 g hg;have:=h9.lay.h2;rw [h10 g zOM];exact h9.kept g hg
  . rw [List.getElem?_replicate] at hc;split at hc
    . cases hc;exact Nat.le_refl _
    . cases hc
end
end
end Go.Proofs.Yticecinjcajmcaa
namespace Go.Proofs.Yticecinjcajmcaa
open Go Go.Conc Go.LT Go.LC Go.LK Go.RowKit
open Go.ConcN (WgLive)
section
section
variable {X Sg:Type}
variable {Fin:FE}{Ea:E5 Try.prog Fin}
variable {W:World}{n:Nat}{K:List Item}{cs:List Frame}{ds:List Deferred}{M:Md X Sg}{ρ:Rn}{ws:List (EK X)}
variable {v0 v1 v2 v3 v4 v5 v6 v7 v8 v9 Aa Ab Ac Ae Af Ah Ai Aj Ak Al Am Ao Ap Ar Au Av Aw Ay Az AA AB AJ AL AO AP AQ AU AV AX AY AZ A8 A9 Ba Bb Bc Bf Bh Bj Bl Bp Bq Br:Value}{wa ta ya:Option Addr}{wn wc tn tc yn yc bp lg pn lc co:Nat}{u:Int}
theorem mP (hc:W.heap[bp]?=some (.cells #[.slice wa wn wc,.slice ta tn tc,.slice ya yn yc,.int .i64 u] 25 (0,0)))(hcall:∀ W₁ cf,W₁.heap=W.heap->(∀ (a1:Option Addr) (a2 a3:Nat) (o1:Option Addr) (o2 o3:Nat) on st cv W2,(∀ DV DW DX DY W3,W3.heap=W2.heap.push (.cells #[.slice a1 a2 a3,.slice o1 o2 o3,.int .i64 st,.bool cv] 31 (0,0))->JL (S0 (X:=X) (Sg:=Sg) Try.prog Fin Ea).L (on) (G ((base 19).at ⟨#[v0,v1,.pointer (some ⟨bp,0,none⟩),v3,v4,v5,v6,.chan (some co),v8,v9,.slice (some ⟨lg,0,none⟩) pn lc,Ab,Ac,Ae,.pointer (some ⟨W2.heap.size,0,none⟩),Ah,Ai,Aj,Ak,Al,Am,Ao,Ap,Ar,Au,Av,Aw,Ay,Az,AA,AB,AJ,AL,AO,AP,AQ,AU,AV,AX,AY,AZ,A8,A9,Ba,Bb,Bc,DV,DW,DX,DY,Bp,Bq,Br],ds⟩ K) cs) W3)->
        JW (S0 (X:=X) (Sg:=Sg) Try.prog Fin Ea).base on (G (cf.finish (.agg #[.slice a1 a2 a3,.slice o1 o2 o3,.int .i64 st,.bool cv])) cs) W2)->
      JW (S0 (X:=X) (Sg:=Sg) Try.prog Fin Ea).base (.Ev M ρ ws 0 false n) (G (Frame.enter Try.prog 34 #[.agg #[.slice wa wn wc,.slice ta tn tc,.slice ya yn yc,.int .i64 u],.slice (some ⟨lg,0,none⟩) pn lc,.chan (some co)] .normal) (cf :: cs)) W₁) :
    JL (S0 (X:=X) (Sg:=Sg) Try.prog Fin Ea).L (.Ev M ρ ws 0 false n) (G ((base 19).at ⟨#[v0,v1,.pointer (some ⟨bp,0,none⟩),v3,v4,v5,v6,.chan (some co),v8,v9,.slice (some ⟨lg,0,none⟩) pn lc,Ab,Ac,Ae,Af,Ah,Ai,Aj,Ak,Al,Am,Ao,Ap,Ar,Au,Av,Aw,Ay,Az,AA,AB,AJ,AL,AO,AP,AQ,AU,AV,AX,AY,AZ,A8,A9,Ba,Bb,Bc,Bf,Bh,Bj,Bl,Bp,Bq,Br],ds⟩ (.code qp :: K)) cs) W:=by
  dsimp only;simp only [qp,Oi,Rq,Try.f19];refine EH fun _ hkk=>?_;refine EL.KU (S:=(S0 (X:=X) (Sg:=Sg) Try.prog Fin Ea)) (b:=base 19) 0 3 [] (by simp) zKR nE (rest:=[3,4,5]) rfl zKR fun W₁ ha=>?_;have hh:W₁.heap=W.heap:=by obtain ⟨τ,d,rfl⟩:=ha;rfl
  have c0:W₁.cell? ⟨bp,0,none⟩=some (.slice wa wn wc):=by simp [World.cell?,hh,hc]
  have c1:W₁.cell? ⟨bp,1,none⟩=some (.slice ta tn tc):=by simp [World.cell?,hh,hc]
  have c2:W₁.cell? ⟨bp,2,none⟩=some (.slice ya yn yc):=by simp [World.cell?,hh,hc]
  have c3:W₁.cell? ⟨bp,3,none⟩=some (.int .i64 u):=by simp [World.cell?,hh,hc]
  have HH:=Lib.hid (zAI hcall hh);clear hcall hh;dsimp only [List.drop,List.take];gi_wp2;refine ⟨rfl,?_⟩;obtain ⟨hcall,hh⟩:=HH.out;clear HH c0 c1 c2 c3 hc ha;show JL (S0 (X:=X) (Sg:=Sg) Try.prog Fin Ea).L _ _ W₁;try dsimp only
  refine JL.enter rfl rfl nE rfl Try.func34 zKR zKR ?_;walk_nrm;refine hcall W₁ _ hh fun a1 a2 a3 o1 o2 o3 on st cv W2 hJ=>?_;rw [Frame.finish_at];walk_nrm;show JL (S0 (X:=X) (Sg:=Sg) Try.prog Fin Ea).L on _ W2;refine EL.GU (S:=(S0 (X:=X) (Sg:=Sg) Try.prog Fin Ea)) (b:=base 19) 4 [] (by simp) zKR nE rfl zKR fun W₃ LA=>?_;have hh3:W₃.heap=W2.heap:=by obtain ⟨τ,d,rfl⟩:=LA;rfl
  have HH:=Lib.hid (zAI hJ hh3);clear hJ hh3 hcall;dsimp only [List.drop];gi_wp2;refine ⟨rfl,?_⟩;obtain ⟨hJ,hh3⟩:=HH.out;clear HH;show JL (S0 (X:=X) (Sg:=Sg) Try.prog Fin Ea).L on _ _;try dsimp only
  cases hkk;refine Er stepG_region_end ?_;rw [← hh3] at hJ;exact hJ _ _ _ _ _ rfl
theorem o8 {b14 br:Nat}{a1 o1:Option Addr}{a2 a3 o2 o3 st:Nat}{cv:Bool}{γ:G0 X Sg}{cf:Frame}(kY:W.heap[b14]?=some (.cells #[.slice a1 a2 a3,.slice o1 o2 o3,.int .i64 st,.bool cv] 31 (0,0)))(h4:W.heap[br]?=some (.cells #[.slice none 0 0,.slice none 0 0,.int .i64 0,.bool false] 31 (0,0)))(hK:∀ W',(∀ g,g≠br->W'.heap[g]?=W.heap[g]?)->W'.heap.size=W.heap.size->JW (S0 (X:=X) (Sg:=Sg) Try.prog Fin Ea).base γ (G (cf.finish (.tuple #[.agg #[.slice a1 a2 a3,.slice o1 o2 o3,.int .i64 st,.bool cv],.int .i64 0])) cs) W') :
    JL (S0 (X:=X) (Sg:=Sg) Try.prog Fin Ea).L γ (G ((base 19).at ⟨#[v0,v1,v2,v3,.pointer (some ⟨br,0,none⟩),v5,v6,v7,v8,v9,Aa,Ab,Ac,Ae,.pointer (some ⟨b14,0,none⟩),Ah,Ai,Aj,Ak,Al,Am,Ao,Ap,Ar,Au,Av,Aw,Ay,Az,AA,AB,AJ,AL,AO,AP,AQ,AU,AV,AX,AY,AZ,A8,A9,Ba,Bb,Bc,Bf,Bh,Bj,Bl,Bp,Bq,Br],[]⟩ [.code Zz]) (cf :: cs)) W:=by
  refine EL.EJ (S:=(S0 (X:=X) (Sg:=Sg) Try.prog Fin Ea)) (b:=base 19) [] (by simp) zKR nE zKR fun W₁ ha=>?_;have hh:W₁.heap=W.heap:=by obtain ⟨τ,d,rfl⟩:=ha;rfl
  rw [← hh] at kY h4;have c0:W₁.cell? ⟨b14,0,none⟩=some (.slice a1 a2 a3):=by simp [World.cell?,kY]
  have c1:W₁.cell? ⟨b14,1,none⟩=some (.slice o1 o2 o3):=by simp [World.cell?,kY]
  have c2:W₁.cell? ⟨b14,2,none⟩=some (.int .i64 st):=by simp [World.cell?,kY]
  have c3:W₁.cell? ⟨b14,3,none⟩=some (.bool cv):=by simp [World.cell?,kY]
  have d0:W₁.cell? ⟨br,0,none⟩=some (.slice none 0 0):=by simp [World.cell?,h4]
  have d1:W₁.cell? ⟨br,1,none⟩=some (.slice none 0 0):=by simp [World.cell?,h4]
  have d2:W₁.cell? ⟨br,2,none⟩=some (.int .i64 0):=by simp [World.cell?,h4]
  have d3:W₁.cell? ⟨br,3,none⟩=some (.bool false):=by simp [World.cell?,h4]
  have f0:∀ o,W₁.frozen? ⟨br,o,none⟩=false:=fun o=>by simp [World.frozen?,h4]
  have f0':=f0 0;have f1':=f0 1;have f2':=f0 2;have f3':=f0 3;have HH:=Lib.hid (zAI hK (zAI hh h4));clear hK hh h4 kY;dsimp only;simp only [Zz,Oi,Rq,Try.f19];gi_wp2;obtain ⟨hK,hh,h4⟩:=HH.out;clear HH;intro Y;generalize hW':World.setCell _ _ _=W';have hoth:∀ g,g≠br->W'.heap[g]?=W.heap[g]?:=fun g hg=>by rw [← hW',← hh];simp [World.setCell,Array.getElem?_modify,Ne.symm hg]
  have hrow:W'.heap[br]?=some (.cells #[.slice a1 a2 a3,.slice o1 o2 o3,.int .i64 st,.bool cv] 31 (0,0)):=by rw [← hW'];simp [World.setCell,Array.getElem?_modify,h4]
  have hsz:W'.heap.size=W.heap.size:=by rw [← hW',← hh];simp [World.setCell]
  clear hW';refine JW.returns (S:=(S0 (X:=X) (Sg:=Sg) Try.prog Fin Ea)) Try.func19 (v:=.tuple #[.agg #[.slice a1 a2 a3,.slice o1 o2 o3,.int .i64 st,.bool cv],.int .i64 0]) (fun W₂ ha2=>?_) (hK W' hoth hsz);have J3:W₂.heap=W'.heap:=by obtain ⟨τ,d,rfl⟩:=ha2;rfl
  have g0:W₂.cell? ⟨br,0,none⟩=some (.slice a1 a2 a3):=by simp [World.cell?,J3,hrow]
  have g1:W₂.cell? ⟨br,1,none⟩=some (.slice o1 o2 o3):=by simp [World.cell?,J3,hrow]
  have g2:W₂.cell? ⟨br,2,none⟩=some (.int .i64 st):=by simp [World.cell?,J3,hrow]
  have g3:W₂.cell? ⟨br,3,none⟩=some (.bool cv):=by simp [World.cell?,J3,hrow]
  clear J3 hrow hoth hsz hh h4 hK c0 c1 c2 c3 d0 d1 d2 d3 f0 f0' f1' f2' f3';simp [results,Try.results19,go_sem,Frame.at, *]
end
end
end Go.Proofs.Yticecinjcajmcaa
namespace Go.LK
open Go Go.Conc Go.LT Go.LC
section
variable {X Sg:Type}{P:Program}{Fin:FE}{Ea:E5 P Fin}
variable {M:Md X Sg}{ρ:Rn}{ws:List (EK X)}{W:World}{ex n:Nat}{df:Bool}{g:Goroutine}
theorem J0.apart (hcl:¬ ρ.SN)(h:(∀ (i:Nat) (v:EK X),ws[i]?=some v->∀ b,v.own b->b≠ρ.gone)->JW (S0 P Fin Ea).base (.Ev M ρ ws ex df n) g W):JW (S0 P Fin Ea).base (.Ev M ρ ws ex df n) g W:=by intro w hw gs T sl role bd live hg hn C H hL hdf Jw;refine h (fun i v hv b hb e=>?_) w hw gs T sl role bd live hg hn C H hL hdf Jw;obtain ⟨_,_,_,c,e',f,hc⟩:=C.own i v hv b hb;obtain ⟨k,hk⟩:=C.gone hcl;rw [e,hk] at hc;cases hc
end
end Go.LK
namespace Go.Proofs.Yticecinjcajmcaa
open Go Go.Conc Go.LT Go.LC Go.LK Go.RowKit
open Go.ConcN (WgLive)
open BA TU
structure Ran {Cs Sg:Type}(N1:Nat)(z:Rs Ef Cs Sg)(av QC:Value)(W:World):Prop where
  ex:∃ vs:List Value,Fa W N1 1 av z.xs.length vs/\∀ (j:Nat) (v:Value) (x:Wk Ef Cs),vs[j]?=some v->z.xs[j]?=some x->
    (∃ I4:List Value,I4.length=x.out.length/\Fa W N1 9 v x.out.length (List.zipWith E9 x.out I4).flatten/\∀ (i:Nat) (a:Gq) (iv:Value),x.out[i]?=some a->I4[i]?=some iv->FR W (fun _=>True) iv a.a.ints)/\v.oneCell'=true/\∀ g,v.ownBlock=some g->av.ownBlock≠some g
  opn:Fa W N1 3 QC (opens z.xs).length ((opens z.xs).map Ki).flatten
theorem jY {Cs Sg:Type}{ws:List (EK (Wk Ef Cs))}{plans:List (List Ef)}(hl:ws.length=plans.length)(h:∀ (j:Nat) (u:EK (Wk Ef Cs)),ws[j]?=some u->∃ pl,plans[j]?=some pl/\u.x=Wk.new j pl):ws.map (·.x)=plans.zipIdx.map fun p=>Wk.new p.2 p.1:=by
  refine List.ext_getElem? fun j=>?_;rw [List.getElem?_map,List.getElem?_map,List.getElem?_zipIdx];cases hj:ws[j]? with
  | none=>
    have:plans[j]?=none:=by rw [List.getElem?_eq_none_iff] at hj ⊢;omega
    rw [this];rfl
  | some u=>
    obtain ⟨pl,h1,h2⟩:=h j u hj;rw [h1];simp [h2]
section
variable {Cs Sg:Type}{D:Dr Ef Cs Sg}{m:Mem Sg}
variable {Fin:FE}{Ea:E5 Try.prog Fin}
variable {B:Nat->Bool}{W:World}{n:Nat}{c:Frame}{cs:List Frame}{σ:Sg}
theorem aM {plans:List (List Ef)}{turns:List Int}{pg po Fw:Nat}{Ju:List Value}{OY:FuncId}{recv:Value}{dt:TypeId}{dw:Value}{ta ya:Option Addr}{tn tc yc hg ho:Nat}{u:Int}{hl:List Int}{Kp:Nat->Prop}(hD:∀ bd ρ b k,OV (J2 D (QI m bd (.iface dt dw)) ρ b k) (.iface dt dw) OY recv)(hP:Kh m pg po Ju plans)(h64:∀ pl∈plans,pl.length<=64)(h0:0 < plans.length)(h8:plans.length<=8)(hu:0<=u)(hu2:u<=20000)(Ik:∀ σ W,m.Inv σ W->Reads W (.slice ta tn tc) (turns.map (Value.int .i64)))(hlen:turns.length<=1000000)(YT:hl.length<=1000000)(NJ:∀ (i:Nat) (x:Int),hl[i]?=some x->-9223372036854775808<=x/\x<=9223372036854775807/\ya=some ⟨hg,ho,none⟩/\∀ σ W,m.Inv σ W->W.cell? ⟨hg,ho+i,none⟩=some (.int .i64 x))(hcap:n+8 < 1000000)(hI:m.Inv σ W)(hB:∀ g,B g=true->g < W.heap.size)(zA:∀ g,m.Sh g->B g=false)(Gi:∀ g,Kp g->(∃ c e f,W.heap[g]?=some (.cells c e f))/\B g=false/\¬ m.Sh g)(z:Rs Ef Cs Sg)(hz:z=Rs.go D (Fv u) (Fv u) (Rs.new plans σ turns hl))(hend:∀ x∈z.xs,x.out.length<=1000000)(hK:∀ B' W' N1 a1 a2 a3 o1 o2 o3,(∀ g,B' g=true->B g=true\/(W.heap.size<=g/\g < N1))->W.heap.size<=N1->N1<=W'.heap.size->m.Inv z.σ W'->Ran N1 z (.slice a1 a2 a3) (.slice o1 o2 o3) W'->(∀ g,Kp g->W'.heap[g]?=W.heap[g]?)->
      JW (S0 (X:=Wk Ef Cs) (Sg:=Sg) Try.prog Fin Ea).base (.Gp B' (n+plans.length)) (G (c.finish (.tuple #[.agg #[.slice a1 a2 a3,.slice o1 o2 o3,.int .i64 z.s,.bool (z.rd.any id)],.int .i64 0])) cs) W') :
    JW (S0 (X:=Wk Ef Cs) (Sg:=Sg) Try.prog Fin Ea).base (.Gp B n) (G (Frame.enter Try.prog 19 #[.agg #[.slice (some ⟨pg,po,none⟩) Ju.length Fw,.slice ta tn tc,.slice ya hl.length yc,.int .i64 u],.iface dt dw] .normal) (c :: cs)) W:=by
  have hlenp:=hP.len;have WT:∀ g,m.Sh g->g < W.heap.size:=fun g hg=>by obtain ⟨c,e,f,hc⟩:=m.rows σ W g hg hI;exact (zGE hc).1
  have hkl:∀ g,Kp g->g < W.heap.size:=fun g hg=>by obtain ⟨⟨c,e,f,hc⟩,_⟩:=Gi g hg;exact (zGE hc).1
  refine bP (u:=u) (fun i hi=>?_) zOM zOM hu hu2 fun W1 U1 Aak hW1 hz1 q0 q1 q2=>?_
  . obtain ⟨cv,hcv⟩:∃ cv,Ju[i]?=some cv:=⟨_,List.getElem?_eq_getElem hi⟩
    obtain ⟨pl,hpl⟩:∃ pl,plans[i]?=some pl:=⟨_,List.getElem?_eq_getElem zOM⟩
    obtain ⟨p,cap,e,_⟩:=hP.calls i cv pl hcv hpl σ W hI;have:=hP.cell σ W hI i cv hcv;rw [e] at this;exact ⟨p,pl.length,cap,h64 pl (List.mem_of_getElem? hpl),this⟩
  . subst Aak;obtain ⟨bp,hbp⟩:∃ bp,bp=W.heap.size:=⟨_,rfl⟩
    obtain ⟨bd,hbd⟩:∃ bd,bd=W.heap.size+1:=⟨_,rfl⟩
    obtain ⟨br,hbr⟩:∃ br,br=W.heap.size+2:=⟨_,rfl⟩
    rw [← hbp] at q0;rw [← hbd] at q1;rw [← hbr] at q2;have hI1:(QI m bd (.iface dt dw)).Inv σ W1:=⟨m.eq σ W W1 (fun g hg=>.of (hW1 g (WT g hg))) hI,q1⟩
    have hrow:∀ g,(g=bp\/g=br\/Kp g)->(∃ c e f,W1.heap[g]?=some (.cells c e f)):=fun g hg=>by
      rcases hg with rfl|rfl|hg
      . exact ⟨_,_,_,q0⟩
      . exact ⟨_,_,_,q2⟩
      . rw [hW1 g (hkl g hg)];exact (Gi g hg).1
    have UF:∀ g,W.heap.size<=g->B g=false:=fun g hg=>by
      cases hb:B g with
      | false=>rfl
      | true=>have:=hB g hb;omega
    refine jX (D:=D) (m:=QI m bd (.iface dt dw)) (dv:=.iface dt dw) (bp:=bp) (bd:=bd) (br:=br) (R:=20000) (plans:=plans) (Ju:=Ju) (pg:=pg) (po:=po) (Fw:=Fw) (σ:=σ) (Kp:=fun g=>g=bp\/g=br\/Kp g)
      (hD bd) ⟨_,_,rfl⟩ (fun σ W h=>aQ h) (by decide) zOM (YU hP) hI1 (fun g hg=>by have:=hB g hg;omega) (fun g hg=>?_) (fun g hg=>⟨hrow g hg,?_,?_⟩) (by rw [← hlenp];simp [World.cell?,q0]) (by rw [hbp]) (by rw [hbd]) (by rw [hbr]) ?_
    . rcases hg with hg | rfl
      . exact zA g hg
      . exact UF _ zOM
    . rcases hg with rfl | rfl | hg
      . exact UF _ zOM
      . exact UF _ zOM
      . exact (Gi g hg).2.1
    . rintro (hs | hs)
      . rcases hg with rfl | rfl | hg
        . have:=WT _ hs;omega
        . have:=WT _ hs;omega
        . exact (Gi g hg).2.2 hs
      . rcases hg with rfl | rfl | hg
        . omega
        . omega
        . have:=hkl g hg;omega
    . intro ρ ws lv W2 a12 ZO a26 sD r1 r2 r3 r4 r5 r6 r7 r8 hs2 hH hwl;have hlv:∃ lg lc,lv=.slice (some ⟨lg,0,none⟩) ws.length lc:=by
        obtain ⟨te,hl,⟨_,h⟩|⟨g,cap,cur,rfl,_⟩⟩:=hH.R8
        . omega
        . exact ⟨_,_,rfl⟩
      obtain ⟨lg,lc,rfl⟩:=hlv;obtain ⟨v0,v1,v5,v6,Ab,Af,Ah,Ai,Aj,Ak,Al,Am,Ao,Ap,Ar,Ay,Az,AA,AB,AJ,AL,AO,AP,AQ,AU,AV,AX,AY,AZ,A8,A9,Ba,Bb,Bc,Bf,Bh,Bj,Bl,Bp,Bq,Br,rfl⟩:=hs2;have kp:=fun g hg=>hH.kp g hg;have hqb:W2.heap[bp]?=some (.cells #[.slice (some ⟨pg,po,none⟩) Ju.length Fw,.slice ta tn tc,.slice ya hl.length yc,.int .i64 u] 25 (0,0)):=(kp bp (.inl rfl)).1.trans q0;have wF:=Ma hH.R8 (g:=lg) rfl;have Aby:=hH.ZQ lg rfl;have Ai6:lg < W2.heap.size:=by obtain ⟨c,e,f,hc⟩:=wF;exact (zGE hc).1
      have RY:=hH.gone;rw [jk];refine Ei ?_;refine mP (wa:=some ⟨pg,po,none⟩) (wn:=Ju.length) (wc:=Fw) (bp:=bp) (lg:=lg) (pn:=ws.length) (lc:=lc) (co:=ρ.come) hqb fun W3 cf hW3 hback=>?_;have hc3:∀ a,W3.cell? a=W2.cell? a:=fun a=>by simp only [World.cell?,hW3]
      refine Wi (D:=D) (m:=QI m bd (.iface dt dw)) (Kp:=fun g=>g=bp\/g=br\/Kp g) (W0:=W1) (R:=20000) (σ:=σ) (turns:=turns) (hl:=hl) (hg:=hg) (ho:=ho) r5 r2 ((QI m bd (.iface dt dw)).eq σ W2 W3 (fun g _=>.of (by rw [hW3])) hH.inv) (fun i b hb=>?_) (fun g hg=>?_) (fun g hg=>by rw [hW3];exact (kp g hg).1) (by rw [hW3];exact hH.wg) (fun g hg=>by rw [hW3];exact hH.bo g hg)
        (fun j w hw g hg=>by rw [hW3];exact ((hH.lt j w hw).2 g hg).1) (fun j w hw=>?_) (fun j w hw=>?_) zOM ?_ hlen YT (fun i x hx=>?_) hu hu2 (by decide) z ?_ hend ?_
      . rw [hc3,List.getElem?_map] at *;obtain ⟨w,hw,rfl⟩:=Option.map_eq_some_iff.1 hb;obtain ⟨te,hl⟩:=hH.R8;have:=World.ownsRow.cells (h:=hl) rfl i (.pointer (some ⟨w.b,0,none⟩)) (by rw [List.getElem?_map,hw];rfl);rw [Addr.add_lit,Nat.zero_add] at this;exact this
      . rw [hW3];rcases hg with rfl|hg
        . exact ⟨wF,Aby⟩
        . obtain ⟨k1,k2,k3,k4,k5,k6,k7⟩:=kp g hg;exact ⟨by rw [k1];exact k2,k3,k4,k5,k7⟩
      . obtain ⟨pl,x1,x2,x3,x4,x5⟩:=hH.xs j w hw;rw [x2];exact ⟨x3,.new j pl⟩
      . obtain ⟨pl,x1,x2,x3,x4,x5⟩:=hH.xs j w hw;omega
      . exact Ik σ W3 (m.eq σ W2 W3 (fun g _=>.of (by rw [hW3])) hH.inv.1)
      . obtain ⟨a1,a2,a3,a4⟩:=NJ i x hx;exact ⟨a1,a2,a3,fun σ W h=>a4 σ W h.1⟩
      . rw [hz];unfold Rs.new;rw [hwl,jY (Sg:=Sg) hwl fun j w hw=>by obtain ⟨pl,x1,x2,_⟩:=hH.xs j w hw;exact ⟨pl,x1,x2⟩]
      . intro ws' W4 N1 vs av QC e1 hN1 hres hkp;obtain ⟨a1,a2,a3,rfl⟩:=G9 hres.own;obtain ⟨o1,o2,o3,rfl⟩:=G9 hres.opn;refine hback a1 a2 a3 o1 o2 o3 (.Ev (Eu D (QI m bd (.iface dt dw))) ρ ws' 0 false (n+plans.length)) z.s (z.rd.any id) W4 fun DV DW DX DY W5 VW=>?_;refine J0.know (Ea:=Ea) fun hKn=>?_;refine J0.apart (Ea:=Ea) r5 fun hap=>?_;show JL (S0 (X:=Wk Ef Cs) (Sg:=Sg) Try.prog Fin Ea).L _ _ W5;have hz5:W5.heap.size=W4.heap.size+1:=by rw [VW];simp
        have h5:∀ g,g < W4.heap.size->W5.heap[g]?=W4.heap[g]?:=fun g hg=>by rw [VW,Array.getElem?_push,if_neg zOM]
        have h5n:W5.heap[W4.heap.size]?=some (.cells #[.slice a1 a2 a3,.slice o1 o2 o3,.int .i64 z.s,.bool (z.rd.any id)] 31 (0,0)):=by rw [VW,Array.getElem?_push,if_pos rfl]
        clear VW;rw [hW3] at hN1;have hlow:=hres.low;have hgl:ρ.gone < N1:=by omega
        have hno:∀ g,N1<=g->ownB ws' g=false:=fun g hg=>JK fun i v hv ho=>by have:=hlow.2 i v hv g ho;omega
        have Ai9:ownB ws' br=false:=JK fun i v hv ho=>(hkp br (.inr (.inl rfl))).2 i v hv ho;have Ajg:ρ.Wg < N1:=by have:=hH.wg;omega
        refine ZE r4 r5 fun W6 DZ D5 hT=>?_;have hs6:=hT.size;have hb6:∀ b,b < W5.heap.size->b≠ρ.gone->b≠ρ.Wg->ownB ws' b=false->W6.heap[b]?=W5.heap[b]?:=hT.block;have hc6:∀ a:Addr,a.block < W5.heap.size->a.block≠ρ.gone->a.block≠ρ.Wg->W6.cell? a=W5.cell? a:=hT.cell;have h46:∀ g,N1<=g->g < W4.heap.size->W6.heap[g]?=W4.heap[g]?:=fun g h1 h2=>(hb6 g zOM zOM zOM (hno g h1)).trans (h5 g h2);have sZ:∀ g,g=bp\/g=br\/Kp g->W6.heap[g]?=W1.heap[g]?:=fun g hg=>by
          have hlt:g < W1.heap.size:=by obtain ⟨c,e,f,hc⟩:=hrow g hg;exact (zGE hc).1
          have h1:=hkp g hg;have hg4:g < W4.heap.size:=by obtain ⟨c,e,f,hc⟩:=hrow g hg;rw [← h1.1] at hc;exact (zGE hc).1
          rw [hb6 g zOM zOM zOM (JK fun i v hv ho=>h1.2 i v hv ho),h5 g hg4,h1.1]
        refine o8 (b14:=W4.heap.size) (br:=br) (a1:=a1) (a2:=a2) (a3:=a3) (o1:=o1) (o2:=o2) (o3:=o3) (st:=z.s) (cv:=z.rd.any id) ((hb6 _ zOM (by have:=hlow.1;omega) (by have:=hlow.1;omega) (hno _ hlow.1)).trans h5n) ((sZ br (.inr (.inl rfl))).trans q2) fun W7 h7 hs7=>?_;have hWN:W.heap.size<=N1:=by have:=hH.wg;omega
        have Agy:br < N1:=by omega
        refine hK (fun b=>ρ.Bo b || b == ρ.Wg) W7 N1 a1 a2 a3 o1 o2 o3 (fun g hg=>?_) hWN zOM ?_ ⟨⟨vs,?_,fun j v x hv hx=>?_⟩,?_⟩ (fun g hg=>?_)
        . simp only [Bool.or_eq_true,beq_iff_eq] at hg;rcases hg with hg|rfl
          . rw [r6] at hg;exact .inl hg
          . have:=hH.wg;exact .inr ⟨by omega,by omega⟩
        . refine m.eq z.σ W4 W7 (fun g hg=>.of ?_) hres.inv.1;have hl:=WT g hg;have:=hlow.1;have:=hres.sh g (.inl hg);rw [h7 g zOM,hb6 g zOM zOM zOM (JK fun i v hv ho=>(hKn.own i v hv g ho).1 (.inl hg)),h5 g zOM]
        . have pq:ws'.length=z.xs.length:=by rw [← e1];simp
          rw [← pq];exact FD hres.own fun g hg=>by have:=FM hres.own hg;rw [h7 g zOM,h46 g this.1 this.2]
        . rw [← e1,List.getElem?_map] at hx;obtain ⟨w,hw,rfl⟩:=Option.map_eq_some_iff.1 hx;obtain ⟨⟨I4,c1,c2,c3⟩,c4⟩:=hres.cop j v w hv hw;refine ⟨⟨I4,c1,FD c2 fun g hg=>?_,fun i a iv ha hi=>?_⟩,c4⟩
          . have:=FM c2 hg;rw [h7 g zOM,h46 g this.1 this.2]
          . rcases c3 i a iv ha hi with h | ⟨h0,g,cap,i1,i2,i3,i4,i5⟩
            . exact .inl h
            . refine .inr ⟨h0,g,cap,i1,trivial,i3,i4,fun k y hy=>?_⟩;have hgN:=hlow.2 j w hw g i2;rw [cell_of (w:=W6) (a:=⟨g,k,none⟩) (h7 g fun e=>(hkp br (.inr (.inl rfl))).2 j w hw (e ▸ i2)),hc6 ⟨g,k,none⟩ (by show g < _;have:=hlow.1;omega) (hap j w hw g i2) (hKn.own j w hw g i2).2.1,cell_of (w:=W4) (a:=⟨g,k,none⟩) (h5 g zOM)];exact i5 k y hy
        . rw [← e1];exact FD hres.opn fun g hg=>by have:=FM hres.opn hg;rw [h7 g zOM,h46 g this.1 this.2]
        . have hl:=hkl g hg;rw [h7 g zOM,sZ g (.inr (.inr hg)),hW1 g hl]
end
end Go.Proofs.Yticecinjcajmcaa
namespace Go.Proofs.Yticecinjcajmcaa
open Go Go.Conc Go.LT Go.LC Go.LK
section
section
variable {Cl Cs Sg:Type}
def MU (D:Dr Cl Cs Sg):Nat->Cs->Sg->Option (Sg × (An × Bool))
  | 0,_,_=>none
  | f+1,cs,σ=>
    match D.next 0 cs σ with
    | (σ',.inr e)=>some (σ',e)
    | (σ',.inl cs')=>MU D f cs' σ'
def dN (D:Dr Cl Cs Sg)(f:Nat)(c:Cl)(σ:Sg):Option (Sg × (An × Bool)):=
  match D.init 0 c σ with
  | .inl cs=>MU D f cs σ
  | .inr e=>some (σ,e)
structure Lst (Sg:Type) where
  own:Nat->Prop
  f:Nat
  res:Sg × (An × Bool)
variable {X za:Type}{Fin:FE}{Ea:E5 Try.prog Fin}
theorem step_nil {S:EL Try.prog true (G0 X za)}{γ:G0 X za}{c:Frame}{k:List Frame}{W:World}(hJ:JW S.base γ (G (c.finish (.tuple #[])) k) W) :
    JW S.base γ (G (Frame.enter Try.prog 36 #[.pointer none] .normal) (c :: k)) W:=by
  have ht:#[.pointer none] ++ Array.replicate (Try.f36.ntmps - (#[.pointer none]:Array Value).size) undef=(#[.pointer none] ++ Array.replicate (Try.f36.ntmps - 1) undef):=rfl;have hn:Try.f36.ntmps=30:=by kernel_rfl
  rw [enter_at (c:=(Try.f36.body).get rfl) _ Try.func36 rfl,ht,hn];walk_nrm;show JL S.L γ _ W;refine EL.EJ (S:=S) (b:=base 36) [] (by simp) zKR nE zKR fun W₁ ha=>?_;have hend:=JW.tape (S:=S.base) hJ ha;have HH:=Lib.hid hend;clear hJ hend;simp only [Try.f36,Option.get_some];gi_wp2;intro Y;exact JL.back rfl Try.func36 (v:=.tuple #[]) (fun w=>by kernel_rfl) HH.out
variable (D:Dr Cl Cs Sg)(m:Mem Sg)(γ:G0 X za)
structure LAt (s:Lst Sg)(σ:Sg)(W:World):Prop where
  inv:m.Inv σ W
  own:∀ b,s.own b->¬ m.Sh b/\∃ c e f,W.heap[b]?=some (.cells c e f)
def kG (S:EL Try.prog true (G0 X za)):Gn S D m 36 where
  St:=Lst Sg
  γ:=fun _=>γ
  wv:=.pointer none
  num:=0
  At:=LAt m
  core:=fun _ _=>False
  own:=fun s=>s.own
  kept:=fun s=>s.own
  n0:=fun _=>0
  fuel:=fun s=>s.f
  Le:=fun s s'=>s'.res=s.res
  Rw:=fun s σ c=>dN D s.f c σ=some s.res
  Step:=fun s σ cs=>MU D s.f cs σ=some s.res
  Zp:=fun s r=>(match r with | (σ,.inl cs)=>MU D s.f cs σ | (σ,.inr e)=>some (σ,e))=some s.res
  End:=fun s σ e=>(σ,e)=s.res
  Leaves:=fun _ _=>True
  add:=fun s N=>{ s with own:=fun g=>s.own g\/g=N }
  refl:=fun _=>rfl
  trans:=fun _ _ _ h k=>k.trans h
  Sz:=fun {s σ c cs} h hi=>by unfold dN at h;rw [hi] at h;exact h
  ends:=fun {s σ c e} h hi=>by unfold dN at h;rw [hi] at h;exact Option.some.inj h
  more:=fun h=>h
  done:=fun h=>Option.some.inj h
  inv:=fun h=>h.inv
  size:=fun _=>Nat.zero_le _
  row:=fun h hb=>h.own _ hb
  MG:=fun _ h=>h.elim
  IV:=fun _ h=>h
  put:=fun hA hI _ ho _=>⟨hI,fun b hb=>⟨(hA.own b hb).1,ho b hb⟩⟩
  XQ:=fun {s σ W N} hA _ h2 h3=>⟨⟨hA.inv,fun b hb=>hb.elim (hA.own b) fun e=>by rw [e];exact ⟨h2,h3⟩⟩,rfl,rfl,rfl,fun _=>.rfl,fun _=>.rfl,fun _=>.rfl⟩
  VA:=fun h=>h
  Tj:=fun h=>h
  WQ:=fun h=>h
  Wt:=fun h=>h
  pop:=fun _ _=>trivial
  step:=fun {s σ W cs c k} hA hS _ hJ=>by
    cases hf:s.f with
    | zero=>rw [hf] at hS;cases hS
    | succ f=>
      refine step_nil (hJ { s with f:=f } σ W ⟨hA.inv,hA.own⟩ rfl rfl rfl rfl (fun _ _=>rfl) (Nat.le_refl _) (by show f < s.f;omega) ?_);rw [hf] at hS;simp only [MU] at hS;show (match D.next 0 cs σ with | (σ,.inl cs)=>MU D f cs σ | (σ,.inr e)=>some (σ,e))=some s.res;rw [← hS];cases hn:D.next 0 cs σ with
      | mk σ' r=>cases r <;> rfl
end
end
end Go.Proofs.Yticecinjcajmcaa
namespace Go.Proofs.Yticecinjcajmcaa
open Go Go.Conc Go.LT Go.LC Go.LK Go.RowKit
open BA TU
section
def XV (ct cb n:Nat)(Fx:Nat->Prop)(W0:World)(TN:∀ g,Fx g->∃ c e f,W0.heap[g]?=some (.cells c e f)):Mem (List Int) where
  Sh g:=g=ct\/g=cb\/Fx g
  Inv σ W:=σ.length=n/\W.heap[ct]?=some (.cells #[.slice (some ⟨cb,0,none⟩) n n] 64 (0,0))/\W.heap[cb]?=some (.cells (σ.map (Value.int .i64)).toArray 78 (0,0))/\∀ g,Fx g->W.heap[g]?=W0.heap[g]?
  rows:=fun σ W g hg h=>by
    rcases hg with rfl|rfl|hg
    . exact ⟨_,_,_,h.2.1⟩
    . exact ⟨_,_,_,h.2.2.1⟩
    . rw [h.2.2.2 g hg];exact TN g hg
  eq:=fun σ W W' he h=>⟨h.1,(he ct (.inl rfl)).cells h.2.1,(he cb (.inr (.inl rfl))).cells h.2.2.1,fun g hg=>by obtain ⟨c,e,f,hc⟩:=TN g hg;rw [hc];exact (he g (.inr (.inr hg))).cells ((h.2.2.2 g hg).trans hc)⟩
section
variable {ct cb n:Nat}{Fx:Nat->Prop}{W0:World}{TN:∀ g,Fx g->∃ c e f,W0.heap[g]?=some (.cells c e f)}
theorem Nf (hn:n<=256)(h1:ct≠cb)(h2:∀ g,Fx g->g≠cb):Fg (XV ct cb n Fx W0 TN) ct cb n where
  len:=hn
  sh:=.inr (.inl rfl)
  get:=fun σ W h=>⟨h.1,by simp [World.cell?,h.2.1],_,h.2.2.1⟩
  set:=fun σ W i v h hi=>by
    have ho:∀ g,g≠cb->(W.setCell ⟨cb,i,none⟩ (.int .i64 v)).heap[g]?=W.heap[g]?:=fun g hg=>by simp [World.setCell,Array.getElem?_modify,Ne.symm hg]
    refine ⟨by simp [h.1],by rw [ho ct h1];exact h.2.1,?_,fun g hg=>by rw [ho g (h2 g hg)];exact h.2.2.2 g hg⟩;have:=h.2.2.1;simp [World.setCell,Array.getElem?_modify,this]
theorem T9 {m:Mem (List Int)}{bd:Nat}{t:TypeId}{v:Value}(h:Fg m ct cb n)(hn:0 < n):Fg (QI m bd (.iface t v)) ct cb n where
  len:=h.len
  sh:=.inl h.sh
  get:=fun σ W hI=>h.get σ W hI.1
  set:=fun σ W i x hI hi=>by
    refine ⟨h.set σ W i x hI.1 hi,?_⟩;have hne:bd≠cb:=fun e=>by
      obtain ⟨h1,_,ty,h2⟩:=h.get σ W hI.1;have h3:=hI.2;rw [e,h2] at h3;cases σ with
      | nil=>simp at h1;omega
      | cons y l=>simp at h3
    have:=hI.2;simp [World.setCell,Array.getElem?_modify,hne.symm,this]
theorem YJ {main:Bool}{Γ:Type}{S:EL Try.prog main Γ}{m:Mem (List Int)}(I:Gn S Em m 36)(hm:Fg m ct cb n):OV I (.iface 36 (.pointer (some ⟨ct,0,none⟩))) 98 (.pointer (some ⟨ct,0,none⟩)) where
  yD:=fun wv cv w es=>by kernel_rfl
  doj:=fun hA hS hL hJ=>iG I hm hA hS hL fun s' σ' W' e h1 h2 h3 h4=>hJ s' σ' W' e _ h1 h2 h3 (.inl ⟨h4,rfl⟩)
end
end
section
theorem YB:(Try.prog.info? 78).map (fun i=>(i.zero,i.size,i.bytes))=some (some (.agg #[.int .i64 0]),1,8):=by kernel_rfl
theorem YQ (v:Value)(n:Nat):madeCells #[v] n=(List.replicate n v).toArray:=by refine Array.ext (by simp [size_madeCells]) fun i h1 h2=>?_;simp [madeCells,Nat.mod_one]
section
variable {main:Bool}{Γ:Type}{S:EL Try.prog main Γ}{γ:Γ}{W:World}{cf:Frame}{cs:List Frame}
theorem Lc {n:Nat}(h1:1<=n)(h2:n<=256)(hJ:∀ W',W'.heap=(W.heap.push (.cells (List.replicate n (Value.int .i64 0)).toArray 78 (0,0))).push (.cells #[.slice (some ⟨W.heap.size,0,none⟩) n n] 64 (0,0))->JW S.base γ (G (cf.finish (.tuple #[.pointer (some ⟨W.heap.size+1,0,none⟩),.int .i64 0])) cs) W') :
    JW S.base γ (G (Frame.enter Try.prog 9 #[.int .i64 n] .normal) (cf :: cs)) W:=by
  have ht:#[.int .i64 n] ++ Array.replicate (Try.f9.ntmps - (#[.int .i64 n]:Array Value).size) undef=#[.int .i64 n,undef,undef,undef,undef,undef,undef,undef,undef,undef,undef,undef,undef,undef]:=by
    have:Try.f9.ntmps=14:=by kernel_rfl
    rw [this];walk_nrm
  rw [enter_at (c:=(Try.f9.body).get rfl) _ Try.func9 rfl,ht];obtain ⟨i0,hi,hz0,hz1,hz2⟩:=info_parts YB;have hmk:∀ wx:World,(Instr.makeSlice 62 (.int .i64 n) (.int .i64 n)).run Try.prog wx=.ok (.slice (some ⟨wx.heap.size,0,none⟩) n n) (wx.alloc (.cells (madeCells #[.int .i64 0] n) 78)):=fun wx=>by
    have:=run_makeSlice (P:=Try.prog) (w:=wx) 62 78 i0 (.agg #[.int .i64 0]) Try.underlying62 hi hz0 .i64 .i64 n n zOM (Int.le_refl _) (by rw [hz1];simp;omega) (by rw [hz2];omega) zOM;rw [hz1,show (Value.agg #[.int .i64 0]).cells=#[.int .i64 0] from rfl] at this
    simpa using this
  show JL S.L γ _ W;refine EL.EJ (S:=S) (b:=base 9) [] (by simp) zKR nE zKR fun W₁ ha=>?_;have hh:W₁.heap=W.heap:=by obtain ⟨τ,d,rfl⟩:=ha;rfl
  have g1:decide ((n:Int) < 1)=false:=by simp;omega
  have g2:decide (256 < (n:Int))=false:=by simp;omega
  have HH:=Lib.hid (zAI hJ hh);clear hJ hh;simp only [Try.f9,Option.get_some];gi_wp2;intro Y;obtain ⟨hJ,hh⟩:=HH.out;clear HH;rw [← hh] at hJ;exact JL.back rfl Try.func9 (v:=.tuple #[.pointer (some ⟨W₁.heap.size+1,0,none⟩),.int .i64 0]) (fun w=>by kernel_rfl) (hJ _ (by rw [← YQ];rfl))
end
theorem XZ {h:FuncId}(k1:@Gg (Host.only h) Try.prog ((Try.f15.body).get rfl)=true)(k2:@Gg (Host.only h) Try.prog ((Try.f28.body).get rfl)=true):∀ g∈[15,28,44],@Lets (Host.only h) Try.prog g:=fun g hg=>by
  simp only [List.mem_cons,List.not_mem_nil,or_false] at hg;rcases hg with rfl|rfl|rfl
  . exact ⟨by kernel_rfl,.inl ⟨_,_,Try.func15,by kernel_rfl,rfl,k1⟩⟩
  . exact ⟨by kernel_rfl,.inl ⟨_,_,Try.func28,by kernel_rfl,rfl,k2⟩⟩
  . exact ⟨by kernel_rfl,.inr (.inl (Gt Try.func44 zKR rfl zKR (e:=Extern.Atomic.loadT (.int .i64)) zKR (Td fun _=>trivial)))⟩
theorem YS (h:FuncId){g o:Nat}{y:Int}(w:World)(hc:w.cell? ⟨g,o,none⟩=some (.int .i64 y)) :
    CallsIn (Fence.list [h,15,28,44] none) 0 Try.prog 28 #[.pointer (some ⟨g,o,none⟩)] w fun e w'=>e=.returned (.int .i64 y)/\w=w':=by
  have hl:=run_call_load (P:=Try.prog) Try.func44 zKR zKR zKR .i64 zKR hc;gi_enter Try.func28,Try.ntmps28
  gi_wp2;go_ret
  exact ⟨rfl,rfl⟩
theorem values_in (h:FuncId){ct cb n:Nat}{σ:List Int}(w:World)(hn:n<=256)(hl:σ.length=n)(h1:w.heap[ct]?=some (.cells #[.slice (some ⟨cb,0,none⟩) n n] 64 (0,0)))(h2:w.heap[cb]?=some (.cells (σ.map (Value.int .i64)).toArray 78 (0,0))) :
    CallsIn (Fence.list [h,15,28,44] none) 0 Try.prog 15 #[.pointer (some ⟨ct,0,none⟩)] w fun e w'=>∃ v,e=.returned v/\Fa w' w.heap.size 1 v n (σ.map (Value.int .i64))/\Below w.heap.size w w':=by
  obtain ⟨i0,hi,hz0,hz1,hz2⟩:=info_parts QA;have c0:w.cell? ⟨ct,0,none⟩=some (.slice (some ⟨cb,0,none⟩) n n):=by simp [World.cell?,h1]
  have hlt1:ct < w.heap.size:=(zGE h1).1;have hlt2:cb < w.heap.size:=(zGE h2).1;have hcell:∀ i,i < n->w.cell? ⟨cb,i,none⟩=some (.int .i64 (σ.getD i 0)):=fun i hi=>by simp [World.cell?,h2,hl,hi]
  have HC:=Lib.hid (zAI hcell (zAI hl (zAI hlt1 hlt2)));clear hcell hl h1 h2 hlt1 hlt2;gi_enter Try.func15,Try.ntmps15
  gi_wp2;gi_loopw [3,10] (fun v i wr=>∃ k:Nat,k<=n/\i=.int .i64 k/\RowKit.Hid (Fa wr w.heap.size 1 v k ((σ.take k).map (Value.int .i64))/\Below w.heap.size w wr)) (fun _ i _=>n - (intOf i).toNat)
  case atStart=>exact ⟨0,Nat.zero_le _,rfl,Lib.hid ⟨by simpa using Fa.nil w w.heap.size 1,Below.refl _ _⟩⟩
  case round=>
    obtain ⟨k,hk,rfl,hinv⟩:=hrel;by_cases hlt:k < n
    . obtain ⟨hcell,hl,hlt1,hlt2⟩:=HC.out;obtain ⟨ho,hb⟩:=hinv.out;have d0:wr.cell? ⟨ct,0,none⟩=some (.slice (some ⟨cb,0,none⟩) n n):=(hb.cell (p:=⟨ct,0,none⟩) hlt1).trans c0;have dk:wr.cell? ⟨cb,k,none⟩=some (.int .i64 (σ.getD k 0)):=(hb.cell (p:=⟨cb,k,none⟩) hlt2).trans (hcell k hlt);have htk:(σ.take (k+1)).map (Value.int .i64)=(σ.take k).map (Value.int .i64) ++ [.int .i64 (σ.getD k 0)]:=by
        have:σ[k]?=some (σ.getD k 0):=by simp [List.getD,hl,hlt]
        rw [List.take_add_one,this]
        simp
      have HT:=Lib.hid htk;generalize σ.getD k 0=y at dk htk;have HT2:=Lib.hid htk;clear htk hcell hl hlt1 hlt2 c0 hinv;gi_wp2_with (first | (gi_at_call 28;refine (YS h _ dk).mono ?_;rintro e w2 ⟨rfl,rfl⟩) | (gi_at_builtin;refine GZ _ rfl _ _ 22 rfl w.heap.size 3 i0 (.int .i64 0) 1 8 Try.underlying22 hi hz0 hz1 hz2 rfl (by decide) _ _ _ rfl (ho.alloc _) ⟨wr.heap.size,0,none⟩ 1 1 [.int .i64 y] rfl rfl ?c1 ?c2 ?c3 ?c4 ?c5 ?_))
      case c1=>exact cell_one_new _ _ _
      case c2=>intro u hu;simp at hu;subst hu;rfl
      case c3=>unfold maxLen;omega
      case c4=>omega
      case c5=>have:=hb.size;simp;omega
      intro v' w1 g1 g2 g3;have hb1:Below w.heap.size w w1:=(hb.alloc hb.size _).grown g2 (by have:=hb.size;simp;omega) (fun j hj=>(ho.blk j hj).1);have HI:=Lib.hid (zAI g1 hb1);clear g1 g2 g3 hb1 ho hb;gi_wp2;go_roundw
      case rel=>exact ⟨k+1,by omega,by go_num,Lib.hid ⟨by rw [HT2.out,List.map_take];exact HI.out.1,HI.out.2⟩⟩
      case measure=>simp [intOf];omega
    . obtain rfl:k=n:=by omega
      gi_wp2;go_ret
      obtain ⟨ho,hb⟩:=hinv.out;have:σ.take k=σ:=List.take_of_length_le (by have:=HC.out.2.1;omega);rw [this] at ho;exact ⟨_,rfl,ho,hb⟩
end
end Go.Proofs.Yticecinjcajmcaa
end
