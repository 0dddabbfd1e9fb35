/-
  Part 25 of the proof that CellAlone returns true for every input and leaves its arguments as they were. No further condition.
-/
import Derived.Test.YtkdhnbcdbnpmhaaQ11
import Derived.Test.YtkdhnbcdbnpmhaaQ15
import Derived.Test.YtkdhnbcdbnpmhaaQ21
import Derived.Test.YtkdhnbcdbnpmhaaQ24
import Derived.LoopIn
set_option linter.unusedVariables false
set_option linter.unusedSectionVars false
set_option maxHeartbeats 4000000
set_option maxRecDepth 100000
namespace Go.Proofs.Ytkdhnbcdbnpmhaa
open Go Go.Conc Go.LT Go.LC Go.LK Go.RowKit
open Go.ConcN (WgLive)
open BA TU
section
structure qG {Cs Sg:Type}(m:Mem Sg)(ws:List (Ij (Wk G5 Cs)))(N1:Nat)(σ:Sg)(vs:List Value)(av:Value)(W:World):Prop where
  inv:m.Inv σ W
  own:IE W N1 1 av ws.length vs
  cop:∀ (j:Nat) (v:Value) (u:Ij (Wk G5 Cs)),vs[j]?=some v->ws[j]?=some u->VF W N1 v u/\v.oneCell'=true/\∀ g,v.ownBlock=some g->av.ownBlock≠some g
  low:N1<=W.heap.size/\∀ (j:Nat) (u:Ij (Wk G5 Cs)),ws[j]?=some u->∀ g,u.own g->g < N1
  sh:∀ g,m.Sh g->g < N1
def Kg (u:Int):Nat:=if u=0 then 20000 else u.toNat
section
variable {Cs Sg:Type}{D:Dr G5 Cs Sg}{m:Mem Sg}{ρ:Rn}{ws:List (Ij (Wk G5 Cs))}
variable {Fin:Iw}{GR:Ig Try.prog Fin}
variable {Kp:Nat->Prop}{W0 W:World}{R nn:Nat}{σ:Sg}{turns:List Int}{cs:List Frame}{cf:Frame}
variable {wa ta ya:Option Addr}{wn wc tn tc yc lg lc:Nat}{u:Int}
theorem Yb (hcl:¬ ρ.Uh)(hzi:ρ.zi=.int .i64 0)(hinv:m.Inv σ W)(hrow:∀ (i b:Nat),(ws.map (·.b))[i]?=some b->W.cell? ⟨lg,i,none⟩=some (.pointer (some ⟨b,0,none⟩)))(hfree:∀ g,g=lg\/Kp g->(∃ c e f,W.heap[g]?=some (.cells c e f))/\g≠ρ.Wg/\ρ.Bo g=false/\¬ m.Sh g/\∀ (j:Nat) (u:Ij (Wk G5 Cs)),ws[j]?=some u->¬ u.own g)(hkept:∀ g,Kp g->W.heap[g]?=W0.heap[g]?)(Y0:ρ.Wg < W.heap.size)(XQ:∀ g,ρ.Bo g=true->g < W.heap.size)(zM:∀ (j:Nat) (u:Ij (Wk G5 Cs)),ws[j]?=some u->∀ g,u.own g->g < W.heap.size)(hov:∀ (j:Nat) (u:Ij (Wk G5 Cs)),ws[j]?=some u->u.over=u.x.over/\lI u.x)(hfu:∀ (j:Nat) (u:Ij (Wk G5 Cs)),ws[j]?=some u->R<=u.r)(Qf:ws.length<=1000)(NT:Reads W (.slice ta tn tc) (turns.map (Value.int .i64)))(hlen:turns.length<=1000000)(hu0:0<=u)(hu1:u<=20000)(hR:20000<=R)(z:Rs G5 Cs Sg)(hz:z=Rs.go D (Kg u) (Kg u) ⟨ws.map (·.x),σ,turns,-1,0⟩)(hend:∀ x∈z.xs,x.over=true/\x.out.length<=1000000)(hK:∀ ws' W' N1 vs av,ws'.map (·.x)=z.xs->(∀ (j:Nat) (u:Ij (Wk G5 Cs)),ws'[j]?=some u->u.over=true)->W.heap.size<=N1->qG m ws' N1 z.σ vs av W'->(∀ g,Kp g->W'.heap[g]?=W0.heap[g]?/\∀ (j:Nat) (u:Ij (Wk G5 Cs)),ws'[j]?=some u->¬ u.own g)->
      JW (S0 Try.prog Fin GR).base (.H7 (H9 D m) ρ ws' 0 false nn) (G (cf.finish (.agg #[av,.slice none 0 0,.int .i64 z.s,.bool false])) cs) W') :
    JW (S0 Try.prog Fin GR).base (.H7 (H9 D m) ρ ws 0 false nn) (G (Frame.enter Try.prog 79 #[.agg #[.slice wa wn wc,.slice ta tn tc,.slice ya 0 yc,.int .i64 u],.slice (some ⟨lg,0,none⟩) ws.length lc,.chan (some ρ.come)] .normal) (cf :: cs)) W:=by
  have ht:#[.agg #[.slice wa wn wc,.slice ta tn tc,.slice ya 0 yc,.int .i64 u],.slice (some ⟨lg,0,none⟩) ws.length lc,.chan (some ρ.come)] ++ Array.replicate (Try.f79.ntmps - (#[.agg #[.slice wa wn wc,.slice ta tn tc,.slice ya 0 yc,.int .i64 u],.slice (some ⟨lg,0,none⟩) ws.length lc,.chan (some ρ.come)]:Array Value).size) undef=#[.agg #[.slice wa wn wc,.slice ta tn tc,.slice ya 0 yc,.int .i64 u],.slice (some ⟨lg,0,none⟩) ws.length lc,.chan (some ρ.come),undef,undef,undef,undef,undef,undef,undef,undef,undef,undef,undef,undef,undef,undef,undef,undef,undef,undef,undef,undef,undef,undef,undef,undef,undef,undef,undef,undef,undef,undef,undef,undef,undef,undef,undef,undef,undef,undef,undef,undef,undef,undef,undef,undef,undef,undef,undef,undef,undef,undef,undef,undef,undef,undef,undef,undef,undef,undef,undef,undef,undef,undef,undef,undef,undef,undef,undef,undef,undef,undef,undef,undef,undef,undef,undef,undef,undef,undef,undef,undef,undef,undef,undef,undef,undef,undef,undef,undef,undef,undef,undef,undef,undef,undef,undef,undef,undef,undef,undef,undef,undef,undef,undef]:=by
    have:Try.f79.ntmps=106:=by kernel_rfl
    rw [this];walk_nrm
  rw [enter_at _ Try.func79 oo,ht];clear ht;have hkl:∀ g,g=lg\/Kp g->g < W.heap.size:=fun g hg=>by obtain ⟨⟨c,e,f,hc⟩,_⟩:=hfree g hg;exact (Array.getElem?_eq_some_iff.1 hc).1
  have Yi:∀ g,m.Sh g->g < W.heap.size:=fun g hg=>by obtain ⟨c,e,f,hc⟩:=m.rows σ W g hg hinv;exact (Array.getElem?_eq_some_iff.1 hc).1
  have Aio:Kg u<=20000:=by unfold Kg;split <;> omega
  show JL (S0 Try.prog Fin GR).L _ _ W;refine GY stepG_seq ?_;refine Abi fun W1 hW1=>?_;have o1:Lm W W1:=⟨fun g hg=>by rw [hW1,Array.getElem?_push,Array.getElem?_push,if_neg (by simp;omega),if_neg (by omega)],by rw [hW1];simp;omega⟩
  have z1:W1.heap.size=W.heap.size+2:=by rw [hW1];simp
  have q0:W1.heap[W.heap.size]?=some (.cells #[.slice wa wn wc,.slice ta tn tc,.slice ya 0 yc,.int .i64 u] 59 (0,0)):=by rw [hW1,Array.getElem?_push,Array.getElem?_push,if_neg (by simp),if_pos rfl]
  have q1:W1.heap[W.heap.size+1]?=some (.cells #[.slice none 0 0,.slice none 0 0,.int .i64 0,.bool false] 63 (0,0)):=by rw [hW1,Array.getElem?_push,if_pos (by simp)]
  clear hW1;refine GY stepG_seq ?_;refine Abn (b:=W.heap.size) (u:=u) (by simp [World.cell?,q0]) fun W2 ED EF hW2=>?_;refine GY stepG_seq ?_;refine yh (u:=u) hu0 fun W3 EG EH hW3=>?_;have hh3:W3.heap=W1.heap:=hW3.trans hW2;refine GY stepG_seq ?_;refine yP (b:=W.heap.size) (turns:=turns) (ta:=ta) (tn:=tn) (tc:=tc) (by simp [World.cell?,hh3,q0]) (NT.same fun k _ hk=>by rw [hh3];exact o1.blk k hk) hlen fun W4 ob VE EI EJ EK Vr o4 QG hol=>?_;have o34:Lm W1 W4:=⟨fun g hg=>by rw [o4.blk g (by rw [hh3];exact hg),hh3],by have:=o4.size;rw [hh3] at this;exact this⟩
  rw [hh3,z1] at QG;have mG:∀ k,VE.ownBlock=some k->W.heap.size+2<=k/\k < W4.heap.size/\∃ c e f,W4.heap[k]?=some (.cells c e f):=fun k hk=>by have:=hol k hk;rw [hh3,z1] at this;exact this
  have vT:ob < W4.heap.size:=(Array.getElem?_eq_some_iff.1 Vr.1).1;clear hol;refine GY stepG_seq ?_;refine zZ (pg:=some ⟨lg,0,none⟩) (n:=ws.length) (lc:=lc) Qf fun W5 EL EM EN Yz=>?_;have o5:Lm W4 W5:=⟨fun g hg=>by rw [Yz,Array.getElem?_push,if_neg (by omega)],by rw [Yz];simp⟩
  have q5:W5.heap[W4.heap.size]?=some (.cells (List.replicate ws.length (Value.int .i64 0)).toArray 3 (0,0)):=by rw [Yz,Array.getElem?_push,if_pos rfl]
  have z5:W5.heap.size=W4.heap.size+1:=by rw [Yz];simp
  clear Yz;refine GY stepG_seq ?_;refine xu fun W6 bF=>?_;have o6:Lm W5 W6:=⟨fun g hg=>by rw [bF,Array.getElem?_push,if_neg (by omega)],by rw [bF];simp⟩
  have q6:W6.heap[W5.heap.size]?=some (.cells #[.slice none 0 0,.slice none 0 0,.int .i64 0,.bool false] 63 (0,0)):=by rw [bF,Array.getElem?_push,if_pos rfl]
  clear bF;have o46:=o5.trans o6;have o16:=o34.trans o46;have zS:=o1.trans o16;have z4:=o34.size;rw [z1] at z4;obtain ⟨q,hq⟩:∃ q:RB,q=⟨lg,lc,W.heap.size,W.heap.size+1,ob,W4.heap.size,W5.heap.size,Kg u,wa,wn,wc,ta,tn,tc,ya,yc,u,VE.ownBlock⟩:=⟨_,rfl⟩
  have hcells:∀ g,q.K Kp g->(∃ c e f,W6.heap[g]?=some (.cells c e f))/\(g=lg\/Kp g\/W.heap.size<=g):=fun g hg=>by
    have old:∀ g,g=lg\/Kp g->∃ c e f,W6.heap[g]?=some (.cells c e f):=fun g hg=>by rw [zS.blk g (hkl g hg)];exact (hfree g hg).1
    subst hq;rcases hg with e|e|e|e|e|e|e|e
    . exact ⟨old g (.inl e),.inl e⟩
    . subst e;exact ⟨⟨_,_,_,(o16.blk _ (by show W.heap.size < _;omega)).trans q0⟩,.inr (.inr (Nat.le_refl _))⟩
    . subst e;exact ⟨⟨_,_,_,(o16.blk _ (by show W.heap.size+1 < _;omega)).trans q1⟩,.inr (.inr (by show _<=W.heap.size+1;omega))⟩
    . have e:g=ob:=e;rw [e];exact ⟨⟨_,_,_,(o46.blk _ vT).trans Vr.1⟩,.inr (.inr (by omega))⟩
    . have h1:=mG g e;refine ⟨?_,.inr (.inr (by omega))⟩;rw [o46.blk g h1.2.1];exact h1.2.2
    . subst e;exact ⟨⟨_,_,_,(o6.blk _ (by show W4.heap.size < _;omega)).trans q5⟩,.inr (.inr (by show _<=W4.heap.size;omega))⟩
    . subst e;exact ⟨⟨_,_,_,q6⟩,.inr (.inr (by show _<=W5.heap.size;omega))⟩
    . exact ⟨old g (.inr e),.inr (.inl e)⟩
  have hl1:lg < W.heap.size:=hkl lg (.inl rfl);have Aer:q.Lay Kp:=by
    rw [hq];exact ⟨hl1,by show W.heap.size < W.heap.size+1;omega,by show W.heap.size+1 < ob;omega,by show ob < W4.heap.size;exact vT,by show W4.heap.size < W5.heap.size;omega,fun g hg=>by have h1:=mG g hg;refine ⟨by show W.heap.size+1 < g;omega,by show g < W4.heap.size;exact h1.2.1,fun e=>Vr.2.2 ?_⟩;have e:g=ob:=e;rw [← e];exact hg,fun g hg=>by show g < W.heap.size;exact hkl g (.inr hg)⟩
  have hP:Oz m ρ ws q Kp W0 R σ turns (-1) 0 (List.replicate ws.length 0) (.bool false) W6:=by
    refine ⟨⟨fun i b hb=>?_,?_,⟨VE,⟨?_,?_,?_⟩,?_⟩,?_,?_,?_⟩,Aer,?_,fun g hg=>?_,fun g hg=>?_,hov,fun j u hu=>?_,by simp,Qf⟩
    . rw [hq,cell_of (w:=W) (a:=⟨lg,i,none⟩) (zS.blk lg hl1)];exact hrow i b hb
    . rw [hq];exact (o16.blk _ (by show W.heap.size < _;omega)).trans q0
    . rw [hq];exact (o46.blk _ vT).trans Vr.1
    . exact Vr.2.1.same fun k hk _=>o46.blk k (mG k hk).2.1
    . rw [hq];exact Vr.2.2
    . rw [hq]
    . rw [hq];have:=(o6.blk _ (by show W4.heap.size < _;omega)).trans q5
      simpa using this
    . rw [hq];exact q6
    . rw [hq];exact (o16.blk _ (by show W.heap.size+1 < _;omega)).trans q1
    . exact m.eq σ W W6 (fun g hg=>.of (zS.blk g (Yi g hg))) hinv
    . obtain ⟨c1,c2⟩:=hcells g hg;refine ⟨c1,?_⟩;rcases c2 with e|e|e
      . exact (hfree g (.inl e)).2
      . exact (hfree g (.inr e)).2
      . refine ⟨by omega,?_,fun hs=>by have:=Yi g hs;omega,fun j u hu ho=>by have:=zM j u hu g ho;omega⟩
        cases hb:ρ.Bo g with
        | false=>rfl
        | true=>have:=XQ g hb;omega
    . rw [zS.blk g (hkl g (.inr hg))];exact hkept g hg
    . have:=hfu j u hu;omega
  have hqm:q.most=Kg u:=by rw [hq]
  have hqb:q.bc=W.heap.size:=by rw [hq]
  have hqs:q.cv=.agg #[.slice wa wn wc,.slice ta tn tc,.slice ya 0 yc,.int .i64 u]:=by rw [hq];rfl
  have hSd:∃ Jo I6 Kh K7 LA LB u68 u69,Sd q ρ.come ws.length Jo I6 Kh K7 LA LB u68 u69 #[.agg #[.slice wa wn wc,.slice ta tn tc,.slice ya 0 yc,.int .i64 u],.slice (some ⟨lg,0,none⟩) ws.length lc,.chan (some ρ.come),.pointer (some ⟨W.heap.size,0,none⟩),undef,undef,.pointer (some ⟨W.heap.size+1,0,none⟩),.int .i64 (Kg u:Nat),.pointer (some ⟨ob,0,none⟩),.slice (some ⟨W4.heap.size,0,none⟩) ws.length ws.length,.pointer (some ⟨W5.heap.size,0,none⟩),undef,undef,undef,undef,undef,ED,EF,EG,EH,EI,EJ,EK,EL,EM,EN,undef,undef,undef,undef,undef,undef,undef,undef,undef,undef,undef,undef,undef,undef,undef,undef,undef,undef,undef,undef,undef,undef,undef,undef,undef,undef,undef,undef,undef,undef,undef,undef,undef,undef,undef,undef,undef,undef,undef,undef,undef,undef,undef,undef,undef,undef,undef,undef,undef,undef,undef,undef,undef,undef,undef,undef,undef,undef,undef,undef,undef,undef,undef,undef,undef,undef,undef,undef,undef,undef,undef,undef,undef,undef,undef,undef,undef,undef,undef,undef]:=by
    rw [hq];exact ⟨_,_,_,_,_,_,_,_,_,_,_,_,_,_,_,_,_,_,_,_,_,_,_,_,_,_,_,_,_,_,_,_,_,_,_,_,_,_,_,_,_,_,_,_,_,_,_,_,_,_,_,_,_,_,_,_,_,_,_,_,_,_,_,_,_,_,_,_,_,_,_,_,_,_,_,_,_,_,_,_,_,_,_,_,_,_,_,_,_,_,_,_,_,_,_,_,_,rfl⟩
  obtain ⟨Jo,I6,Kh,K7,LA,LB,u68,u69,hSd⟩:=hSd;clear hq hcells q0 q1 q5 q6 Vr mG;refine GY stepG_seq ?_;refine GY stepG_block ?_;refine GY stepG_loop ?_;have hN6:=zS.size;refine nO (ws:=ws) (σ:=σ) (left:=turns) (last:=-1) (s:=0) (R:=R) (co:=ρ.come) (n:=ws.length) (q:=q) hcl hzi rfl (by rw [hqm];omega) (by rw [hqm];omega) ?_ (Kg u) ws σ turns (-1) 0 _ _ W6 _ _ _ _ _ _ _ _ _ (by rw [hqm];omega) rfl rfl hP (fun i c hc=>?_) (Nat.zero_le _) (by rw [hqm]) hSd
  . intro ws' σ' left' last' s' QX cut' W7 kF a12 gq a14 a15 a67 a68 a69 tm7 hs7 h7 hz0 hb;obtain ⟨z0,e0,e1,e2,e3,e4,e5,e6⟩:=hz0;rw [hqm] at e0;obtain rfl:z0=z:=e0.trans hz.symm;subst e2 e3 e4 e5 e6;refine J0.know (GR:=GR) fun hKn=>?_;show JL (S0 Try.prog Fin GR).L _ _ W7;have LW:ws'.length=ws.length:=by
      have:=congrArg List.length hb
      simpa using this
    have jX:∀ (j:Nat) (u:Ij (Wk G5 Cs)),ws'[j]?=some u->u.x.over=true/\u.x.out.length<=1000000:=fun j u hu=>hend u.x (by rw [← e1];exact List.mem_map.2 ⟨u,List.mem_of_getElem? hu,rfl⟩)
    have hC:=h7.gather (fun i v hv b hb=>(hKn.own i v hv b hb).2.2.2) jX;rw [rD];refine GY stepG_seq ?_;refine GY stepG_seq ?_;refine qV hs7 fun W8 tm8 hs8 hw8=>?_;refine GY stepG_block ?_;refine GY stepG_loop ?_;have hC8:=hC.alike hw8;refine bJ (ws:=ws') (n:=ws.length) LW.symm ?_ (ws.length) 0 [] (.slice none 0 0) _ _ W8 tm8 (by omega) (Nat.zero_le _) hC8 hs8;intro W9 vs av c14 c15 c67 c68 c69 tm9 hs9 h9;have hany:z0.rd.any id=false:=by
      rw [List.any_eq_false];intro x hx;obtain ⟨y,hy,rfl⟩:=List.mem_map.1 hx;rw [(hend y hy).1]
      simp
    rw [hany] at h9;have hz7:W.heap.size<=W7.heap.size:=by have l1:=hC.lay.h2;have l2:=hC.lay.h3;have l3:=hC.lay.h4;have l4:=hC.lay.h5;have l5:=hC.low.1;omega
    refine rE h9 hs9 fun W10 h10 Aez=>?_;have hbz:=h9.free q.bz (.inr (.inl rfl));have Al7:q.bz < W7.heap.size:=h9.ltN (.inr (.inl rfl));refine hK ws' W10 W7.heap.size vs av e1 (fun j u hu=>by rw [(h7.ov j u hu).1];exact (jX j u hu).1) hz7 ⟨?_,?_,fun j v u hv hu=>?_,⟨by rw [Aez];exact h9.low.2.1,fun j u hu=>(h9.low.2.2.2 j u hu).1⟩,h9.low.2.2.1⟩ fun g hg=>?_
    . exact m.eq _ W9 W10 (fun g hg=>.of (h10 g fun e=>hbz.2.2.2.1 (e ▸ hg))) h9.inv
    . rw [LW];exact KU h9.own fun g hg=>h10 g (by have:=Mk h9.own hg;omega)
    . obtain ⟨⟨Mt,c1,c2,c3⟩,c4⟩:=h9.cop j v u hv hu;refine ⟨⟨Mt,c1,KU c2 fun g hg=>h10 g (by have:=Mk c2 hg;omega),fun i a iv ha hi=>(c3 i a iv ha hi).TW fun g hg=>.of (h10 g fun e=>hbz.2.2.2.2 j u hu (e ▸ hg))⟩,c4⟩
    . refine ⟨?_,(h9.free g (.inr (.inr (.inr hg)))).2.2.2.2⟩;have:=h9.lay.h7 g hg;have:=h9.lay.h2;rw [h10 g (by omega)];exact h9.kept g hg
  . rw [List.getElem?_replicate] at hc;split at hc
    . cases hc;exact Nat.le_refl _
    . cases hc
end
end
end Go.Proofs.Ytkdhnbcdbnpmhaa
namespace Go.Proofs.Ytkdhnbcdbnpmhaa
open Go Go.Conc Go.LT Go.LC Go.LK Go.RowKit
open Go.ConcN (WgLive)
section
section
variable {X Sg:Type}
variable {Fin:Iw}{GR:Ig Try.prog Fin}
variable {W:World}{n:Nat}{K:List Item}{cs:List Frame}{ds:List Deferred}{M:Md X Sg}{ρ:Rn}{ws:List (Ij X)}
variable {v0 v1 v2 v3 v4 v5 v6 v7 v8 v9 Aa Ab Ac Ae Af Ah Ai Aj Ak Al Am Ao Ap Aq Ar Au Av Aw Ay Az AA AB AJ AL AO AP AQ AU AV AX AY AZ A8 A9 Ba Bb Bc Bf Bh Bj Bl Bp Bq:Value}{wa ta ya:Option Addr}{wn wc tn tc yc bp lg pn lc co:Nat}{u:Int}
theorem uK (hc:W.heap[bp]?=some (.cells #[.slice wa wn wc,.slice ta tn tc,.slice ya 0 yc,.int .i64 u] 59 (0,0)))(hcall:∀ GQ cf,GQ.heap=W.heap->(∀ (a1:Option Addr) (a2 a3:Nat) on st cv W2,(∀ Fu Fv Fw Fy W3,W3.heap=W2.heap.push (.cells #[.slice a1 a2 a3,.slice none 0 0,.int .i64 st,.bool cv] 63 (0,0))->JL (S0 (X:=X) (Sg:=Sg) Try.prog Fin GR).L (on) (G ((base 52).at ⟨#[v0,v1,.pointer (some ⟨bp,0,none⟩),v3,v4,v5,v6,.chan (some co),v8,v9,.slice (some ⟨lg,0,none⟩) pn lc,Ab,Ac,Ae,.pointer (some ⟨W2.heap.size,0,none⟩),Ah,Ai,Aj,Ak,Al,Am,Ao,Ap,Aq,Ar,Au,Av,Aw,Ay,Az,AA,AB,AJ,AL,AO,AP,AQ,AU,AV,AX,AY,AZ,A8,A9,Ba,Bb,Fu,Fv,Fw,Fy,Bl,Bp,Bq],ds⟩ K) cs) W3)->
        JW (S0 (X:=X) (Sg:=Sg) Try.prog Fin GR).base on (G (cf.finish (.agg #[.slice a1 a2 a3,.slice none 0 0,.int .i64 st,.bool cv])) cs) W2)->
      JW (S0 (X:=X) (Sg:=Sg) Try.prog Fin GR).base (.H7 M ρ ws 0 false n) (G (Frame.enter Try.prog 79 #[.agg #[.slice wa wn wc,.slice ta tn tc,.slice ya 0 yc,.int .i64 u],.slice (some ⟨lg,0,none⟩) pn lc,.chan (some co)] .normal) (cf :: cs)) GQ) :
    JL (S0 (X:=X) (Sg:=Sg) Try.prog Fin GR).L (.H7 M ρ ws 0 false n) (G ((base 52).at ⟨#[v0,v1,.pointer (some ⟨bp,0,none⟩),v3,v4,v5,v6,.chan (some co),v8,v9,.slice (some ⟨lg,0,none⟩) pn lc,Ab,Ac,Ae,Af,Ah,Ai,Aj,Ak,Al,Am,Ao,Ap,Aq,Ar,Au,Av,Aw,Ay,Az,AA,AB,AJ,AL,AO,AP,AQ,AU,AV,AX,AY,AZ,A8,A9,Ba,Bb,Bc,Bf,Bh,Bj,Bl,Bp,Bq],ds⟩ (.code uq :: K)) cs) W:=by
  dsimp only;simp only [uq,QO,Ur,Try.f52];refine Hu fun _ hkk=>?_;refine HY.Jm (S:=(S0 (X:=X) (Sg:=Sg) Try.prog Fin GR)) (b:=base 52) 0 3 [] (by simp) (by kernel_rfl) nE (rest:=[3,4,5]) rfl (by kernel_rfl) fun GQ ha=>?_;have hh:GQ.heap=W.heap:=by obtain ⟨τ,d,rfl⟩:=ha;rfl
  have c0:GQ.cell? ⟨bp,0,none⟩=some (.slice wa wn wc):=by simp [World.cell?,hh,hc]
  have c1:GQ.cell? ⟨bp,1,none⟩=some (.slice ta tn tc):=by simp [World.cell?,hh,hc]
  have c2:GQ.cell? ⟨bp,2,none⟩=some (.slice ya 0 yc):=by simp [World.cell?,hh,hc]
  have c3:GQ.cell? ⟨bp,3,none⟩=some (.int .i64 u):=by simp [World.cell?,hh,hc]
  have HH:=Lib.hid (And.intro hcall hh);clear hcall hh;dsimp only [List.drop,List.take];gi_wp2;refine ⟨rfl,?_⟩;obtain ⟨hcall,hh⟩:=HH.out;clear HH c0 c1 c2 c3 hc ha;show JL (S0 (X:=X) (Sg:=Sg) Try.prog Fin GR).L _ _ GQ;try dsimp only
  refine JL.enter rfl rfl nE rfl Try.func79 (by kernel_rfl) (by kernel_rfl) ?_;walk_nrm;refine hcall GQ _ hh fun a1 a2 a3 on st cv W2 hJ=>?_;rw [Frame.finish_at];walk_nrm;show JL (S0 (X:=X) (Sg:=Sg) Try.prog Fin GR).L on _ W2;refine HY.JR (S:=(S0 (X:=X) (Sg:=Sg) Try.prog Fin GR)) (b:=base 52) 4 [] (by simp) (by kernel_rfl) nE rfl (by kernel_rfl) fun Hl Ky=>?_;have hh3:Hl.heap=W2.heap:=by obtain ⟨τ,d,rfl⟩:=Ky;rfl
  have HH:=Lib.hid (And.intro hJ hh3);clear hJ hh3 hcall;dsimp only [List.drop];gi_wp2;refine ⟨rfl,?_⟩;obtain ⟨hJ,hh3⟩:=HH.out;clear HH;show JL (S0 (X:=X) (Sg:=Sg) Try.prog Fin GR).L on _ _;try dsimp only
  cases hkk;refine GY stepG_region_end ?_;rw [← hh3] at hJ;exact hJ _ _ _ _ _ rfl
theorem rH {b14 br:Nat}{a1:Option Addr}{a2 a3 st:Nat}{cv:Bool}{γ:G0 X Sg}{cf:Frame}(pO:W.heap[b14]?=some (.cells #[.slice a1 a2 a3,.slice none 0 0,.int .i64 st,.bool cv] 63 (0,0)))(h4:W.heap[br]?=some (.cells #[.slice none 0 0,.slice none 0 0,.int .i64 0,.bool false] 63 (0,0)))(hK:∀ W',(∀ g,g≠br->W'.heap[g]?=W.heap[g]?)->W'.heap.size=W.heap.size->JW (S0 (X:=X) (Sg:=Sg) Try.prog Fin GR).base γ (G (cf.finish (.tuple #[.agg #[.slice a1 a2 a3,.slice none 0 0,.int .i64 st,.bool cv],.int .i64 0])) cs) W') :
    JL (S0 (X:=X) (Sg:=Sg) Try.prog Fin GR).L γ (G ((base 52).at ⟨#[v0,v1,v2,v3,.pointer (some ⟨br,0,none⟩),v5,v6,v7,v8,v9,Aa,Ab,Ac,Ae,.pointer (some ⟨b14,0,none⟩),Ah,Ai,Aj,Ak,Al,Am,Ao,Ap,Aq,Ar,Au,Av,Aw,Ay,Az,AA,AB,AJ,AL,AO,AP,AQ,AU,AV,AX,AY,AZ,A8,A9,Ba,Bb,Bc,Bf,Bh,Bj,Bl,Bp,Bq],[]⟩ [.code jL]) (cf :: cs)) W:=by
  refine HY.Ht (S:=(S0 (X:=X) (Sg:=Sg) Try.prog Fin GR)) (b:=base 52) [] (by simp) (by kernel_rfl) nE (by kernel_rfl) fun GQ ha=>?_;have hh:GQ.heap=W.heap:=by obtain ⟨τ,d,rfl⟩:=ha;rfl
  rw [← hh] at pO h4;have c0:GQ.cell? ⟨b14,0,none⟩=some (.slice a1 a2 a3):=by simp [World.cell?,pO]
  have c1:GQ.cell? ⟨b14,1,none⟩=some (.slice none 0 0):=by simp [World.cell?,pO]
  have c2:GQ.cell? ⟨b14,2,none⟩=some (.int .i64 st):=by simp [World.cell?,pO]
  have c3:GQ.cell? ⟨b14,3,none⟩=some (.bool cv):=by simp [World.cell?,pO]
  have d0:GQ.cell? ⟨br,0,none⟩=some (.slice none 0 0):=by simp [World.cell?,h4]
  have d1:GQ.cell? ⟨br,1,none⟩=some (.slice none 0 0):=by simp [World.cell?,h4]
  have d2:GQ.cell? ⟨br,2,none⟩=some (.int .i64 0):=by simp [World.cell?,h4]
  have d3:GQ.cell? ⟨br,3,none⟩=some (.bool false):=by simp [World.cell?,h4]
  have f0:∀ o,GQ.frozen? ⟨br,o,none⟩=false:=fun o=>by simp [World.frozen?,h4]
  have f0':=f0 0;have f1':=f0 1;have f2':=f0 2;have f3':=f0 3;have HH:=Lib.hid (And.intro hK (And.intro hh h4));clear hK hh h4 pO;dsimp only;simp only [jL,QO,Ur,Try.f52];gi_wp2;obtain ⟨hK,hh,h4⟩:=HH.out;clear HH;intro Y;generalize hW':World.setCell _ _ _=W';have hoth:∀ g,g≠br->W'.heap[g]?=W.heap[g]?:=fun g hg=>by rw [← hW',← hh];simp [World.setCell,Array.getElem?_modify,Ne.symm hg]
  have hrow:W'.heap[br]?=some (.cells #[.slice a1 a2 a3,.slice none 0 0,.int .i64 st,.bool cv] 63 (0,0)):=by rw [← hW'];simp [World.setCell,Array.getElem?_modify,h4]
  have hsz:W'.heap.size=W.heap.size:=by rw [← hW',← hh];simp [World.setCell]
  clear hW';refine JW.returns (S:=(S0 (X:=X) (Sg:=Sg) Try.prog Fin GR)) Try.func52 (v:=.tuple #[.agg #[.slice a1 a2 a3,.slice none 0 0,.int .i64 st,.bool cv],.int .i64 0]) (fun Jj ha2=>?_) (hK W' hoth hsz);have PS:Jj.heap=W'.heap:=by obtain ⟨τ,d,rfl⟩:=ha2;rfl
  have g0:Jj.cell? ⟨br,0,none⟩=some (.slice a1 a2 a3):=by simp [World.cell?,PS,hrow]
  have g1:Jj.cell? ⟨br,1,none⟩=some (.slice none 0 0):=by simp [World.cell?,PS,hrow]
  have g2:Jj.cell? ⟨br,2,none⟩=some (.int .i64 st):=by simp [World.cell?,PS,hrow]
  have g3:Jj.cell? ⟨br,3,none⟩=some (.bool cv):=by simp [World.cell?,PS,hrow]
  clear PS hrow hoth hsz hh h4 hK c0 c1 c2 c3 d0 d1 d2 d3 f0 f0' f1' f2' f3';simp [results,Try.results52,go_sem,Frame.at, *]
end
end
end Go.Proofs.Ytkdhnbcdbnpmhaa
namespace Go.LK
open Go Go.Conc Go.LT Go.LC
section
variable {X Sg:Type}{P:Program}{Fin:Iw}{GR:Ig P Fin}
variable {M:Md X Sg}{ρ:Rn}{ws:List (Ij X)}{W:World}{ex n:Nat}{df:Bool}{g:Goroutine}
theorem J0.apart (hcl:¬ ρ.Uh)(h:(∀ (i:Nat) (v:Ij X),ws[i]?=some v->∀ b,v.own b->b≠ρ.gone)->JW (S0 P Fin GR).base (.H7 M ρ ws ex df n) g W):JW (S0 P Fin GR).base (.H7 M ρ ws ex df n) g W:=by intro w hw gs T sl role bd live hg hn C H hL hdf LW;refine h (fun i v hv b hb e=>?_) w hw gs T sl role bd live hg hn C H hL hdf LW;obtain ⟨_,_,_,c,e',f,hc⟩:=C.own i v hv b hb;obtain ⟨k,hk⟩:=C.gone hcl;rw [e,hk] at hc;cases hc
end
end Go.LK
namespace Go.Proofs.Ytkdhnbcdbnpmhaa
open Go Go.Conc Go.LT Go.LC Go.LK Go.RowKit
open Go.ConcN (WgLive)
open BA TU
structure Ran {Cs Sg:Type}(N1:Nat)(z:Rs G5 Cs Sg)(av:Value)(W:World):Prop where
  ex:∃ vs:List Value,IE W N1 1 av z.xs.length vs/\∀ (j:Nat) (v:Value) (x:Wk G5 Cs),vs[j]?=some v->z.xs[j]?=some x->
    (∃ Mt:List Value,Mt.length=x.out.length/\IE W N1 9 v x.out.length (List.zipWith IY x.out Mt).flatten/\∀ (i:Nat) (a:QI) (iv:Value),x.out[i]?=some a->Mt[i]?=some iv->Jg W (fun _=>True) iv a.a.ints)/\v.oneCell'=true/\∀ g,v.ownBlock=some g->av.ownBlock≠some g
theorem mY {Cs Sg:Type}{ws:List (Ij (Wk G5 Cs))}{plans:List (List G5)}(hl:ws.length=plans.length)(h:∀ (j:Nat) (u:Ij (Wk G5 Cs)),ws[j]?=some u->∃ pl,plans[j]?=some pl/\u.x=Wk.new j pl):ws.map (·.x)=plans.zipIdx.map fun p=>Wk.new p.2 p.1:=by
  refine List.ext_getElem? fun j=>?_;rw [List.getElem?_map,List.getElem?_map,List.getElem?_zipIdx];cases hj:ws[j]? with
  | none=>
    have:plans[j]?=none:=by rw [List.getElem?_eq_none_iff] at hj ⊢;omega
    rw [this];rfl
  | some u=>
    obtain ⟨pl,h1,h2⟩:=h j u hj;rw [h1];simp [h2]
section
variable {Cs Sg:Type}{D:Dr G5 Cs Sg}{m:Mem Sg}
variable {Fin:Iw}{GR:Ig Try.prog Fin}
variable {B:Nat->Bool}{W:World}{n:Nat}{c:Frame}{cs:List Frame}{σ:Sg}
theorem iw {plans:List (List G5)}{turns:List Int}{pg po JG:Nat}{Mh:List Value}{Ry:FuncId}{recv:Value}{dt:TypeId}{dw:Value}{ta ya:Option Addr}{tn tc yc:Nat}{u:Int}{Kp:Nat->Prop}(hD:∀ bd ρ b k,RD (MP D (Ue m bd (.iface dt dw)) ρ b k) (.iface dt dw) Ry recv)(hP:Oa m pg po Mh plans)(h64:∀ pl∈plans,pl.length<=64)(h0:0 < plans.length)(h8:plans.length<=8)(hu:0<=u)(hu2:u<=20000)(NT:Reads W (.slice ta tn tc) (turns.map (Value.int .i64)))(hlen:turns.length<=1000000)(hcap:n+8 < 1000000)(hI:m.Inv σ W)(hB:∀ g,B g=true->g < W.heap.size)(hSB:∀ g,m.Sh g->B g=false)(r9:∀ g,(Value.slice ta tn tc).ownBlock=some g->Kp g)(Kr:∀ g,Kp g->(∃ c e f,W.heap[g]?=some (.cells c e f))/\B g=false/\¬ m.Sh g)(z:Rs G5 Cs Sg)(hz:z=Rs.go D (Kg u) (Kg u) (Rs.new plans σ turns))(hend:∀ x∈z.xs,x.over=true/\x.out.length<=1000000)(hK:∀ B' W' N1 a1 a2 a3,(∀ g,B' g=true->B g=true\/(W.heap.size<=g/\g < N1))->W.heap.size<=N1->N1<=W'.heap.size->m.Inv z.σ W'->Ran N1 z (.slice a1 a2 a3) W'->(∀ g,Kp g->W'.heap[g]?=W.heap[g]?)->
      JW (S0 (X:=Wk G5 Cs) (Sg:=Sg) Try.prog Fin GR).base (.Ii B' (n+plans.length)) (G (c.finish (.tuple #[.agg #[.slice a1 a2 a3,.slice none 0 0,.int .i64 z.s,.bool false],.int .i64 0])) cs) W') :
    JW (S0 (X:=Wk G5 Cs) (Sg:=Sg) Try.prog Fin GR).base (.Ii B n) (G (Frame.enter Try.prog 52 #[.agg #[.slice (some ⟨pg,po,none⟩) Mh.length JG,.slice ta tn tc,.slice ya 0 yc,.int .i64 u],.iface dt dw] .normal) (c :: cs)) W:=by
  have hlenp:=hP.len;have Yi:∀ g,m.Sh g->g < W.heap.size:=fun g hg=>by obtain ⟨c,e,f,hc⟩:=m.rows σ W g hg hI;exact (Array.getElem?_eq_some_iff.1 hc).1
  have hkl:∀ g,Kp g->g < W.heap.size:=fun g hg=>by obtain ⟨⟨c,e,f,hc⟩,_⟩:=Kr g hg;exact (Array.getElem?_eq_some_iff.1 hc).1
  refine eB (u:=u) (fun i hi=>?_) (by omega) (by omega) hu hu2 fun W1 WX Afr hW1 hz1 q0 q1 q2=>?_
  . obtain ⟨cv,hcv⟩:∃ cv,Mh[i]?=some cv:=⟨_,List.getElem?_eq_getElem hi⟩
    obtain ⟨pl,hpl⟩:∃ pl,plans[i]?=some pl:=⟨_,List.getElem?_eq_getElem (by omega)⟩
    obtain ⟨p,cap,e,_⟩:=hP.calls i cv pl hcv hpl σ W hI;have:=hP.cell σ W hI i cv hcv;rw [e] at this;exact ⟨p,pl.length,cap,h64 pl (List.mem_of_getElem? hpl),this⟩
  . subst Afr;obtain ⟨bp,hbp⟩:∃ bp,bp=W.heap.size:=⟨_,rfl⟩
    obtain ⟨bd,hbd⟩:∃ bd,bd=W.heap.size+1:=⟨_,rfl⟩
    obtain ⟨br,hbr⟩:∃ br,br=W.heap.size+2:=⟨_,rfl⟩
    rw [← hbp] at q0;rw [← hbd] at q1;rw [← hbr] at q2;have hI1:(Ue m bd (.iface dt dw)).Inv σ W1:=⟨m.eq σ W W1 (fun g hg=>.of (hW1 g (Yi g hg))) hI,q1⟩
    have hrow:∀ g,(g=bp\/g=br\/Kp g)->(∃ c e f,W1.heap[g]?=some (.cells c e f)):=fun g hg=>by
      rcases hg with rfl|rfl|hg
      . exact ⟨_,_,_,q0⟩
      . exact ⟨_,_,_,q2⟩
      . rw [hW1 g (hkl g hg)];exact (Kr g hg).1
    have WV:∀ g,W.heap.size<=g->B g=false:=fun g hg=>by
      cases hb:B g with
      | false=>rfl
      | true=>have:=hB g hb;omega
    refine oJ (D:=D) (m:=Ue m bd (.iface dt dw)) (dv:=.iface dt dw) (bp:=bp) (bd:=bd) (br:=br) (R:=20000) (plans:=plans) (Mh:=Mh) (pg:=pg) (po:=po) (JG:=JG) (σ:=σ) (Kp:=fun g=>g=bp\/g=br\/Kp g)
      (hD bd) ⟨_,_,rfl⟩ (fun σ W h=>iB h) (by decide) (by omega) (ZW hP) hI1 (fun g hg=>by have:=hB g hg;omega) (fun g hg=>?_) (fun g hg=>⟨hrow g hg,?_,?_⟩) (by rw [← hlenp];simp [World.cell?,q0]) (by rw [hbp]) (by rw [hbd]) (by rw [hbr]) ?_
    . rcases hg with hg | rfl
      . exact hSB g hg
      . exact WV _ (by omega)
    . rcases hg with rfl | rfl | hg
      . exact WV _ (by omega)
      . exact WV _ (by omega)
      . exact (Kr g hg).2.1
    . rintro (hs | hs)
      . rcases hg with rfl | rfl | hg
        . have:=Yi _ hs;omega
        . have:=Yi _ hs;omega
        . exact (Kr g hg).2.2 hs
      . rcases hg with rfl | rfl | hg
        . omega
        . omega
        . have:=hkl g hg;omega
    . intro ρ ws lv W2 a12 gq a26 wF r1 r2 r3 r4 r5 r6 r7 r8 hs2 hH hwl;have hlv:∃ lg lc,lv=.slice (some ⟨lg,0,none⟩) ws.length lc:=by
        obtain ⟨te,hl,⟨_,h⟩|⟨g,cap,cur,rfl,_⟩⟩:=hH.VT
        . omega
        . exact ⟨_,_,rfl⟩
      obtain ⟨lg,lc,rfl⟩:=hlv;obtain ⟨v0,v1,v5,v6,Ab,Af,Ah,Ai,Aj,Ak,Al,Am,Ao,Ap,Aq,Aw,Ay,Az,AA,AB,AJ,AL,AO,AP,AQ,AU,AV,AX,AY,AZ,A8,A9,Ba,Bb,Bc,Bf,Bh,Bj,Bl,Bp,Bq,rfl⟩:=hs2;have kp:=fun g hg=>hH.kp g hg;have hqb:W2.heap[bp]?=some (.cells #[.slice (some ⟨pg,po,none⟩) Mh.length JG,.slice ta tn tc,.slice ya 0 yc,.int .i64 u] 59 (0,0)):=(kp bp (.inl rfl)).1.trans q0;have Aax:=OV hH.VT (g:=lg) rfl;have Aeh:=hH.dh lg rfl;have Akw:lg < W2.heap.size:=by obtain ⟨c,e,f,hc⟩:=Aax;exact (Array.getElem?_eq_some_iff.1 hc).1
      have Y7:=hH.gone;rw [mO];refine GY stepG_seq ?_;refine uK (wa:=some ⟨pg,po,none⟩) (wn:=Mh.length) (wc:=JG) (bp:=bp) (lg:=lg) (pn:=ws.length) (lc:=lc) (co:=ρ.come) hqb fun W3 cf hW3 hback=>?_;have hc3:∀ a,W3.cell? a=W2.cell? a:=fun a=>by simp only [World.cell?,hW3]
      refine Yb (D:=D) (m:=Ue m bd (.iface dt dw)) (Kp:=fun g=>g=bp\/g=br\/Kp g) (W0:=W1) (R:=20000) (σ:=σ) (turns:=turns) r5 r2 ((Ue m bd (.iface dt dw)).eq σ W2 W3 (fun g _=>.of (by rw [hW3])) hH.inv) (fun i b hb=>?_) (fun g hg=>?_) (fun g hg=>by rw [hW3];exact (kp g hg).1) (by rw [hW3];exact hH.wg) (fun g hg=>by rw [hW3];exact hH.bo g hg)
        (fun j w hw g hg=>by rw [hW3];exact ((hH.lt j w hw).2 g hg).1) (fun j w hw=>?_) (fun j w hw=>?_) (by omega) ?_ hlen hu hu2 (by decide) z ?_ hend ?_
      . rw [hc3,List.getElem?_map] at *;obtain ⟨w,hw,rfl⟩:=Option.map_eq_some_iff.1 hb;obtain ⟨te,hl⟩:=hH.VT;have:=World.ownsRow.cells (h:=hl) rfl i (.pointer (some ⟨w.b,0,none⟩)) (by rw [List.getElem?_map,hw];rfl);rw [Addr.add_lit,Nat.zero_add] at this;exact this
      . rw [hW3];rcases hg with rfl|hg
        . exact ⟨Aax,Aeh⟩
        . obtain ⟨k1,k2,k3,k4,k5,k6,k7⟩:=kp g hg;exact ⟨by rw [k1];exact k2,k3,k4,k5,k7⟩
      . obtain ⟨pl,x1,x2,x3,x4,x5⟩:=hH.xs j w hw;rw [x2];exact ⟨x3,.new j pl⟩
      . obtain ⟨pl,x1,x2,x3,x4,x5⟩:=hH.xs j w hw;omega
      . refine (NT.same (w':=W3) fun k hk hkl'=>?_);rw [hW3,(kp k (.inr (.inr (r9 k hk)))).1,hW1 k hkl']
      . rw [hz];unfold Rs.new;rw [mY (Sg:=Sg) hwl fun j w hw=>by obtain ⟨pl,x1,x2,_⟩:=hH.xs j w hw;exact ⟨pl,x1,x2⟩]
      . intro ws' W4 N1 vs av e1 hov hN1 hres hkp;obtain ⟨a1,a2,a3,rfl⟩:=ML hres.own;refine hback a1 a2 a3 (.H7 (H9 D (Ue m bd (.iface dt dw))) ρ ws' 0 false (n+plans.length)) z.s false W4 fun Fu Fv Fw Fy W5 Yz=>?_;refine J0.know (GR:=GR) fun hKn=>?_;refine J0.apart (GR:=GR) r5 fun hap=>?_;show JL (S0 (X:=Wk G5 Cs) (Sg:=Sg) Try.prog Fin GR).L _ _ W5;have hz5:W5.heap.size=W4.heap.size+1:=by rw [Yz];simp
        have h5:∀ g,g < W4.heap.size->W5.heap[g]?=W4.heap[g]?:=fun g hg=>by rw [Yz,Array.getElem?_push,if_neg (by omega)]
        have h5n:W5.heap[W4.heap.size]?=some (.cells #[.slice a1 a2 a3,.slice none 0 0,.int .i64 z.s,.bool false] 63 (0,0)):=by rw [Yz,Array.getElem?_push,if_pos rfl]
        clear Yz;rw [hW3] at hN1;have hlow:=hres.low;have hgl:ρ.gone < N1:=by omega
        have hno:∀ g,N1<=g->ownB ws' g=false:=fun g hg=>MO fun i v hv ho=>by have:=hlow.2 i v hv g ho;omega
        have Ajc:ownB ws' br=false:=MO fun i v hv ho=>(hkp br (.inr (.inl rfl))).2 i v hv ho;refine jw hov r5 fun W6 Fz FB hb6 hc6 hs6=>?_;have h46:∀ g,N1<=g->g < W4.heap.size->W6.heap[g]?=W4.heap[g]?:=fun g h1 h2=>(hb6 g (by omega) (hno g h1)).trans (h5 g h2);have Abb:∀ g,g=bp\/g=br\/Kp g->W6.heap[g]?=W1.heap[g]?:=fun g hg=>by
          have hlt:g < W1.heap.size:=by obtain ⟨c,e,f,hc⟩:=hrow g hg;exact (Array.getElem?_eq_some_iff.1 hc).1
          have h1:=hkp g hg;rw [hb6 g (by omega) (MO fun i v hv ho=>h1.2 i v hv ho),h5 g ?_,h1.1];obtain ⟨c,e,f,hc⟩:=hrow g hg;rw [← h1.1] at hc;exact (Array.getElem?_eq_some_iff.1 hc).1
        refine rH (b14:=W4.heap.size) (br:=br) (a1:=a1) (a2:=a2) (a3:=a3) (st:=z.s) (cv:=false) ((hb6 _ (by omega) (hno _ hlow.1)).trans h5n) ((Abb br (.inr (.inl rfl))).trans q2) fun W7 h7 hs7=>?_;have hWN:W.heap.size<=N1:=by have:=hH.wg;omega
        have Akb:br < N1:=by omega
        refine hK (fun b=>ρ.Bo b || b == ρ.Wg) W7 N1 a1 a2 a3 (fun g hg=>?_) hWN (by omega) ?_ ⟨vs,?_,fun j v x hv hx=>?_⟩ (fun g hg=>?_)
        . simp only [Bool.or_eq_true,beq_iff_eq] at hg;rcases hg with hg|rfl
          . rw [r6] at hg;exact .inl hg
          . have:=hH.wg;exact .inr ⟨by omega,by omega⟩
        . refine m.eq z.σ W4 W7 (fun g hg=>.of ?_) hres.inv.1;have hl:=Yi g hg;rw [h7 g (by omega),hb6 g (by omega) (MO fun i v hv ho=>(hKn.own i v hv g ho).1 (.inl hg)),h5 g (by omega)]
        . have qN:ws'.length=z.xs.length:=by rw [← e1];simp
          rw [← qN];exact KU hres.own fun g hg=>by have:=Mk hres.own hg;rw [h7 g (by omega),h46 g this.1 this.2]
        . rw [← e1,List.getElem?_map] at hx;obtain ⟨w,hw,rfl⟩:=Option.map_eq_some_iff.1 hx;obtain ⟨⟨Mt,c1,c2,c3⟩,c4⟩:=hres.cop j v w hv hw;refine ⟨⟨Mt,c1,KU c2 fun g hg=>?_,fun i a iv ha hi=>?_⟩,c4⟩
          . have:=Mk c2 hg;rw [h7 g (by omega),h46 g this.1 this.2]
          . rcases c3 i a iv ha hi with h | ⟨h0,g,cap,i1,i2,i3,i4,i5⟩
            . exact .inl h
            . refine .inr ⟨h0,g,cap,i1,trivial,i3,i4,fun k y hy=>?_⟩;have hgN:=hlow.2 j w hw g i2;rw [cell_of (w:=W6) (a:=⟨g,k,none⟩) (h7 g fun e=>(hkp br (.inr (.inl rfl))).2 j w hw (e ▸ i2)),hc6 ⟨g,k,none⟩ (hap j w hw g i2),cell_of (w:=W4) (a:=⟨g,k,none⟩) (h5 g (by omega))];exact i5 k y hy
        . have hl:=hkl g hg;rw [h7 g (by omega),Abb g (.inr (.inr hg)),hW1 g hl]
end
end Go.Proofs.Ytkdhnbcdbnpmhaa
namespace Go.Proofs.Ytkdhnbcdbnpmhaa
open Go Go.Conc Go.LT Go.LC Go.LK
section
section
variable {Cl Cs Sg:Type}
def IL (D:Dr Cl Cs Sg):Nat->Cs->Sg->Option (Sg × (An × Bool))
  | 0,_,_=>none
  | f+1,cs,σ=>
    match D.next 0 cs σ with
    | (σ',.inr e)=>some (σ',e)
    | (σ',.inl cs')=>IL D f cs' σ'
def iP (D:Dr Cl Cs Sg)(f:Nat)(c:Cl)(σ:Sg):Option (Sg × (An × Bool)):=
  match D.init 0 c σ with
  | .inl cs=>IL D f cs σ
  | .inr e=>some (σ,e)
structure Lst (Sg:Type) where
  own:Nat->Prop
  f:Nat
  res:Sg × (An × Bool)
variable {X Sg':Type}{Fin:Iw}{GR:Ig Try.prog Fin}
theorem step_nil {S:HY Try.prog true (G0 X Sg')}{γ:G0 X Sg'}{c:Frame}{k:List Frame}{W:World}(hJ:JW S.base γ (G (c.finish (.tuple #[])) k) W) :
    JW S.base γ (G (Frame.enter Try.prog 63 #[.pointer none] .normal) (c :: k)) W:=by
  have ht:#[.pointer none] ++ Array.replicate (Try.f63.ntmps - (#[.pointer none]:Array Value).size) undef=(#[.pointer none] ++ Array.replicate (Try.f63.ntmps - 1) undef):=rfl;have hn:Try.f63.ntmps=30:=by kernel_rfl
  rw [enter_at (c:=(Try.f63.body).get rfl) _ Try.func63 rfl,ht,hn];walk_nrm;show JL S.L γ _ W;refine HY.Ht (S:=S) (b:=base 63) [] (by simp) (by kernel_rfl) nE (by kernel_rfl) fun GQ ha=>?_;have hend:=JW.tape (S:=S.base) hJ ha;have HH:=Lib.hid hend;clear hJ hend;simp only [Try.f63,Option.get_some];gi_wp2;intro Y;exact JL.back rfl Try.func63 (v:=.tuple #[]) (fun w=>by kernel_rfl) HH.out
variable (D:Dr Cl Cs Sg)(m:Mem Sg)(γ:G0 X Sg')
structure LAt (s:Lst Sg)(σ:Sg)(W:World):Prop where
  inv:m.Inv σ W
  own:∀ b,s.own b->¬ m.Sh b/\∃ c e f,W.heap[b]?=some (.cells c e f)
def Mr (S:HY Try.prog true (G0 X Sg')):Js S D m 63 where
  St:=Lst Sg
  γ:=fun _=>γ
  wv:=.pointer none
  num:=0
  At:=LAt m
  core:=fun _ _=>False
  own:=fun s=>s.own
  kept:=fun s=>s.own
  n0:=fun _=>0
  fuel:=fun s=>s.f
  Le:=fun s s'=>s'.res=s.res
  R4:=fun s σ c=>iP D s.f c σ=some s.res
  Step:=fun s σ cs=>IL D s.f cs σ=some s.res
  gF:=fun s r=>(match r with | (σ,.inl cs)=>IL D s.f cs σ | (σ,.inr e)=>some (σ,e))=some s.res
  End:=fun s σ e=>(σ,e)=s.res
  Leaves:=fun _ _=>True
  add:=fun s N=>{ s with own:=fun g=>s.own g\/g=N }
  refl:=fun _=>rfl
  trans:=fun _ _ _ h k=>k.trans h
  Vm:=fun {s σ c cs} h hi=>by unfold iP at h;rw [hi] at h;exact h
  ends:=fun {s σ c e} h hi=>by unfold iP at h;rw [hi] at h;exact Option.some.inj h
  more:=fun h=>h
  done:=fun h=>Option.some.inj h
  inv:=fun h=>h.inv
  size:=fun _=>Nat.zero_le _
  row:=fun h hb=>h.own _ hb
  Pq:=fun _ h=>h.elim
  JX:=fun _ h=>h
  put:=fun hA hI _ ho _=>⟨hI,fun b hb=>⟨(hA.own b hb).1,ho b hb⟩⟩
  YW:=fun {s σ W N} hA _ h2 h3=>⟨⟨hA.inv,fun b hb=>hb.elim (hA.own b) fun e=>by rw [e];exact ⟨h2,h3⟩⟩,rfl,rfl,rfl,fun _=>.rfl,fun _=>.rfl,fun _=>.rfl⟩
  Yw:=fun h=>h
  VL:=fun h=>h
  Yo:=fun h=>h
  XR:=fun h=>h
  pop:=fun _ _=>trivial
  step:=fun {s σ W cs c k} hA hS _ hJ=>by
    cases hf:s.f with
    | zero=>rw [hf] at hS;cases hS
    | succ f=>
      refine step_nil (hJ { s with f:=f } σ W ⟨hA.inv,hA.own⟩ rfl rfl rfl rfl (fun _ _=>rfl) (Nat.le_refl _) (by show f < s.f;omega) ?_);rw [hf] at hS;simp only [IL] at hS;show (match D.next 0 cs σ with | (σ,.inl cs)=>IL D f cs σ | (σ,.inr e)=>some (σ,e))=some s.res;rw [← hS];cases hn:D.next 0 cs σ with
      | mk σ' r=>cases r <;> rfl
end
end
end Go.Proofs.Ytkdhnbcdbnpmhaa
namespace Go.Proofs.Ytkdhnbcdbnpmhaa
open Go Go.Conc Go.LT Go.LC Go.LK Go.RowKit
open BA TU
section
def KO (ct cb n:Nat)(Fx:Nat->Prop)(W0:World)(ZH:∀ g,Fx g->∃ c e f,W0.heap[g]?=some (.cells c e f)):Mem (List Int) where
  Sh g:=g=ct\/g=cb\/Fx g
  Inv σ W:=σ.length=n/\W.heap[ct]?=some (.cells #[.slice (some ⟨cb,0,none⟩) n n] 71 (0,0))/\W.heap[cb]?=some (.cells (σ.map (Value.int .i64)).toArray 80 (0,0))/\∀ g,Fx g->W.heap[g]?=W0.heap[g]?
  rows:=fun σ W g hg h=>by
    rcases hg with rfl|rfl|hg
    . exact ⟨_,_,_,h.2.1⟩
    . exact ⟨_,_,_,h.2.2.1⟩
    . rw [h.2.2.2 g hg];exact ZH g hg
  eq:=fun σ W W' he h=>⟨h.1,(he ct (.inl rfl)).cells h.2.1,(he cb (.inr (.inl rfl))).cells h.2.2.1,fun g hg=>by obtain ⟨c,e,f,hc⟩:=ZH g hg;rw [hc];exact (he g (.inr (.inr hg))).cells ((h.2.2.2 g hg).trans hc)⟩
section
variable {ct cb n:Nat}{Fx:Nat->Prop}{W0:World}{ZH:∀ g,Fx g->∃ c e f,W0.heap[g]?=some (.cells c e f)}
theorem Qa (hn:n<=256)(h1:ct≠cb)(h2:∀ g,Fx g->g≠cb):Ir (KO ct cb n Fx W0 ZH) ct cb n where
  len:=hn
  sh:=.inr (.inl rfl)
  get:=fun σ W h=>⟨h.1,by simp [World.cell?,h.2.1],_,h.2.2.1⟩
  set:=fun σ W i v h hi=>by
    have ho:∀ g,g≠cb->(W.setCell ⟨cb,i,none⟩ (.int .i64 v)).heap[g]?=W.heap[g]?:=fun g hg=>by simp [World.setCell,Array.getElem?_modify,Ne.symm hg]
    refine ⟨by simp [h.1],by rw [ho ct h1];exact h.2.1,?_,fun g hg=>by rw [ho g (h2 g hg)];exact h.2.2.2 g hg⟩;have:=h.2.2.1;simp [World.setCell,Array.getElem?_modify,this]
theorem WK {m:Mem (List Int)}{bd:Nat}{t:TypeId}{v:Value}(h:Ir m ct cb n)(hn:0 < n):Ir (Ue m bd (.iface t v)) ct cb n where
  len:=h.len
  sh:=.inl h.sh
  get:=fun σ W hI=>h.get σ W hI.1
  set:=fun σ W i x hI hi=>by
    refine ⟨h.set σ W i x hI.1 hi,?_⟩;have hne:bd≠cb:=fun e=>by
      obtain ⟨h1,_,ty,h2⟩:=h.get σ W hI.1;have h3:=hI.2;rw [e,h2] at h3;cases σ with
      | nil=>simp at h1;omega
      | cons y l=>simp at h3
    have:=hI.2;simp [World.setCell,Array.getElem?_modify,hne.symm,this]
theorem aD {main:Bool}{Γ:Type}{S:HY Try.prog main Γ}{m:Mem (List Int)}(I:Js S He m 63)(hm:Ir m ct cb n):RD I (.iface 24 (.pointer (some ⟨ct,0,none⟩))) 138 (.pointer (some ⟨ct,0,none⟩)) where
  Aaa:=fun wv cv w es=>by kernel_rfl
  doj:=fun hA hS hL hJ=>lq I hm hA hS hL fun s' σ' W' e h1 h2 h3 h4=>hJ s' σ' W' e _ h1 h2 h3 (.inl ⟨h4,rfl⟩)
end
end
section
theorem aF:(Try.prog.info? 80).map (fun i=>(i.zero,i.size,i.bytes))=some (some (.agg #[.int .i64 0]),1,8):=by kernel_rfl
theorem QW (v:Value)(n:Nat):madeCells #[v] n=(List.replicate n v).toArray:=by refine Array.ext (by simp [size_madeCells]) fun i h1 h2=>?_;simp [madeCells,Nat.mod_one]
section
variable {main:Bool}{Γ:Type}{S:HY Try.prog main Γ}{γ:Γ}{W:World}{cf:Frame}{cs:List Frame}
theorem Od {n:Nat}(h1:1<=n)(h2:n<=256)(hJ:∀ W',W'.heap=(W.heap.push (.cells (List.replicate n (Value.int .i64 0)).toArray 80 (0,0))).push (.cells #[.slice (some ⟨W.heap.size,0,none⟩) n n] 71 (0,0))->JW S.base γ (G (cf.finish (.tuple #[.pointer (some ⟨W.heap.size+1,0,none⟩),.int .i64 0])) cs) W') :
    JW S.base γ (G (Frame.enter Try.prog 6 #[.int .i64 n] .normal) (cf :: cs)) W:=by
  have ht:#[.int .i64 n] ++ Array.replicate (Try.f6.ntmps - (#[.int .i64 n]:Array Value).size) undef=#[.int .i64 n,undef,undef,undef,undef,undef,undef,undef,undef,undef,undef,undef,undef,undef]:=by
    have:Try.f6.ntmps=14:=by kernel_rfl
    rw [this];walk_nrm
  rw [enter_at (c:=(Try.f6.body).get rfl) _ Try.func6 rfl,ht];obtain ⟨i0,hi,hz0,hz1,hz2⟩:=info_parts aF;have hmk:∀ wx:World,(Instr.makeSlice 69 (.int .i64 n) (.int .i64 n)).run Try.prog wx=.ok (.slice (some ⟨wx.heap.size,0,none⟩) n n) (wx.alloc (.cells (madeCells #[.int .i64 0] n) 80)):=fun wx=>by
    have:=run_makeSlice (P:=Try.prog) (w:=wx) 69 80 i0 (.agg #[.int .i64 0]) Try.underlying69 hi hz0 .i64 .i64 n n (by omega) (Int.le_refl _) (by rw [hz1];simp;omega) (by rw [hz2];omega) (by omega);rw [hz1,show (Value.agg #[.int .i64 0]).cells=#[.int .i64 0] from rfl] at this
    simpa using this
  show JL S.L γ _ W;refine HY.Ht (S:=S) (b:=base 6) [] (by simp) (by kernel_rfl) nE (by kernel_rfl) fun GQ ha=>?_;have hh:GQ.heap=W.heap:=by obtain ⟨τ,d,rfl⟩:=ha;rfl
  have g1:decide ((n:Int) < 1)=false:=by simp;omega
  have g2:decide (256 < (n:Int))=false:=by simp;omega
  have HH:=Lib.hid (And.intro hJ hh);clear hJ hh;simp only [Try.f6,Option.get_some];gi_wp2;intro Y;obtain ⟨hJ,hh⟩:=HH.out;clear HH;rw [← hh] at hJ;exact JL.back rfl Try.func6 (v:=.tuple #[.pointer (some ⟨GQ.heap.size+1,0,none⟩),.int .i64 0]) (fun w=>by kernel_rfl) (hJ _ (by rw [← QW];rfl))
end
theorem Po {h:FuncId}(k1:@JE (Host.only h) Try.prog ((Try.f9.body).get rfl)=true)(k2:@JE (Host.only h) Try.prog ((Try.f27.body).get rfl)=true):∀ g∈[9,27,61],@Lets (Host.only h) Try.prog g:=fun g hg=>by
  simp only [List.mem_cons,List.not_mem_nil,or_false] at hg;rcases hg with rfl|rfl|rfl
  . exact ⟨by kernel_rfl,.inl ⟨_,_,Try.func9,by kernel_rfl,rfl,k1⟩⟩
  . exact ⟨by kernel_rfl,.inl ⟨_,_,Try.func27,by kernel_rfl,rfl,k2⟩⟩
  . exact ⟨by kernel_rfl,.inr (.inl (JN Try.func61 (by kernel_rfl) rfl (by kernel_rfl) (e:=Extern.Atomic.loadT (.int .i64)) (by kernel_rfl) (Vy fun _=>trivial)))⟩
theorem aS (h:FuncId){g o:Nat}{y:Int}(w:World)(hc:w.cell? ⟨g,o,none⟩=some (.int .i64 y)) :
    CallsIn (Fence.list [h,9,27,61] none) 0 Try.prog 27 #[.pointer (some ⟨g,o,none⟩)] w fun e w'=>e=.returned (.int .i64 y)/\w=w':=by
  have hl:=run_call_load (P:=Try.prog) Try.func61 (by kernel_rfl) (by kernel_rfl) (by kernel_rfl) .i64 (by kernel_rfl) hc;gi_enter Try.func27,Try.ntmps27
  gi_wp2;go_ret
  exact ⟨rfl,rfl⟩
theorem values_in (h:FuncId){ct cb n:Nat}{σ:List Int}(w:World)(hn:n<=256)(hl:σ.length=n)(h1:w.heap[ct]?=some (.cells #[.slice (some ⟨cb,0,none⟩) n n] 71 (0,0)))(h2:w.heap[cb]?=some (.cells (σ.map (Value.int .i64)).toArray 80 (0,0))) :
    CallsIn (Fence.list [h,9,27,61] none) 0 Try.prog 9 #[.pointer (some ⟨ct,0,none⟩)] w fun e w'=>∃ v,e=.returned v/\IE w' w.heap.size 1 v n (σ.map (Value.int .i64))/\Below w.heap.size w w':=by
  obtain ⟨i0,hi,hz0,hz1,hz2⟩:=info_parts Qp;have c0:w.cell? ⟨ct,0,none⟩=some (.slice (some ⟨cb,0,none⟩) n n):=by simp [World.cell?,h1]
  have hlt1:ct < w.heap.size:=(Array.getElem?_eq_some_iff.1 h1).1;have hlt2:cb < w.heap.size:=(Array.getElem?_eq_some_iff.1 h2).1;have hcell:∀ i,i < n->w.cell? ⟨cb,i,none⟩=some (.int .i64 (σ.getD i 0)):=fun i hi=>by simp [World.cell?,h2,hl,hi]
  have HC:=Lib.hid (And.intro hcell (And.intro hl (And.intro hlt1 hlt2)));clear hcell hl h1 h2 hlt1 hlt2;gi_enter Try.func9,Try.ntmps9
  gi_wp2;gi_loopw [3,10] (fun v i wr=>∃ k:Nat,k<=n/\i=.int .i64 k/\RowKit.Hid (IE wr w.heap.size 1 v k ((σ.take k).map (Value.int .i64))/\Below w.heap.size w wr)) (fun _ i _=>n - (intOf i).toNat)
  case atStart=>exact ⟨0,Nat.zero_le _,rfl,Lib.hid ⟨by simpa using IE.nil w w.heap.size 1,Below.refl _ _⟩⟩
  case round=>
    obtain ⟨k,hk,rfl,hinv⟩:=hrel;by_cases hlt:k < n
    . obtain ⟨hcell,hl,hlt1,hlt2⟩:=HC.out;obtain ⟨ho,hb⟩:=hinv.out;have d0:wr.cell? ⟨ct,0,none⟩=some (.slice (some ⟨cb,0,none⟩) n n):=(hb.cell (p:=⟨ct,0,none⟩) hlt1).trans c0;have dk:wr.cell? ⟨cb,k,none⟩=some (.int .i64 (σ.getD k 0)):=(hb.cell (p:=⟨cb,k,none⟩) hlt2).trans (hcell k hlt);have htk:(σ.take (k+1)).map (Value.int .i64)=(σ.take k).map (Value.int .i64) ++ [.int .i64 (σ.getD k 0)]:=by
        have:σ[k]?=some (σ.getD k 0):=by simp [List.getD,hl,hlt]
        rw [List.take_add_one,this]
        simp
      have HT:=Lib.hid htk;generalize σ.getD k 0=y at dk htk;have HT2:=Lib.hid htk;clear htk hcell hl hlt1 hlt2 c0 hinv;gi_wp2_with (first | (gi_at_call 27;refine (aS h _ dk).mono ?_;rintro e w2 ⟨rfl,rfl⟩) | (gi_at_builtin;refine Jv _ rfl _ _ 29 rfl w.heap.size 3 i0 (.int .i64 0) 1 8 Try.underlying29 hi hz0 hz1 hz2 rfl (by decide) _ _ _ rfl (ho.alloc _) ⟨wr.heap.size,0,none⟩ 1 1 [.int .i64 y] rfl rfl ?c1 ?c2 ?c3 ?c4 ?c5 ?_))
      case c1=>exact cell_one_new _ _ _
      case c2=>intro u hu;simp at hu;subst hu;rfl
      case c3=>unfold maxLen;omega
      case c4=>omega
      case c5=>have:=hb.size;simp;omega
      intro v' w1 g1 g2 g3;have hb1:Below w.heap.size w w1:=(hb.alloc hb.size _).grown g2 (by have:=hb.size;simp;omega) (fun j hj=>(ho.blk j hj).1);have HI:=Lib.hid (And.intro g1 hb1);clear g1 g2 g3 hb1 ho hb;gi_wp2;go_roundw
      case rel=>exact ⟨k+1,by omega,by go_num,Lib.hid ⟨by rw [HT2.out,List.map_take];exact HI.out.1,HI.out.2⟩⟩
      case measure=>simp [intOf];omega
    . obtain rfl:k=n:=by omega
      gi_wp2;go_ret
      obtain ⟨ho,hb⟩:=hinv.out;have:σ.take k=σ:=List.take_of_length_le (by have:=HC.out.2.1;omega);rw [this] at ho;exact ⟨_,rfl,ho,hb⟩
end
end Go.Proofs.Ytkdhnbcdbnpmhaa
