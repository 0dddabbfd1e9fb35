/-
  Part 27 of the proof that CellAlone returns true for every input and leaves its arguments as they were. No further condition.
-/
import Derived.Test.YtkdhnbcdbnpmhaaQ26
set_option linter.unusedVariables false
set_option linter.unusedSectionVars false
set_option maxHeartbeats 4000000
set_option maxRecDepth 100000
namespace Go.Proofs.Ytkdhnbcdbnpmhaa
open Go Go.Conc Go.LT Go.LC Go.LK Go.RowKit
open BA TU
section
section
variable {Fin:Iw}{GR:Ig Try.prog Fin}
variable {B:Nat->Bool}{W:World}{nn:Nat}{c:Frame}{cs:List Frame}
variable {v0 v1 v2 v3 v4 v5 v6 v7 v8 v9 Aa Ab Ac Ae Af Ah Ai Aj Ak Al Am Ao Ap Aq Ar Au Av Aw Ay Az AA AB AJ AL AO AP AQ AU AV AX AY AZ A8 A9 Ba Bb Bc Bf Bh Bj Bl Bp Bq Br Bu Bv Bw Bz BD BF BG BH BI BJ BK BL BM BN BO BP BQ BR BS BU BX BZ Ca Cb Cc Ce Cg Ci Cj Ck Cm Co Cq Cr Ct Cu Cw Cx Cy Cz CB CF CG CJ CK CO CQ CS CU CV CW CX CY CZ C8:Value}
theorem Aa4 {rb ab ao ac g0 o0 c0 g1 o1 c1:Nat}{vv:Value}(p5:W.cell? ⟨rb,2,none⟩=some (.int .i64 5))(hvv:Reads W vv [.int .i64 9])(p0:W.cell? ⟨rb,0,none⟩=some (.slice (some ⟨ab,ao,none⟩) 2 ac))(p1:W.cell? ⟨ab,ao,none⟩=some (.slice (some ⟨g0,o0,none⟩) 1 c0))(p2:W.cell? ⟨ab,ao+1,none⟩=some (.slice (some ⟨g1,o1,none⟩) 1 c1))(x0:W.cell? ⟨g0,o0,none⟩=some (.int .i64 1))(x1:W.cell? ⟨g0,o0+1,none⟩=some (.int .i64 5))(x2:W.cell? ⟨g0,o0+2,none⟩=some (.int .i64 3))(x3:W.cell? ⟨g0,o0+3,none⟩=some (.bool false))(x4:W.cell? ⟨g0,o0+4,none⟩=some (.int .i64 9))(x5:W.cell? ⟨g0,o0+5,none⟩=some (.int .i64 0))(x6:W.cell? ⟨g0,o0+6,none⟩=some (.int .i64 0))(x7:W.cell? ⟨g0,o0+7,none⟩=some (.slice none 0 0))(x8:W.cell? ⟨g0,o0+8,none⟩=some (.slice none 0 0))(y0:W.cell? ⟨g1,o1,none⟩=some (.int .i64 2))(y1:W.cell? ⟨g1,o1+1,none⟩=some (.int .i64 3))(y2:W.cell? ⟨g1,o1+2,none⟩=some (.int .i64 2))(y3:W.cell? ⟨g1,o1+3,none⟩=some (.bool false))(y4:W.cell? ⟨g1,o1+4,none⟩=some (.int .i64 9))(y5:W.cell? ⟨g1,o1+5,none⟩=some (.int .i64 0))(y6:W.cell? ⟨g1,o1+6,none⟩=some (.int .i64 0))(y7:W.cell? ⟨g1,o1+7,none⟩=some (.slice none 0 0))(y8:W.cell? ⟨g1,o1+8,none⟩=some (.slice none 0 0)){Kp:Nat->Prop}(Kr:∀ g,Kp g->∃ c e f,W.heap[g]?=some (.cells c e f))(hJ:∀ W',(∀ g,Kp g->W'.heap[g]?=W.heap[g]?)->W.heap.size<=W'.heap.size->JW (S0 (X:=Wk G5 GU) (Sg:=List Int) Try.prog Fin GR).base (.Ii B nn) (G (c.finish (.bool true)) cs) W') :
    JL (S0 (X:=Wk G5 GU) (Sg:=List Int) Try.prog Fin GR).L (.Ii B nn) (G ((base 5).at ⟨#[v0,v1,.pointer (some ⟨rb,0,none⟩),vv,.int .i64 0,v5,v6,v7,v8,v9,Aa,Ab,Ac,Ae,Af,Ah,Ai,Aj,Ak,Al,Am,Ao,Ap,Aq,Ar,Au,Av,Aw,Ay,Az,AA,AB,AJ,AL,AO,AP,AQ,AU,AV,AX,AY,AZ,A8,A9,Ba,Bb,Bc,Bf,Bh,Bj,Bl,Bp,Bq,Br,Bu,Bv,Bw,Bz,BD,BF,BG,BH,BI,BJ,BK,BL,BM,BN,BO,BP,BQ,BR,BS,BU,BX,BZ,Ca,Cb,Cc,Ce,Cg,Ci,Cj,Ck,Cm,Co,Cq,Cr,Ct,Cu,Cw,Cx,Cy,Cz,CB,CF,CG,CJ,CK,CO,CQ,CS,CU,CV,CW,CX,CY,CZ,C8],[]⟩ (.code kk3 :: [])) (c :: cs)) W:=by
  have HJ:=Lib.hid (And.intro Kr hJ);have HP:=Lib.hid (And.intro p5 (And.intro hvv (And.intro p0 (And.intro p1 (And.intro p2 (And.intro x0 (And.intro x1 (And.intro x2 (And.intro x3 (And.intro x4 (And.intro x5 (And.intro x6 (And.intro x7 (And.intro x8 (And.intro y0 (And.intro y1 (And.intro y2 (And.intro y3 (And.intro y4 (And.intro y5 (And.intro y6 (And.intro y7 y8))))))))))))))))))))));clear Kr hJ p5 p0 p1 p2 x0 x1 x2 x3 x4 x5 x6 x7 x8 y0 y1 y2 y3 y4 y5 y6 y7 y8 hvv;rw [vI];refine GY stepG_seq ?_;simp only [kn3,Try.f5];refine Hu fun _ hkk=>?_;refine JL.enter rfl rfl nE rfl Try.func6 (by kernel_rfl) (by kernel_rfl) ?_;walk_nrm;refine Od (S:=(S0 (X:=Wk G5 GU) (Sg:=List Int) Try.prog Fin GR)) (n:=3) (by decide) (by decide) fun W2 q2=>?_;rw [Frame.finish_at];show JL (S0 (X:=Wk G5 GU) (Sg:=List Int) Try.prog Fin GR).L _ _ W2;walk_nrm
  iterate 5 (refine Hf ?_;walk_nrm)
  refine Hw ?_;cases hkk;obtain ⟨Kr,hJ⟩:=HJ.out;obtain ⟨p5,hvv,p0,p1,p2,x0,x1,x2,x3,x4,x5,x6,x7,x8,y0,y1,y2,y3,y4,y5,y6,y7,y8⟩:=HP.out;clear HJ HP;have o1:∀ g,g < W.heap.size->W2.heap[g]?=W.heap[g]?:=fun g hg=>by rw [q2,Array.getElem?_push,Array.getElem?_push,Array.size_push,if_neg (by omega),if_neg (by omega)]
  have s1:W2.heap.size=W.heap.size+2:=by rw [q2];simp
  have n0:=Om W.heap (.cells (List.replicate 3 (Value.int .i64 0)).toArray 80 (0,0)) (.cells #[.slice (some ⟨W.heap.size,0,none⟩) 3 3] 71 (0,0));have n1:=Oe W.heap (.cells (List.replicate 3 (Value.int .i64 0)).toArray 80 (0,0)) (.cells #[.slice (some ⟨W.heap.size,0,none⟩) 3 3] 71 (0,0));rw [← q2] at n0 n1;have cc:∀ {a:Addr} {v:Value},W.cell? a=some v->W2.cell? a=some v:=fun h=>(cell_of (o1 _ (Hz h))).trans h;have lt:∀ {g:Nat} {o},W.heap[g]?=some o->g < W.heap.size:=fun h=>(Array.getElem?_eq_some_iff.1 h).1;exact zy (cc p5) (hvv.same fun k _ hk=>o1 k hk) (cc p0) (cc p1) (cc p2) (cc x0) (cc x1) (cc x2) (cc x3) (cc x4) (cc x5) (cc x6) (cc x7) (cc x8) (cc y0) (cc y1) (cc y2) (cc y3) (cc y4) (cc y5) (cc y6) (cc y7) (cc y8) (Kp:=Kp) (fun g hg=>by
    obtain ⟨x,y,z,hx⟩:=Kr g hg;exact ⟨x,y,z,(o1 g (lt hx)).trans hx⟩) (by omega) (fun g hg=>by
    obtain ⟨x,y,z,hx⟩:=Kr g hg;have:=lt hx;omega) n1 n0 fun W' hk hs=>hJ W' (fun g hg=>by
    obtain ⟨x,y,z,hx⟩:=Kr g hg;exact (hk g hg).trans (o1 g (lt hx))) (by omega)
end
end
theorem UE {w:World}{base size n:Nat}{v:Value}{xs:List Value}(h:IE w base size v n xs)(hn:0 < n)(hs:0 < size):∃ g cap,v=.slice (some ⟨g,0,none⟩) n cap/\∀ (i:Nat) (u:Value),xs[i]?=some u->w.cell? ⟨g,0+i,none⟩=some u:=by
  obtain ⟨te,h⟩:=h;rcases h.2 with ⟨rfl,h0⟩|⟨g,cap,cur,rfl,_,hg,h1,h2,_,_⟩
  . omega
  . refine ⟨g,cap,rfl,fun i u hu=>?_⟩;have:=h.cells (g:=g) rfl i u hu;rw [Addr.add_lit] at this;exact this
theorem UM {W:World}{N1:Nat}{v:Value}{a:QI}(ha:a.a.ints=[])(h:∃ Mt:List Value,Mt.length=[a].length/\IE W N1 9 v [a].length (List.zipWith IY [a] Mt).flatten/\∀ (i:Nat) (b:QI) (iv:Value),[a][i]?=some b->Mt[i]?=some iv->Jg W (fun _=>True) iv b.a.ints) :
    ∃ g cap,v=.slice (some ⟨g,0,none⟩) 1 cap/\∀ (i:Nat) (u:Value),(IY a (.slice none 0 0))[i]?=some u->W.cell? ⟨g,0+i,none⟩=some u:=by
  obtain ⟨Mt,h1,h2,h3⟩:=h
  match Mt,h1 with
  | [iv],_=>
    have hi:=h3 0 a iv rfl rfl;rw [ha] at hi;rcases hi with ⟨_,rfl⟩|⟨h,_⟩
    . obtain ⟨g,cap,hv,hc⟩:=UE h2 (Nat.zero_lt_succ _) (by decide);exact ⟨g,cap,hv,fun i u hu=>hc i u (by simpa using hu)⟩
    . exact absurd rfl h
theorem ay {W:World}{N1:Nat}{av:Value}(h:Ran N1 kz av W):∃ ab ac g0 c0 g1 c1,av=.slice (some ⟨ab,0,none⟩) 2 ac/\W.cell? ⟨ab,0,none⟩=some (.slice (some ⟨g0,0,none⟩) 1 c0)/\W.cell? ⟨ab,0+1,none⟩=some (.slice (some ⟨g1,0,none⟩) 1 c1)/\
    (∀ (i:Nat) (u:Value),([.int .i64 1,.int .i64 5,.int .i64 3,.bool false,.int .i64 9,.int .i64 0,.int .i64 0,.slice none 0 0,.slice none 0 0]:List Value)[i]?=some u->W.cell? ⟨g0,0+i,none⟩=some u)/\
    ∀ (i:Nat) (u:Value),([.int .i64 2,.int .i64 3,.int .i64 2,.bool false,.int .i64 9,.int .i64 0,.int .i64 0,.slice none 0 0,.slice none 0 0]:List Value)[i]?=some u->W.cell? ⟨g1,0+i,none⟩=some u:=by
  obtain ⟨vs,h1,h2⟩:=h.ex;rw [vR] at h1;have hl:=h1.len
  match vs,hl with
  | [u0,u1],_=>
    obtain ⟨ab,ac,hv,hc⟩:=UE h1 (by decide) (by decide);have k0:=Aay;have k1:=zG;cases e0:kz.xs[0]? with
    | none=>rw [e0] at k0;cases k0
    | some x0=>
      cases e1:kz.xs[1]? with
      | none=>rw [e1] at k1;cases k1
      | some x1=>
        rw [e0] at k0;rw [e1] at k1;have j0:=(h2 0 u0 x0 rfl e0).1;have j1:=(h2 1 u1 x1 rfl e1).1;rw [show x0.out=_ from Option.some.inj k0] at j0;rw [show x1.out=_ from Option.some.inj k1] at j1;obtain ⟨g0,c0,rfl,q0⟩:=UM rfl j0;obtain ⟨g1,c1,rfl,q1⟩:=UM rfl j1;exact ⟨ab,ac,g0,c0,g1,c1,hv,hc 0 _ rfl,hc 1 _ rfl,q0,q1⟩
theorem oq {W:World}{N1:Nat}{vv:Value}(h:IE W N1 1 vv 1 (kz.σ.map (Value.int .i64))):Reads W vv [.int .i64 9]:=by rw [zI] at h;exact h.reads
section
noncomputable def jE:Array Oper:=match kn2 with | .region _ o _=>o | _=>#[]
section
variable {Fin:Iw}{GR:Ig Try.prog Fin}
variable {B:Nat->Bool}{W:World}{nn:Nat}{c:Frame}{cs:List Frame}
variable {v0 v1 v2 v3 v4 v5 v6 v7 v8 v9 Aa Ab Ac Ae Af Ah Ai Aj Ak Al Am Ao Ap Aq Ar Au Av Aw Ay Az AA AB AJ AL AO AP AQ AU AV AX AY AZ A8 A9 Ba Bb Bc Bf Bh Bj Bl Bp Bq Br Bu Bv Bw Bz BD BF BG BH BI BJ BK BL BM BN BO BP BQ BR BS BU BX BZ Ca Cb Cc Ce Cg Ci Cj Ck Cm Co Cq Cr Ct Cu Cw Cx Cy Cz CB CF CG CJ CK CO CQ CS CU CV CW CX CY CZ C8:Value}
theorem uj {ops:Array Oper}(hops:ops=jE){av vv:Value}{N1:Nat}(TS:Ran N1 kz av W)(hvv:Reads W vv [.int .i64 9]){Kp:Nat->Prop}(Kr:∀ g,Kp g->∃ c e f,W.heap[g]?=some (.cells c e f))(hJ:∀ W',(∀ g,Kp g->W'.heap[g]?=W.heap[g]?)->W.heap.size<=W'.heap.size->JW (S0 (X:=Wk G5 GU) (Sg:=List Int) Try.prog Fin GR).base (.Ii B nn) (G (c.finish (.bool true)) cs) W') :
    JL (S0 (X:=Wk G5 GU) (Sg:=List Int) Try.prog Fin GR).L (.Ii B nn) (G ((base 5).at ⟨#[v0,v1,v2,v3,v4,v5,v6,v7,v8,v9,Aa,Ab,Ac,Ae,Af,Ah,Ai,Aj,Ak,Al,.tuple #[.agg #[av,.slice none 0 0,.int .i64 5,.bool false],vv,.int .i64 0],Ao,Ap,Aq,Ar,Au,Av,Aw,Ay,Az,AA,AB,AJ,AL,AO,AP,AQ,AU,AV,AX,AY,AZ,A8,A9,Ba,Bb,Bc,Bf,Bh,Bj,Bl,Bp,Bq,Br,Bu,Bv,Bw,Bz,BD,BF,BG,BH,BI,BJ,BK,BL,BM,BN,BO,BP,BQ,BR,BS,BU,BX,BZ,Ca,Cb,Cc,Ce,Cg,Ci,Cj,Ck,Cm,Co,Cq,Cr,Ct,Cu,Cw,Cx,Cy,Cz,CB,CF,CG,CJ,CK,CO,CQ,CS,CU,CV,CW,CX,CY,CZ,C8],[]⟩ (.inRegion ops [2,3,4,5,6,7,8,9] :: .code kk3 :: [])) (c :: cs)) W:=by
  obtain ⟨ab,ac,g0,c0,g1,c1,rfl,p1,p2,hx,hy⟩:=ay TS;have HJ:=Lib.hid (And.intro Kr (And.intro hJ (And.intro hvv (And.intro p1 (And.intro p2 (And.intro hx hy))))));clear Kr hJ TS hvv p1 p2 hx hy;subst hops;simp only [jE,kn2,Try.f5];refine HY.JR (S:=(S0 (X:=Wk G5 GU) (Sg:=List Int) Try.prog Fin GR)) (b:=base 5) 2 [] (by simp) (by kernel_rfl) nE rfl (by kernel_rfl) fun KQ aT=>?_;have H5:=Lib.hid (show KQ.heap=W.heap by obtain ⟨τ,d,rfl⟩:=aT;rfl);dsimp only [List.drop];gi_wp2;try refine ⟨rfl,?_⟩
  generalize bF:World.alloc KQ _=W6;have q6:W6.heap=W.heap.push (.cells #[.slice (some ⟨ab,0,none⟩) 2 ac,.slice none 0 0,.int .i64 5,.bool false] 63 (0,0)):=by rw [← bF,← H5.out];rfl
  have hs5:KQ.heap.size=W.heap.size:=by rw [H5.out]
  rw [hs5];clear bF hs5 H5 aT;show JL (S0 (X:=Wk G5 GU) (Sg:=List Int) Try.prog Fin GR).L _ _ W6;try dsimp only
  refine GY stepG_region_end ?_;obtain ⟨Kr,hJ,hvv,p1,p2,hx,hy⟩:=HJ.out;clear HJ;have o1:∀ g,g < W.heap.size->W6.heap[g]?=W.heap[g]?:=fun g hg=>by rw [q6,Array.getElem?_push,if_neg (by omega)]
  have s1:W6.heap.size=W.heap.size+1:=by rw [q6];simp
  have n1:W6.heap[W.heap.size]?=some (.cells #[.slice (some ⟨ab,0,none⟩) 2 ac,.slice none 0 0,.int .i64 5,.bool false] 63 (0,0)):=by rw [q6,Array.getElem?_push,if_pos rfl]
  have cc:∀ {a:Addr} {v:Value},W.cell? a=some v->W6.cell? a=some v:=fun h=>(cell_of (o1 _ (Hz h))).trans h;have lt:∀ {g:Nat} {o},W.heap[g]?=some o->g < W.heap.size:=fun h=>(Array.getElem?_eq_some_iff.1 h).1;exact Aa4 (rb:=W.heap.size) (ab:=ab) (ao:=0) (ac:=ac) (g0:=g0) (o0:=0) (c0:=c0) (g1:=g1) (o1:=0) (c1:=c1) (by simp [World.cell?,n1]) (hvv.same fun k _ hk=>o1 k hk) (by simp [World.cell?,n1]) (cc p1) (cc p2) (cc (hx 0 _ rfl)) (cc (hx 1 _ rfl)) (cc (hx 2 _ rfl)) (cc (hx 3 _ rfl)) (cc (hx 4 _ rfl)) (cc (hx 5 _ rfl)) (cc (hx 6 _ rfl)) (cc (hx 7 _ rfl)) (cc (hx 8 _ rfl)) (cc (hy 0 _ rfl)) (cc (hy 1 _ rfl)) (cc (hy 2 _ rfl)) (cc (hy 3 _ rfl)) (cc (hy 4 _ rfl)) (cc (hy 5 _ rfl)) (cc (hy 6 _ rfl)) (cc (hy 7 _ rfl)) (cc (hy 8 _ rfl)) (Kp:=Kp) (fun g hg=>by
    obtain ⟨x,y,z,hx⟩:=Kr g hg;exact ⟨x,y,z,(o1 g (lt hx)).trans hx⟩) fun W' hk hs=>hJ W' (fun g hg=>by
    obtain ⟨x,y,z,hx⟩:=Kr g hg;exact (hk g hg).trans (o1 g (lt hx))) (by omega)
end
end
section
section
variable {Fin:Iw}{GR:Ig Try.prog Fin}
variable {B:Nat->Bool}{W:World}{nn:Nat}{c:Frame}{cs:List Frame}
variable {v0 v1 v2 v3 v4 v5 v6 v7 v8 v9 Aa Ab Ac Ae Af Ah Ai Aj Ak Al Am Ao Ap Aq Ar Au Av Aw Ay Az AA AB AJ AL AO AP AQ AU AV AX AY AZ A8 A9 Ba Bb Bc Bf Bh Bj Bl Bp Bq Br Bu Bv Bw Bz BD BF BG BH BI BJ BK BL BM BN BO BP BQ BR BS BU BX BZ Ca Cb Cc Ce Cg Ci Cj Ck Cm Co Cq Cr Ct Cu Cw Cx Cy Cz CB CF CG CJ CK CO CQ CS CU CV CW CX CY CZ C8:Value}
theorem UJ {W:World}{g:Nat}{k a b d:Int}{t:TypeId}{f:Nat × Nat}(h:W.heap[g]?=some (.cells #[.int .i64 k,.int .i64 a,.int .i64 b,.int .i64 d,.slice none 0 0] t f)):Nf W (.slice (some ⟨g,0,none⟩) 1 1) [⟨k,a,b,d⟩]:=by
  refine ⟨_,1,rfl,by simp,fun i c hc=>?_⟩;have hi:i=0:=by
    have:=(List.getElem?_eq_some_iff.1 hc).1
    simpa using this
  subst hi;have:(⟨k,a,b,d⟩:G5)=c:=by simpa using hc
  rw [← this];exact ⟨g,0,none,0,0,rfl,by simp [World.cell?,h],by simp [World.cell?,h],by simp [World.cell?,h],by simp [World.cell?,h],by simp [World.cell?,h]⟩
theorem zO (H:Array Obj)(a b c d e:Obj)(X:Array Obj)(h:X=((((H.push a).push b).push c).push d).push e):X[H.size]?=some a/\X[H.size+1]?=some b/\X[H.size+2]?=some c/\X[H.size+3]?=some d/\X[H.size+4]?=some e:=by subst h;refine ⟨?_,?_,?_,?_,?_⟩ <;> (simp only [Array.getElem?_push,Array.size_push];(repeat rw [if_neg (by omega)]);first | rw [if_pos rfl] | simp)
theorem Jf {W:World}{T n:Nat}{l:List Value}{t:TypeId}{f:Nat × Nat}(h:W.heap[T]?=some (.cells l.toArray t f))(hn:l.length=n)(h0:l≠[])(hm:n<=1000):Reads W (.slice (some ⟨T,0,none⟩) n n) l:=by subst hn;refine .inr ⟨h0,T,0,_,rfl,Nat.le_refl _,by unfold maxLen;omega,fun i u hu=>?_⟩;rw [Nat.zero_add];simp [World.cell?,h,hu]
theorem yL {A0 A1 R T Q:Nat}{t0 t1 tr tt:TypeId}{Kp:Nat->Prop}(hQ:W.heap[Q]?=some (.cells #[.slice (some ⟨R,0,none⟩) 2 2,.slice (some ⟨T,0,none⟩) 5 5,.slice none 0 0,.int .i64 0] 59 (0,0)))(hR:W.heap[R]?=some (.cells #[.slice (some ⟨A0,0,none⟩) 1 1,.slice (some ⟨A1,0,none⟩) 1 1] tr (0,0)))(hT:W.heap[T]?=some (.cells #[.int .i64 0,.int .i64 1,.int .i64 1,.int .i64 0,.int .i64 0] tt (0,0)))(jK:W.heap[A0]?=some (.cells #[.int .i64 6,.int .i64 0,.int .i64 5,.int .i64 0,.slice none 0 0] t0 (0,0)))(hA1:W.heap[A1]?=some (.cells #[.int .i64 6,.int .i64 0,.int .i64 9,.int .i64 0,.slice none 0 0] t1 (0,0)))(hcap:nn+8 < 1000000)(hB:∀ g,B g=true->g < W.heap.size)(bR:B R=false)(bT:B T=false)(b0:B A0=false)(b1:B A1=false)(wh:T≠R/\T≠A0/\T≠A1)(Kr:∀ g,Kp g->(∃ c e f,W.heap[g]?=some (.cells c e f))/\B g=false/\g≠R/\g≠A0/\g≠A1)(hJ:∀ B' W',(∀ g,B' g=true->B g=true\/W.heap.size<=g)->(∀ g,B' g=true->g < W'.heap.size)->(∀ g,Kp g->W'.heap[g]?=W.heap[g]?)->W.heap.size<=W'.heap.size->JW (S0 (X:=Wk G5 GU) (Sg:=List Int) Try.prog Fin GR).base (.Ii B' (nn+2)) (G (c.finish (.bool true)) cs) W') :
    JL (S0 (X:=Wk G5 GU) (Sg:=List Int) Try.prog Fin GR).L (.Ii B nn) (G ((base 5).at ⟨#[v0,.pointer (some ⟨Q,0,none⟩),v2,v3,v4,v5,v6,v7,v8,v9,Aa,Ab,Ac,Ae,Af,Ah,Ai,Aj,Ak,Al,Am,Ao,Ap,Aq,Ar,Au,Av,Aw,Ay,Az,AA,AB,AJ,AL,AO,AP,AQ,AU,AV,AX,AY,AZ,A8,A9,Ba,Bb,Bc,Bf,Bh,Bj,Bl,Bp,Bq,Br,Bu,Bv,Bw,Bz,BD,BF,BG,BH,BI,BJ,BK,BL,BM,BN,BO,BP,BQ,BR,BS,BU,BX,BZ,Ca,Cb,Cc,Ce,Cg,Ci,Cj,Ck,Cm,Co,Cq,Cr,Ct,Cu,Cw,Cx,Cy,Cz,CB,CF,CG,CJ,CK,CO,CQ,CS,CU,CV,CW,CX,CY,CZ,C8],[]⟩ (.code kk2 :: [])) (c :: cs)) W:=by
  have HA:=Lib.hid (And.intro hQ (And.intro hR (And.intro hT (And.intro jK (And.intro hA1 (And.intro hB (And.intro bR (And.intro bT (And.intro b0 (And.intro b1 (And.intro wh (And.intro Kr hJ))))))))))));clear hQ hR hT jK hA1 hB bR bT b0 b1 wh Kr hJ;rw [tX];refine GY stepG_seq ?_;simp only [kn2,Try.f5];refine Hu fun _ hkk=>?_;refine HY.Jm (S:=(S0 (X:=Wk G5 GU) (Sg:=List Int) Try.prog Fin GR)) (b:=base 5) 0 1 [] (by simp) (by kernel_rfl) nE (rest:=[1,2,3,4,5,6,7,8,9]) rfl (by kernel_rfl) fun Hl Ky=>?_;have hh3:Hl.heap=W.heap:=by obtain ⟨τ,d,rfl⟩:=Ky;rfl
  have c0:Hl.cell? ⟨Q,0,none⟩=some (.slice (some ⟨R,0,none⟩) 2 2):=by simp [World.cell?,hh3,HA.out.1]
  have c1:Hl.cell? ⟨Q,1,none⟩=some (.slice (some ⟨T,0,none⟩) 5 5):=by simp [World.cell?,hh3,HA.out.1]
  have c2:Hl.cell? ⟨Q,2,none⟩=some (.slice none 0 0):=by simp [World.cell?,hh3,HA.out.1]
  have c3:Hl.cell? ⟨Q,3,none⟩=some (.int .i64 0):=by simp [World.cell?,hh3,HA.out.1]
  have HH:=Lib.hid hh3;clear hh3;dsimp only [List.drop,List.take];gi_wp2;try refine ⟨rfl,?_⟩
  have hh3:=HH.out;clear HH c0 c1 c2 c3 Ky;show JL (S0 (X:=Wk G5 GU) (Sg:=List Int) Try.prog Fin GR).L _ _ Hl;try dsimp only
  refine JL.enter rfl rfl nE rfl Try.func19 (by kernel_rfl) (by kernel_rfl) ?_;walk_nrm;obtain ⟨hQ,hR,hT,jK,hA1,hB,bR,bT,b0,b1,wh,Kr,hJ⟩:=HA.out;clear HA;rw [← hh3] at hQ hR hT jK hA1 hB Kr hJ;have ZH:∀ g,(g=R\/g=A0\/g=A1)->∃ c e f,Hl.heap[g]?=some (.cells c e f):=fun g hg=>by
    rcases hg with rfl|rfl|rfl
    . exact ⟨_,_,_,hR⟩
    . exact ⟨_,_,_,jK⟩
    . exact ⟨_,_,_,hA1⟩
  have HJ:=Lib.hid (And.intro Kr hJ);refine ZE (n:=1) (plans:=gH) (turns:=X0) (pg:=R) (po:=0) (Mh:=[.slice (some ⟨A0,0,none⟩) 1 1,.slice (some ⟨A1,0,none⟩) 1 1]) (Kp:=fun g=>g=T\/Kp g) (Fx:=fun g=>g=R\/g=A0\/g=A1) (by decide) (by decide) ZH (fun g hg=>?_) (fun m hm=>?_) (by decide) (by decide) (by decide) (by decide) (by decide) ?_ (by decide) hcap hB (fun g hg=>?_) (fun g hg=>?_) kz rfl rU ?_
  . rcases hg with rfl | rfl | rfl <;> assumption
  . refine ⟨rfl,by decide,fun σ W' hI i cv hi=>?_,fun i cv pl hi hp σ W' hI=>?_⟩
    . have e:=(hm σ W' hI R (.inl rfl)).trans hR;rcases i with _|_|i
      . cases hi;simp [World.cell?,e]
      . cases hi;simp [World.cell?,e]
      . simp at hi
    . have e0:=(hm σ W' hI A0 (.inr (.inl rfl))).trans jK;have e1:=(hm σ W' hI A1 (.inr (.inr rfl))).trans hA1;rcases i with _|_|i
      . cases hi;cases hp;exact UJ e0
      . cases hi;cases hp;exact UJ e1
      . simp at hi
  . exact Jf hT rfl (by simp [X0]) (by decide)
  . left
    simpa [Value.ownBlock] using hg.symm
  . rcases hg with rfl | hg
    . exact ⟨⟨_,_,_,hT⟩,bT,fun h=>h.elim wh.1 fun h=>h.elim wh.2.1 wh.2.2⟩
    . obtain ⟨h1,h2,h3,h4,h5⟩:=Kr g hg;exact ⟨h1,h2,fun h=>h.elim h3 fun h=>h.elim h4 h5⟩
  . intro B' W4 N1 a1 a2 a3 vv hB' hN1 hN2 TS hov ZR;rw [Frame.finish_at];show JL (S0 (X:=Wk G5 GU) (Sg:=List Int) Try.prog Fin GR).L (.Ii B' (nn+2)) _ W4;rw [show ((kz.s:Nat):Int)=5 from by rw [Ad8];rfl];walk_nrm;have lt:∀ {g:Nat} {o},Hl.heap[g]?=some o->g < Hl.heap.size:=fun h=>(Array.getElem?_eq_some_iff.1 h).1;cases hkk;refine uj ?hops TS (oq hov) (Kp:=Kp) (fun g hg=>by rw [ZR g (.inl (.inr hg))];exact (Kr g hg).1) fun W' hk hs=>hJ B' W' (fun g hg=>by
      rcases hB' g hg with h|h
      . exact .inl h
      . exact .inr h.1) (fun g hg=>by
      rcases hB' g hg with h|h
      . have:=hB g h;omega
      . omega) (fun g hg=>(hk g hg).trans (ZR g (.inl (.inr hg)))) (by omega)
    rfl
theorem kr {Kp:Nat->Prop}(hcap:nn+8 < 1000000)(hB:∀ g,B g=true->g < W.heap.size)(Kr:∀ g,Kp g->(∃ c e f,W.heap[g]?=some (.cells c e f))/\B g=false)(hJ:∀ B' W',(∀ g,B' g=true->B g=true\/W.heap.size<=g)->(∀ g,B' g=true->g < W'.heap.size)->(∀ g,Kp g->W'.heap[g]?=W.heap[g]?)->W.heap.size<=W'.heap.size->JW (S0 (X:=Wk G5 GU) (Sg:=List Int) Try.prog Fin GR).base (.Ii B' (nn+2)) (G (c.finish (.bool true)) cs) W') :
    JW (S0 (X:=Wk G5 GU) (Sg:=List Int) Try.prog Fin GR).base (.Ii B nn) (G (Frame.enter Try.prog 5 #[] .normal) (c :: cs)) W:=by
  have ht:#[] ++ Array.replicate (Try.f5.ntmps - (#[]:Array Value).size) undef=#[undef,undef,undef,undef,undef,undef,undef,undef,undef,undef,undef,undef,undef,undef,undef,undef,undef,undef,undef,undef,undef,undef,undef,undef,undef,undef,undef,undef,undef,undef,undef,undef,undef,undef,undef,undef,undef,undef,undef,undef,undef,undef,undef,undef,undef,undef,undef,undef,undef,undef,undef,undef,undef,undef,undef,undef,undef,undef,undef,undef,undef,undef,undef,undef,undef,undef,undef,undef,undef,undef,undef,undef,undef,undef,undef,undef,undef,undef,undef,undef,undef,undef,undef,undef,undef,undef,undef,undef,undef,undef,undef,undef,undef,undef,undef,undef,undef,undef,undef,undef,undef,undef,undef,undef,undef,undef,undef,undef,undef]:=by
    have:Try.f5.ntmps=109:=by kernel_rfl
    rw [this];walk_nrm
  rw [enter_at _ Try.func5 lC,ht];clear ht;have HA:=Lib.hid (And.intro hB (And.intro Kr hJ));clear hB Kr hJ;show JL (S0 (X:=Wk G5 GU) (Sg:=List Int) Try.prog Fin GR).L _ _ W;refine GY stepG_seq ?_;simp only [kn0,Try.f5];refine Hu fun _ hkk=>?_
  (refine Hf ?_;walk_nrm)
  refine Hw ?_;cases hkk;rw [qM];refine GY stepG_seq ?_;refine HY.Ht (S:=(S0 (X:=Wk G5 GU) (Sg:=List Int) Try.prog Fin GR)) (b:=base 5) [] (by simp) (by kernel_rfl) nE (by kernel_rfl) fun GQ ha=>?_;have hh:GQ.heap=W.heap:=by obtain ⟨τ,d,rfl⟩:=ha;rfl
  have HH:=Lib.hid hh;clear hh;simp only [kn1,Try.f5];gi_wp2;generalize hW1:World.alloc _ _=W1;have q1:W1.heap=((((W.heap.push (.cells #[.int .i64 6,.int .i64 0,.int .i64 5,.int .i64 0,.slice none 0 0] 32 (0,0))).push (.cells #[.int .i64 6,.int .i64 0,.int .i64 9,.int .i64 0,.slice none 0 0] 32 (0,0))).push (.cells #[.slice (some ⟨W.heap.size,0,none⟩) 1 1,.slice (some ⟨W.heap.size+1,0,none⟩) 1 1] 22 (0,0))).push (.cells #[.int .i64 0,.int .i64 1,.int .i64 1,.int .i64 0,.int .i64 0] 3 (0,0))).push (.cells #[.slice (some ⟨W.heap.size+2,0,none⟩) 2 2,.slice (some ⟨W.heap.size+3,0,none⟩) 5 5,.slice none 0 0,.int .i64 0] 59 (0,0)):=by rw [← hW1,← HH.out];rfl
  have hs:GQ.heap.size=W.heap.size:=by rw [HH.out]
  rw [hs];clear hs hW1 HH ha;obtain ⟨hB,Kr,hJ⟩:=HA.out;clear HA;have hbf:∀ g,W.heap.size<=g->B g=false:=fun g hg=>by
    cases h:B g with
    | false=>rfl
    | true=>have:=hB g h;omega
  have o1:∀ g,g < W.heap.size->W1.heap[g]?=W.heap[g]?:=fun g hg=>by rw [q1];simp only [Array.getElem?_push,Array.size_push];rw [if_neg (by omega),if_neg (by omega),if_neg (by omega),if_neg (by omega),if_neg (by omega)]
  have s1:W1.heap.size=W.heap.size+5:=by rw [q1];simp
  have lt:∀ {g:Nat} {o},W.heap[g]?=some o->g < W.heap.size:=fun h=>(Array.getElem?_eq_some_iff.1 h).1;obtain ⟨n0,n1,n2,n3,n4⟩:=zO W.heap _ _ _ _ _ _ q1;show JL (S0 (X:=Wk G5 GU) (Sg:=List Int) Try.prog Fin GR).L (.Ii B nn) (G ((base 5).at ⟨_,[]⟩ (.code kk2 :: [])) (c :: cs)) W1;exact yL n4 n2 n3 n0 n1 hcap (fun g hg=>by have:=hB g hg;omega) (hbf _ (by omega)) (hbf _ (by omega)) (hbf _ (by omega)) (hbf _ (by omega)) ⟨by omega,by omega,by omega⟩ (Kp:=Kp) (fun g hg=>by
    obtain ⟨⟨x,y,z,hx⟩,hb⟩:=Kr g hg;have hl:=lt hx;exact ⟨⟨x,y,z,(o1 g hl).trans hx⟩,hb,by omega,by omega,by omega⟩) fun B' W' h1 h2 h3 h4=>hJ B' W' (fun g hg=>(h1 g hg).imp id (by omega)) h2 (fun g hg=>by
    obtain ⟨⟨x,y,z,hx⟩,hb⟩:=Kr g hg;exact (h3 g hg).trans (o1 g (lt hx))) (by omega)
end
end
section
noncomputable def dn0:Code:=match Try.f8.body with | some (.seq c _)=>c | _=>.skip
noncomputable def dn1:Code:=match Try.f8.body with | some (.seq _ (.seq c _))=>c | _=>.skip
noncomputable def dk1:Code:=match Try.f8.body with | some (.seq _ (c))=>c | _=>.skip
noncomputable def dn2:Code:=match Try.f8.body with | some (.seq _ (.seq _ (.seq c _)))=>c | _=>.skip
noncomputable def dk2:Code:=match Try.f8.body with | some (.seq _ (.seq _ (c)))=>c | _=>.skip
noncomputable def dn3:Code:=match Try.f8.body with | some (.seq _ (.seq _ (.seq _ (.seq c _))))=>c | _=>.skip
noncomputable def dk3:Code:=match Try.f8.body with | some (.seq _ (.seq _ (.seq _ (c))))=>c | _=>.skip
noncomputable def dn4:Code:=match Try.f8.body with | some (.seq _ (.seq _ (.seq _ (.seq _ (.seq c _)))))=>c | _=>.skip
noncomputable def dk4:Code:=match Try.f8.body with | some (.seq _ (.seq _ (.seq _ (.seq _ (c)))))=>c | _=>.skip
noncomputable def dn5:Code:=match Try.f8.body with | some (.seq _ (.seq _ (.seq _ (.seq _ (.seq _ (.seq c _))))))=>c | _=>.skip
noncomputable def dk5:Code:=match Try.f8.body with | some (.seq _ (.seq _ (.seq _ (.seq _ (.seq _ (c))))))=>c | _=>.skip
noncomputable def dn6:Code:=match Try.f8.body with | some (.seq _ (.seq _ (.seq _ (.seq _ (.seq _ (.seq _ (.seq c _)))))))=>c | _=>.skip
noncomputable def dk6:Code:=match Try.f8.body with | some (.seq _ (.seq _ (.seq _ (.seq _ (.seq _ (.seq _ (c)))))))=>c | _=>.skip
noncomputable def Mi:Code:=match Try.f8.body with | some (.seq _ (.seq _ (.seq _ (.seq _ (.seq _ (.seq _ (.seq _ (.seq c _))))))))=>c | _=>.skip
noncomputable def dk7:Code:=match Try.f8.body with | some (.seq _ (.seq _ (.seq _ (.seq _ (.seq _ (.seq _ (.seq _ (c))))))))=>c | _=>.skip
noncomputable def Ow:Code:=match Try.f8.body with | some (.seq _ (.seq _ (.seq _ (.seq _ (.seq _ (.seq _ (.seq _ (.seq _ (c)))))))))=>c | _=>.skip
theorem oL:Try.f8.body=some (.seq dn0 dk1):=rfl
theorem iR:dk1=.seq dn1 dk2:=rfl
theorem eu:dk2=.seq dn2 dk3:=rfl
theorem dF:dk3=.seq dn3 dk4:=rfl
theorem gY:dk4=.seq dn4 dk5:=rfl
theorem fu:dk5=.seq dn5 dk6:=rfl
theorem ko:dk6=.seq dn6 dk7:=rfl
theorem jo:dk7=.seq Mi Ow:=rfl
theorem Jy:∀ g∈[7,10],@Lets (Host.only 8) Try.prog g:=fun g hg=>by
  simp only [List.mem_cons,List.not_mem_nil,or_false] at hg;rcases hg with rfl|rfl
  . exact ⟨by kernel_rfl,.inl ⟨_,_,Try.func7,by kernel_rfl,rfl,by kernel_rfl⟩⟩
  . exact ⟨by kernel_rfl,.inl ⟨_,_,Try.func10,by kernel_rfl,rfl,by kernel_rfl⟩⟩
section
variable {Fin:Iw}{GR:Ig Try.prog Fin}
variable {B:Nat->Bool}{W:World}{nn:Nat}{c:Frame}{cs:List Frame}
variable {v0 v1 v2 v3 v4 v5 v6 v7 v8 v9 Aa Ab Ac Ae Af Ah Ai Aj Ak Al Am Ao Ap Aq Ar Au Av Aw Ay Az AA AB AJ AL AO AP AQ AU AV AX AY AZ A8 A9 Ba Bb Bc Bf Bh Bj Bl Bp Bq Br Bu Bv Bw Bz BD BF BG BH BI BJ BK BL BM BN BO BP BQ BR BS BU BX BZ Ca Cb Cc Ce Cg Ci Cj Ck Cm Co Cq Cr Ct Cu Cw Cx Cy Cz CB CF CG CJ CK CO CQ CS CU CV CW CX CY CZ C8 C9 Da Db Dc Df Dg Dh Di Dj Dk Dl Dm Dn Dp Dq Dt Du Dv Dw Dx Dy Dz DC DF DI DJ DL DN DR DT DU DV DX DY DZ D5 D7 D8 D9 Ea Eb Ec Ed Ee Ef Eh Ei Ej El Em Eo Ep Er Es Et Eu Ev Ew Ey Ez:Value}
theorem vg (hJ:∀ W',W'.heap=W.heap->JW (S0 (X:=Wk G5 GU) (Sg:=List Int) Try.prog Fin GR).base (.Ii B nn) (G (c.finish (.bool true)) cs) W') :
    JL (S0 (X:=Wk G5 GU) (Sg:=List Int) Try.prog Fin GR).L (.Ii B nn) (G ((base 8).at ⟨#[v0,v1,v2,v3,v4,v5,v6,.bool false,v8,v9,.int .i64 0,.bool false,.int .i64 41,Ae,Af,Ah,Ai,Aj,Ak,Al,Am,Ao,Ap,Aq,Ar,Au,Av,Aw,Ay,Az,AA,AB,AJ,AL,AO,AP,AQ,AU,AV,AX,AY,AZ,A8,A9,Ba,Bb,Bc,Bf,Bh,Bj,Bl,Bp,Bq,Br,Bu,Bv,Bw,Bz,BD,BF,BG,BH,BI,BJ,BK,BL,BM,BN,BO,BP,BQ,BR,BS,BU,BX,BZ,Ca,Cb,Cc,Ce,Cg,Ci,Cj,Ck,Cm,Co,Cq,Cr,Ct,Cu,Cw,Cx,Cy,Cz,CB,CF,CG,CJ,CK,CO,CQ,CS,CU,CV,CW,CX,CY,CZ,C8,C9,Da,Db,Dc,Df,Dg,Dh,Di,Dj,Dk,Dl,Dm,Dn,Dp,Dq,Dt,Du,Dv,Dw,Dx,Dy,Dz,DC,DF,DI,DJ,DL,DN,DR,DT,DU,DV,DX,DY,DZ,D5,D7,D8,D9,Ea,Eb,Ec,Ed,Ee,Ef,Eh,Ei,Ej,El,Em,Eo,Ep,Er,Es,Et,Eu,Ev,Ew,Ey,Ez],[]⟩ (.code Ow :: [])) (c :: cs)) W:=by
  refine HY.Ht (S:=(S0 (X:=Wk G5 GU) (Sg:=List Int) Try.prog Fin GR)) (b:=base 8) [7,10] Jy (by kernel_rfl) nE (by kernel_rfl) fun GQ ha=>?_;have hh:GQ.heap=W.heap:=by obtain ⟨τ,d,rfl⟩:=ha;rfl
  have HH:=Lib.hid (And.intro hJ hh);clear hJ hh;simp only [Ow,Try.f8];gi_wp2_with (gi_at_call 7;refine (QS _ _ _ (by decide)).mono ?_;rintro e w2 ⟨rfl,rfl⟩)
  gi_wp2;intro Y;obtain ⟨hJ,hh⟩:=HH.out;exact JL.back rfl Try.func8 (v:=.bool true) (fun w=>by kernel_rfl) (hJ _ hh)
theorem wP {b lb n k:Nat}{want next:Int}{σ:List Int}{t:TypeId}(hk:k < n)(hl:σ.length=n)(hb:W.cell? ⟨b,1,none⟩=some (.int .i64 k))(hrow:W.heap[lb]?=some (.cells (σ.map (Value.int .i64)).toArray t (0,0)))(hJ:∀ W',(∀ g,g≠lb->W'.heap[g]?=W.heap[g]?)->W'.heap.size=W.heap.size->W'.heap[lb]?=some (.cells ((σ.set k next).map (Value.int .i64)).toArray t (0,0))->JW (S0 (X:=Wk G5 GU) (Sg:=List Int) Try.prog Fin GR).base (.Ii B nn) (G (c.finish (.bool true)) cs) W') :
    JL (S0 (X:=Wk G5 GU) (Sg:=List Int) Try.prog Fin GR).L (.Ii B nn) (G ((base 8).at ⟨#[v0,.slice (some ⟨lb,0,none⟩) n n,v2,v3,v4,.pointer (some ⟨b,0,none⟩),v6,.bool true,.int .i64 want,v9,.int .i64 want,Ab,.int .i64 0,.int .i64 next,Af,Ah,Ai,Aj,Ak,Al,Am,Ao,Ap,Aq,Ar,Au,Av,Aw,Ay,Az,AA,AB,AJ,AL,AO,AP,AQ,AU,AV,AX,AY,AZ,A8,A9,Ba,Bb,Bc,Bf,Bh,Bj,Bl,Bp,Bq,Br,Bu,Bv,Bw,Bz,BD,BF,BG,BH,BI,BJ,BK,BL,BM,BN,BO,BP,BQ,BR,BS,BU,BX,BZ,Ca,Cb,Cc,Ce,Cg,Ci,Cj,Ck,Cm,Co,Cq,Cr,Ct,Cu,Cw,Cx,Cy,Cz,CB,CF,CG,CJ,CK,CO,CQ,CS,CU,CV,CW,CX,CY,CZ,C8,C9,Da,Db,Dc,Df,Dg,Dh,Di,Dj,Dk,Dl,Dm,Dn,Dp,Dq,Dt,Du,Dv,Dw,Dx,Dy,Dz,DC,DF,DI,DJ,DL,DN,DR,DT,DU,DV,DX,DY,DZ,D5,D7,D8,D9,Ea,Eb,Ec,Ed,Ee,Ef,Eh,Ei,Ej,El,Em,Eo,Ep,Er,Es,Et,Eu,Ev,Ew,Ey,Ez],[]⟩ (.code Ow :: [])) (c :: cs)) W:=by
  refine HY.Ht (S:=(S0 (X:=Wk G5 GU) (Sg:=List Int) Try.prog Fin GR)) (b:=base 8) [7,10] Jy (by kernel_rfl) nE (by kernel_rfl) fun GQ ha=>?_;have hh:GQ.heap=W.heap:=by obtain ⟨τ,d,rfl⟩:=ha;rfl
  have e1:GQ.cell? ⟨b,1,none⟩=some (.int .i64 k):=by simp only [World.cell?,hh] at hb ⊢;exact hb
  have e2:GQ.cell? ⟨lb,k,none⟩=some (.int .i64 (σ.getD k 0)):=by simp [World.cell?,hh,hrow,hl,hk]
  have e3:GQ.frozen? ⟨lb,k,none⟩=false:=by simp [World.frozen?,hh,hrow]
  have HH:=Lib.hid (And.intro hJ (And.intro hh hrow));clear hJ hh hrow hb;simp only [Ow,Try.f8];gi_wp2_with (gi_at_call 7;refine (QS _ _ _ (by decide)).mono ?_;rintro e w2 ⟨rfl,rfl⟩)
  gi_wp2;intro Y;obtain ⟨hJ,hh,hrow⟩:=HH.out;refine JL.back rfl Try.func8 (v:=.bool true) (fun w=>by kernel_rfl) (hJ _ (fun g hg=>?_) ?_ ?_)
  . rw [← hh];simp [World.setCell,Array.getElem?_modify,Ne.symm hg]
  . rw [← hh];simp [World.setCell]
  . rw [← hh] at hrow;simp [World.setCell,Array.getElem?_modify,hrow]
end
end
noncomputable def I4:Code:=match Mi with | .seq _ (.block _ x)=>x | _=>.skip
noncomputable def Jh:Code:=match I4 with | .seq _ (.cond _ _ x)=>x | _=>.skip
noncomputable def Uo:Code:=match I4 with | .seq _ (.cond _ x _)=>x | _=>.skip
noncomputable def gI:Code:=match Uo with | .seq x _=>x | _=>.skip
noncomputable def fA:Code:=match Uo with | .seq _ x=>x | _=>.skip
theorem Zg:Uo=.seq gI fA:=rfl
noncomputable def JJ:Code:=match Jh with | .seq _ (.cond _ _ x)=>x | _=>.skip
noncomputable def Uc:Code:=match Jh with | .seq _ (.cond _ x _)=>x | _=>.skip
noncomputable def eH:Code:=match Uc with | .seq x _=>x | _=>.skip
noncomputable def jJ:Code:=match Uc with | .seq _ x=>x | _=>.skip
theorem Zc:Uc=.seq eH jJ:=rfl
noncomputable def Kt:Code:=match JJ with | .seq _ (.cond _ _ x)=>x | _=>.skip
noncomputable def TI:Code:=match JJ with | .seq _ (.cond _ x _)=>x | _=>.skip
noncomputable def jG:Code:=match TI with | .seq x _=>x | _=>.skip
noncomputable def iK:Code:=match TI with | .seq _ x=>x | _=>.skip
theorem Zz:TI=.seq jG iK:=rfl
noncomputable def Li:Code:=match Kt with | .seq _ (.cond _ _ x)=>x | _=>.skip
noncomputable def TL:Code:=match Kt with | .seq _ (.cond _ x _)=>x | _=>.skip
noncomputable def jQ:Code:=match TL with | .seq x _=>x | _=>.skip
noncomputable def gy:Code:=match TL with | .seq _ x=>x | _=>.skip
theorem YM:TL=.seq jQ gy:=rfl
noncomputable def Nl:Code:=match Li with | .seq _ (.cond _ _ x)=>x | _=>.skip
noncomputable def QM:Code:=match Li with | .seq _ (.cond _ x _)=>x | _=>.skip
noncomputable def YZ:Code:=match QM with | .seq x _=>x | _=>.skip
noncomputable def YI:Code:=match QM with | .seq _ x=>x | _=>.skip
theorem Vk:QM=.seq YZ YI:=rfl
noncomputable def P8:Code:=match Nl with | .seq _ (.cond _ _ x)=>x | _=>.skip
noncomputable def Uj:Code:=match Nl with | .seq _ (.cond _ x _)=>x | _=>.skip
noncomputable def fP:Code:=match Uj with | .seq x _=>x | _=>.skip
noncomputable def dK:Code:=match Uj with | .seq _ x=>x | _=>.skip
theorem Y8:Uj=.seq fP dK:=rfl
noncomputable def dB:Code:=match P8 with | .seq _ (.cond _ _ x)=>x | _=>.skip
noncomputable def Ug:Code:=match P8 with | .seq _ (.cond _ x _)=>x | _=>.skip
noncomputable def jh:Code:=match Ug with | .seq x _=>x | _=>.skip
noncomputable def jB:Code:=match Ug with | .seq _ x=>x | _=>.skip
theorem Zb:Ug=.seq jh jB:=rfl
structure Two (ct cb lb b n:Nat)(σ τ:List Int)(d:G5)(ys:Value)(Kp:Nat->Prop)(W:World):Prop where
  len:σ.length=n
  len2:τ.length=n
  n256:n<=256
  qct:W.heap[ct]?=some (.cells #[.slice (some ⟨cb,0,none⟩) n n] 71 (0,0))
  qcb:W.heap[cb]?=some (.cells (σ.map (Value.int .i64)).toArray 80 (0,0))
  wz:W.heap[lb]?=some (.cells (τ.map (Value.int .i64)).toArray 3 (0,0))
  Yf:W.heap[b]?=some (.cells #[.int .i64 d.kind,.int .i64 d.a,.int .i64 d.b,.int .i64 d.c,ys] 32 (0,0))
  n1:ct≠cb
  n2:lb≠cb
  n3:b≠cb
  n4:b≠lb
  n5:ct≠lb
  kp:∀ g,Kp g->(∃ c e f,W.heap[g]?=some (.cells c e f))/\g≠cb/\g≠lb
theorem Two.fx {ct cb lb b n:Nat}{σ τ:List Int}{d:G5}{ys:Value}{Kp:Nat->Prop}{W:World}(h:Two ct cb lb b n σ τ d ys Kp W):∀ g,(g=lb\/g=b\/Kp g)->∃ c e f,W.heap[g]?=some (.cells c e f):=fun g hg=>by
  rcases hg with rfl|rfl|hg
  . exact ⟨_,_,_,h.wz⟩
  . exact ⟨_,_,_,h.Yf⟩
  . exact (h.kp g hg).1
theorem Two.mem {ct cb lb b n:Nat}{σ τ:List Int}{d:G5}{ys:Value}{Kp:Nat->Prop}{W:World}(h:Two ct cb lb b n σ τ d ys Kp W):Ir (KO ct cb n (fun g=>g=lb\/g=b\/Kp g) W h.fx) ct cb n:=Qa h.n256 h.n1 fun g hg=>by
  rcases hg with rfl|rfl|hg
  . exact h.n2
  . exact h.n3
  . exact (h.kp g hg).2.1
theorem Two.inv {ct cb lb b n:Nat}{σ τ:List Int}{d:G5}{ys:Value}{Kp:Nat->Prop}{W:World}(h:Two ct cb lb b n σ τ d ys Kp W):(KO ct cb n (fun g=>g=lb\/g=b\/Kp g) W h.fx).Inv σ W:=⟨h.len,h.qct,h.qcb,fun g hg=>rfl⟩
theorem Two.step {ct cb lb b n:Nat}{σ τ σ':List Int}{d:G5}{ys:Value}{Kp:Nat->Prop}{W W':World}(h:Two ct cb lb b n σ τ d ys Kp W)(hI:(KO ct cb n (fun g=>g=lb\/g=b\/Kp g) W h.fx).Inv σ' W'):Two ct cb lb b n σ' τ d ys Kp W'/\∀ g,Kp g->W'.heap[g]?=W.heap[g]?:=by obtain ⟨i1,i2,i3,i4⟩:=hI;exact ⟨⟨i1,h.len2,h.n256,i2,i3,(i4 _ (.inl rfl)).trans h.wz,(i4 _ (.inr (.inl rfl))).trans h.Yf,h.n1,h.n2,h.n3,h.n4,h.n5,fun g hg=>by rw [i4 g (.inr (.inr hg))];exact h.kp g hg⟩,fun g hg=>i4 g (.inr (.inr hg))⟩
theorem Two.same {ct cb lb b n:Nat}{σ τ:List Int}{d:G5}{ys:Value}{Kp:Nat->Prop}{W W':World}(h:Two ct cb lb b n σ τ d ys Kp W)(hh:W'.heap=W.heap):Two ct cb lb b n σ τ d ys Kp W':=⟨h.len,h.len2,h.n256,hh ▸ h.qct,hh ▸ h.qcb,hh ▸ h.wz,hh ▸ h.Yf,h.n1,h.n2,h.n3,h.n4,h.n5,fun g hg=>by rw [hh];exact h.kp g hg⟩
theorem Two.field {ct cb lb b n:Nat}{σ τ:List Int}{d:G5}{ys:Value}{Kp:Nat->Prop}{W:World}(h:Two ct cb lb b n σ τ d ys Kp W):W.cell? ⟨b,1,none⟩=some (.int .i64 d.a)/\W.cell? ⟨b,2,none⟩=some (.int .i64 d.b)/\W.cell? ⟨b,3,none⟩=some (.int .i64 d.c):=by have:=h.Yf;refine ⟨?_,?_,?_⟩ <;> simp [World.cell?,this]
theorem Na (σ:List Int)(k:Nat):σ.set k (σ.getD k 0)=σ:=by
  apply List.ext_getElem?;intro i;by_cases h:k=i
  . subst h;by_cases hk:k < σ.length
    . simp [List.getD,hk]
    . simp [List.getElem?_set,hk]
  . simp [List.getElem?_set,h]
section
theorem Pg {d:G5}{σ:List Int}(h:inn σ.length d.a=true):IL He 5 (.one d) σ=some ((II d σ).1,((II d σ).2,false)):=by simp [IL,He,h]
theorem O9 {d:G5}{σ:List Int}(h:inn σ.length d.a=false):IL He 5 (.one d) σ=some (σ,({ err:=41 },false)):=by simp [IL,He,h]
section
variable {d:G5}{σ:List Int}{k n:Nat}{was:Int}
theorem O8 (ha:d.a=k)(hkn:k < n)(hl:σ.length=n):inn σ.length d.a=true:=by rw [hl,ha];unfold inn;simp;omega
theorem Abf (hk:d.kind=1)(ha:d.a=k)(hkn:k < n)(hl:σ.length=n)(hw:was=σ.getD k 0):IL He 5 (.one d) σ=some (σ,({ n:=was },false)):=by rw [Pg (O8 ha hkn hl)];simp only [II,hk,ha,hw,Int.toNat_natCast,if_true]
theorem wN (hk:d.kind=2)(ha:d.a=k)(hkn:k < n)(hl:σ.length=n):IL He 5 (.one d) σ=some (σ.set k d.b,({},false)):=by rw [Pg (O8 ha hkn hl)];simp [II,hk,ha]
theorem yV (hk:d.kind=3)(ha:d.a=k)(hkn:k < n)(hl:σ.length=n)(hw:was=σ.getD k 0):IL He 5 (.one d) σ=some (σ.set k (RowKit.wrap64 (was+d.b)),({ n:=RowKit.wrap64 (was+d.b) },false)):=by rw [Pg (O8 ha hkn hl)];simp [II,hk,ha,hw]
theorem zX (hk:d.kind=4)(ha:d.a=k)(hkn:k < n)(hl:σ.length=n)(hw:was=σ.getD k 0):IL He 5 (.one d) σ=some (σ.set k d.b,({ n:=was },false)):=by rw [Pg (O8 ha hkn hl)];simp [II,hk,ha,hw]
end
theorem Two.put {ct cb lb b n:Nat}{σ τ XG:List Int}{d:G5}{ys:Value}{Kp:Nat->Prop}{W W':World}(h:Two ct cb lb b n σ τ d ys Kp W)(hl:XG.length=n)(h1:∀ g,g≠lb->W'.heap[g]?=W.heap[g]?)(h2:W'.heap[lb]?=some (.cells (XG.map (Value.int .i64)).toArray 3 (0,0))):Two ct cb lb b n σ XG d ys Kp W':=
  ⟨h.len,hl,h.n256,by rw [h1 _ h.n5];exact h.qct,by rw [h1 _ (Ne.symm h.n2)];exact h.qcb,h2,by rw [h1 _ h.n4];exact h.Yf,h.n1,h.n2,h.n3,h.n4,h.n5,fun g hg=>by rw [h1 g (h.kp g hg).2.2];exact h.kp g hg⟩
section
variable {Fin:Iw}{GR:Ig Try.prog Fin}
variable {B:Nat->Bool}{W:World}{nn:Nat}{c:Frame}{cs:List Frame}
variable {v0 v1 v2 v3 v4 v5 v6 v7 v8 v9 Aa Ab Ac Ae Af Ah Ai Aj Ak Al Am Ao Ap Aq Ar Au Av Aw Ay Az AA AB AJ AL AO AP AQ AU AV AX AY AZ A8 A9 Ba Bb Bc Bf Bh Bj Bl Bp Bq Br Bu Bv Bw Bz BD BF BG BH BI BJ BK BL BM BN BO BP BQ BR BS BU BX BZ Ca Cb Cc Ce Cg Ci Cj Ck Cm Co Cq Cr Ct Cu Cw Cx Cy Cz CB CF CG CJ CK CO CQ CS CU CV CW CX CY CZ C8 C9 Da Db Dc Df Dg Dh Di Dj Dk Dl Dm Dn Dp Dq Dt Du Dv Dw Dx Dy Dz DC DF DI DJ DL DN DR DT DU DV DX DY DZ D5 D7 D8 D9 Ea Eb Ec Ed Ee Ef Eh Ei Ej El Em Eo Ep Er Es Et Eu Ev Ew Ey Ez:Value}
theorem KN {ct cb lb b n k:Nat}{σ:List Int}{d:G5}{ys:Value}{Kp:Nat->Prop}{W0:World}{σ':List Int}{want next:Int}(h:Two ct cb lb b n σ' σ d ys Kp W)(ha:d.a=k)(hk:k < n)(hσ:σ'=σ.set k next)(hkp:∀ g,Kp g->W.heap[g]?=W0.heap[g]?)(hs:W0.heap.size<=W.heap.size)(hJ:∀ W' σ',Two ct cb lb b n σ' σ' d ys Kp W'->(∀ g,Kp g->W'.heap[g]?=W0.heap[g]?)->W0.heap.size<=W'.heap.size->JW (S0 (X:=Wk G5 GU) (Sg:=List Int) Try.prog Fin GR).base (.Ii B nn) (G (c.finish (.bool true)) cs) W') :
    JL (S0 (X:=Wk G5 GU) (Sg:=List Int) Try.prog Fin GR).L (.Ii B nn) (G ((base 8).at ⟨#[v0,.slice (some ⟨lb,0,none⟩) n n,v2,v3,v4,.pointer (some ⟨b,0,none⟩),v6,.bool true,.int .i64 want,v9,.int .i64 want,Ab,.int .i64 0,.int .i64 next,Af,Ah,Ai,Aj,Ak,Al,Am,Ao,Ap,Aq,Ar,Au,Av,Aw,Ay,Az,AA,AB,AJ,AL,AO,AP,AQ,AU,AV,AX,AY,AZ,A8,A9,Ba,Bb,Bc,Bf,Bh,Bj,Bl,Bp,Bq,Br,Bu,Bv,Bw,Bz,BD,BF,BG,BH,BI,BJ,BK,BL,BM,BN,BO,BP,BQ,BR,BS,BU,BX,BZ,Ca,Cb,Cc,Ce,Cg,Ci,Cj,Ck,Cm,Co,Cq,Cr,Ct,Cu,Cw,Cx,Cy,Cz,CB,CF,CG,CJ,CK,CO,CQ,CS,CU,CV,CW,CX,CY,CZ,C8,C9,Da,Db,Dc,Df,Dg,Dh,Di,Dj,Dk,Dl,Dm,Dn,Dp,Dq,Dt,Du,Dv,Dw,Dx,Dy,Dz,DC,DF,DI,DJ,DL,DN,DR,DT,DU,DV,DX,DY,DZ,D5,D7,D8,D9,Ea,Eb,Ec,Ed,Ee,Ef,Eh,Ei,Ej,El,Em,Eo,Ep,Er,Es,Et,Eu,Ev,Ew,Ey,Ez],[]⟩ (.code Ow :: [])) (c :: cs)) W:=
  wP hk h.len2 (by rw [← ha];exact h.field.1) h.wz fun W' h1 h2 h3=>hJ W' σ' (by have:=h.put (by simp [h.len2]) h1 h3;rw [← hσ] at this;exact this) (fun g hg=>(h1 g (h.kp g hg).2.2).trans (hkp g hg)) (by omega)
theorem Oj {ct cb lb b n k:Nat}{σ:List Int}{d:G5}{ys:Value}{Kp:Nat->Prop}{W0:World}(h:Two ct cb lb b n σ σ d ys Kp W)(hkp:∀ g,Kp g->W.heap[g]?=W0.heap[g]?)(hs:W0.heap.size<=W.heap.size)(hJ:∀ W' σ',Two ct cb lb b n σ' σ' d ys Kp W'->(∀ g,Kp g->W'.heap[g]?=W0.heap[g]?)->W0.heap.size<=W'.heap.size->JW (S0 (X:=Wk G5 GU) (Sg:=List Int) Try.prog Fin GR).base (.Ii B nn) (G (c.finish (.bool true)) cs) W') :
    JL (S0 (X:=Wk G5 GU) (Sg:=List Int) Try.prog Fin GR).L (.Ii B nn) (G ((base 8).at ⟨#[v0,v1,v2,v3,v4,v5,v6,.bool false,v8,v9,.int .i64 0,.bool false,.int .i64 41,Ae,Af,Ah,Ai,Aj,Ak,Al,Am,Ao,Ap,Aq,Ar,Au,Av,Aw,Ay,Az,AA,AB,AJ,AL,AO,AP,AQ,AU,AV,AX,AY,AZ,A8,A9,Ba,Bb,Bc,Bf,Bh,Bj,Bl,Bp,Bq,Br,Bu,Bv,Bw,Bz,BD,BF,BG,BH,BI,BJ,BK,BL,BM,BN,BO,BP,BQ,BR,BS,BU,BX,BZ,Ca,Cb,Cc,Ce,Cg,Ci,Cj,Ck,Cm,Co,Cq,Cr,Ct,Cu,Cw,Cx,Cy,Cz,CB,CF,CG,CJ,CK,CO,CQ,CS,CU,CV,CW,CX,CY,CZ,C8,C9,Da,Db,Dc,Df,Dg,Dh,Di,Dj,Dk,Dl,Dm,Dn,Dp,Dq,Dt,Du,Dv,Dw,Dx,Dy,Dz,DC,DF,DI,DJ,DL,DN,DR,DT,DU,DV,DX,DY,DZ,D5,D7,D8,D9,Ea,Eb,Ec,Ed,Ee,Ef,Eh,Ei,Ej,El,Em,Eo,Ep,Er,Es,Et,Eu,Ev,Ew,Ey,Ez],[]⟩ (.code Ow :: [])) (c :: cs)) W:=
  vg fun W' h1=>hJ W' σ (h.same h1) (fun g hg=>by rw [h1];exact hkp g hg) (by rw [h1];exact hs)
theorem fH {was:Int}{ct cb lb b n k:Nat}{σ:List Int}{d:G5}{ys:Value}{Kp:Nat->Prop}(h:Two ct cb lb b n σ σ d ys Kp W)(hk:d.kind=1)(ha:d.a=k)(hkn:k < n)(hw:was=σ.getD k 0)(hJ:∀ W' σ',Two ct cb lb b n σ' σ' d ys Kp W'->(∀ g,Kp g->W'.heap[g]?=W.heap[g]?)->W.heap.size<=W'.heap.size->JW (S0 (X:=Wk G5 GU) (Sg:=List Int) Try.prog Fin GR).base (.Ii B nn) (G (c.finish (.bool true)) cs) W') :
    JL (S0 (X:=Wk G5 GU) (Sg:=List Int) Try.prog Fin GR).L (.Ii B nn) (G ((base 8).at ⟨#[.pointer (some ⟨ct,0,none⟩),.slice (some ⟨lb,0,none⟩) n n,v2,v3,v4,.pointer (some ⟨b,0,none⟩),v6,.bool true,.int .i64 0,.int .i64 was,.int .i64 0,.bool false,.int .i64 0,.int .i64 was,Af,Ah,Ai,Aj,Ak,Al,Am,Ao,Ap,Aq,Ar,Au,Av,Aw,Ay,Az,AA,AB,AJ,AL,AO,AP,AQ,AU,AV,AX,AY,AZ,A8,A9,Ba,Bb,Bc,Bf,Bh,Bj,Bl,Bp,Bq,Br,Bu,Bv,Bw,Bz,BD,BF,BG,BH,BI,BJ,BK,BL,BM,BN,BO,BP,BQ,BR,BS,BU,BX,BZ,Ca,Cb,Cc,Ce,Cg,Ci,Cj,Ck,Cm,Co,Cq,Cr,Ct,Cu,Cw,Cx,Cy,Cz,CB,CF,CG,CJ,CK,CO,CQ,CS,CU,CV,CW,CX,CY,CZ,C8,C9,Da,Db,Dc,Df,Dg,Dh,Di,Dj,Dk,Dl,Dm,Dn,Dp,Dq,Dt,Du,Dv,Dw,Dx,Dy,Dz,DC,DF,DI,DJ,DL,DN,DR,DT,DU,DV,DX,DY,DZ,D5,D7,D8,D9,Ea,Eb,Ec,Ed,Ee,Ef,Eh,Ei,Ej,El,Em,Eo,Ep,Er,Es,Et,Eu,Ev,Ew,Ey,Ez],[]⟩ (.code Uo :: [.inBlock 0,.code Ow])) (c :: cs)) W:=by
  have HH:=Lib.hid (And.intro h (And.intro hJ (And.intro hw ha)));clear hJ hw ha;obtain ⟨f1,f2,f3⟩:=h.field;clear h;rw [Zg];refine GY stepG_seq ?_;simp only [gI,Uo,I4,Mi,Try.f8];refine Hu fun _ hkk=>?_;refine HY.Jm (S:=(S0 (X:=Wk G5 GU) (Sg:=List Int) Try.prog Fin GR)) (b:=base 8) 0 3 [] (by simp) (by kernel_rfl) nE (rest:=[3,4,5,6,7,8]) rfl (by kernel_rfl) fun Hl Ky=>?_;have hh3:Hl.heap=W.heap:=by obtain ⟨τ,d,rfl⟩:=Ky;rfl
  replace f1:Hl.cell? ⟨b,1,none⟩=some (.int .i64 d.a):=by simp only [World.cell?,hh3] at f1 ⊢;exact f1
  replace f2:Hl.cell? ⟨b,2,none⟩=some (.int .i64 d.b):=by simp only [World.cell?,hh3] at f2 ⊢;exact f2
  replace f3:Hl.cell? ⟨b,3,none⟩=some (.int .i64 d.c):=by simp only [World.cell?,hh3] at f3 ⊢;exact f3
  have H3:=Lib.hid hh3;clear hh3;dsimp only [List.drop,List.take];gi_wp2;try refine ⟨rfl,?_⟩
  obtain ⟨h,hJ,hw,ha⟩:=HH.out;clear HH f1 f2 f3 Ky;show JL (S0 (X:=Wk G5 GU) (Sg:=List Int) Try.prog Fin GR).L _ _ Hl;try dsimp only
  refine JL.enter rfl rfl nE rfl Try.func20 (by kernel_rfl) (by kernel_rfl) ?_;walk_nrm;have h3:=h.same H3.out;refine RQ (Mr He (KO ct cb n (fun g=>g=lb\/g=b\/Kp g) Hl h3.fx) (.Ii B nn) (S0 (X:=Wk G5 GU) (Sg:=List Int) Try.prog Fin GR)) h3.mem (s:={ own:=fun _=>False,f:=5,res:=(σ,({ n:=was },false)) }) (σ:=σ) (c:=d) hk ⟨h3.inv,fun b hb=>hb.elim⟩ ?hS trivial ?_
  case hS=>
    show IL He 5 _ σ=some _;exact Abf hk ha hkn h3.len hw
  intro s' σ' W' e hA' hO hE _;have hE':(σ',(e,false))=s'.res:=hE;have hr:s'.res=((σ,({ n:=was },false)):List Int × (An × Bool)):=hO.le;rw [hr] at hE';cases hE'
  obtain ⟨h4,Nb⟩:=h3.step hA'.inv;have J7:∀ g,Kp g->W'.heap[g]?=W.heap[g]?:=fun g hg=>by rw [Nb g hg,H3.out]
  have s4:W.heap.size<=W'.heap.size:=by have:=hO.size;rw [H3.out] at this;exact this
  rw [Frame.finish_at];show JL (S0 (X:=Wk G5 GU) (Sg:=List Int) Try.prog Fin GR).L (.Ii B nn) _ W';have HH:=Lib.hid (And.intro h4 (And.intro J7 (And.intro s4 (And.intro hJ (And.intro hw ha)))));obtain ⟨f1,f2,f3⟩:=h4.field;clear h h4 hO hA' hE hr J7 Nb s4 hJ H3 s' hw h3 ha;walk_nrm;cases hkk;iterate 5 (refine Hf ?_;walk_nrm)
  refine GY stepG_region_end ?_;simp only [fA,Uo,I4,Mi,Try.f8];refine Hu fun _ hkk=>?_;iterate 2 (refine Hf ?_;walk_nrm)
  refine Hw ?_;cases hkk;refine GY stepG_inBlock ?_;obtain ⟨h4,J7,s4,hJ,hw,ha⟩:=HH.out;exact KN h4 ha hkn (by rw [hw];exact (Na σ k).symm) J7 s4 hJ
theorem Z6 {was:Int}{ct cb lb b n k:Nat}{σ:List Int}{d:G5}{ys:Value}{Kp:Nat->Prop}(h:Two ct cb lb b n σ σ d ys Kp W)(hk:d.kind=1)(ho:inn n d.a=false)(hJ:∀ W' σ',Two ct cb lb b n σ' σ' d ys Kp W'->(∀ g,Kp g->W'.heap[g]?=W.heap[g]?)->W.heap.size<=W'.heap.size->JW (S0 (X:=Wk G5 GU) (Sg:=List Int) Try.prog Fin GR).base (.Ii B nn) (G (c.finish (.bool true)) cs) W') :
    JL (S0 (X:=Wk G5 GU) (Sg:=List Int) Try.prog Fin GR).L (.Ii B nn) (G ((base 8).at ⟨#[.pointer (some ⟨ct,0,none⟩),.slice (some ⟨lb,0,none⟩) n n,v2,v3,v4,.pointer (some ⟨b,0,none⟩),v6,.bool false,.int .i64 0,.int .i64 0,.int .i64 0,.bool false,.int .i64 0,.int .i64 0,Af,Ah,Ai,Aj,Ak,Al,Am,Ao,Ap,Aq,Ar,Au,Av,Aw,Ay,Az,AA,AB,AJ,AL,AO,AP,AQ,AU,AV,AX,AY,AZ,A8,A9,Ba,Bb,Bc,Bf,Bh,Bj,Bl,Bp,Bq,Br,Bu,Bv,Bw,Bz,BD,BF,BG,BH,BI,BJ,BK,BL,BM,BN,BO,BP,BQ,BR,BS,BU,BX,BZ,Ca,Cb,Cc,Ce,Cg,Ci,Cj,Ck,Cm,Co,Cq,Cr,Ct,Cu,Cw,Cx,Cy,Cz,CB,CF,CG,CJ,CK,CO,CQ,CS,CU,CV,CW,CX,CY,CZ,C8,C9,Da,Db,Dc,Df,Dg,Dh,Di,Dj,Dk,Dl,Dm,Dn,Dp,Dq,Dt,Du,Dv,Dw,Dx,Dy,Dz,DC,DF,DI,DJ,DL,DN,DR,DT,DU,DV,DX,DY,DZ,D5,D7,D8,D9,Ea,Eb,Ec,Ed,Ee,Ef,Eh,Ei,Ej,El,Em,Eo,Ep,Er,Es,Et,Eu,Ev,Ew,Ey,Ez],[]⟩ (.code Uo :: [.inBlock 0,.code Ow])) (c :: cs)) W:=by
  have HH:=Lib.hid (And.intro h (And.intro hJ True.intro));clear hJ;obtain ⟨f1,f2,f3⟩:=h.field;clear h;rw [Zg];refine GY stepG_seq ?_;simp only [gI,Uo,I4,Mi,Try.f8];refine Hu fun _ hkk=>?_;refine HY.Jm (S:=(S0 (X:=Wk G5 GU) (Sg:=List Int) Try.prog Fin GR)) (b:=base 8) 0 3 [] (by simp) (by kernel_rfl) nE (rest:=[3,4,5,6,7,8]) rfl (by kernel_rfl) fun Hl Ky=>?_;have hh3:Hl.heap=W.heap:=by obtain ⟨τ,d,rfl⟩:=Ky;rfl
  replace f1:Hl.cell? ⟨b,1,none⟩=some (.int .i64 d.a):=by simp only [World.cell?,hh3] at f1 ⊢;exact f1
  replace f2:Hl.cell? ⟨b,2,none⟩=some (.int .i64 d.b):=by simp only [World.cell?,hh3] at f2 ⊢;exact f2
  replace f3:Hl.cell? ⟨b,3,none⟩=some (.int .i64 d.c):=by simp only [World.cell?,hh3] at f3 ⊢;exact f3
  have H3:=Lib.hid hh3;clear hh3;dsimp only [List.drop,List.take];gi_wp2;try refine ⟨rfl,?_⟩
  obtain ⟨h,hJ,hw⟩:=HH.out;clear HH f1 f2 f3 Ky;show JL (S0 (X:=Wk G5 GU) (Sg:=List Int) Try.prog Fin GR).L _ _ Hl;try dsimp only
  refine JL.enter rfl rfl nE rfl Try.func20 (by kernel_rfl) (by kernel_rfl) ?_;walk_nrm;have h3:=h.same H3.out;refine RQ (Mr He (KO ct cb n (fun g=>g=lb\/g=b\/Kp g) Hl h3.fx) (.Ii B nn) (S0 (X:=Wk G5 GU) (Sg:=List Int) Try.prog Fin GR)) h3.mem (s:={ own:=fun _=>False,f:=5,res:=(σ,({ err:=41 },false)) }) (σ:=σ) (c:=d) hk ⟨h3.inv,fun b hb=>hb.elim⟩ ?hS trivial ?_
  case hS=>
    show IL He 5 _ σ=some _;exact O9 (by rw [h3.len];exact ho)
  intro s' σ' W' e hA' hO hE _;have hE':(σ',(e,false))=s'.res:=hE;have hr:s'.res=((σ,({ err:=41 },false)):List Int × (An × Bool)):=hO.le;rw [hr] at hE';cases hE'
  obtain ⟨h4,Nb⟩:=h3.step hA'.inv;have J7:∀ g,Kp g->W'.heap[g]?=W.heap[g]?:=fun g hg=>by rw [Nb g hg,H3.out]
  have s4:W.heap.size<=W'.heap.size:=by have:=hO.size;rw [H3.out] at this;exact this
  rw [Frame.finish_at];show JL (S0 (X:=Wk G5 GU) (Sg:=List Int) Try.prog Fin GR).L (.Ii B nn) _ W';have HH:=Lib.hid (And.intro h4 (And.intro J7 (And.intro s4 (And.intro hJ hw))));obtain ⟨f1,f2,f3⟩:=h4.field;clear h h4 hO hA' hE hr J7 Nb s4 hJ H3 s' hw h3;walk_nrm;cases hkk;iterate 5 (refine Hf ?_;walk_nrm)
  refine GY stepG_region_end ?_;simp only [fA,Uo,I4,Mi,Try.f8];refine Hu fun _ hkk=>?_;iterate 2 (refine Hf ?_;walk_nrm)
  refine Hw ?_;cases hkk;refine GY stepG_inBlock ?_;obtain ⟨h4,J7,s4,hJ,hw⟩:=HH.out;exact Oj (k:=0) h4 J7 s4 hJ
end
end
end Go.Proofs.Ytkdhnbcdbnpmhaa
