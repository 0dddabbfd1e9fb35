/-
  Part 32 of the proof that CellMeets returns true, and leaves its arguments as they were, for every input whose reading is of bulk at most 1048576. No further condition.
-/
import Derived.Test.YticecinjcajmcaaR00
import Derived.Test.YticecinjcajmcaaR14
import Derived.Test.YticecinjcajmcaaR31
import Derived.BigFrameIn
import Derived.Sort.CutIn
set_option linter.unusedVariables false
set_option linter.unusedSectionVars false
set_option linter.unusedSimpArgs false
set_option maxHeartbeats 8000000
set_option maxRecDepth 100000
noncomputable section
namespace Go.Proofs.Yticecinjcajmcaa
open Go Go.Conc Go.LT Go.LC Go.LK Go.RowKit
open BA TU
section
theorem Yu (W:World)(v:Value)(t:TypeId)(f:Nat × Nat):Reads (W.alloc (.cells #[v] t f)) (.slice (some ⟨W.heap.size,0,none⟩) 1 1) [v]:=by
  refine .inr ⟨by simp,_,_,_,rfl,by simp,by unfold maxLen;omega,fun i u hu=>?_⟩;have hi:i=0:=by
    have:=(List.getElem?_eq_some_iff.1 hu).1
    simpa using this
  subst hi;have hu9:v=u:=by simpa using hu
  have h:(W.alloc (.cells #[v] t f)).heap[W.heap.size]?=some (.cells #[v] t f):=by show (W.heap.push _)[_]?=_;rw [Array.getElem?_push,if_pos rfl]
  simp only [World.cell?,h];rw [← hu9];rfl
theorem qR (h:FuncId)(x:Int)(w:World)(hx:0<=x/\x<=1000):CallsIn (Fence.list [h,8,14] none) 0 Try.prog 8 #[.int .i64 x] w fun e w'=>e=.returned (.int .i64 x)/\w=w':=by
  gi_enter Try.func8,Try.ntmps8
  gi_wp2;go_ret
  exact ⟨rfl,rfl⟩
section
variable {Fin:FE}{Ea:E5 Try.prog Fin}
variable {B:Nat->Bool}{W:World}{nn:Nat}{c:Frame}{cs:List Frame}
variable {v0 v1 v2 v3 v4 v5 v6 v7 v8 v9 Aa Ab Ac Ae Af Ah Ai Aj Ak Al Am Ao Ap Ar Au Av Aw Ay Az AA AB AJ AL AO AP AQ AU AV AX AY AZ A8 A9 Ba Bb Bc Bf Bh Bj Bl Bp Bq Br Bu Bv Bw Bz BD BF BG BH BI BJ BK BL BM BN BO BP BQ BR BS BU BX BZ Ca Cb Cc Ce Cg Ci Cj Ck Cm Co Cq Cr Ct Cu Cw Cx Cy Cz CB CF CG CJ CK CO CQ CS CU CV CW CX CY CZ C8 C9:Value}
theorem uw {rb ab ao ac g0 o0 c0 g1 o1 c1 ct:Nat}{vv:Value}(p5:W.cell? ⟨rb,2,none⟩=some (.int .i64 5))(hvv:Reads W vv [.int .i64 9])(p0:W.cell? ⟨rb,0,none⟩=some (.slice (some ⟨ab,ao,none⟩) 2 ac))(p1:W.cell? ⟨ab,ao,none⟩=some (.slice (some ⟨g0,o0,none⟩) 1 c0))(p2:W.cell? ⟨ab,ao+1,none⟩=some (.slice (some ⟨g1,o1,none⟩) 1 c1))(x0:W.cell? ⟨g0,o0,none⟩=some (.int .i64 1))(x1:W.cell? ⟨g0,o0+1,none⟩=some (.int .i64 5))(x2:W.cell? ⟨g0,o0+2,none⟩=some (.int .i64 3))(x3:W.cell? ⟨g0,o0+3,none⟩=some (.bool false))(x4:W.cell? ⟨g0,o0+4,none⟩=some (.int .i64 9))(x5:W.cell? ⟨g0,o0+5,none⟩=some (.int .i64 0))(x6:W.cell? ⟨g0,o0+6,none⟩=some (.int .i64 0))(x7:W.cell? ⟨g0,o0+7,none⟩=some (.slice none 0 0))(x8:W.cell? ⟨g0,o0+8,none⟩=some (.slice none 0 0))(y0:W.cell? ⟨g1,o1,none⟩=some (.int .i64 2))(y1:W.cell? ⟨g1,o1+1,none⟩=some (.int .i64 3))(y2:W.cell? ⟨g1,o1+2,none⟩=some (.int .i64 2))(y3:W.cell? ⟨g1,o1+3,none⟩=some (.bool false))(y4:W.cell? ⟨g1,o1+4,none⟩=some (.int .i64 9))(y5:W.cell? ⟨g1,o1+5,none⟩=some (.int .i64 0))(y6:W.cell? ⟨g1,o1+6,none⟩=some (.int .i64 0))(y7:W.cell? ⟨g1,o1+7,none⟩=some (.slice none 0 0))(y8:W.cell? ⟨g1,o1+8,none⟩=some (.slice none 0 0)){cb:Nat}{Kp:Nat->Prop}(Gi:∀ g,Kp g->∃ c e f,W.heap[g]?=some (.cells c e f))(hne:ct≠cb)(hkc:∀ g,Kp g->g≠cb)(hc1:W.heap[ct]?=some (.cells #[.slice (some ⟨cb,0,none⟩) 3 3] 64 (0,0)))(hc2:W.heap[cb]?=some (.cells #[.int .i64 0,.int .i64 0,.int .i64 0] 78 (0,0)))(hJ:∀ W',(∀ g,Kp g->W'.heap[g]?=W.heap[g]?)->W.heap.size<=W'.heap.size->JW (S0 (X:=Wk Ef Ec) (Sg:=List Int) Try.prog Fin Ea).base (.Gp B nn) (G (c.finish (.bool true)) cs) W') :
    JL (S0 (X:=Wk Ef Ec) (Sg:=List Int) Try.prog Fin Ea).L (.Gp B nn) (G ((base 5).at ⟨#[v0,v1,.pointer (some ⟨rb,0,none⟩),vv,.int .i64 0,.pointer (some ⟨ct,0,none⟩),.int .i64 0,v7,v8,v9,Aa,Ab,Ac,Ae,Af,Ah,Ai,Aj,Ak,Al,Am,Ao,Ap,Ar,Au,Av,Aw,Ay,Az,AA,AB,AJ,AL,AO,AP,AQ,AU,AV,AX,AY,AZ,A8,A9,Ba,Bb,Bc,Bf,Bh,Bj,Bl,Bp,Bq,Br,Bu,Bv,Bw,Bz,BD,BF,BG,BH,BI,BJ,BK,BL,BM,BN,BO,BP,BQ,BR,BS,BU,BX,BZ,Ca,Cb,Cc,Ce,Cg,Ci,Cj,Ck,Cm,Co,Cq,Cr,Ct,Cu,Cw,Cx,Cy,Cz,CB,CF,CG,CJ,CK,CO,CQ,CS,CU,CV,CW,CX,CY,CZ,C8,C9],[]⟩ (.code kk4 :: [])) (c :: cs)) W:=by
  rw [rz];refine Ei ?_;refine EL.EJ (S:=(S0 (X:=Wk Ef Ec) (Sg:=List Int) Try.prog Fin Ea)) (b:=base 5) [8,14] SX zKR nE zKR fun W₁ ha=>?_;have hh:W₁.heap=W.heap:=by obtain ⟨τ,d,rfl⟩:=ha;rfl
  have hv1:Reads W₁ vv (([9]:List Int).map (Value.int .i64)):=hvv.same fun k _ _=>by rw [hh]
  have q0:W₁.cell? ⟨rb,0,none⟩=some (.slice (some ⟨ab,ao,none⟩) 2 ac):=by simp only [World.cell?,hh] at p0 ⊢;exact p0
  have q1:W₁.cell? ⟨ab,ao,none⟩=some (.slice (some ⟨g0,o0,none⟩) 1 c0):=by simp only [World.cell?,hh] at p1 ⊢;exact p1
  have q2:W₁.cell? ⟨ab,ao+1,none⟩=some (.slice (some ⟨g1,o1,none⟩) 1 c1):=by simp only [World.cell?,hh] at p2 ⊢;exact p2
  have q5:W₁.cell? ⟨rb,2,none⟩=some (.int .i64 5):=by simp only [World.cell?,hh] at p5 ⊢;exact p5
  have HJ:=Lib.hid (zAI Gi (zAI hne (zAI hkc (zAI hc1 (zAI hc2 (zAI hJ hh))))));have HP:=Lib.hid (zAI p0 (zAI p1 (zAI p2 (zAI x0 (zAI x1 (zAI x2 (zAI x3 (zAI x4 (zAI x5 (zAI x6 (zAI x7 (zAI x8 (zAI y0 (zAI y1 (zAI y2 (zAI y3 (zAI y4 (zAI y5 (zAI y6 (zAI y7 y8))))))))))))))))))));clear Gi hne hkc hc1 hc2 hJ p5 p0 p1 p2 x0 x1 x2 x3 x4 x5 x6 x7 x8 y0 y1 y2 y3 y4 y5 y6 y7 y8 hvv hh;simp only [kn4,Try.f5];gi_wp2_with (first | (gi_at_call 8;refine (qR 5 _ _ (by decide)).mono ?_;rintro e w2 ⟨rfl,rfl⟩))
  refine (iZ _ vv _ [9] [9] _ (hv1.same fun k hk hl=>?_) ?_ (by decide)).mono ?_
  . show (W₁.heap.push _)[k]?=_;rw [Array.getElem?_push,if_neg zOM]
  . exact Yu W₁ _ _ _
  rintro e w1 ⟨rfl,hB⟩;have HB:=Lib.hid hB;clear hB;gi_wp2;obtain ⟨Gi,hne,hkc,hc1,hc2,hJ,hh⟩:=HJ.out;obtain ⟨p0,p1,p2,x0,x1,x2,x3,x4,x5,x6,x7,x8,y0,y1,y2,y3,y4,y5,y6,y7,y8⟩:=HP.out;have hB:Below W₁.heap.size W₁ w1:=(Below.refl _ _ |>.alloc (Nat.le_refl _) _).trans (HB.out.mono (by show _<=(W₁.heap.push _).size;simp));clear HB HP HJ;have o1:∀ g,g < W.heap.size->w1.heap[g]?=W.heap[g]?:=fun g hg=>by rw [hB.block g (by rw [hh];exact hg),hh]
  have s1:W.heap.size<=w1.heap.size:=by have:=hB.size;rw [hh] at this;exact this
  have cc:∀ {a:Addr} {v:Value},W.cell? a=some v->w1.cell? a=some v:=fun h=>(cell_of (o1 _ (Et h))).trans h;have lt:∀ {g:Nat} {o},W.heap[g]?=some o->g < W.heap.size:=fun h=>(zGE h).1;show JL (S0 (X:=Wk Ef Ec) (Sg:=List Int) Try.prog Fin Ea).L (.Gp B nn) (G ((base 5).at ⟨_,[]⟩ (.code zP :: [])) (c :: cs)) w1;exact vJ (cc p0) (cc p1) (cc p2) (cc x0) (cc x1) (cc x2) (cc x3) (cc x4) (cc x5) (cc x6) (cc x7) (cc x8) (cc y0) (cc y1) (cc y2) (cc y3) (cc y4) (cc y5) (cc y6) (cc y7) (cc y8) (Kp:=Kp) (fun g hg=>by
    obtain ⟨x,y,z,hx⟩:=Gi g hg;exact ⟨x,y,z,(o1 g (lt hx)).trans hx⟩) hne hkc ((o1 _ (lt hc1)).trans hc1) ((o1 _ (lt hc2)).trans hc2) fun W' hk hs=>hJ W' (fun g hg=>by
    obtain ⟨x,y,z,hx⟩:=Gi g hg;exact (hk g hg).trans (o1 g (lt hx))) zOM
end
end
section
section
variable {Fin:FE}{Ea:E5 Try.prog Fin}
variable {B:Nat->Bool}{W:World}{nn:Nat}{c:Frame}{cs:List Frame}
variable {v0 v1 v2 v3 v4 v5 v6 v7 v8 v9 Aa Ab Ac Ae Af Ah Ai Aj Ak Al Am Ao Ap Ar Au Av Aw Ay Az AA AB AJ AL AO AP AQ AU AV AX AY AZ A8 A9 Ba Bb Bc Bf Bh Bj Bl Bp Bq Br Bu Bv Bw Bz BD BF BG BH BI BJ BK BL BM BN BO BP BQ BR BS BU BX BZ Ca Cb Cc Ce Cg Ci Cj Ck Cm Co Cq Cr Ct Cu Cw Cx Cy Cz CB CF CG CJ CK CO CQ CS CU CV CW CX CY CZ C8 C9:Value}
theorem wO {rb ab ao ac g0 o0 c0 g1 o1 c1:Nat}{vv:Value}(p5:W.cell? ⟨rb,2,none⟩=some (.int .i64 5))(hvv:Reads W vv [.int .i64 9])(p0:W.cell? ⟨rb,0,none⟩=some (.slice (some ⟨ab,ao,none⟩) 2 ac))(p1:W.cell? ⟨ab,ao,none⟩=some (.slice (some ⟨g0,o0,none⟩) 1 c0))(p2:W.cell? ⟨ab,ao+1,none⟩=some (.slice (some ⟨g1,o1,none⟩) 1 c1))(x0:W.cell? ⟨g0,o0,none⟩=some (.int .i64 1))(x1:W.cell? ⟨g0,o0+1,none⟩=some (.int .i64 5))(x2:W.cell? ⟨g0,o0+2,none⟩=some (.int .i64 3))(x3:W.cell? ⟨g0,o0+3,none⟩=some (.bool false))(x4:W.cell? ⟨g0,o0+4,none⟩=some (.int .i64 9))(x5:W.cell? ⟨g0,o0+5,none⟩=some (.int .i64 0))(x6:W.cell? ⟨g0,o0+6,none⟩=some (.int .i64 0))(x7:W.cell? ⟨g0,o0+7,none⟩=some (.slice none 0 0))(x8:W.cell? ⟨g0,o0+8,none⟩=some (.slice none 0 0))(y0:W.cell? ⟨g1,o1,none⟩=some (.int .i64 2))(y1:W.cell? ⟨g1,o1+1,none⟩=some (.int .i64 3))(y2:W.cell? ⟨g1,o1+2,none⟩=some (.int .i64 2))(y3:W.cell? ⟨g1,o1+3,none⟩=some (.bool false))(y4:W.cell? ⟨g1,o1+4,none⟩=some (.int .i64 9))(y5:W.cell? ⟨g1,o1+5,none⟩=some (.int .i64 0))(y6:W.cell? ⟨g1,o1+6,none⟩=some (.int .i64 0))(y7:W.cell? ⟨g1,o1+7,none⟩=some (.slice none 0 0))(y8:W.cell? ⟨g1,o1+8,none⟩=some (.slice none 0 0)){Kp:Nat->Prop}(Gi:∀ g,Kp g->∃ c e f,W.heap[g]?=some (.cells c e f))(hJ:∀ W',(∀ g,Kp g->W'.heap[g]?=W.heap[g]?)->W.heap.size<=W'.heap.size->JW (S0 (X:=Wk Ef Ec) (Sg:=List Int) Try.prog Fin Ea).base (.Gp B nn) (G (c.finish (.bool true)) cs) W') :
    JL (S0 (X:=Wk Ef Ec) (Sg:=List Int) Try.prog Fin Ea).L (.Gp B nn) (G ((base 5).at ⟨#[v0,v1,.pointer (some ⟨rb,0,none⟩),vv,.int .i64 0,v5,v6,v7,v8,v9,Aa,Ab,Ac,Ae,Af,Ah,Ai,Aj,Ak,Al,Am,Ao,Ap,Ar,Au,Av,Aw,Ay,Az,AA,AB,AJ,AL,AO,AP,AQ,AU,AV,AX,AY,AZ,A8,A9,Ba,Bb,Bc,Bf,Bh,Bj,Bl,Bp,Bq,Br,Bu,Bv,Bw,Bz,BD,BF,BG,BH,BI,BJ,BK,BL,BM,BN,BO,BP,BQ,BR,BS,BU,BX,BZ,Ca,Cb,Cc,Ce,Cg,Ci,Cj,Ck,Cm,Co,Cq,Cr,Ct,Cu,Cw,Cx,Cy,Cz,CB,CF,CG,CJ,CK,CO,CQ,CS,CU,CV,CW,CX,CY,CZ,C8,C9],[]⟩ (.code zD :: [])) (c :: cs)) W:=by
  have HJ:=Lib.hid (zAI Gi hJ);have HP:=Lib.hid (zAI p5 (zAI hvv (zAI p0 (zAI p1 (zAI p2 (zAI x0 (zAI x1 (zAI x2 (zAI x3 (zAI x4 (zAI x5 (zAI x6 (zAI x7 (zAI x8 (zAI y0 (zAI y1 (zAI y2 (zAI y3 (zAI y4 (zAI y5 (zAI y6 (zAI y7 y8))))))))))))))))))))));clear Gi hJ p5 p0 p1 p2 x0 x1 x2 x3 x4 x5 x6 x7 x8 y0 y1 y2 y3 y4 y5 y6 y7 y8 hvv;rw [mW];refine Ei ?_;simp only [kn3,Try.f5];refine EH fun _ hkk=>?_;refine JL.enter rfl rfl nE rfl Try.func9 zKR zKR ?_;walk_nrm;refine Lc (S:=(S0 (X:=Wk Ef Ec) (Sg:=List Int) Try.prog Fin Ea)) (n:=3) (by decide) (by decide) fun W2 q2=>?_;rw [Frame.finish_at];show JL (S0 (X:=Wk Ef Ec) (Sg:=List Int) Try.prog Fin Ea).L _ _ W2;walk_nrm;iterate 5 (refine Eo ?_;walk_nrm)
  refine EB ?_;cases hkk;obtain ⟨Gi,hJ⟩:=HJ.out;obtain ⟨p5,hvv,p0,p1,p2,x0,x1,x2,x3,x4,x5,x6,x7,x8,y0,y1,y2,y3,y4,y5,y6,y7,y8⟩:=HP.out;clear HJ HP;have o1:∀ g,g < W.heap.size->W2.heap[g]?=W.heap[g]?:=fun g hg=>by rw [q2,Array.getElem?_push,Array.getElem?_push,Array.size_push,if_neg zOM,if_neg zOM]
  have s1:W2.heap.size=W.heap.size+2:=by rw [q2];simp
  have n0:=Tk W.heap (.cells (List.replicate 3 (Value.int .i64 0)).toArray 78 (0,0)) (.cells #[.slice (some ⟨W.heap.size,0,none⟩) 3 3] 64 (0,0));have n1:=Tm W.heap (.cells (List.replicate 3 (Value.int .i64 0)).toArray 78 (0,0)) (.cells #[.slice (some ⟨W.heap.size,0,none⟩) 3 3] 64 (0,0));rw [← q2] at n0 n1;have cc:∀ {a:Addr} {v:Value},W.cell? a=some v->W2.cell? a=some v:=fun h=>(cell_of (o1 _ (Et h))).trans h;have lt:∀ {g:Nat} {o},W.heap[g]?=some o->g < W.heap.size:=fun h=>(zGE h).1;exact uw (cc p5) (hvv.same fun k _ hk=>o1 k hk) (cc p0) (cc p1) (cc p2) (cc x0) (cc x1) (cc x2) (cc x3) (cc x4) (cc x5) (cc x6) (cc x7) (cc x8) (cc y0) (cc y1) (cc y2) (cc y3) (cc y4) (cc y5) (cc y6) (cc y7) (cc y8) (Kp:=Kp) (fun g hg=>by
    obtain ⟨x,y,z,hx⟩:=Gi g hg;exact ⟨x,y,z,(o1 g (lt hx)).trans hx⟩) zOM (fun g hg=>by
    obtain ⟨x,y,z,hx⟩:=Gi g hg;have:=lt hx;omega) n1 n0 fun W' hk hs=>hJ W' (fun g hg=>by
    obtain ⟨x,y,z,hx⟩:=Gi g hg;exact (hk g hg).trans (o1 g (lt hx))) zOM
end
end
theorem MJ {w:World}{base size n:Nat}{v:Value}{xs:List Value}(h:Fa w base size v n xs)(hn:0 < n)(hs:0 < size):∃ g cap,v=.slice (some ⟨g,0,none⟩) n cap/\∀ (i:Nat) (u:Value),xs[i]?=some u->w.cell? ⟨g,0+i,none⟩=some u:=by
  obtain ⟨te,h⟩:=h;rcases h.2 with ⟨rfl,h0⟩|⟨g,cap,cur,rfl,_,hg,h1,h2,_,_⟩
  . omega
  . refine ⟨g,cap,rfl,fun i u hu=>?_⟩;have:=h.cells (g:=g) rfl i u hu;rw [Addr.add_lit] at this;exact this
theorem RF {W:World}{N1:Nat}{v:Value}{a:Gq}(ha:a.a.ints=[])(h:∃ I4:List Value,I4.length=[a].length/\Fa W N1 9 v [a].length (List.zipWith E9 [a] I4).flatten/\∀ (i:Nat) (b:Gq) (iv:Value),[a][i]?=some b->I4[i]?=some iv->FR W (fun _=>True) iv b.a.ints) :
    ∃ g cap,v=.slice (some ⟨g,0,none⟩) 1 cap/\∀ (i:Nat) (u:Value),(E9 a (.slice none 0 0))[i]?=some u->W.cell? ⟨g,0+i,none⟩=some u:=by
  obtain ⟨I4,h1,h2,h3⟩:=h
  match I4,h1 with
  | [iv],_=>
    have hi:=h3 0 a iv rfl rfl;rw [ha] at hi;rcases hi with ⟨_,rfl⟩|⟨h,_⟩
    . obtain ⟨g,cap,hv,hc⟩:=MJ h2 (Nat.zero_lt_succ _) (by decide);exact ⟨g,cap,hv,fun i u hu=>hc i u (by simpa using hu)⟩
    . exact absurd rfl h
theorem Yf {W:World}{N1:Nat}{av QC:Value}(h:Ran N1 kz av QC W):∃ ab ac g0 c0 g1 c1,av=.slice (some ⟨ab,0,none⟩) 2 ac/\W.cell? ⟨ab,0,none⟩=some (.slice (some ⟨g0,0,none⟩) 1 c0)/\W.cell? ⟨ab,0+1,none⟩=some (.slice (some ⟨g1,0,none⟩) 1 c1)/\
    (∀ (i:Nat) (u:Value),([.int .i64 1,.int .i64 5,.int .i64 3,.bool false,.int .i64 9,.int .i64 0,.int .i64 0,.slice none 0 0,.slice none 0 0]:List Value)[i]?=some u->W.cell? ⟨g0,0+i,none⟩=some u)/\
    ∀ (i:Nat) (u:Value),([.int .i64 2,.int .i64 3,.int .i64 2,.bool false,.int .i64 9,.int .i64 0,.int .i64 0,.slice none 0 0,.slice none 0 0]:List Value)[i]?=some u->W.cell? ⟨g1,0+i,none⟩=some u:=by
  obtain ⟨vs,h1,h2⟩:=h.ex;rw [ql] at h1;have hl:=h1.len
  match vs,hl with
  | [u0,u1],_=>
    obtain ⟨ab,ac,hv,hc⟩:=MJ h1 (by decide) (by decide);have k0:=wh;have k1:=xX;cases e0:kz.xs[0]? with
    | none=>rw [e0] at k0;cases k0
    | some x0=>
      cases e1:kz.xs[1]? with
      | none=>rw [e1] at k1;cases k1
      | some x1=>
        rw [e0] at k0;rw [e1] at k1;have j0:=(h2 0 u0 x0 rfl e0).1;have j1:=(h2 1 u1 x1 rfl e1).1;rw [show x0.out=_ from Option.some.inj k0] at j0;rw [show x1.out=_ from Option.some.inj k1] at j1;obtain ⟨g0,c0,rfl,q0⟩:=RF rfl j0;obtain ⟨g1,c1,rfl,q1⟩:=RF rfl j1;exact ⟨ab,ac,g0,c0,g1,c1,hv,hc 0 _ rfl,hc 1 _ rfl,q0,q1⟩
theorem jH {W:World}{N1:Nat}{vv:Value}(h:Fa W N1 1 vv 1 (kz.σ.map (Value.int .i64))):Reads W vv [.int .i64 9]:=by rw [wB] at h;exact h.reads
section
def ZY:Array Oper:=match zH with | .region _ o _=>o | _=>#[]
section
variable {Fin:FE}{Ea:E5 Try.prog Fin}
variable {B:Nat->Bool}{W:World}{nn:Nat}{c:Frame}{cs:List Frame}
variable {v0 v1 v2 v3 v4 v5 v6 v7 v8 v9 Aa Ab Ac Ae Af Ah Ai Aj Ak Al Am Ao Ap Ar Au Av Aw Ay Az AA AB AJ AL AO AP AQ AU AV AX AY AZ A8 A9 Ba Bb Bc Bf Bh Bj Bl Bp Bq Br Bu Bv Bw Bz BD BF BG BH BI BJ BK BL BM BN BO BP BQ BR BS BU BX BZ Ca Cb Cc Ce Cg Ci Cj Ck Cm Co Cq Cr Ct Cu Cw Cx Cy Cz CB CF CG CJ CK CO CQ CS CU CV CW CX CY CZ C8 C9:Value}
theorem rP {ops:Array Oper}(hops:ops=ZY){av vv QC:Value}{y1:Option Addr}{y2 y3 N1:Nat}(NM:Ran N1 kz av QC W)(hvv:Reads W vv [.int .i64 9]){Kp:Nat->Prop}(Gi:∀ g,Kp g->∃ c e f,W.heap[g]?=some (.cells c e f))(hJ:∀ W',(∀ g,Kp g->W'.heap[g]?=W.heap[g]?)->W.heap.size<=W'.heap.size->JW (S0 (X:=Wk Ef Ec) (Sg:=List Int) Try.prog Fin Ea).base (.Gp B nn) (G (c.finish (.bool true)) cs) W') :
    JL (S0 (X:=Wk Ef Ec) (Sg:=List Int) Try.prog Fin Ea).L (.Gp B nn) (G ((base 5).at ⟨#[v0,v1,v2,v3,v4,v5,v6,v7,v8,v9,Aa,Ab,Ac,Ae,Af,Ah,Ai,Aj,Ak,Al,.tuple #[.agg #[av,.slice y1 y2 y3,.int .i64 5,.bool false],vv,.int .i64 0],Ao,Ap,Ar,Au,Av,Aw,Ay,Az,AA,AB,AJ,AL,AO,AP,AQ,AU,AV,AX,AY,AZ,A8,A9,Ba,Bb,Bc,Bf,Bh,Bj,Bl,Bp,Bq,Br,Bu,Bv,Bw,Bz,BD,BF,BG,BH,BI,BJ,BK,BL,BM,BN,BO,BP,BQ,BR,BS,BU,BX,BZ,Ca,Cb,Cc,Ce,Cg,Ci,Cj,Ck,Cm,Co,Cq,Cr,Ct,Cu,Cw,Cx,Cy,Cz,CB,CF,CG,CJ,CK,CO,CQ,CS,CU,CV,CW,CX,CY,CZ,C8,C9],[]⟩ (.inRegion ops [2,3,4,5,6,7,8,9] :: .code zD :: [])) (c :: cs)) W:=by
  obtain ⟨ab,ac,g0,c0,g1,c1,rfl,p1,p2,hx,hy⟩:=Yf NM;have HJ:=Lib.hid (zAI Gi (zAI hJ (zAI hvv (zAI p1 (zAI p2 (zAI hx hy))))));clear Gi hJ NM hvv p1 p2 hx hy;subst hops;simp only [ZY,zH,Try.f5];refine EL.GU (S:=(S0 (X:=Wk Ef Ec) (Sg:=List Int) Try.prog Fin Ea)) (b:=base 5) 2 [] (by simp) zKR nE rfl zKR fun W₅ TH=>?_;have H5:=Lib.hid (show W₅.heap=W.heap by obtain ⟨τ,d,rfl⟩:=TH;rfl);dsimp only [List.drop];gi_wp2;try refine ⟨rfl,?_⟩
  generalize Ro:World.alloc W₅ _=W6;have q6:W6.heap=W.heap.push (.cells #[.slice (some ⟨ab,0,none⟩) 2 ac,.slice y1 y2 y3,.int .i64 5,.bool false] 31 (0,0)):=by rw [← Ro,← H5.out];rfl
  have hs5:W₅.heap.size=W.heap.size:=by rw [H5.out]
  rw [hs5];clear Ro hs5 H5 TH;show JL (S0 (X:=Wk Ef Ec) (Sg:=List Int) Try.prog Fin Ea).L _ _ W6;try dsimp only
  refine Er stepG_region_end ?_;obtain ⟨Gi,hJ,hvv,p1,p2,hx,hy⟩:=HJ.out;clear HJ;have o1:∀ g,g < W.heap.size->W6.heap[g]?=W.heap[g]?:=fun g hg=>by rw [q6,Array.getElem?_push,if_neg zOM]
  have s1:W6.heap.size=W.heap.size+1:=by rw [q6];simp
  have n1:W6.heap[W.heap.size]?=some (.cells #[.slice (some ⟨ab,0,none⟩) 2 ac,.slice y1 y2 y3,.int .i64 5,.bool false] 31 (0,0)):=by rw [q6,Array.getElem?_push,if_pos rfl]
  have cc:∀ {a:Addr} {v:Value},W.cell? a=some v->W6.cell? a=some v:=fun h=>(cell_of (o1 _ (Et h))).trans h;have lt:∀ {g:Nat} {o},W.heap[g]?=some o->g < W.heap.size:=fun h=>(zGE h).1;exact wO (rb:=W.heap.size) (ab:=ab) (ao:=0) (ac:=ac) (g0:=g0) (o0:=0) (c0:=c0) (g1:=g1) (o1:=0) (c1:=c1) (by simp [World.cell?,n1]) (hvv.same fun k _ hk=>o1 k hk) (by simp [World.cell?,n1]) (cc p1) (cc p2) (cc (hx 0 _ rfl)) (cc (hx 1 _ rfl)) (cc (hx 2 _ rfl)) (cc (hx 3 _ rfl)) (cc (hx 4 _ rfl)) (cc (hx 5 _ rfl)) (cc (hx 6 _ rfl)) (cc (hx 7 _ rfl)) (cc (hx 8 _ rfl)) (cc (hy 0 _ rfl)) (cc (hy 1 _ rfl)) (cc (hy 2 _ rfl)) (cc (hy 3 _ rfl)) (cc (hy 4 _ rfl)) (cc (hy 5 _ rfl)) (cc (hy 6 _ rfl)) (cc (hy 7 _ rfl)) (cc (hy 8 _ rfl)) (Kp:=Kp) (fun g hg=>by
    obtain ⟨x,y,z,hx⟩:=Gi g hg;exact ⟨x,y,z,(o1 g (lt hx)).trans hx⟩) fun W' hk hs=>hJ W' (fun g hg=>by
    obtain ⟨x,y,z,hx⟩:=Gi g hg;exact (hk g hg).trans (o1 g (lt hx))) zOM
end
end
section
section
variable {Fin:FE}{Ea:E5 Try.prog Fin}
variable {B:Nat->Bool}{W:World}{nn:Nat}{c:Frame}{cs:List Frame}
variable {v0 v1 v2 v3 v4 v5 v6 v7 v8 v9 Aa Ab Ac Ae Af Ah Ai Aj Ak Al Am Ao Ap Ar Au Av Aw Ay Az AA AB AJ AL AO AP AQ AU AV AX AY AZ A8 A9 Ba Bb Bc Bf Bh Bj Bl Bp Bq Br Bu Bv Bw Bz BD BF BG BH BI BJ BK BL BM BN BO BP BQ BR BS BU BX BZ Ca Cb Cc Ce Cg Ci Cj Ck Cm Co Cq Cr Ct Cu Cw Cx Cy Cz CB CF CG CJ CK CO CQ CS CU CV CW CX CY CZ C8 C9:Value}
theorem R6 {W:World}{g:Nat}{k a b d:Int}{t:TypeId}{f:Nat × Nat}(h:W.heap[g]?=some (.cells #[.int .i64 k,.int .i64 a,.int .i64 b,.int .i64 d,.slice none 0 0] t f)):Kj W (.slice (some ⟨g,0,none⟩) 1 1) [⟨k,a,b,d⟩]:=by
  refine ⟨_,1,rfl,by simp,fun i c hc=>?_⟩;have hi:i=0:=by
    have:=(List.getElem?_eq_some_iff.1 hc).1
    simpa using this
  subst hi;have:(⟨k,a,b,d⟩:Ef)=c:=by simpa using hc
  rw [← this];exact ⟨g,0,none,0,0,rfl,by simp [World.cell?,h],by simp [World.cell?,h],by simp [World.cell?,h],by simp [World.cell?,h],by simp [World.cell?,h]⟩
theorem vE (H:Array Obj)(a b c d e:Obj)(X:Array Obj)(h:X=((((H.push a).push b).push c).push d).push e):X[H.size]?=some a/\X[H.size+1]?=some b/\X[H.size+2]?=some c/\X[H.size+3]?=some d/\X[H.size+4]?=some e:=by subst h;refine ⟨?_,?_,?_,?_,?_⟩ <;> (simp only [Array.getElem?_push,Array.size_push];(repeat rw [if_neg zOM]);first | rw [if_pos rfl] | simp)
theorem KM {W:World}{T n:Nat}{l:List Value}{t:TypeId}{f:Nat × Nat}(h:W.heap[T]?=some (.cells l.toArray t f))(hn:l.length=n)(h0:l≠[])(hm:n<=1000):Reads W (.slice (some ⟨T,0,none⟩) n n) l:=by subst hn;refine .inr ⟨h0,T,0,_,rfl,Nat.le_refl _,by unfold maxLen;omega,fun i u hu=>?_⟩;rw [Nat.zero_add];simp [World.cell?,h,hu]
theorem yV {A0 A1 R T Q:Nat}{t0 t1 tr tt:TypeId}{Kp:Nat->Prop}(hQ:W.heap[Q]?=some (.cells #[.slice (some ⟨R,0,none⟩) 2 2,.slice (some ⟨T,0,none⟩) 5 5,.slice none 0 0,.int .i64 0] 25 (0,0)))(hR:W.heap[R]?=some (.cells #[.slice (some ⟨A0,0,none⟩) 1 1,.slice (some ⟨A1,0,none⟩) 1 1] tr (0,0)))(hT:W.heap[T]?=some (.cells #[.int .i64 0,.int .i64 1,.int .i64 1,.int .i64 0,.int .i64 0] tt (0,0)))(Zl:W.heap[A0]?=some (.cells #[.int .i64 6,.int .i64 0,.int .i64 5,.int .i64 0,.slice none 0 0] t0 (0,0)))(hA1:W.heap[A1]?=some (.cells #[.int .i64 6,.int .i64 0,.int .i64 9,.int .i64 0,.slice none 0 0] t1 (0,0)))(hcap:nn+8 < 1000000)(hB:∀ g,B g=true->g < W.heap.size)(bR:B R=false)(bT:B T=false)(b0:B A0=false)(b1:B A1=false)(hTF:T≠R/\T≠A0/\T≠A1)(Gi:∀ g,Kp g->(∃ c e f,W.heap[g]?=some (.cells c e f))/\B g=false/\g≠R/\g≠A0/\g≠A1/\g≠T)(hJ:∀ B' W',(∀ g,B' g=true->B g=true\/W.heap.size<=g)->(∀ g,B' g=true->g < W'.heap.size)->(∀ g,Kp g->W'.heap[g]?=W.heap[g]?)->W.heap.size<=W'.heap.size->JW (S0 (X:=Wk Ef Ec) (Sg:=List Int) Try.prog Fin Ea).base (.Gp B' (nn+2)) (G (c.finish (.bool true)) cs) W') :
    JL (S0 (X:=Wk Ef Ec) (Sg:=List Int) Try.prog Fin Ea).L (.Gp B nn) (G ((base 5).at ⟨#[v0,.pointer (some ⟨Q,0,none⟩),v2,v3,v4,v5,v6,v7,v8,v9,Aa,Ab,Ac,Ae,Af,Ah,Ai,Aj,Ak,Al,Am,Ao,Ap,Ar,Au,Av,Aw,Ay,Az,AA,AB,AJ,AL,AO,AP,AQ,AU,AV,AX,AY,AZ,A8,A9,Ba,Bb,Bc,Bf,Bh,Bj,Bl,Bp,Bq,Br,Bu,Bv,Bw,Bz,BD,BF,BG,BH,BI,BJ,BK,BL,BM,BN,BO,BP,BQ,BR,BS,BU,BX,BZ,Ca,Cb,Cc,Ce,Cg,Ci,Cj,Ck,Cm,Co,Cq,Cr,Ct,Cu,Cw,Cx,Cy,Cz,CB,CF,CG,CJ,CK,CO,CQ,CS,CU,CV,CW,CX,CY,CZ,C8,C9],[]⟩ (.code zQ :: [])) (c :: cs)) W:=by
  have HA:=Lib.hid (zAI hQ (zAI hR (zAI hT (zAI Zl (zAI hA1 (zAI hB (zAI bR (zAI bT (zAI b0 (zAI b1 (zAI hTF (zAI Gi hJ))))))))))));clear hQ hR hT Zl hA1 hB bR bT b0 b1 hTF Gi hJ;rw [nV];refine Ei ?_;simp only [zH,Try.f5];refine EH fun _ hkk=>?_;refine EL.KU (S:=(S0 (X:=Wk Ef Ec) (Sg:=List Int) Try.prog Fin Ea)) (b:=base 5) 0 1 [] (by simp) zKR nE (rest:=[1,2,3,4,5,6,7,8,9]) rfl zKR fun W₃ LA=>?_;have hh3:W₃.heap=W.heap:=by obtain ⟨τ,d,rfl⟩:=LA;rfl
  have c0:W₃.cell? ⟨Q,0,none⟩=some (.slice (some ⟨R,0,none⟩) 2 2):=by simp [World.cell?,hh3,HA.out.1]
  have c1:W₃.cell? ⟨Q,1,none⟩=some (.slice (some ⟨T,0,none⟩) 5 5):=by simp [World.cell?,hh3,HA.out.1]
  have c2:W₃.cell? ⟨Q,2,none⟩=some (.slice none 0 0):=by simp [World.cell?,hh3,HA.out.1]
  have c3:W₃.cell? ⟨Q,3,none⟩=some (.int .i64 0):=by simp [World.cell?,hh3,HA.out.1]
  have HH:=Lib.hid hh3;clear hh3;dsimp only [List.drop,List.take];gi_wp2;try refine ⟨rfl,?_⟩
  have hh3:=HH.out;clear HH c0 c1 c2 c3 LA;show JL (S0 (X:=Wk Ef Ec) (Sg:=List Int) Try.prog Fin Ea).L _ _ W₃;try dsimp only
  refine JL.enter rfl rfl nE rfl Try.func7 zKR zKR ?_;walk_nrm;obtain ⟨hQ,hR,hT,Zl,hA1,hB,bR,bT,b0,b1,hTF,Gi,hJ⟩:=HA.out;clear HA;rw [← hh3] at hQ hR hT Zl hA1 hB Gi hJ;have TN:∀ g,(g=R\/g=A0\/g=A1\/g=T)->∃ c e f,W₃.heap[g]?=some (.cells c e f):=fun g hg=>by
    rcases hg with rfl|rfl|rfl|rfl
    . exact ⟨_,_,_,hR⟩
    . exact ⟨_,_,_,Zl⟩
    . exact ⟨_,_,_,hA1⟩
    . exact ⟨_,_,_,hT⟩
  have HJ:=Lib.hid (zAI Gi hJ);refine Rc (n:=1) (plans:=Zi) (turns:=WE) (pg:=R) (po:=0) (Ju:=[.slice (some ⟨A0,0,none⟩) 1 1,.slice (some ⟨A1,0,none⟩) 1 1]) (Kp:=Kp) (Fx:=fun g=>g=R\/g=A0\/g=A1\/g=T) (fs:=[]) (fl:=0) (fa:=none) (fc:=0) (fb:=0) (fo:=0) (hl:=[]) (hg:=0) (ho:=0) rfl (by decide) (fun i x hx=>(by simp at hx)) (by decide) (fun i x hx=>(by simp at hx)) (by decide) (by decide) TN (fun g hg=>?_) (fun m hm=>?_) (by decide) (by decide) (by decide) (by decide) (by decide) ?_ (by decide) hcap hB (fun _ g hg=>?_) (fun g hg=>?_) kz rfl mD ?_
  . rcases hg with rfl | rfl | rfl | rfl <;> assumption
  . refine ⟨rfl,by decide,fun σ W' hI i cv hi=>?_,fun i cv pl hi hp σ W' hI=>?_⟩
    . have e:=(hm σ W' hI R (.inl rfl)).trans hR;rcases i with _|_|i
      . cases hi;simp [World.cell?,e]
      . cases hi;simp [World.cell?,e]
      . simp at hi
    . have e0:=(hm σ W' hI A0 (.inr (.inl rfl))).trans Zl;have e1:=(hm σ W' hI A1 (.inr (.inr (.inl rfl)))).trans hA1;rcases i with _|_|i
      . cases hi;cases hp;exact R6 e0
      . cases hi;cases hp;exact R6 e1
      . simp at hi
  . exact KM hT rfl (by simp [WE]) (by decide)
  . right;right;right
    simpa [Value.ownBlock] using hg.symm
  . obtain ⟨h1,h2,h3,h4,h5,h6⟩:=Gi g hg;exact ⟨h1,h2,fun h=>h.elim h3 fun h=>h.elim h4 fun h=>h.elim h5 h6⟩
  . intro B' W4 N1 a1 a2 a3 y1 y2 y3 vv hB' hN1 hN2 NM hov YI;rw [Frame.finish_at];show JL (S0 (X:=Wk Ef Ec) (Sg:=List Int) Try.prog Fin Ea).L (.Gp B' (nn+2)) _ W4;rw [show ((kz.s:Nat):Int)=5 from by rw [zW];rfl,mK];walk_nrm;have lt:∀ {g:Nat} {o},W₃.heap[g]?=some o->g < W₃.heap.size:=fun h=>(zGE h).1;cases hkk;refine rP ?hops NM (jH hov) (Kp:=Kp) (fun g hg=>by rw [YI g (.inl hg)];exact (Gi g hg).1) fun W' hk hs=>hJ B' W' (fun g hg=>by
      rcases hB' g hg with h|h
      . exact .inl h
      . exact .inr h.1) (fun g hg=>by
      rcases hB' g hg with h|h
      . have:=hB g h;omega
      . omega) (fun g hg=>(hk g hg).trans (YI g (.inl hg))) zOM
    rfl
theorem Z5 {Kp:Nat->Prop}(hcap:nn+8 < 1000000)(hB:∀ g,B g=true->g < W.heap.size)(Gi:∀ g,Kp g->(∃ c e f,W.heap[g]?=some (.cells c e f))/\B g=false)(hJ:∀ B' W',(∀ g,B' g=true->B g=true\/W.heap.size<=g)->(∀ g,B' g=true->g < W'.heap.size)->(∀ g,Kp g->W'.heap[g]?=W.heap[g]?)->W.heap.size<=W'.heap.size->JW (S0 (X:=Wk Ef Ec) (Sg:=List Int) Try.prog Fin Ea).base (.Gp B' (nn+2)) (G (c.finish (.bool true)) cs) W') :
    JW (S0 (X:=Wk Ef Ec) (Sg:=List Int) Try.prog Fin Ea).base (.Gp B nn) (G (Frame.enter Try.prog 5 #[] .normal) (c :: cs)) W:=by
  rw [enter_at _ Try.func5 iw,show Try.f5.ntmps=109 from by kernel_rfl];walk_nrm;have HA:=Lib.hid (zAI hB (zAI Gi hJ));clear hB Gi hJ;show JL (S0 (X:=Wk Ef Ec) (Sg:=List Int) Try.prog Fin Ea).L _ _ W;refine Ei ?_;simp only [kn0,Try.f5];refine EH fun _ hkk=>?_
  (refine Eo ?_;walk_nrm)
  refine EB ?_;cases hkk;rw [qB];refine Ei ?_;refine EL.EJ (S:=(S0 (X:=Wk Ef Ec) (Sg:=List Int) Try.prog Fin Ea)) (b:=base 5) [] (by simp) zKR nE zKR fun W₁ ha=>?_;have hh:W₁.heap=W.heap:=by obtain ⟨τ,d,rfl⟩:=ha;rfl
  have HH:=Lib.hid hh;clear hh;simp only [kn1,Try.f5];gi_wp2;generalize hW1:World.alloc _ _=W1;have q1:W1.heap=((((W.heap.push (.cells #[.int .i64 6,.int .i64 0,.int .i64 5,.int .i64 0,.slice none 0 0] 44 (0,0))).push (.cells #[.int .i64 6,.int .i64 0,.int .i64 9,.int .i64 0,.slice none 0 0] 44 (0,0))).push (.cells #[.slice (some ⟨W.heap.size,0,none⟩) 1 1,.slice (some ⟨W.heap.size+1,0,none⟩) 1 1] 54 (0,0))).push (.cells #[.int .i64 0,.int .i64 1,.int .i64 1,.int .i64 0,.int .i64 0] 3 (0,0))).push (.cells #[.slice (some ⟨W.heap.size+2,0,none⟩) 2 2,.slice (some ⟨W.heap.size+3,0,none⟩) 5 5,.slice none 0 0,.int .i64 0] 25 (0,0)):=by rw [← hW1,← HH.out];rfl
  have hs:W₁.heap.size=W.heap.size:=by rw [HH.out]
  rw [hs];clear hs hW1 HH ha;obtain ⟨hB,Gi,hJ⟩:=HA.out;clear HA;have hbf:∀ g,W.heap.size<=g->B g=false:=fun g hg=>by
    cases h:B g with
    | false=>rfl
    | true=>have:=hB g h;omega
  have o1:∀ g,g < W.heap.size->W1.heap[g]?=W.heap[g]?:=fun g hg=>by rw [q1];simp only [Array.getElem?_push,Array.size_push];rw [if_neg zOM,if_neg zOM,if_neg zOM,if_neg zOM,if_neg zOM]
  have s1:W1.heap.size=W.heap.size+5:=by rw [q1];simp
  have lt:∀ {g:Nat} {o},W.heap[g]?=some o->g < W.heap.size:=fun h=>(zGE h).1;obtain ⟨n0,n1,n2,n3,n4⟩:=vE W.heap _ _ _ _ _ _ q1;show JL (S0 (X:=Wk Ef Ec) (Sg:=List Int) Try.prog Fin Ea).L (.Gp B nn) (G ((base 5).at ⟨_,[]⟩ (.code zQ :: [])) (c :: cs)) W1;exact yV n4 n2 n3 n0 n1 hcap (fun g hg=>by have:=hB g hg;omega) (hbf _ zOM) (hbf _ zOM) (hbf _ zOM) (hbf _ zOM) ⟨by omega,by omega,by omega⟩ (Kp:=Kp) (fun g hg=>by
    obtain ⟨⟨x,y,z,hx⟩,hb⟩:=Gi g hg;have hl:=lt hx;exact ⟨⟨x,y,z,(o1 g hl).trans hx⟩,hb,by omega,by omega,by omega⟩) fun B' W' h1 h2 h3 h4=>hJ B' W' (fun g hg=>(h1 g hg).imp id zOM) h2 (fun g hg=>by
    obtain ⟨⟨x,y,z,hx⟩,hb⟩:=Gi g hg;exact (h3 g hg).trans (o1 g (lt hx))) zOM
end
end
section
def me0:Code:=match Try.f4.body with | some (.seq c _)=>c | _=>.skip
def mk1:Code:=match Try.f4.body with | some (.seq _ c)=>c | _=>.skip
def me1:Code:=match Try.f4.body with | some (.seq _ (.seq c _))=>c | _=>.skip
def mk2:Code:=match Try.f4.body with | some (.seq _ (.seq _ c))=>c | _=>.skip
def me2:Code:=match Try.f4.body with | some (.seq _ (.seq _ (.seq c _)))=>c | _=>.skip
def mk3:Code:=match Try.f4.body with | some (.seq _ (.seq _ (.seq _ c)))=>c | _=>.skip
def zN:Code:=match Try.f4.body with | some (.seq _ (.seq _ (.seq _ (.seq c _))))=>c | _=>.skip
def mk4:Code:=match Try.f4.body with | some (.seq _ (.seq _ (.seq _ (.seq _ c))))=>c | _=>.skip
theorem gD:Try.f4.body=some (.seq me0 mk1):=rfl
theorem mq:mk1=.seq me1 mk2:=rfl
theorem nR:mk2=.seq me2 mk3:=rfl
theorem nL:mk3=.seq zN mk4:=rfl
theorem gu:∀ g∈[16,17],@Lets (Host.only 4) Try.prog g:=fun g hg=>by
  simp only [List.mem_cons,List.not_mem_nil,or_false] at hg;rcases hg with rfl|rfl
  . exact ⟨by kernel_rfl,.inl ⟨_,_,Try.func16,by kernel_rfl,rfl,by kernel_rfl⟩⟩
  . exact ⟨by kernel_rfl,.inl ⟨_,_,Try.func17,by kernel_rfl,rfl,by kernel_rfl⟩⟩
def MeR (tm:Array Value):Prop:=∀ w,(results Try.f4 tm).runT Try.prog w #[]=(.ok (.bool true) w,#[])
theorem EP {W:World}{g:Nat}{cs:Array Value}{t:TypeId}{f:Nat × Nat}(h:W.heap[g]?=some (.cells cs t f))(j:Nat):W.cell? ⟨g,j,none⟩=cs[j]?:=by simp [World.cell?,h]
section
variable {Fin:FE}{Ea:E5 Try.prog Fin}
variable {B:Nat->Bool}{W:World}{nn:Nat}{cs:List Frame}
variable {v0 v1 v2 v3 v4 v5 v6 v7 v8 v9 Aa Ab Ac Ae Af Ah Ai Aj Ak Al Am Ao Ap Ar Au Av Aw Ay Az AA AB AJ AL AO AP AQ AU AV AX AY AZ A8 A9 Ba Bb Bc Bf Bh Bj Bl Bp Bq Br Bu Bv Bw Bz BD BF BG BH BI BJ BK BL BM BN BO BP BQ BR BS BU BX BZ Ca Cb Cc Ce Cg Ci Cj Ck Cm Co Cq Cr Ct Cu Cw Cx Cy Cz CB CF CG CJ CK:Value}
theorem iY {Fx:Nat->Prop}{wa ta ya aa oa:Option Addr}{plans:List (List Ef)}{turns hl:List Int}{outs:List (List Gq)}{Km tn tc yn yc ac on oc cb rb:Nat}{u st:Int}{cut:Bool}(hC:FX Fx wa ta ya plans turns hl W)(hA:LW aa outs W)(hc:W.heap[cb]?=some (.cells #[.slice wa plans.length Km,.slice ta tn tc,.slice ya yn yc,.int .i64 u] 25 (0,0)))(hr:W.heap[rb]?=some (.cells #[.slice aa outs.length ac,.slice oa on oc,.int .i64 st,.bool cut] 31 (0,0)))(hpl:plans.length<=16)(hlen:outs.length<=plans.length)(hl1:0 < outs.length->outs.length=plans.length/\∀ j,(plans.getD j []).length<=64)(hfit:∀ k,(outs.getD k []).length<=(plans.getD k []).length)(hst:∀ (j i:Nat) (a:Gq),(outs.getD j [])[i]?=some a->a.st<=1000000/\a.bg<=1000000/\a.ow<=1000000)(hm:∀ (k i:Nat) c a,(plans.getD k [])[i]?=some c->(outs.getD k [])[i]?=some a->Tq (fun p lo=>OD plans outs k p lo a.st plans.length) c a)(hJ:∀ W' tm Y,MeR tm->(∀ g,g < W.heap.size->W'.heap[g]?=W.heap[g]?)->W.heap.size<=W'.heap.size->JL (S0 (X:=Wk Ef Ec) (Sg:=List Int) Try.prog Fin Ea).L (.Gp B nn) (G { (base 4).at ⟨tm,[]⟩ Y with mode:=.returning } cs) W') :
    JL (S0 (X:=Wk Ef Ec) (Sg:=List Int) Try.prog Fin Ea).L (.Gp B nn) (G ((base 4).at ⟨#[v0,v1,v2,v3,v4,.pointer (some ⟨cb,0,none⟩),v6,.pointer (some ⟨rb,0,none⟩),v8,v9,Aa,Ab,Ac,Ae,Af,Ah,Ai,Aj,Ak,Al,Am,Ao,Ap,Ar,Au,Av,Aw,Ay,Az,AA,AB,AJ,AL,AO,AP,AQ,AU,AV,AX,AY,AZ,A8,A9,Ba,Bb,Bc,Bf,Bh,Bj,Bl,Bp,Bq,Br,Bu,Bv,Bw,Bz,BD,BF,BG,BH,BI,BJ,BK,BL,BM,BN,BO,BP,BQ,BR,BS,BU,BX,BZ,Ca,Cb,Cc,Ce,Cg,Ci,Cj,Ck,Cm,Co,Cq,Cr,Ct,Cu,Cw,Cx,Cy,Cz,CB,CF,CG,CJ,CK],[]⟩ [.code mk4]) cs) W:=by
  refine EL.EJ (S:=(S0 (X:=Wk Ef Ec) (Sg:=List Int) Try.prog Fin Ea)) (b:=base 4) [16,17] gu zKR nE zKR fun W₁ ha=>?_;have hh:W₁.heap=W.heap:=by obtain ⟨τ,d,rfl⟩:=ha;rfl
  clear ha;replace hC:FX Fx wa ta ya plans turns hl W₁:=hC.old fun g _=>by rw [hh]
  replace hA:LW aa outs W₁:=hA.old fun g _=>by rw [hh]
  rw [← hh] at hc hr;have c0:=EP hc 0;have c1:=EP hc 1;have c2:=EP hc 2;have c3:=EP hc 3;have r0:=EP hr 0;have r1:=EP hr 1;have r2:=EP hr 2;have r3:=EP hr 3;simp only [List.getElem?_toArray,List.getElem?_cons_zero,List.getElem?_cons_succ] at c0 c1 c2 c3 r0 r1 r2 r3;have hout:outs.length<=16:=by omega
  have HH:=Lib.hid (zAI hC (zAI hA (zAI hl1 (zAI hfit (zAI hst (zAI hm (zAI @hJ (zAI hh (zAI hc hr)))))))));clear hC hA hl1 hfit hst hm hJ hh hc hr;simp only [mk4,Try.f4];gi_wp2_with (gi_at_call 16;refine (gI _ HH.out.1 HH.out.2.1 Km tn tc yn yc ac u oa on oc st cut hlen hpl HH.out.2.2.2.1).mono ?_;rintro e w1 ⟨rfl,hB⟩;have HB:=Lib.hid hB;clear hB c0 c1 c2 c3 r0 r1 r2 r3)
  gi_loopw [10] (fun kv wr=>∃ k:Nat,k<=outs.length/\kv=.int .i64 k/\Below W₁.heap.size W₁ wr) (fun kv _=>outs.length - (intOf kv).toNat)
  case atStart=>exact ⟨0,Nat.zero_le _,rfl,HB.out⟩
  case round=>
    obtain ⟨k,hk,rfl,hB⟩:=hrel;have hz:=hB.size;have up:∀ {g o v},W₁.cell? ⟨g,o,none⟩=some v->wr.cell? ⟨g,o,none⟩=some v:=fun h=>(hB.cell (EN h)).trans h;obtain ⟨-,-,-,-,-,-,-,-,hc,hr⟩:=HH.out;have r0:=up ((EP hr 0).trans (by rfl));by_cases hlt:k < outs.length
    . have hki:(k:Int) < (outs.length:Int):=by omega
      obtain ⟨hC,hA,hl1,hfit,hst,hm,-⟩:=HH.out;obtain ⟨hle,h64⟩:=hl1 zOM;have hkp:k < plans.length:=by omega
      have uX:(k:Int) < (plans.length:Int):=by omega
      obtain ⟨pl,hpk⟩:∃ pl,plans[k]?=some pl:=⟨_,List.getElem?_eq_getElem hkp⟩
      obtain ⟨out,hok⟩:∃ out,outs[k]?=some out:=⟨_,List.getElem?_eq_getElem hlt⟩
      have hf:=hfit k;have h6:=h64 k;have e64:plans.getD k []=pl:=by rw [List.getD_eq_getElem?_getD,hpk];rfl
      have SV:outs.getD k []=out:=by rw [List.getD_eq_getElem?_getD,hok];rfl
      have hs:=hst k;have hmk:=hm k;rw [e64,SV] at hf;rw [e64] at h6;rw [SV] at hs;rw [e64,SV] at hmk;obtain ⟨b,o,ca,cc,rfl,-,-,p1,p2⟩:=hC.work k pl hpk;obtain ⟨b2,o2,sa,sc,rfl,q1,q2⟩:=hA k out hok;have HR:=Lib.hid (zAI hf (zAI hs (zAI hmk (zAI p1 (zAI p2 (zAI q1 (zAI q2 (zAI hB (zAI hle h64)))))))));clear hB hC hA hpk hok p1 p2 q1 q2 hfit h64 hst e64 SV hs hf hm hmk hl1 hc hr hle up;gi_wp2;clear r0;gi_loopw [11] (fun iv wq=>∃ i:Nat,i<=out.length/\iv=.int .i64 i/\Below W₁.heap.size W₁ wq) (fun iv _=>out.length - (intOf iv).toNat)
      case atStart=>exact ⟨0,Nat.zero_le _,rfl,HR.out.2.2.2.2.2.2.2.1⟩
      case round=>
        obtain ⟨i,hi,rfl,hB⟩:=hrel;have hz:=hB.size;have up:∀ {g o v},W₁.cell? ⟨g,o,none⟩=some v->wr.cell? ⟨g,o,none⟩=some v:=fun h=>(hB.cell (EN h)).trans h;obtain ⟨-,-,-,-,-,-,-,-,hc,hr⟩:=HH.out;have c0:=up ((EP hc 0).trans (by rfl));have r0:=up ((EP hr 0).trans (by rfl));have e2:=up HR.out.2.2.2.2.2.1;by_cases hl0:i < out.length
        . have hl0':(i:Int) < (out.length:Int):=by omega
          obtain ⟨hf,hs,hmk,p1,p2,-,q2,-⟩:=HR.out;have Aax:i < pl.length:=by omega
          have Abt:i < 64:=by omega
          have hip:(i:Int) < (pl.length:Int):=by omega
          obtain ⟨c,hcc⟩:∃ c,pl[i]?=some c:=⟨_,List.getElem?_eq_getElem Aax⟩
          obtain ⟨a,zy⟩:∃ a,out[i]?=some a:=⟨_,List.getElem?_eq_getElem hl0⟩
          obtain ⟨g,o',pa,pn,pc,rfl,-,x0,x1,x2,x3,x4⟩:=p2 i c hcc;obtain ⟨g2,r9,ia,il,ic,rfl,y0,y1,y2,y3,y4,y5,y6,y7,y8⟩:=q2 i a zy;have hmet:=hmk i c a hcc zy;obtain ⟨hs1,hs2,hs3⟩:=hs i a zy;replace p1:=up p1;replace x0:=up x0;replace x1:=up x1;replace x2:=up x2;replace x3:=up x3;replace x4:=up x4;replace y0:=up y0;replace y1:=up y1;replace y2:=up y2;replace y3:=up y3;replace y4:=up y4;replace y5:=up y5;replace y6:=up y6;replace y7:=up y7;replace y8:=up y8;have l0:=EN c0;have l1:=EN r0;have l2:=EN p1;have l3:=EN e2;have l4:=EN x0;have l5:=EN y0;have Wn:∀ g,g < wr.heap.size->∀ oa ob o,((wr.alloc oa).alloc ob).drew.cell? ⟨g,o,none⟩=wr.cell? ⟨g,o,none⟩:=fun g hg oa ob o=>by
            have e:((wr.alloc oa).alloc ob).drew.heap[g]?=wr.heap[g]?:=by show ((wr.heap.push oa).push ob)[g]?=_;rw [Array.getElem?_push,Array.getElem?_push,Array.size_push,if_neg zOM,if_neg zOM]
            simp only [World.cell?,e]
          have Ua:∀ g,g < wr.heap.size->∀ oa o,(wr.alloc oa).drew.cell? ⟨g,o,none⟩=wr.cell? ⟨g,o,none⟩:=fun g hg oa o=>by
            have e:(wr.alloc oa).drew.heap[g]?=wr.heap[g]?:=by show (wr.heap.push oa)[g]?=_;rw [Array.getElem?_push,if_neg zOM]
            simp only [World.cell?,e]
          have z0:=Wn _ l0;have z1:=Wn _ l1;have z2:=Wn _ l2;have z3:=Wn _ l3;have z4:=Wn _ l4;have z5:=Wn _ l5;have w0:=Ua _ l0;have w1:=Ua _ l1;have w2:=Ua _ l2;have w3:=Ua _ l3;have w4:=Ua _ l4;have w5:=Ua _ l5;have HS:=Lib.hid (zAI hmet hB);clear hf hcc zy hB p2 q2 Ua Wn l0 l1 l2 l3 l4 l5 up hmet hmk hs hc hr;gi_wp2;gi_cut [12,13] from 98 (fun sa sd wc=>∃ A D:Nat,sa=.pointer (some ⟨A,0,none⟩)/\sd=.pointer (some ⟨D,0,none⟩)/\wc.cell? ⟨D,0,none⟩=some (.int .i64 c.kind)/\wc.cell? ⟨D,1,none⟩=some (.int .i64 c.a)/\wc.cell? ⟨A,0,none⟩=some (.int .i64 a.bg)/\wc.cell? ⟨A,1,none⟩=some (.int .i64 a.st)/\wc.cell? ⟨A,2,none⟩=some (.int .i64 a.ow)/\RowKit.Hid (Below W₁.heap.size W₁ wc))
          case first=>
            gi_region
            . (gi_wp2;refine Met.intro ?_;go_step;(repeat apply Exists.intro);refine ⟨?rel,rfl⟩)
              case rel=>
                exact ⟨_,_,rfl,rfl,H7 _ _ _ _ _ 0,H7 _ _ _ _ _ 1,Lib.cell?_alloc_some _ (I8 _ _ _ _ 0),Lib.cell?_alloc_some _ (I8 _ _ _ _ 1),Lib.cell?_alloc_some _ (I8 _ _ _ _ 2),Lib.hid ((HS.out.2.alloc HS.out.2.size _).alloc (by have:=HS.out.2.size;simp;omega) _).drew⟩
            . (gi_wp2;refine Met.intro ?_;go_step;(repeat apply Exists.intro);refine ⟨?rel,rfl⟩)
              case rel=>
                exact ⟨_,_,rfl,rfl,Lib.cell?_alloc_some _ (I8 _ _ _ _ 0),Lib.cell?_alloc_some _ (I8 _ _ _ _ 1),H7 _ _ _ _ _ 0,H7 _ _ _ _ _ 1,H7 _ _ _ _ _ 2,Lib.hid ((HS.out.2.alloc HS.out.2.size _).alloc (by have:=HS.out.2.size;simp;omega) _).drew⟩
          case rest=>
            obtain ⟨A,D,rfl,rfl,f0,f1,f2,f3,f4,HW⟩:=hcut;clear z0 z1 z2 z3 z4 z5 w0 w1 w2 w3 w4 w5 x0 x1 x2 x3 x4 y0 y1 y2 y3 y4 y5 y6 y7 y8 p1 e2 uX hip hl0' hki c0 r0;by_cases how:2 < a.ow
            . obtain ⟨m1,m2,m3⟩:=HS.out.1 how;have how':(2:Int) < (a.ow:Int):=by omega
              obtain ⟨-,-,-,-,-,-,-,-,hc,hr⟩:=HH.out;have hB:=HW.out;have up:∀ {g o v},W₁.cell? ⟨g,o,none⟩=some v->wc.cell? ⟨g,o,none⟩=some v:=fun h=>(hB.cell (EN h)).trans h;have c0:=up ((EP hc 0).trans (by rfl));have c1:=up ((EP hc 1).trans (by rfl));have c2:=up ((EP hc 2).trans (by rfl));have c3:=up ((EP hc 3).trans (by rfl));have r0:=up ((EP hr 0).trans (by rfl));have r1:=up ((EP hr 1).trans (by rfl));have r2:=up ((EP hr 2).trans (by rfl));have r3:=up ((EP hr 3).trans (by rfl));have HM:=Lib.hid (zAI m1 (zAI m2 m3));have hq:Int.tdiv (a.ow:Int) 2=((a.ow / 2:Nat):Int):=by rw [Int.tdiv_eq_ediv_of_nonneg zOM];omega
              clear hc hr hB up m1 m2 m3;by_cases h6k:c.kind=6
              . have g6:(c.kind != 6)=false:=by simp [h6k]
                gi_wp2_with (gi_at_call 17;fail)
                rw [show (a.ow:Int) / 2=((a.ow / 2:Nat):Int) from by omega];refine (Ry _ (HH.out.1.old fun g hg=>HW.out.block g hg) (HH.out.2.1.old fun g hg=>HW.out.block g hg) Km tn tc yn yc ac u oa on oc st cut HR.out.2.2.2.2.2.2.2.2.1 hpl HH.out.2.2.2.1 HR.out.2.2.2.2.2.2.2.2.2 k c.a a.bg a.st (a.ow / 2) zOM zOM zOM (fun j i a h=>(HH.out.2.2.2.2.1 j i a h).1) HM.out.2.1 HM.out.2.2).mono ?_;rintro e w8 ⟨rfl,vG⟩;have H8:=Lib.hid (HW.out.trans (vG.mono HW.out.size));clear vG c0 c1 c2 c3 r0 r1 r2 r3;gi_wp2;go_roundw
                case rel=>exact ⟨i+1,by omega,by go_num,H8.out⟩
                case measure=>simp [intOf];omega
              . have h7k:c.kind=7:=HM.out.1.resolve_left h6k;have g6:(c.kind != 6)=true:=by simp [h6k]
                have g7:(c.kind != 7)=false:=by simp [h7k]
                gi_wp2_with (gi_at_call 17;fail)
                rw [show (a.ow:Int) / 2=((a.ow / 2:Nat):Int) from by omega];refine (Ry _ (HH.out.1.old fun g hg=>HW.out.block g hg) (HH.out.2.1.old fun g hg=>HW.out.block g hg) Km tn tc yn yc ac u oa on oc st cut HR.out.2.2.2.2.2.2.2.2.1 hpl HH.out.2.2.2.1 HR.out.2.2.2.2.2.2.2.2.2 k c.a a.bg a.st (a.ow / 2) zOM zOM zOM (fun j i a h=>(HH.out.2.2.2.2.1 j i a h).1) HM.out.2.1 HM.out.2.2).mono ?_;rintro e w8 ⟨rfl,vG⟩;have H8:=Lib.hid (HW.out.trans (vG.mono HW.out.size));clear vG c0 c1 c2 c3 r0 r1 r2 r3;gi_wp2;go_roundw
                case rel=>exact ⟨i+1,by omega,by go_num,H8.out⟩
                case measure=>simp [intOf];omega
            . have how':¬ (2:Int) < (a.ow:Int):=by omega
              gi_wp2_with fail
              any_goals first | (exfalso;rename_i h1 h2;refine absurd h1 ?_;simp [undef];done) | (exfalso;rename_i h1;refine absurd h1 ?_;simp [undef];done)
              go_roundw
              case rel=>exact ⟨i+1,by omega,by go_num,HW.out⟩
              case measure=>simp [intOf];omega
        . obtain rfl:i=out.length:=by omega
          have hl0':¬ (out.length:Int) < (out.length:Int):=by omega
          have HBq:=Lib.hid hB;clear hB up hc hr;gi_wp2;go_roundw
          case rel=>exact ⟨k+1,by omega,by go_num,HBq.out⟩
          case measure=>simp [intOf];omega
    . obtain rfl:k=outs.length:=by omega
      have HBq:=Lib.hid hB;clear hB up hc hr;gi_wp2;intro Y;obtain ⟨-,-,-,-,-,-,hJ,hh,-⟩:=HH.out;have hs:=congrArg Array.size hh;have hBB:=HBq.out;exact hJ _ _ Y (fun w=>by kernel_rfl) (fun g hg=>by rw [hBB.block g (by rw [hs];exact hg),hh]) (by have:=hBB.size;omega)
end
end
theorem flat_get (n:Nat):∀ (l:List (List Value)),(∀ x∈l,x.length=n)->∀ (i:Nat) (x:List Value),l[i]?=some x->∀ j,j < n->l.flatten[i * n+j]?=x[j]?
  | [],_,i,x,hx,j,hj=>by simp at hx
  | y :: t,h,0,x,hx,j,hj=>by
    obtain rfl:=Option.some.inj hx;have hy:=h y List.mem_cons_self;rw [List.flatten_cons,List.getElem?_append_left zOM]
    simp
  | y :: t,h,i+1,x,hx,j,hj=>by have hy:=h y List.mem_cons_self;have e:(i+1) * n=i * n+n:=Nat.succ_mul i n;rw [List.flatten_cons,List.getElem?_append_right zOM,show (i+1) * n+j - y.length=i * n+j from by omega];exact flat_get n t (fun z hz=>h z (List.mem_cons_of_mem _ hz)) i x hx j hj
theorem Oe {w:World}{base size n:Nat}{v:Value}{xs:List Value}(h:Fa w base size v n xs):∃ p c,v=.slice p n c:=by
  obtain ⟨te,_,h⟩:=h;rcases h with ⟨rfl,rfl⟩|⟨g,cap,cur,rfl,_⟩
  . exact ⟨_,_,rfl⟩
  . exact ⟨_,_,rfl⟩
theorem VO {w:World}{own:Nat->Prop}{iv:Value}{l:List Int}(h:FR w own iv l):∃ ia il ic,iv=.slice ia il ic:=by
  rcases h with ⟨_,rfl⟩|⟨_,g,c,rfl,_⟩
  . exact ⟨_,_,_,rfl⟩
  . exact ⟨_,_,_,rfl⟩
theorem lS {N1:Nat}{z:Rs Ef Ec (List Int)}{a1:Option Addr}{a2 a3:Nat}{ov:Value}{W:World}(h:Ran N1 z (.slice a1 a2 a3) ov W):a2=(FZ z).length/\LW a1 (FZ z) W:=by
  obtain ⟨vs,ho,hv⟩:=h.ex;have hl:(FZ z).length=z.xs.length:=by simp [FZ]
  obtain ⟨p,c,e⟩:=Oe ho;obtain ⟨rfl,rfl,rfl⟩:=Value.slice.inj e;refine ⟨hl.symm,fun k out hk=>?_⟩;obtain ⟨x,hx,rfl⟩:∃ x,z.xs[k]?=some x/\out=x.out:=by
    unfold FZ at hk;rw [List.getElem?_map] at hk;cases hx:z.xs[k]? with
    | none=>rw [hx] at hk;cases hk
    | some x=>rw [hx] at hk;exact ⟨x,rfl,(Option.some.inj hk).symm⟩
  have hkl:k < z.xs.length:=(List.getElem?_eq_some_iff.1 hx).1;have hvl:=ho.len;obtain ⟨v,hvk⟩:∃ v,vs[k]?=some v:=⟨_,List.getElem?_eq_getElem zOM⟩
  obtain ⟨g,cap,e,hc⟩:=MJ ho zOM (by decide);obtain ⟨rfl,_,rfl⟩:=Value.slice.inj e;obtain ⟨⟨I4,h1,h2,h3⟩,h4,_⟩:=hv k v x hvk hx;obtain ⟨sa,sc,rfl⟩:=Oe h2;have hck:=hc k _ hvk;refine ⟨g,0,sa,sc,rfl,by simpa using hck,fun i a ha=>?_⟩;have hil:i < x.out.length:=(List.getElem?_eq_some_iff.1 ha).1;obtain ⟨g2,cap2,e2,hc2⟩:=MJ h2 zOM (by decide);obtain ⟨rfl,_,rfl⟩:=Value.slice.inj e2;obtain ⟨iv,hiv⟩:∃ iv,I4[i]?=some iv:=⟨_,List.getElem?_eq_getElem zOM⟩
  obtain ⟨ia,il,ic,rfl⟩:=VO (h3 i a iv ha hiv);have hz:(List.zipWith E9 x.out I4)[i]?=some (E9 a (.slice ia il ic)):=by rw [List.getElem?_zipWith,ha,hiv]
  have hf:=flat_get 9 (List.zipWith E9 x.out I4) (fun y hy=>by obtain ⟨j,hj,rfl⟩:=List.getElem_of_mem hy;rw [List.getElem_zipWith];rfl) i _ hz
  have key:∀ j u,j < 9->(E9 a (.slice ia il ic))[j]?=some u->W.cell? ⟨g2,i * 9+j,none⟩=some u:=fun j u hj hu=>by have:=hc2 _ _ ((hf j hj).trans hu);rwa [Nat.zero_add] at this
  refine ⟨g2,0,ia,il,ic,rfl,?_⟩;unfold kM;rw [Nat.zero_add];exact ⟨key 0 _ (by decide) rfl,key 1 _ (by decide) rfl,key 2 _ (by decide) rfl,key 3 _ (by decide) rfl,key 4 _ (by decide) rfl,key 5 _ (by decide) rfl,key 6 _ (by decide) rfl,key 7 _ (by decide) rfl,key 8 _ (by decide) rfl⟩
end Go.Proofs.Yticecinjcajmcaa
end
