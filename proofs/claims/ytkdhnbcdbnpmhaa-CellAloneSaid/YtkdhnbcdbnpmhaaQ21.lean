/-
  Part 21 of the proof that CellAlone returns true for every input and leaves its arguments as they were. No further condition.
-/
import Derived.Test.YtkdhnbcdbnpmhaaQ12
import Derived.Test.YtkdhnbcdbnpmhaaQ13
import Derived.Test.YtkdhnbcdbnpmhaaQ14
import Derived.Test.YtkdhnbcdbnpmhaaQ16
import Derived.Test.YtkdhnbcdbnpmhaaQ17
import Derived.Test.YtkdhnbcdbnpmhaaQ20
import Derived.Test.YtkdhnbcdbnpmhaaProg
import Derived.LoopTactic
import Derived.RegionTactic
import Derived.ChangeAlike
import Derived.BigRegion
import Derived.Lib.Hide
import Derived.LoopIn
set_option linter.unusedVariables false
set_option linter.unusedSectionVars false
set_option maxHeartbeats 4000000
set_option maxRecDepth 100000
namespace Go.Proofs.Ytkdhnbcdbnpmhaa
open Go Go.Conc Go.LT Go.LC Go.LK Go.RowKit
open Go.ConcN (WgLive)
section
theorem nQ:(Try.prog.info? 76).map (fun i=>(i.zero,i.size,i.bytes))=some (some (.agg #[]),0,0):=by kernel_rfl
theorem Wz (w:World):(Instr.makeChan 146 (.int .i64 0)).run Try.prog w=.ok (.chan (some w.heap.size)) (w.alloc (.chan 0 #[] false 0 0 false)):=by obtain ⟨i,hi,h0,h1,h2⟩:=info_parts nQ;exact run_makeChan (P:=Try.prog) (t:=146) (e:=76) (dir:=.both) (i:=i) (w:=w) (by kernel_rfl) hi .i64 0 (by decide) (by simp)
section
variable {X Sg:Type}
variable {Fin:Iw}{GR:Ig Try.prog Fin}
variable {B:Nat->Bool}{W:World}{n:Nat}{K:List Item}{cs:List Frame}{ds:List Deferred}
variable {v0 v1 v2 v3 v4 v5 v6 v7 v8 v9 Aa Ab Ac Ae Af Ah Ai Aj Ak Al Am Ao Ap Aq Ar Au Av Aw Ay Az AA AB AJ AL AO AP AQ AU AV AX AY AZ A8 A9 Ba Bb Bc Bf Bh Bj Bl Bp Bq:Value}
theorem wS (hK:∀ W' co go EJ EK,(co=W.heap.size/\go=W.heap.size+1\/co=W.heap.size+1/\go=W.heap.size)->W'.heap=(W.heap.push (.chan 0 #[] false 0 0 false)).push (.chan 0 #[] false 0 0 false)->
      JL (S0 (X:=X) (Sg:=Sg) Try.prog Fin GR).L (.Ii B n) (G ((base 52).at ⟨#[v0,v1,v2,v3,v4,v5,v6,.chan (some co),.chan (some go),v9,Aa,Ab,Ac,Ae,Af,Ah,Ai,Aj,Ak,Al,Am,EJ,EK,Aq,Ar,Au,Av,Aw,Ay,Az,AA,AB,AJ,AL,AO,AP,AQ,AU,AV,AX,AY,AZ,A8,A9,Ba,Bb,Bc,Bf,Bh,Bj,Bl,Bp,Bq],ds⟩ K) cs) W') :
    JL (S0 (X:=X) (Sg:=Sg) Try.prog Fin GR).L (.Ii B n) (G ((base 52).at ⟨#[v0,v1,v2,v3,v4,v5,v6,v7,v8,v9,Aa,Ab,Ac,Ae,Af,Ah,Ai,Aj,Ak,Al,Am,Ao,Ap,Aq,Ar,Au,Av,Aw,Ay,Az,AA,AB,AJ,AL,AO,AP,AQ,AU,AV,AX,AY,AZ,A8,A9,Ba,Bb,Bc,Bf,Bh,Bj,Bl,Bp,Bq],ds⟩ (.code zT :: K)) cs) W:=by
  refine HY.Ht (S:=S0 (X:=X) (Sg:=Sg) Try.prog Fin GR) (b:=base 52) [] (by simp) (by kernel_rfl) nE (by kernel_rfl) fun GQ ha=>?_;have hh:GQ.heap=W.heap:=by obtain ⟨τ,d,rfl⟩:=ha;rfl
  have hm1:=Qq;have hm2:=Wz;have HH:=Lib.hid (And.intro hK hh);clear hK hh;dsimp only;simp only [zT,Ur,Try.f52];gi_region
  . obtain ⟨hK,hh⟩:=HH.out;exact hK _ GQ.heap.size (GQ.heap.size+1) _ _ (.inl ⟨by rw [hh],by rw [hh]⟩) (by rw [← hh];rfl)
  . obtain ⟨hK,hh⟩:=HH.out;exact hK _ (GQ.heap.size+1) GQ.heap.size _ _ (.inr ⟨by rw [hh],by rw [hh]⟩) (by rw [← hh];rfl)
variable {M:Md X Sg}{ρ:Rn}
theorem zU (XQ:ρ.Bo=B)(Y0:ρ.Wg=W.heap.size)(hty:ρ.ty=link.tWg)(hcg:ρ.come≠ρ.gone)(hco:∃ k,W.heap[ρ.come]?=some (.chan 0 #[] false k k false))(hgo:∃ k,W.heap[ρ.gone]?=some (.chan 0 #[] false k k false))(bn:∀ b,M.Sh b->b≠ρ.Wg/\ρ.Bo b=false)(hlow:Fin.b0<=ρ.come/\Fin.b0<=ρ.gone)(hK:∀ W',(∀ b,b < W.heap.size->W'.heap[b]?=W.heap[b]?)->W'.heap.size=W.heap.size+1->JL (S0 (X:=X) (Sg:=Sg) Try.prog Fin GR).L (.H7 M ρ [] 0 false n) (G ((base 52).at ⟨#[v0,v1,v2,v3,v4,v5,v6,v7,v8,.pointer (some ⟨ρ.Wg,0,none⟩),Aa,Ab,Ac,Ae,Af,Ah,Ai,Aj,Ak,Al,Am,Ao,Ap,Aq,Ar,Au,Av,Aw,Ay,Az,AA,AB,AJ,AL,AO,AP,AQ,AU,AV,AX,AY,AZ,A8,A9,Ba,Bb,Bc,Bf,Bh,Bj,Bl,Bp,Bq],ds⟩ K) cs) W') :
    JL (S0 (X:=X) (Sg:=Sg) Try.prog Fin GR).L (.Ii B n) (G ((base 52).at ⟨#[v0,v1,v2,v3,v4,v5,v6,v7,v8,v9,Aa,Ab,Ac,Ae,Af,Ah,Ai,Aj,Ak,Al,Am,Ao,Ap,Aq,Ar,Au,Av,Aw,Ay,Az,AA,AB,AJ,AL,AO,AP,AQ,AU,AV,AX,AY,AZ,A8,A9,Ba,Bb,Bc,Bf,Bh,Bj,Bl,Bp,Bq],ds⟩ (.code rn5 :: K)) cs) W:=by
  have e5:∃ id ops,rn5=.region id ops false/\ops.size=1/\(∃ p af ty,ops[0]?=some ⟨some 9,.alloc 152,ty,p,af,none⟩):=⟨_,_,rfl,rfl,_,_,_,rfl⟩
  obtain ⟨id,ops,e5,hsz,p,af,ty,h0⟩:=e5;rw [e5];refine JL.region (l:=[0]) (by rw [hsz];rfl) fun _ hkk=>?_;cases hkk;refine J0.begin (GR:=GR) (g':=G ((base 52).at ⟨#[v0,v1,v2,v3,v4,v5,v6,v7,v8,.pointer (some ⟨ρ.Wg,0,none⟩),Aa,Ab,Ac,Ae,Af,Ah,Ai,Aj,Ak,Al,Am,Ao,Ap,Aq,Ar,Au,Av,Aw,Ay,Az,AA,AB,AJ,AL,AO,AP,AQ,AU,AV,AX,AY,AZ,A8,A9,Ba,Bb,Bc,Bf,Bh,Bj,Bl,Bp,Bq],ds⟩ (.inRegion ops [] :: K)) cs) XQ Y0 rfl (fun w hw=>?_) hcg hco hgo bn hlow fun W' h1 h2=>?_
  . rw [stepG_value (v:=.pointer (some ⟨w.heap.size,0,none⟩)) (w':=w.alloc (.cells #[.int .u64 0,.int .u32 0] 152 (0,0))) h0 rfl nE (by unfold execOp;go_simp),listed_none (by unfold execOp;simp [go_sem])]
    rw [hw,hty];rfl
  . show JL (S0 (X:=X) (Sg:=Sg) Try.prog Fin GR).L _ _ W';refine GY stepG_region_end ?_;exact hK W' h1 h2
end
end
section
def Ue {Sg:Type}(m:Mem Sg)(bd:Nat)(dv:Value):Mem Sg where
  Sh g:=m.Sh g\/g=bd
  Inv σ W:=m.Inv σ W/\W.heap[bd]?=some (.cells #[dv] 106 (0,0))
  rows:=fun σ W g hg h=>by
    rcases hg with hg|rfl
    . exact m.rows σ W g hg h.1
    . exact ⟨_,_,_,h.2⟩
  eq:=fun σ W W' he h=>⟨m.eq σ W W' (fun g hg=>he g (.inl hg)) h.1,(he bd (.inr rfl)).cells h.2⟩
section
variable {Cs Sg:Type}{D:Dr G5 Cs Sg}{m:Mem Sg}
variable {Fin:Iw}{GR:Ig Try.prog Fin}
variable {B:Nat->Bool}{W:World}{n:Nat}{K:List Item}{cs:List Frame}{ds:List Deferred}{σ:Sg}{dv:Value}
variable {v0 v1 v2 v3 v4 v5 v6 v7 v8 v9 Aa Ab Ac Ae Af Ah Ai Aj Ak Al Am Ao Ap Aq Ar Au Av Aw Ay Az AA AB AJ AL AO AP AQ AU AV AX AY AZ A8 A9 Ba Bb Bc Bf Bh Bj Bl Bp Bq:Value}{M:Md (Wk G5 Cs) Sg}{ρ:Rn}{ws:List (Ij (Wk G5 Cs))}{bp bd br:Nat}
theorem ZW {pg po:Nat}{Mh:List Value}{plans:List (List G5)}(h:Oa m pg po Mh plans):Oa (Ue m bd dv) pg po Mh plans:=
  ⟨h.len,h.few,fun σ W hI=>h.cell σ W hI.1,fun i cv pl h1 h2 σ W hI=>h.calls i cv pl h1 h2 σ W hI.1⟩
theorem iB {W:World}(h:(Ue m bd dv).Inv σ W):W.cell? ⟨bd,0,none⟩=some dv:=by have:=h.2;simp [World.cell?,this]
theorem Aav (hK:∀ W',W'.heap=W.heap->JL (S0 Try.prog Fin GR).L (.H7 M ρ ws 0 false n) (G ((base 52).at ⟨#[v0,v1,v2,v3,v4,v5,v6,v7,v8,v9,.slice none 0 0,Ab,Ac,Ae,Af,Ah,Ai,Aj,Ak,Al,Am,Ao,Ap,Aq,Ar,Au,Av,Aw,Ay,Az,AA,AB,AJ,AL,AO,AP,AQ,AU,AV,AX,AY,AZ,A8,A9,Ba,Bb,Bc,Bf,Bh,Bj,Bl,Bp,Bq],ds⟩ K) cs) W') :
    JL (S0 Try.prog Fin GR).L (.H7 M ρ ws 0 false n) (G ((base 52).at ⟨#[v0,v1,v2,v3,v4,v5,v6,v7,v8,v9,Aa,Ab,Ac,Ae,Af,Ah,Ai,Aj,Ak,Al,Am,Ao,Ap,Aq,Ar,Au,Av,Aw,Ay,Az,AA,AB,AJ,AL,AO,AP,AQ,AU,AV,AX,AY,AZ,A8,A9,Ba,Bb,Bc,Bf,Bh,Bj,Bl,Bp,Bq],ds⟩ (.code xg :: K)) cs) W:=by
  refine HY.Ht (S:=S0 Try.prog Fin GR) (b:=base 52) [] (by simp) (by kernel_rfl) nE (by kernel_rfl) fun GQ ha=>?_;have hh:GQ.heap=W.heap:=by obtain ⟨τ,d,rfl⟩:=ha;rfl
  have HH:=Lib.hid (And.intro hK hh);clear hK hh;dsimp only;simp only [xg,Ur,Try.f52];gi_wp2;obtain ⟨hK,hh⟩:=HH.out;exact hK GQ hh
theorem yM {pg po pn JG:Nat}(h2:W.cell? ⟨bp,0,none⟩=some (.slice (some ⟨pg,po,none⟩) pn JG))(hv2:v2=.pointer (some ⟨bp,0,none⟩))(hK:∀ W' EL EM EN EO,W'.heap=W.heap->EM=.slice (some ⟨pg,po,none⟩) pn JG->EN=.int .i64 pn->EO=.int .i64 0->
      JL (S0 Try.prog Fin GR).L (.H7 M ρ ws 0 false n) (G ((base 52).at ⟨#[v0,v1,v2,v3,v4,v5,v6,v7,v8,v9,Aa,Ab,Ac,Ae,Af,Ah,Ai,Aj,Ak,Al,Am,Ao,Ap,EL,EM,EN,EO,Aw,Ay,Az,AA,AB,AJ,AL,AO,AP,AQ,AU,AV,AX,AY,AZ,A8,A9,Ba,Bb,Bc,Bf,Bh,Bj,Bl,Bp,Bq],ds⟩ K) cs) W') :
    JL (S0 Try.prog Fin GR).L (.H7 M ρ ws 0 false n) (G ((base 52).at ⟨#[v0,v1,v2,v3,v4,v5,v6,v7,v8,v9,Aa,Ab,Ac,Ae,Af,Ah,Ai,Aj,Ak,Al,Am,Ao,Ap,Aq,Ar,Au,Av,Aw,Ay,Az,AA,AB,AJ,AL,AO,AP,AQ,AU,AV,AX,AY,AZ,A8,A9,Ba,Bb,Bc,Bf,Bh,Bj,Bl,Bp,Bq],ds⟩ (.code zh :: K)) cs) W:=by
  subst hv2;refine HY.Ht (S:=S0 Try.prog Fin GR) (b:=base 52) [] (by simp) (by kernel_rfl) nE (by kernel_rfl) fun Hl Ky=>?_;have hh3:Hl.heap=W.heap:=by obtain ⟨τ,d,rfl⟩:=Ky;rfl
  have c0:Hl.cell? ⟨bp,0,none⟩=some (.slice (some ⟨pg,po,none⟩) pn JG):=by simp only [World.cell?,hh3] at h2 ⊢;exact h2
  have HH:=Lib.hid (And.intro hK hh3);clear hK h2 hh3;dsimp only;simp only [zh,Ur,Try.f52];gi_wp2;obtain ⟨hK,hh3⟩:=HH.out;exact hK Hl _ _ _ _ hh3 rfl rfl rfl
theorem oJ {plans:List (List G5)}{R pg po JG:Nat}{Mh:List Value}{Ry:FuncId}{recv:Value}{Kp:Nat->Prop}(hD:∀ ρ b k,RD (MP D m ρ b k) dv Ry recv)(hdv:∃ t v,dv=.iface t v)(hbd:∀ σ W,m.Inv σ W->W.cell? ⟨bd,0,none⟩=some dv)(hR:R < 2 ^ 62)(hcap:n+plans.length < 1000000)(hP:Oa m pg po Mh plans)(hI:m.Inv σ W)(hB:∀ g,B g=true->g < W.heap.size)(hSB:∀ g,m.Sh g->B g=false)(Kr:∀ g,Kp g->(∃ c e f,W.heap[g]?=some (.cells c e f))/\B g=false/\¬ m.Sh g)(h2:W.cell? ⟨bp,0,none⟩=some (.slice (some ⟨pg,po,none⟩) plans.length JG))(hv2:v2=.pointer (some ⟨bp,0,none⟩))(hv3:v3=.pointer (some ⟨bd,0,none⟩))(hv4:v4=.pointer (some ⟨br,0,none⟩))(hK:∀ (ρ:Rn) ws' L6 W' a12 gq a26 tm',ρ.ty=link.tWg->ρ.zi=.int .i64 0->ρ.zg=.agg #[]->¬ ρ.shut->¬ ρ.Uh->ρ.Bo=B->W.heap.size<=ρ.Wg->W.heap.size<=ρ.gone->Sr bp bd br ρ.come ρ.gone ρ.Wg L6 a12 gq (.slice (some ⟨pg,po,none⟩) plans.length JG) (.int .i64 plans.length) a26 tm'->HI m ρ plans R ws' σ L6 Kp W W'->ws'.length=plans.length->JL (S0 Try.prog Fin GR).L (.H7 (H9 D m) ρ ws' 0 false (n+plans.length)) (G ((base 52).at ⟨tm',ds⟩ (.code QO :: K)) cs) W') :
    JL (S0 (X:=Wk G5 Cs) (Sg:=Sg) Try.prog Fin GR).L (.Ii B n) (G ((base 52).at ⟨#[v0,v1,v2,v3,v4,v5,v6,v7,v8,v9,Aa,Ab,Ac,Ae,Af,Ah,Ai,Aj,Ak,Al,Am,Ao,Ap,Aq,Ar,Au,Av,Aw,Ay,Az,AA,AB,AJ,AL,AO,AP,AQ,AU,AV,AX,AY,AZ,A8,A9,Ba,Bb,Bc,Bf,Bh,Bj,Bl,Bp,Bq],ds⟩ (.code (.seq zT (.seq rn5 (.seq xg (.seq (.seq zh (.block 0 (.loop Un))) QO)))) :: K)) cs) W:=by
  refine J0.Aew (GR:=GR) fun hlow=>?_;show JL (S0 (X:=Wk G5 Cs) (Sg:=Sg) Try.prog Fin GR).L _ _ W;have PK:∀ g,m.Sh g->g < W.heap.size:=fun g hg=>by obtain ⟨c,e,f,hc⟩:=m.rows σ W g hg hI;exact (Array.getElem?_eq_some_iff.1 hc).1
  have hbp:bp < W.heap.size:=by
    simp only [World.cell?] at h2;cases ho:W.heap[bp]? with
    | none=>rw [ho] at h2;cases h2
    | some o=>exact (Array.getElem?_eq_some_iff.1 ho).1
  refine GY stepG_seq ?_;refine wS fun W1 co go EJ EK hcg hW1=>?_;have hz1:W1.heap.size=W.heap.size+2:=by rw [hW1];simp
  have Aao:∀ g,g < W.heap.size->W1.heap[g]?=W.heap[g]?:=fun g hg=>by rw [hW1];simp only [Array.getElem?_push,Array.size_push];rw [if_neg (by omega),if_neg (by omega)]
  have hch:∀ g,g=W.heap.size\/g=W.heap.size+1->∃ k,W1.heap[g]?=some (.chan 0 #[] false k k false):=fun g hg=>⟨0,by
    rw [hW1];rcases hg with rfl|rfl
    . simp only [Array.getElem?_push,Array.size_push];rw [if_neg (by omega)];simp
    . simp only [Array.getElem?_push,Array.size_push];simp⟩
  clear hW1;refine GY stepG_seq ?_;refine zU (M:=H9 D m) (ρ:={ ty:=link.tWg,Wg:=W1.heap.size,come:=co,gone:=go,zi:=.int .i64 0,zg:=.agg #[],Bo:=B,shut:=False,Uh:=False }) rfl rfl rfl (by show co≠go;omega) (hch co (by omega)) (hch go (by omega)) (fun g hg=>⟨by show g≠W1.heap.size;have:=PK g hg;omega,hSB g hg⟩) ⟨by show Fin.b0<=co;omega,by show Fin.b0<=go;omega⟩ fun W2 Xy hz2=>?_;have hold:∀ g,g < W.heap.size->W2.heap[g]?=W.heap[g]?:=fun g hg=>by rw [Xy g (by omega),Aao g hg]
  generalize hρ:({ ty:=link.tWg,Wg:=W1.heap.size,come:=co,gone:=go,zi:=.int .i64 0,zg:=.agg #[],Bo:=B,shut:=False,Uh:=False }:Rn)=ρ;have q1:ρ.ty=link.tWg:=by rw [← hρ]
  have q2:ρ.zi=.int .i64 0:=by rw [← hρ]
  have q3:ρ.zg=.agg #[]:=by rw [← hρ]
  have q4:¬ ρ.shut:=by rw [← hρ];exact id
  have q5:¬ ρ.Uh:=by rw [← hρ];exact id
  have q6:ρ.Bo=B:=by rw [← hρ]
  have q7:ρ.Wg=W1.heap.size:=by rw [← hρ]
  have q8:ρ.come=co:=by rw [← hρ]
  have q9:ρ.gone=go:=by rw [← hρ]
  rw [← q8,← q9];refine GY stepG_seq ?_;refine Aav fun W3 hW3=>?_;refine GY stepG_seq ?_;refine GY stepG_seq ?_;have hb2:W3.cell? ⟨bp,0,none⟩=some (.slice (some ⟨pg,po,none⟩) plans.length JG):=by simp only [World.cell?,hW3,hold bp hbp] at h2 ⊢;exact h2
  refine yM hb2 hv2 fun W4 EL EM EN EO Ov e24 e25 e26=>?_;refine GY stepG_block ?_;refine GY stepG_loop ?_;have bZ:W4.heap=W2.heap:=Ov.trans hW3;have HI0:HI (Cs:=Cs) m ρ plans R [] σ (.slice none 0 0) Kp W W4:=
    {
      inv:=m.eq σ W W4 (fun g hg=>.of (by rw [bZ];exact hold g (PK g hg))) hI
      xs:=fun j u hu=>by simp at hu
      VT:=⟨0,rfl,.inl ⟨rfl,rfl⟩⟩
      dh:=fun g hg=>by cases hg
      lt:=fun j u hu=>by simp at hu
      wg:=by rw [bZ,q7];omega
      come:=by rw [bZ,q8];omega
      gone:=by rw [bZ,q9];omega
      bo:=fun g hg=>by rw [q6] at hg;have:=hB g hg;rw [bZ];omega
      sh:=fun g hg=>⟨by rw [q7];have:=PK g hg;omega,by rw [q6];exact hSB g hg⟩
      kp:=fun g hg=>by obtain ⟨⟨c,e,f,h⟩,h3,h4⟩:=Kr g hg;have hlt:=(Array.getElem?_eq_some_iff.1 h).1;exact ⟨by rw [bZ];exact hold g hlt,⟨c,e,f,h⟩,by rw [q7];omega,by rw [q6];exact h3,h4,(by intro h;cases h),fun j u hu=>by simp at hu⟩ }
  subst hv2 hv3 hv4 e24 e25 e26;refine aG (n0:=n) (hD ρ) hdv q4 q5 q2 q3 q1 hbd hR hcap hP (fun ws' L6 W' a12 gq a26 tm' hs' h' hl'=>hK ρ ws' L6 W' a12 gq a26 tm' q1 q2 q3 q4 q5 q6 (by rw [q7];omega) (by rw [q9];omega) hs' h' hl') plans [] (.slice none 0 0) Ac Ae W4 0 _ rfl (Nat.zero_le _) HI0 rfl ⟨_,_,_,_,_,_,_,_,_,_,_,_,_,_,EL,_,_,_,_,_,_,_,_,_,_,_,_,_,_,_,_,_,_,_,_,_,_,_,_,_,_,rfl⟩
end
end
section
noncomputable def uq:Code:=match QO with | .seq c _=>c | _=>.skip
noncomputable def uw:Code:=match QO with | .seq _ (.seq c _)=>c | _=>.skip
noncomputable def tF:Code:=match QO with | .seq _ (.seq _ (.seq c _))=>c | _=>.skip
noncomputable def jL:Code:=match QO with | .seq _ (.seq _ (.seq _ c))=>c | _=>.skip
theorem mO:QO=.seq uq (.seq uw (.seq tF jL)):=rfl
section
variable {X Sg:Type}
variable {Fin:Iw}{GR:Ig Try.prog Fin}
variable {W:World}{n:Nat}{K:List Item}{cs:List Frame}{ds:List Deferred}{M:Md X Sg}{ρ:Rn}{ws:List (Ij X)}
variable {v0 v1 v2 v3 v4 v5 v6 v7 Aa Ab Ac Ae Af Ah Ai Aj Ak Al Am Ao Ap Aq Ar Au Av Aw Ay Az AA AB AJ AL AO AP AQ AU AV AX AY AZ A8 A9 Ba Bb Bc Bf Bh Bj Bl Bp Bq:Value}
theorem jw (hov:∀ (i:Nat) (v:Ij X),ws[i]?=some v->v.over=true)(hcl:¬ ρ.Uh)(hK:∀ W' Fz FB,(∀ b,b≠ρ.gone->ownB ws b=false->W'.heap[b]?=W.heap[b]?)->(∀ a:Addr,a.block≠ρ.gone->W'.cell? a=W.cell? a)->W'.heap.size=W.heap.size->JL (S0 (X:=X) (Sg:=Sg) Try.prog Fin GR).L (.Ii (fun b=>ρ.Bo b || b == ρ.Wg) n) (G ((base 52).at ⟨#[v0,v1,v2,v3,v4,v5,v6,v7,.chan (some ρ.gone),.pointer (some ⟨ρ.Wg,0,none⟩),Aa,Ab,Ac,Ae,Af,Ah,Ai,Aj,Ak,Al,Am,Ao,Ap,Aq,Ar,Au,Av,Aw,Ay,Az,AA,AB,AJ,AL,AO,AP,AQ,AU,AV,AX,AY,AZ,A8,A9,Ba,Bb,Bc,Bf,Bh,Bj,Fz,FB,Bq],ds⟩ (.code jL :: K)) cs) W') :
    JL (S0 (X:=X) (Sg:=Sg) Try.prog Fin GR).L (.H7 M ρ ws 0 false n) (G ((base 52).at ⟨#[v0,v1,v2,v3,v4,v5,v6,v7,.chan (some ρ.gone),.pointer (some ⟨ρ.Wg,0,none⟩),Aa,Ab,Ac,Ae,Af,Ah,Ai,Aj,Ak,Al,Am,Ao,Ap,Aq,Ar,Au,Av,Aw,Ay,Az,AA,AB,AJ,AL,AO,AP,AQ,AU,AV,AX,AY,AZ,A8,A9,Ba,Bb,Bc,Bf,Bh,Bj,Bl,Bp,Bq],ds⟩ (.code (.seq uw (.seq tF jL)) :: K)) cs) W:=by
  refine GY stepG_seq ?_;dsimp only;simp only [uw,QO,Ur,Try.f52];refine Hu fun _ hkk=>?_
  (refine Hf ?_;walk_nrm)
  refine J0.close (GR:=GR) hov hcl rfl (fun w k hk=>stepG_close rfl rfl nE rfl rfl hk (by kernel_rfl)) fun W1 h1 h2=>?_;show JL (S0 (X:=X) (Sg:=Sg) Try.prog Fin GR).L _ _ W1;walk_nrm;refine Hw ?_;cases hkk;refine GY stepG_seq ?_;simp only [tF,QO,Ur,Try.f52];refine Hu fun _ hkk=>?_;show JL (Y9 (X:=X) (Sg:=Sg) Try.prog Fin GR) _ _ _;refine J0.dz (GR:=GR) (L:=link) jC hov rfl rfl nE rfl rfl fun W2 hT=>?_;show JL (S0 (X:=X) (Sg:=Sg) Try.prog Fin GR).L _ _ W2;walk_nrm;refine Hw ?_;cases hkk;exact hK W2 _ _ (fun b hb ho=>by rw [hT.block b ho,h1 b hb]) (fun a ha=>by rw [hT.cell a];simp only [World.cell?,h1 _ ha]) (by rw [hT.size,h2])
end
end
end Go.Proofs.Ytkdhnbcdbnpmhaa
namespace Go.Proofs.Ytkdhnbcdbnpmhaa.TU
open Go.RowKit
def Ls (l:List Bool)(k:Nat):List Nat:=(List.range k).filter fun i=>l.getD i false
def OD (l:List Bool):List Nat:=Ls l l.length
theorem PW (l:List Bool):Ls l 0=[]:=rfl
theorem bA (l:List Bool)(k:Nat)(h:l.getD k false=true):Ls l (k+1)=Ls l k ++ [k]:=by unfold Ls;rw [List.range_succ,List.filter_append];simp only [List.filter_cons,List.filter_nil,h,if_true]
theorem YD (l:List Bool)(k:Nat)(h:l.getD k false=false):Ls l (k+1)=Ls l k:=by unfold Ls;rw [List.range_succ,List.filter_append];simp only [List.filter_cons,List.filter_nil,h];simp
theorem Wm (l:List Bool)(k:Nat):(Ls l k).length<=k:=by have:=List.length_filter_le (fun i=>l.getD i false) (List.range k);unfold Ls;simpa using this
theorem jM (l:List Bool)(k i:Nat)(h:i∈Ls l k):i < k:=by unfold Ls at h;rw [List.mem_filter] at h;simpa using h.1
theorem vN (l:List Bool)(i:Nat)(h:i∈OD l):i < l.length/\l.getD i false=true:=by refine ⟨jM _ _ _ h,?_⟩;unfold OD Ls at h;rw [List.mem_filter] at h;exact h.2
def at_ (t:Int)(n:Nat):Nat:=((t.tmod n+n) % n).toNat
theorem pV (t:Int)(n:Nat)(h:0 < n):-(n:Int) < t.tmod n/\t.tmod n < n/\0<=(t.tmod n+n) % n/\(t.tmod n+n) % n < n:=
  ⟨Int.lt_tmod_of_pos t (by omega),Int.tmod_lt_of_pos t (by omega),Int.emod_nonneg _ (by omega),Int.emod_lt_of_pos _ (by omega)⟩
theorem oV (t:Int)(n:Nat)(h:0 < n):at_ t n < n:=by have:=pV t n h;unfold at_;omega
def fIdx (last:Int)(l:List Nat):Nat:=l.findIdx fun (k:Nat)=>decide (last < (k:Int))
def ix (last:Int)(l:List Nat):Int:=if fIdx last l < l.length then (fIdx last l:Int) else -1
def bE (last:Int)(l:List Nat):Nat:=l.getD (if fIdx last l < l.length then fIdx last l else 0) 0
theorem uH (last:Int)(l:List Nat)(k:Nat)(hk:k < l.length)(h1:last < (l.getD k 0:Nat))(h2:∀ j,j < k->((l.getD j 0:Nat):Int)<=last):ix last l=k/\bE last l=l.getD k 0:=by
  have e:fIdx last l=k:=by
    unfold fIdx;rw [List.findIdx_eq hk];refine ⟨by simpa [hk] using h1,fun j hj=>?_⟩;have:=h2 j hj
    simpa [show j < l.length by omega] using this
  unfold ix bE;rw [e,if_pos hk,if_pos hk];exact ⟨rfl,rfl⟩
theorem nY (last:Int)(l:List Nat)(h2:∀ j,j < l.length->((l.getD j 0:Nat):Int)<=last):ix last l=-1/\bE last l=l.getD 0 0:=by
  have e:fIdx last l=l.length:=by
    unfold fIdx;rw [List.findIdx_eq_length];intro x hx;obtain ⟨j,hj,rfl⟩:=List.getElem_of_mem hx;have:=h2 j hj
    simpa [hj] using this
  unfold ix bE;rw [e,if_neg (by omega),if_neg (by omega)];exact ⟨rfl,rfl⟩
theorem jS (last:Int)(l:List Nat)(hl:0 < l.length):∃ x:Nat,x < l.length/\(if ix last l < 0 then 0 else ix last l)=(x:Int)/\bE last l=l.getD x 0:=by
  unfold ix bE;by_cases h:fIdx last l < l.length
  . rw [if_pos h,if_pos h];exact ⟨_,h,if_neg (by omega),rfl⟩
  . rw [if_neg h,if_neg h];exact ⟨0,hl,if_pos (by omega),rfl⟩
def NR (left:List Int)(last:Int)(l:List Nat):Int:=
  if l=[] then -1 else match left with
    | t :: _=>(l.getD (at_ t l.length) 0:Int)
    | []=>(bE last l:Int)
def NP (left:List Int)(l:List Nat):List Int:=if l=[] then left else left.tail
def NC (left:List Int)(last:Int)(l:List Nat):Int:=if l=[] then last else NR left last l
end Go.Proofs.Ytkdhnbcdbnpmhaa.TU
namespace Go.Proofs.Ytkdhnbcdbnpmhaa
open Go.RowKit BA TU

theorem Qp:(Try.prog.info? 3).map (fun i=>(i.zero,i.size,i.bytes))=some (some (.int .i64 0),1,8):=by kernel_rfl
def Vz (w:World)(T b:Nat)(lv:Value)(left:List Int)(last:Int):Prop:=
  w.heap[b]?=some (.cells #[lv,.int .i64 last] T (0,0))/\Reads w lv (left.map (Value.int .i64))/\lv.ownBlock≠some b
theorem Vz.drew {w:World}{T b:Nat}{lv:Value}{left:List Int}{last:Int}(h:Vz w T b lv left last):Vz w.drew T b lv left last:=⟨h.1,h.2.1.drew,h.2.2⟩
theorem SV {w:World}{l:List Bool}{b o k:Nat}(hb:∀ i u,(bools l)[i]?=some u->w.cell? ⟨b,o+i,none⟩=some u)(hk:k < l.length):w.cell? ⟨b,o+k,none⟩=some (.bool (l.getD k false)):=by apply hb;simp [bools,hk]
structure TQ (w wr:World)(N ob:Nat)(l:List Bool)(v:Value)(k:Nat):Prop where
  own:IE wr (N+1) 1 v (Ls l k).length ((Ls l k).map fun (j:Nat)=>Value.int .i64 (j:Int))
  below:Below N w wr
  big:N+1<=wr.heap.size
  box:wr.heap[N]?=some (.cells #[.pointer (some ⟨ob,0,none⟩)] 184 (0,0))
  blk:∀ g,v.ownBlock=some g->N+1<=g
theorem TQ.hit {w wr w1:World}{N ob:Nat}{l:List Bool}{v v':Value}{k:Nat}{ob1:Obj}(h:TQ w wr N ob l v k)(hk:l.getD k false=true)(h1:IE w1 (N+1) 1 v' ((Ls l k).length+1) ((Ls l k).map (fun (j:Nat)=>Value.int .i64 (j:Int)) ++ [.int .i64 k]))(h2:(wr.alloc ob1).grownBy w1 v.ownBlock)(h3:v'.ownBlock=v.ownBlock\/v'.ownBlock=none\/∃ j,v'.ownBlock=some j/\wr.heap.size+1<=j):TQ w w1 N ob l v' (k+1):=by
  have hb:=h.big;have hs:=h2.size;simp at hs;refine ⟨?_,?_,by omega,?_,?_⟩
  . rw [bA l k hk];simpa using h1
  . exact (h.below.alloc (by omega) _).grown h2 (by simp;omega) (fun g hg=>by have:=h.blk g hg;omega)
  . rw [h2.block N (by simp;omega) (fun e=>by have:=h.blk N e.symm;omega),Below.heap_alloc _ _ _ (by omega)];exact h.box
  . intro g hg;rcases h3 with h3|h3|⟨j,h3,h4⟩
    . exact h.blk g (h3 ▸ hg)
    . rw [h3] at hg;cases hg
    . rw [h3] at hg;cases hg;omega
theorem TQ.miss {w wr:World}{N ob:Nat}{l:List Bool}{v:Value}{k:Nat}(h:TQ w wr N ob l v k)(hk:l.getD k false=false):TQ w wr N ob l v (k+1):=
  ⟨by rw [YD l k hk];exact h.own,h.below,h.big,h.box,h.blk⟩
theorem TQ.done {w wr:World}{N ob:Nat}{l:List Bool}{v:Value}(h:TQ w wr N ob l v l.length) :
    (OD l=[]/\∃ ao c,v=.slice ao 0 c)\/
    (∃ rb ro rc,v=.slice (some ⟨rb,ro,none⟩) (OD l).length rc/\0 < (OD l).length/\(OD l).length<=rc/\N+1<=rb/\∀ j,j < (OD l).length->wr.cell? ⟨rb,ro+j,none⟩=some (.int .i64 ((OD l).getD j 0:Nat))):=by
  have hR:=h.own.reads;rw [show Ls l l.length=OD l from rfl] at hR;rcases hR with ⟨hnil,ao,cc,hv,_,_⟩|⟨hne,rb,ro,rc,hv,hr1,hr2,hr3⟩
  . exact .inl ⟨by simpa using hnil,ao,cc,hv⟩
  . simp only [List.length_map] at hv hr1;refine .inr ⟨rb,ro,rc,hv,?_,hr1,h.blk rb (by rw [hv];rfl),fun j hj=>hr3 j _ (by simp [hj])⟩;have:OD l≠[]:=by simpa using hne
    exact List.length_pos_iff.2 this
theorem XO {w:World}{lb lo lc:Nat}{t:Int}{rest:List Int}(h1:rest.length+1<=lc)(h2:lc<=maxLen)(h:∀ i u,(List.map (Value.int .i64) (t :: rest))[i]?=some u->w.cell? ⟨lb,lo+i,none⟩=some u) :
    Reads w (.slice (if lc=1 then some ⟨lb,lo,none⟩ else some ⟨lb,lo+1,none⟩) rest.length (lc - 1)) (rest.map (Value.int .i64)):=by
  by_cases hr:rest=[]
  . subst hr;exact .inl ⟨rfl,_,_,rfl,by omega,fun h=>by split at h <;> cases h⟩
  . have hp:=List.length_pos_iff.2 hr;refine .inr ⟨by simpa using hr,lb,lo+1,lc - 1,by rw [if_neg (by omega)];simp,by simp;omega,by omega,fun i u hu=>?_⟩;have:=h (i+1) u (by simpa using hu);rw [show lo+1+i=lo+(i+1) by omega];exact this
end Go.Proofs.Ytkdhnbcdbnpmhaa
namespace Go.Proofs.Ytkdhnbcdbnpmhaa
open Go Go.Conc Go.LT Go.LC Go.LK Go.RowKit
open BA TU
section
noncomputable def ZG:Code:=match Try.f107.body with | some (.seq _ (.seq _ (.seq _ c)))=>c | _=>.skip
noncomputable def pk0:Code:=match Try.f107.body with | some (.seq c _)=>c | _=>.skip
noncomputable def pk1:Code:=match Try.f107.body with | some (.seq _ (.seq c _))=>c | _=>.skip
noncomputable def pk2:Code:=match Try.f107.body with | some (.seq _ (.seq _ (.seq c _)))=>c | _=>.skip
noncomputable def pkL:Code:=match ZG with | .seq c _=>c | _=>.skip
noncomputable def pk9:Code:=match ZG with | .seq _ (.seq c _)=>c | _=>.skip
noncomputable def Aaq:Code:=match ZG with | .seq _ (.seq _ (.seq c _))=>c | _=>.skip
noncomputable def rR:Code:=match ZG with | .seq _ (.seq _ (.seq _ (.seq c _)))=>c | _=>.skip
noncomputable def zW:Code:=match ZG with | .seq _ (.seq _ (.seq _ (.seq _ (.seq c _))))=>c | _=>.skip
noncomputable def yu:Code:=match ZG with | .seq _ (.seq _ (.seq _ (.seq _ (.seq _ c))))=>c | _=>.skip
theorem nH:Try.f107.body=some (.seq pk0 (.seq pk1 (.seq pk2 (.seq pkL (.seq pk9 (.seq Aaq (.seq rR (.seq zW yu)))))))):=rfl
noncomputable def Abd:Code:=match Try.f120.body with | some (.seq _ (.seq (.seq c _) _))=>c | _=>.skip
noncomputable def ix0:Code:=match Try.f120.body with | some (.seq c _)=>c | _=>.skip
noncomputable def tQ:Code:=match Try.f120.body with | some (.seq _ (.seq (.seq _ (.block _ (.loop c))) _))=>c | _=>.skip
noncomputable def wW:Code:=match Try.f120.body with | some (.seq _ (.seq _ c))=>c | _=>.skip
theorem lQ:Try.f120.body=some (.seq ix0 (.seq (.seq Abd (.block 0 (.loop tQ))) wW)):=rfl
structure Lm (W0 W:World):Prop where
  blk:∀ g,g < W0.heap.size->W.heap[g]?=W0.heap[g]?
  size:W0.heap.size<=W.heap.size
theorem Lm.refl (W:World):Lm W W:=⟨fun _ _=>rfl,Nat.le_refl _⟩
theorem Lm.trans {a b c:World}(h:Lm a b)(k:Lm b c):Lm a c:=⟨fun g hg=>(k.blk g (Nat.lt_of_lt_of_le hg h.size)).trans (h.blk g hg),Nat.le_trans h.size k.size⟩
theorem Lm.alike {a b c:World}(h:Lm a b)(hh:c.heap=b.heap):Lm a c:=⟨by rw [hh];exact h.blk,by rw [hh];exact h.size⟩
theorem Lm.below {a b c:World}{n:Nat}(h:Lm a b)(k:Below n b c)(hn:a.heap.size<=n):Lm a c:=⟨fun g hg=>(k.block g (Nat.lt_of_lt_of_le hg hn)).trans (h.blk g hg),Nat.le_trans h.size k.size⟩
theorem Lm.alloc {a b:World}(h:Lm a b)(o:Obj):Lm a (b.alloc o):=⟨fun g hg=>(Below.heap_alloc b o g (Nat.lt_of_lt_of_le hg h.size)).trans (h.blk g hg),by simp;exact Nat.le_succ_of_le h.size⟩
theorem Lm.cell {a b:World}(h:Lm a b){ad:Addr}(hl:ad.block < a.heap.size):b.cell? ad=a.cell? ad:=by simp only [World.cell?,h.blk _ hl]
theorem Hz {a:World}{ad:Addr}{v:Value}(h:a.cell? ad=some v):ad.block < a.heap.size:=by
  simp only [World.cell?] at h;cases ho:a.heap[ad.block]? with
  | none=>rw [ho] at h;cases h
  | some o=>exact (Array.getElem?_eq_some_iff.1 ho).1
structure fK (W0 W:World)(T ob:Nat)(lv:Value)(left:List Int)(last:Int)(L:List Nat):Prop where
  blk:∀ g,g < W0.heap.size->g≠ob->W.heap[g]?=W0.heap[g]?
  size:W0.heap.size<=W.heap.size
  ord:∃ L6,Vz W T ob L6 (NP left L) (NC left last L)/\L6.ownBlock=lv.ownBlock
section
variable {main:Bool}{Γ:Type}{S:HY Try.prog main Γ}{γ:Γ}{W:World}{cf:Frame}{cs:List Frame}
theorem jy {k last:Int}{N ob:Nat}(hN:W.cell? ⟨N,0,none⟩=some (.pointer (some ⟨ob,0,none⟩)))(hl:W.cell? ⟨ob,1,none⟩=some (.int .i64 last))(hJ:JL S.L γ (G (cf.finish (.bool (decide (last < k)))) cs) W) :
    JL S.L γ (G (Frame.enter Try.prog 121 #[.int .i64 k,.pointer (some ⟨N,0,none⟩)] .normal) (cf :: cs)) W:=by
  have ht:#[.int .i64 k,.pointer (some ⟨N,0,none⟩)] ++ Array.replicate (Try.f121.ntmps - (#[.int .i64 k,.pointer (some ⟨N,0,none⟩)]:Array Value).size) undef=#[.int .i64 k,.pointer (some ⟨N,0,none⟩),undef,undef,undef,undef,undef,undef,undef,undef]:=by
    have:Try.f121.ntmps=10:=by kernel_rfl
    rw [this];walk_nrm
  rw [enter_at (c:=(Try.f121.body).get rfl) _ Try.func121 rfl,ht];refine HY.Ht (S:=S) (b:=base 121) [] (by simp) (by kernel_rfl) nE (by kernel_rfl) fun GQ ha=>?_;have hc1:GQ.cell? ⟨N,0,none⟩=some (.pointer (some ⟨ob,0,none⟩)):=by obtain ⟨τ,d,rfl⟩:=ha;exact hN
  have hc2:GQ.cell? ⟨ob,1,none⟩=some (.int .i64 last):=by obtain ⟨τ,d,rfl⟩:=ha;exact hl
  have hend:=JW.tape (S:=S.base) hJ ha;clear hJ hN hl;simp only [Try.f121,Option.get_some];gi_wp2;intro Y;exact JL.back rfl Try.func121 (v:=.bool (decide (last < k))) (fun w=>by kernel_rfl) hend
theorem oO {last:Int}{N ob rb ro rc:Nat}{L:List Nat}(hsm:L.length<=1000000)(hN:W.cell? ⟨N,0,none⟩=some (.pointer (some ⟨ob,0,none⟩)))(hl:W.cell? ⟨ob,1,none⟩=some (.int .i64 last))(hr:∀ j,j < L.length->W.cell? ⟨rb,ro+j,none⟩=some (.int .i64 (L.getD j 0:Nat)))(hJ:JL S.L γ (G (cf.finish (.int .i64 (ix last L))) cs) W) :
    ∀ (d x:Nat) (W':World),L.length - x=d->x<=L.length->LT.Alike W W'->(∀ j,j < x->((L.getD j 0:Nat):Int)<=last)->∀ v2 v3 v5 v9 Aa Ab Ac Ae Af Ah Ai Aj Ak:Value,
      JL S.L γ (G ((base 120).at ⟨#[.slice (some ⟨rb,ro,none⟩) L.length rc,.func (.func 121) #[] #[.pointer (some ⟨N,0,none⟩)],v2,v3,.int .i64 0,v5,.slice (some ⟨rb,ro,none⟩) L.length rc,.int .i64 L.length,.int .i64 x,v9,Aa,Ab,Ac,Ae,Af,Ah,Ai,Aj,Ak],[]⟩ [.code tQ,.inLoop tQ,.inBlock 0,.code wW]) (cf :: cs)) W':=by
  intro d;induction d with
  | zero=>
    intro x W' hd hx ha0 hbel v2 v3 v5 v9 Aa Ab Ac Ae Af Ah Ai Aj Ak;obtain rfl:x=L.length:=by omega
    have e:=(nY last L hbel).1;have hend:=JW.tape (S:=S.base) hJ ha0;rw [e] at hend;have hd:decide ((L.length:Int) < (L.length:Int))=false:=by simp
    clear hJ hbel hr;generalize hlp:[Item.inLoop tQ,.inBlock 0,.code wW]=lp;simp only [tQ,Try.f120];refine GY stepG_seq ?_;refine Hu fun _ hkk=>?_
    (refine Hf ?_;walk_nrm)
    refine Hw ?_;cases hkk;refine GY stepG_seq ?_;refine JL.Ho (by simp [Act.eval]) ?_;subst hlp;refine JL.exit rfl ?_;simp only [wW,Try.f120];refine GY stepG_seq ?_;refine Hu fun _ hkk=>?_
    (refine Hf ?_;walk_nrm)
    refine Hw ?_;cases hkk;refine GY stepG_ret' ?_;exact JL.back rfl Try.func120 (v:=.int .i64 (-1)) (fun w=>by kernel_rfl) hend
  | succ d ih=>
    intro x W' hd hx ha0 hbel v2 v3 v5 v9 Aa Ab Ac Ae Af Ah Ai Aj Ak;have hlt:x < L.length:=by omega
    have hcx:=hr x hlt;obtain ⟨y,hy⟩:∃ y,L.getD x 0=y:=⟨_,rfl⟩
    rw [hy] at hcx;generalize hlp:[Item.inLoop tQ,.inBlock 0,.code wW]=lp;simp only [tQ,Try.f120];refine GY stepG_seq ?_;refine Hu fun _ hkk=>?_
    (refine Hf ?_;walk_nrm)
    refine Hw ?_;cases hkk;refine GY stepG_seq ?_;refine JL.Iq (by first | (simp [Act.eval];done) | (simp [Act.eval];omega)) ?_;refine GY stepG_skip ?_;refine GY stepG_seq ?_;refine GY stepG_block ?_;refine GY stepG_seq ?_;refine Hu fun _ hkk=>?_;iterate 2 (refine Hf ?_;walk_nrm)
    refine Hw ?_;cases hkk;refine GY stepG_seq ?_;refine Hu fun _ hkk=>?_;have HH:=Lib.hid (And.intro hJ (And.intro ih (And.intro hr (And.intro hbel (And.intro hN (And.intro hl (And.intro ha0 hy)))))));clear hJ ih hr hbel hN hl hy;refine HY.Jm (S:=S) (b:=base 120) 0 5 [] (by simp) (by kernel_rfl) nE (rest:=[5]) rfl (by kernel_rfl) fun GQ ha=>?_;have hcell:∀ a,GQ.cell? a=W.cell? a:=fun a=>by obtain ⟨τ,d,rfl⟩:=ha;obtain ⟨τ,d,rfl⟩:=ha0;rfl
    have ha1:=ha0.trans ha;clear ha0;rw [← hcell] at hcx;dsimp only [List.drop,List.take];gi_wp2;refine ⟨rfl,?_⟩;obtain ⟨hJ,ih,hr,hbel,hN,hl,_,hy⟩:=HH.out;clear HH;show JL S.L γ _ GQ;try dsimp only
    refine JL.jV rfl rfl nE rfl rfl Try.func121 (by kernel_rfl) (by kernel_rfl) ?_;walk_nrm;refine jy (ob:=ob) (last:=last) (by rw [hcell];exact hN) (by rw [hcell];exact hl) ?_;rw [Frame.finish_at];walk_nrm;refine Hw ?_;cases hkk;by_cases hgt:last < (y:Int)
    . refine JL.Iq (by simp [Act.eval];exact hgt) ?_
      have e:=(uH last L x hlt (by rw [hy];exact hgt) hbel).1;have hend:=JW.tape (S:=S.base) hJ ha1;rw [e] at hend;clear hJ ih hr hbel;refine GY stepG_seq ?_;refine Hu fun _ hkk=>?_;iterate 2 (refine Hf ?_;walk_nrm)
      refine Hw ?_;cases hkk;refine GY stepG_ret' ?_;exact JL.back rfl Try.func120 (v:=.int .i64 (x:Int)) (fun w=>by kernel_rfl) hend
    . refine JL.Ho (by simp [Act.eval];omega) ?_
      have Zp:∀ j,j < x+1->((L.getD j 0:Nat):Int)<=last:=fun j hj=>by
        rcases Nat.lt_succ_iff_lt_or_eq.1 hj with h|rfl
        . exact hbel j h
        . rw [hy];omega
      refine GY stepG_skip ?_;refine GY stepG_inBlock ?_;have hl1:(-9223372036854775808:Int)<=(x:Int)+1:=by omega
      have hl2:(x:Int)+1<=9223372036854775807:=by omega
      have HH:=Lib.hid (And.intro ih (And.intro Zp (And.intro ha1 hlp)));clear ih Zp ha1 hJ hr hbel hN hl hcell hcx hlp ha;refine HY.Ht (S:=S) (b:=base 120) [] (by simp) (by kernel_rfl) nE (by kernel_rfl) fun Jj ha2=>?_;gi_wp2;obtain ⟨ih,Zp,ha1,hlp⟩:=HH.out;show JL S.L γ _ Jj;subst hlp;refine GY stepG_inLoop ?_;exact ih (x+1) Jj (by omega) hlt (ha1.trans ha2) Zp _ _ _ _ _ _ _ _ _ _ _ _ _
theorem yN {last:Int}{N ob rb ro rc:Nat}{L:List Nat}(hsm:L.length<=1000000)(hN:W.cell? ⟨N,0,none⟩=some (.pointer (some ⟨ob,0,none⟩)))(hl:W.cell? ⟨ob,1,none⟩=some (.int .i64 last))(hr:∀ j,j < L.length->W.cell? ⟨rb,ro+j,none⟩=some (.int .i64 (L.getD j 0:Nat)))(hJ:JL S.L γ (G (cf.finish (.int .i64 (ix last L))) cs) W) :
    JL S.L γ (G (Frame.enter Try.prog 120 #[.slice (some ⟨rb,ro,none⟩) L.length rc,.func (.func 121) #[] #[.pointer (some ⟨N,0,none⟩)]] .normal) (cf :: cs)) W:=by
  have ht:#[.slice (some ⟨rb,ro,none⟩) L.length rc,.func (.func 121) #[] #[.pointer (some ⟨N,0,none⟩)]] ++ Array.replicate (Try.f120.ntmps - (#[.slice (some ⟨rb,ro,none⟩) L.length rc,.func (.func 121) #[] #[.pointer (some ⟨N,0,none⟩)]]:Array Value).size) undef=#[.slice (some ⟨rb,ro,none⟩) L.length rc,.func (.func 121) #[] #[.pointer (some ⟨N,0,none⟩)],undef,undef,undef,undef,undef,undef,undef,undef,undef,undef,undef,undef,undef,undef,undef,undef,undef]:=by
    have:Try.f120.ntmps=19:=by kernel_rfl
    rw [this];walk_nrm
  rw [enter_at _ Try.func120 lQ,ht];have HH:=Lib.hid (And.intro hJ (And.intro hr (And.intro hN hl)));clear hJ hr hN hl;simp only [ix0,Try.f120];refine GY stepG_seq ?_;refine Hu fun _ hkk=>?_
  (refine Hf ?_;walk_nrm)
  refine Hw ?_;cases hkk;refine GY stepG_seq ?_;refine GY stepG_seq ?_;simp only [Abd,Try.f120];refine Hu fun _ hkk=>?_;iterate 3 (refine Hf ?_;walk_nrm)
  refine Hw ?_;cases hkk;refine GY stepG_block ?_;refine GY stepG_loop ?_;obtain ⟨hJ,hr,hN,hl⟩:=HH.out;exact oO hsm hN hl hr hJ _ 0 W rfl (Nat.zero_le _) (.refl _) (fun j hj=>by omega) _ _ _ _ _ _ _ _ _ _ _ _ _
end
end
section
theorem uI {W wr W':World}{T ob:Nat}{lv:Value}{last k:Int}{L:List Nat}(HO:Lm W wr)(hO:wr.heap[ob]?=some (.cells #[lv,.int .i64 last] T (0,0)))(hR:Reads W lv (([]:List Int).map (Value.int .i64)))(hne:lv.ownBlock≠some ob)(hL:L≠[])(hk:k=NR [] last L)(hh:W'.heap=(wr.setCell ⟨ob,1,none⟩ (.int .i64 k)).heap):fK W W' T ob lv [] last L:=by
  have hb:∀ g,g≠ob->W'.heap[g]?=wr.heap[g]?:=fun g hg=>by rw [hh];simp [World.setCell,Array.getElem?_modify,Ne.symm hg]
  have hs:W'.heap.size=wr.heap.size:=by rw [hh];simp [World.setCell]
  refine ⟨fun g hg hgo=>(hb g hgo).trans (HO.blk g hg),by rw [hs];exact HO.size,lv,⟨?_,?_,hne⟩,rfl⟩
  . rw [NC,if_neg hL,← hk,hh];exact WU hO
  . rw [NP,if_neg hL];exact hR.same fun j hj hlt=>(hb j (fun e=>hne (by rw [hj,e]))).trans (HO.blk j hlt)
theorem qx {W wr W':World}{T ob:Nat}{lv L6:Value}{t:Int}{rest:List Int}{last k:Int}{L:List Nat}(HO:Lm W wr)(hO:wr.heap[ob]?=some (.cells #[lv,.int .i64 last] T (0,0)))(hR:Reads W L6 (rest.map (Value.int .i64)))(hne:L6.ownBlock≠some ob)(hlv:L6.ownBlock=lv.ownBlock)(hL:L≠[])(hk:k=NR (t :: rest) last L)(hh:W'.heap=((wr.setCell ⟨ob,0,none⟩ L6).setCell ⟨ob,1,none⟩ (.int .i64 k)).heap):fK W W' T ob lv (t :: rest) last L:=by
  have hb:∀ g,g≠ob->W'.heap[g]?=wr.heap[g]?:=fun g hg=>by rw [hh];simp [World.setCell,Array.getElem?_modify,Ne.symm hg]
  have hs:W'.heap.size=wr.heap.size:=by rw [hh];simp [World.setCell]
  refine ⟨fun g hg hgo=>(hb g hgo).trans (HO.blk g hg),by rw [hs];exact HO.size,L6,⟨?_,?_,hne⟩,hlv⟩
  . rw [NC,if_neg hL,← hk,hh];exact WU (cZ hO)
  . rw [NP,if_neg hL];exact hR.same fun j hj hlt=>(hb j (fun e=>hne (by rw [hj,e]))).trans (HO.blk j hlt)
theorem Aem {v v':Value}{n:Nat}{P:Prop}(h:v'.ownBlock=v.ownBlock\/((∀ g,v'.ownBlock=some g->n<=g)/\P)):v'.ownBlock=v.ownBlock\/v'.ownBlock=none\/∃ j,v'.ownBlock=some j/\n<=j:=by
  rcases h with h|⟨h,_⟩
  . exact .inl h
  . cases e:v'.ownBlock with
    | none=>exact .inr (.inl rfl)
    | some j=>exact .inr (.inr ⟨j,rfl,h j e⟩)
section
variable {main:Bool}{Γ:Type}{S:HY Try.prog main Γ}{γ:Γ}{W:World}{cf:Frame}{cs:List Frame}
theorem mQ {ob:Nat}{lv:Value}{left:List Int}{last:Int}{l:List Bool}{b o c:Nat}(ho:Vz W 204 ob lv left last)(hb:∀ i u,(bools l)[i]?=some u->W.cell? ⟨b,o+i,none⟩=some u)(hlen:l.length<=1000)(OI:OD l≠[])(hJ:∀ W',fK W W' 204 ob lv left last (OD l)->JL S.L γ (G (cf.finish (.int .i64 (NR left last (OD l)))) cs) W') :
    JL S.L γ (G (Frame.enter Try.prog 107 #[.pointer (some ⟨ob,0,none⟩),.slice (some ⟨b,o,none⟩) l.length c] .normal) (cf :: cs)) W:=by
  obtain ⟨i0,hi,hz0,hz1,hz2⟩:=info_parts Qp;have hl0:0 < l.length:=by
    rcases Nat.eq_zero_or_pos l.length with h|h
    . exact absurd (by rw [List.length_eq_zero_iff.1 h];rfl) OI
    . exact h
  have hbN:b < W.heap.size:=Hz (ad:=⟨b,o+0,none⟩) (SV hb hl0);have mW:ob < W.heap.size:=(Array.getElem?_eq_some_iff.1 ho.1).1;have hlv:∀ k,lv.ownBlock=some k->left≠[]->k < W.heap.size:=fun k hk hleft=>by
    rcases ho.2.1 with ⟨hx,_⟩|⟨_,lb,lo,lc,hv,_,_,hcells⟩
    . exact absurd (by simpa using hx) hleft
    . rw [hv] at hk;cases hk
      cases left with
      | nil=>exact absurd rfl hleft
      | cons t r=>exact Hz (hcells 0 _ rfl)
  have ht:#[.pointer (some ⟨ob,0,none⟩),.slice (some ⟨b,o,none⟩) l.length c] ++ Array.replicate (Try.f107.ntmps - (#[.pointer (some ⟨ob,0,none⟩),.slice (some ⟨b,o,none⟩) l.length c]:Array Value).size) undef=#[.pointer (some ⟨ob,0,none⟩),.slice (some ⟨b,o,none⟩) l.length c,undef,undef,undef,undef,undef,undef,undef,undef,undef,undef,undef,undef,undef,undef,undef,undef,undef,undef,undef,undef,undef,undef,undef,undef,undef,undef,undef,undef,undef,undef,undef,undef,undef,undef,undef,undef,undef,undef,undef,undef,undef,undef,undef,undef,undef,undef,undef,undef,undef,undef,undef,undef,undef,undef,undef,undef,undef,undef,undef,undef,undef,undef,undef,undef,undef,undef,undef,undef,undef,undef,undef,undef,undef,undef,undef,undef,undef,undef,undef,undef]:=by
    have:Try.f107.ntmps=82:=by kernel_rfl
    rw [this];walk_nrm
  rw [enter_at _ Try.func107 nH,ht];clear ht;have HH:=Lib.hid (And.intro hJ (And.intro ho (And.intro hb (And.intro OI (And.intro hbN (And.intro mW hlv))))));clear hJ ho hb OI hbN mW hlv;refine GY stepG_seq ?_;refine HY.Ht (S:=S) (b:=base 107) [] (by simp) (by kernel_rfl) nE (by kernel_rfl) fun GQ ha=>?_;have hh1:GQ.heap=W.heap:=by obtain ⟨τ,d,rfl⟩:=ha;rfl
  simp only [pk0,Try.f107];gi_wp2;generalize hWA:World.alloc GQ _=WA;have hA:WA.heap=W.heap.push (.cells #[.pointer (some ⟨ob,0,none⟩)] 184 (0,0)):=by rw [← hWA,← hh1];rfl
  try rw [hh1]
  show JL S.L γ _ WA;try dsimp only
  clear hWA hh1 ha;refine GY stepG_seq ?_;refine HY.Ht (S:=S) (b:=base 107) [] (by simp) (by kernel_rfl) nE (by kernel_rfl) fun Jj ha2=>?_;have PS:Jj.heap=WA.heap:=by obtain ⟨τ,d,rfl⟩:=ha2;rfl
  simp only [pk1,Try.f107];gi_wp2;generalize hWB:World.alloc Jj _=WB;have hB:WB.heap=WA.heap.push (.cells #[Value.int .i64 0,Value.int .i64 0,Value.int .i64 0,Value.int .i64 0,Value.int .i64 0,Value.int .i64 0,Value.int .i64 0,Value.int .i64 0] 205 (0,0)):=by rw [← hWB,← PS];rfl
  have hs1:WA.heap.size=W.heap.size+1:=by rw [hA];simp
  have hs2:Jj.heap.size=W.heap.size+1:=by rw [PS,hs1]
  first | rw [hs2] | rw [hs1] | skip
  show JL S.L γ _ WB;try dsimp only
  clear hWB PS ha2;refine GY stepG_seq ?_;refine HY.Ht (S:=S) (b:=base 107) [] (by simp) (by kernel_rfl) nE (by kernel_rfl) fun Hl Ky=>?_;have hh3:Hl.heap=WB.heap:=by obtain ⟨τ,d,rfl⟩:=Ky;rfl
  simp only [pk2,Try.f107];gi_wp2;show JL S.L γ _ Hl;try dsimp only
  refine GY stepG_seq ?_;refine HY.Ht (S:=S) (b:=base 107) [] (by simp) (by kernel_rfl) nE (by kernel_rfl) fun Q5 VU=>?_;have bZ:Q5.heap=WB.heap:=by rw [← hh3];obtain ⟨τ,d,rfl⟩:=VU;rfl
  clear Ky VU hh3;have hz:Q5.heap.size=W.heap.size+2:=by rw [bZ,hB,hA];simp
  have hOl:Lm W Q5:=⟨fun g hg=>by rw [bZ,hB,hA,Array.getElem?_push,Array.getElem?_push];rw [if_neg (by simp;omega),if_neg (by omega)],by omega⟩
  have q0:Q5.heap[W.heap.size]?=some (.cells #[.pointer (some ⟨ob,0,none⟩)] 184 (0,0)):=by rw [bZ,hB,hA,Array.getElem?_push,Array.getElem?_push];rw [if_neg (by simp),if_pos rfl]
  have q1:Q5.heap[W.heap.size+1]?=some (.cells #[Value.int .i64 0,Value.int .i64 0,Value.int .i64 0,Value.int .i64 0,Value.int .i64 0,Value.int .i64 0,Value.int .i64 0,Value.int .i64 0] 205 (0,0)):=by rw [bZ,hB,hA,Array.getElem?_push];rw [if_pos (by simp)]
  have hG0:TQ Q5 Q5 W.heap.size ob l (.slice (some ⟨W.heap.size+1,0,none⟩) 0 8) 0:=
    ⟨⟨205,by simp [PW],.inr ⟨W.heap.size+1,8,_,rfl,Nat.le_refl _,q1,by simp [PW],by unfold maxLen;omega,rfl,by simp [PW]⟩⟩,
      Below.refl _ _,by omega,q0,fun g hg=>by cases hg;exact Nat.le_refl _⟩
  clear hA hB bZ;generalize hN:W.heap.size=N at *;have H1:=Lib.hid (And.intro hN (And.intro hOl hz));clear hN hOl hz;have hHB:∀ i u,(bools l)[i]?=some u->Q5.cell? ⟨b,o+i,none⟩=some u:=fun i u hu=>by rw [H1.out.2.1.cell (by show b < _;rw [H1.out.1];exact HH.out.2.2.2.2.1)];exact HH.out.2.2.1 i u hu
  have hbN:=HH.out.2.2.2.2.1;have HB:=Lib.hid hHB;clear hHB q0 q1;simp only [pkL,ZG,Try.f107];gi_wp2;gi_loopw [6,15] (fun v i wr=>∃ k:Nat,k<=l.length/\i=.int .i64 k/\TQ Q5 wr N ob l v k) (fun _ i _=>l.length - (intOf i).toNat)
  case atStart=>exact ⟨0,by omega,rfl,hG0⟩
  case round=>
    clear hG0;obtain ⟨k,hk,rfl,hG⟩:=hrel;by_cases hlt:k < l.length
    . have Aa2:=Wm l k;have hbig:=hG.big;cases hv:l.getD k false with
      | true=>
        have hcx:wr.cell? ⟨b,o+k,none⟩=some (.bool true):=by rw [hG.below.cell (by exact hbN)];rw [← hv];exact SV HB.out hlt
        have HV:=Lib.hid hv;clear hv;gi_wp2_with (gi_at_builtin;refine Jv _ rfl _ _ 29 rfl (N+1) 3 i0 (.int .i64 0) 1 8 Try.underlying29 hi hz0 hz1 hz2 rfl (by decide) _ _ _ rfl (hG.own.alloc _) ⟨wr.heap.size,0,none⟩ 1 1 [.int .i64 k] rfl rfl ?c1 ?c2 ?c3 ?c4 ?c5 ?_)
        case c1=>exact cell_one_new _ _ _
        case c2=>intro u hu;simp at hu;subst hu;rfl
        case c3=>unfold maxLen;omega
        case c4=>omega
        case c5=>simp;omega
        intro v' w1 h1 h2 h3;have hG':=hG.hit HV.out h1 h2 (by simpa using Aem h3);clear h1 h2 h3 hG hcx;gi_wp2;go_roundw
        case rel=>exact ⟨k+1,by omega,by go_num,hG'⟩
        case measure=>simp [intOf];omega
      | false=>
        have hcx:wr.cell? ⟨b,o+k,none⟩=some (.bool false):=by rw [hG.below.cell (by exact hbN)];rw [← hv];exact SV HB.out hlt
        have HV:=Lib.hid hv;clear hv;gi_wp2;go_roundw
        case rel=>exact ⟨k+1,by omega,by go_num,hG.miss HV.out⟩
        case measure=>simp [intOf];omega
    . obtain rfl:k=l.length:=by omega
      obtain ⟨hJ,ho,hb,OI,_,mW,hlv⟩:=HH.out;obtain ⟨hN,hOl,hz⟩:=H1.out;clear HH H1 HB;rcases hG.done with ⟨h,_⟩|⟨rb,ro,rc,rfl,hpos,hcap,hrb,hr3⟩
      . exact absurd h OI
      have bV:Lm W wr:=hOl.below hG.below (by rw [hN];exact Nat.le_refl _);have mK:=hG.box;have hLl:(OD l).length<=l.length:=Wm l l.length;clear hG hOl;generalize OD l=L at *;have HH:=Lib.hid (And.intro hJ (And.intro ho (And.intro OI (And.intro hlv (And.intro bV (And.intro hN hr3))))));clear hJ ho hb OI hlv bV hN hr3;gi_wp2;obtain ⟨hJ,ho,OI,hlv,bV,hN,hr3⟩:=HH.out;clear HH;subst hN;show JL S.L γ _ wr;try dsimp only
      refine GY stepG_seq ?_;simp only [pk9,ZG,Try.f107];refine Hu fun _ hkk=>?_;iterate 3 (refine Hf ?_;walk_nrm)
      refine Hw ?_;cases hkk;refine GY stepG_seq ?_;simp only [Aaq,ZG,Try.f107];refine GY stepG_seq ?_;refine Hu fun _ hkk=>?_;iterate 2 (refine Hf ?_;walk_nrm)
      refine Hw ?_;cases hkk;refine JL.Ho (by simp [Act.eval];omega) ?_;refine GY stepG_skip ?_;have hO:wr.heap[ob]?=some (.cells #[lv,.int .i64 last] 204 (0,0)):=by rw [bV.blk ob mW];exact ho.1
      refine GY stepG_seq ?_;cases left with
      | cons t rest=>
        rcases ho.2.1 with ⟨h,_⟩|⟨_,lb,lo,lc,rfl,hl1,hl2,hl3⟩
        . simp at h
        simp only [List.length_map,List.length_cons] at *;have Acu:lb < W.heap.size:=hlv lb rfl (by simp);have Ads:lb≠ob:=fun e=>ho.2.2 (by rw [← e];rfl);have hcl:wr.cell? ⟨lb,lo,none⟩=some (.int .i64 t):=by rw [bV.cell (ad:=⟨lb,lo,none⟩) Acu];exact hl3 0 _ rfl
        obtain ⟨x,hx⟩:∃ x,at_ t L.length=x:=⟨_,rfl⟩
        have hxl:x < L.length:=by rw [← hx];exact oV t L.length hpos
        obtain ⟨y,hy⟩:∃ y,L.getD x 0=y:=⟨_,rfl⟩
        have hcx:=hr3 x hxl;rw [hy] at hcx;obtain ⟨hm2,hm1,hm3,hm4⟩:=pV t L.length hpos;have hxe:(t.tmod (L.length:Int)+(L.length:Int)) % (L.length:Int)=(x:Int):=by rw [← hx,at_,Int.toNat_of_nonneg hm3]
        have hk:(y:Int)=NR (t :: rest) last L:=by
          rw [NR,if_neg OI];show _=((L.getD (at_ t L.length) 0:Nat):Int)
          rw [hx,hy]
        have hRt:=XO (w:=W) (rest:=rest) hl1 hl2 (fun i u hu=>hl3 i u hu);have hL1:L.length≠0:=by omega
        have hL2:(1:Int)<=(rest.length:Int)+1:=by omega
        refine HY.Ht (S:=S) (b:=base 107) [] (by simp) (by kernel_rfl) nE (by kernel_rfl) fun KQ aT=>?_;have Pw:KQ.heap=wr.heap:=by obtain ⟨τ,d,rfl⟩:=aT;rfl
        have c0:KQ.cell? ⟨W.heap.size,0,none⟩=some (.pointer (some ⟨ob,0,none⟩)):=by simp [World.cell?,Pw,mK]
        have c1:KQ.cell? ⟨ob,0,none⟩=some (.slice (some ⟨lb,lo,none⟩) (rest.length+1) lc):=by simp [World.cell?,Pw,hO]
        have c2:KQ.cell? ⟨lb,lo,none⟩=some (.int .i64 t):=by simp only [World.cell?,Pw] at hcl ⊢;exact hcl
        have c3:KQ.cell? ⟨rb,ro+x,none⟩=some (.int .i64 y):=by simp only [World.cell?,Pw] at hcx ⊢;exact hcx
        have c4:KQ.cell? ⟨ob,1,none⟩=some (.int .i64 last):=by simp [World.cell?,Pw,hO]
        have f0:KQ.frozen? ⟨ob,0,none⟩=false:=by simp [World.frozen?,Pw,hO]
        have f1:KQ.frozen? ⟨ob,1,none⟩=false:=by simp [World.frozen?,Pw,hO]
        obtain ⟨L6,iH⟩:∃ x,Value.slice (if lc=1 then some ⟨lb,lo,none⟩ else some ⟨lb,lo+1,none⟩) rest.length (lc - 1)=x:=⟨_,rfl⟩
        rw [iH] at hRt;have hlo:L6.ownBlock=some lb:=by rw [← iH];split <;> rfl
        have hfin:=fun (W':World) (hh:W'.heap=((wr.setCell ⟨ob,0,none⟩ L6).setCell ⟨ob,1,none⟩ (.int .i64 y)).heap)=>
          hJ W' (qx bV hO hRt (by rw [hlo];intro h;cases h;exact Ads rfl) (by rw [hlo];rfl) OI hk hh)
        rw [← hk] at hfin;have HH:=Lib.hid (And.intro hfin (And.intro Pw iH));clear hJ hfin ho hlv OI bV hr3 hRt hlo hO hcl hcx hl3 hk hx hy mK Pw iH aT hm3 hm4;simp only [rR,ZG,Try.f107];gi_wp2;gi_region
        simp only [HH.out.2.2];gi_wp2;gi_region
        gi_wp2;intro Y;obtain ⟨hfin,Pw,iH⟩:=HH.out;exact JL.back rfl Try.func107 (v:=.int .i64 (y:Int)) (fun w=>by kernel_rfl) (hfin _ (by simp only [World.setCell,Pw];rfl))
      | nil=>
        rcases ho.2.1 with ⟨_,lo,lc,rfl,hl1,hl2⟩|⟨h,_⟩
        rotate_left
        . simp at h
        refine HY.Ht (S:=S) (b:=base 107) [] (by simp) (by kernel_rfl) nE (by kernel_rfl) fun KQ aT=>?_;have Pw:KQ.heap=wr.heap:=by obtain ⟨τ,d,rfl⟩:=aT;rfl
        have c0:KQ.cell? ⟨W.heap.size,0,none⟩=some (.pointer (some ⟨ob,0,none⟩)):=by simp [World.cell?,Pw,mK]
        have c1:KQ.cell? ⟨ob,0,none⟩=some (.slice lo 0 lc):=by simp [World.cell?,Pw,hO]
        have c4:KQ.cell? ⟨ob,1,none⟩=some (.int .i64 last):=by simp [World.cell?,Pw,hO]
        have HH:=Lib.hid (And.intro hJ (And.intro Pw (And.intro bV (And.intro hO (And.intro hr3 (And.intro OI (And.intro ho (And.intro c0 c4))))))));clear hJ Pw bV hO hr3 OI ho hlv mK aT;simp only [rR,ZG,Try.f107];gi_wp2;obtain ⟨hJ,Pw,bV,hO,hr3,OI,ho,c0,c4⟩:=HH.out;clear HH;show JL S.L γ _ KQ;try dsimp only
        refine GY stepG_seq ?_;simp only [zW,ZG,Try.f107];refine Hu fun _ hkk=>?_
        (refine Hf ?_;walk_nrm)
        refine JL.KX (.func (.func 121) #[] #[.pointer (some ⟨W.heap.size,0,none⟩)]) rfl rfl nE (fun _=>by kernel_rfl) ?_;walk_nrm;refine JL.enter rfl rfl nE rfl Try.func120 (by kernel_rfl) (by kernel_rfl) ?_;walk_nrm;refine yN (by omega) c0 c4 (fun j hj=>by have:=hr3 j hj;simp only [World.cell?,Pw] at this ⊢;exact this) ?_;rw [Frame.finish_at];walk_nrm
        (refine Hf ?_;walk_nrm)
        refine Hw ?_;cases hkk;obtain ⟨x,hxl,hmx,hnx⟩:=jS last L hpos;obtain ⟨y,hy⟩:∃ y,L.getD x 0=y:=⟨_,rfl⟩
        have hcx:=hr3 x hxl;rw [hy] at hcx;have hk:(y:Int)=NR [] last L:=by
          rw [NR,if_neg OI];show _=((bE last L:Nat):Int)
          rw [hnx,hy]
        refine HY.Ht (S:=S) (b:=base 107) [] (by simp) (by kernel_rfl) nE (by kernel_rfl) fun bK xY=>?_;have oW:bK.heap=wr.heap:=by rw [← Pw];obtain ⟨τ,d,rfl⟩:=xY;rfl
        have d0:bK.cell? ⟨W.heap.size,0,none⟩=some (.pointer (some ⟨ob,0,none⟩)):=by simp only [World.cell?,oW,← Pw] at c0 ⊢;exact c0
        have d3:bK.cell? ⟨rb,ro+x,none⟩=some (.int .i64 y):=by simp only [World.cell?,oW] at hcx ⊢;exact hcx
        have d4:bK.cell? ⟨ob,1,none⟩=some (.int .i64 last):=by simp only [World.cell?,oW,← Pw] at c4 ⊢;exact c4
        have f1:bK.frozen? ⟨ob,1,none⟩=false:=by simp [World.frozen?,oW,hO]
        have hfin:=fun (W':World) (hh:W'.heap=(wr.setCell ⟨ob,1,none⟩ (.int .i64 y)).heap)=>hJ W' (uI bV hO (.inl ⟨rfl,_,_,rfl,hl1,hl2⟩) ho.2.2 OI hk hh);rw [← hk] at hfin;have HH:=Lib.hid (And.intro hfin oW);clear hJ hfin ho OI bV hr3 hO hcx hk hy Pw oW xY c0 c4 c1 hnx;generalize ix last L=iv at *;simp only [yu,ZG,Try.f107];gi_wp2;gi_region
        gi_wp2;intro Y;obtain ⟨hfin,oW⟩:=HH.out;exact JL.back rfl Try.func107 (v:=.int .i64 (y:Int)) (fun w=>by kernel_rfl) (hfin _ (by simp only [World.setCell,oW];rfl))
end
end
end Go.Proofs.Ytkdhnbcdbnpmhaa
namespace Go.Proofs.Ytkdhnbcdbnpmhaa
open Go Go.Conc Go.LT Go.LC Go.LK
open TU
section
structure Rs (Cl Cs Sg:Type) where
  xs:List (Wk Cl Cs)
  σ:Sg
  left:List Int
  last:Int
  s:Nat
section
variable {Cl Cs Sg:Type}(D:Dr Cl Cs Sg)
def Rs.rd (z:Rs Cl Cs Sg):List Bool:=z.xs.map fun x=>!x.over
def Rs.pick (z:Rs Cl Cs Sg):Nat:=(NR z.left z.last (OD z.rd)).toNat
def Rs.turn (z:Rs Cl Cs Sg)(k:Nat)(x:Wk Cl Cs):Rs Cl Cs Sg:=
  ⟨z.xs.set k (D.hold x (z.s+1) z.σ).1,(D.hold x (z.s+1) z.σ).2.1,NP z.left (OD z.rd),NC z.left z.last (OD z.rd),z.s+1⟩
def Rs.next (z:Rs Cl Cs Sg):Rs Cl Cs Sg:=
  match z.xs[z.pick]? with
  | some x=>z.turn D z.pick x
  | none=>z
def Rs.go (most:Nat):Nat->Rs Cl Cs Sg->Rs Cl Cs Sg
  | 0,z=>z
  | f+1,z=>if z.rd.any id=true/\z.s < most then Rs.go most f (z.next D) else z
def Rs.new (plans:List (List Cl))(σ:Sg)(turns:List Int):Rs Cl Cs Sg:=⟨plans.zipIdx.map fun p=>Wk.new p.2 p.1,σ,turns,-1,0⟩
theorem vM {l:List Bool}:OD l≠[]↔l.any id=true:=by
  unfold OD Ls;rw [ne_eq,List.filter_eq_nil_iff,List.any_eq_true];constructor
  . intro h;obtain ⟨i,hi⟩:=Classical.not_forall.1 h;obtain ⟨h1,h2⟩:=Classical.not_imp.1 hi;rw [List.mem_range] at h1;refine ⟨l[i],List.getElem_mem h1,?_⟩;simpa [List.getD,h1] using h2
  . rintro ⟨x,hx,hx1⟩ h;obtain ⟨i,hi,rfl⟩:=List.getElem_of_mem hx;have:=h i (List.mem_range.2 hi);simp [List.getD,hi] at this;simp [this] at hx1
theorem j4 {left:List Int}{last:Int}{l:List Bool}(h:OD l≠[]):∃ k:Nat,NR left last (OD l)=k/\k < l.length/\l.getD k false=true:=by
  have hpos:0 < (OD l).length:=List.length_pos_iff.2 h;have key:∀ x,x < (OD l).length->(OD l).getD x 0 < l.length/\l.getD ((OD l).getD x 0) false=true:=fun x hx=>vN l _ (by
    have e:(OD l).getD x 0=(OD l)[x]:=by simp [List.getD,hx]
    rw [e];exact List.getElem_mem hx)
  unfold NR;rw [if_neg h];cases left with
  | cons t r=>
    have hx:=oV t _ hpos;exact ⟨_,rfl,(key _ hx).1,(key _ hx).2⟩
  | nil=>
    obtain ⟨x,hx,_,hn⟩:=jS last (OD l) hpos;refine ⟨_,rfl,?_⟩;rw [hn];exact key x hx
structure lI (x:Wk Cl Cs):Prop where
  todo:x.over=false->x.cur=none->x.todo≠[]
  bg:x.cur=none->x.bg=0
  cur:x.over=true->x.cur=none
theorem lI.new (k:Nat)(l:List Cl):lI (Wk.new k l:Wk Cl Cs):=by
  refine ⟨fun h _=>?_,fun _=>rfl,fun _=>rfl⟩;cases l with
  | nil=>cases h
  | cons=>simp [Wk.new]
theorem lI.fin (x:Wk Cl Cs)(e:An × Bool):lI (x.fin e):=by
  refine ⟨fun h _=>?_,fun _=>rfl,fun _=>rfl⟩;have h:(e.2 || x.todo.isEmpty)=false:=h;have:x.todo.isEmpty=false:=by cases he:e.2 <;> simp_all
  intro e0;have e0:x.todo=[]:=e0;rw [e0] at this;cases this
theorem Vh {x:Wk Cl Cs}(h:x.over=false)(r:Sg × (Cs ⊕ (An × Bool))):lI (x.land r).1/\(x.land r).2.2=(x.land r).1.over:=by
  obtain ⟨σ,r⟩:=r;cases r with
  | inl cs=>
    rw [Wk.V5];refine ⟨⟨fun _ h=>(by cases h),fun h=>(by cases h),fun h'=>?_⟩,h.symm⟩;have h':x.over=true:=h';rw [h] at h';cases h'
  | inr e=>rw [Wk.Xh];exact ⟨.fin x e,rfl⟩
theorem nU {x:Wk Cl Cs}(hw:lI x)(h:x.over=false)(s:Nat)(σ:Sg):lI (D.hold x s σ).1/\(D.hold x s σ).2.2=(D.hold x s σ).1.over:=by
  unfold Dr.hold;cases hc:x.cur with
  | some cs=>exact Vh (x:={ x with st:=s,ow:=x.ow+1 }) h _
  | none=>
    cases ht:x.todo with
    | nil=>exact absurd ht (hw.todo h hc)
    | cons c l=>
      dsimp only;cases hi:D.init x.k c σ with
      | inl cs=>dsimp only;refine Vh ?_ _;exact h
      | inr e=>dsimp only;refine Vh ?_ _;exact h
theorem Rs.lY {most f:Nat}{z:Rs Cl Cs Sg}(h:z.rd.any id=false\/most<=z.s):Rs.go D most f z=z:=by
  cases f with
  | zero=>rfl
  | succ f=>
    rw [Rs.go,if_neg];rintro ⟨h1,h2⟩;rcases h with h|h
    . rw [h] at h1;cases h1
    . omega
theorem Rs.go_step {most f:Nat}{z:Rs Cl Cs Sg}(h1:z.rd.any id=true)(h2:z.s < most):Rs.go D most (f+1) z=Rs.go D most f (z.next D):=by rw [Rs.go,if_pos ⟨h1,h2⟩]
end
end
end Go.Proofs.Ytkdhnbcdbnpmhaa
