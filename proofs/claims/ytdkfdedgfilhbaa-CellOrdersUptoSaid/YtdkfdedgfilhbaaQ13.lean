/-
  Part 13 of the proof that CellOrders is true of every input of bulk at most 1048576.
-/
import Derived.Test.YtdkfdedgfilhbaaQ12
import Derived.LoopTactic
import Derived.RegionTactic
import Derived.ChangeAlike
import Derived.BigRegion
set_option linter.unusedVariables false
set_option linter.unusedSectionVars false
set_option linter.unusedSimpArgs false
set_option maxHeartbeats 4000000
set_option maxRecDepth 100000
noncomputable section
namespace Go.Proofs.Ytdkfdedgfilhbaa
open Go Go.Conc Go.LT Go.LC Go.LK Go.RowKit
open Go.ConcN (WgLive)
section
def RZ{Sg:Type}(m:Mem Sg)(bd:Nat)(dv:Value):Mem Sg where
 Sh g:=m.Sh g\/g=bd
 Inv σ W:=m.Inv σ W/\W.heap[bd]?=some (.cells #[dv] 57 (0,0))
 rows:=fun σ W g hg h=>by
  rcases hg with hg|rfl
  . exact m.rows σ W g hg h.1
  . exact⟨_,_,_,h.2⟩
 eq:=fun σ W W' he h=>⟨m.eq σ W W' (fun g hg=>he g (.inl hg)) h.1,(he bd (.inr rfl)).cells h.2⟩
section
variable {Cs Sg:Type}{D:Dr EP Cs Sg}{m:Mem Sg}
variable {Fin:Gb}{EH:FM Try.prog Fin}
variable {B:Nat->Bool}{W:World}{n:Nat}{K:List Item}{cs:List Frame}{ds:List Deferred}{σ:Sg}{dv:Value}
variable {v0 v1 v2 v3 v4 v5 v6 v7 v8 v9 Aa Ab Ac Ae Af Ah Ai Aj Ak Al Am Ao Ap Ar Au Av Aw Ay Az AA AB AJ AL AO AP AQ AU AV AX AY AZ A8 A9 Ba Bb Bc Bf Bh Bj Bl Bp Bq Br:Value}{M:Md (Wk EP Cs) Sg}{ρ:Rn}{ws:List (FE (Wk EP Cs))}{bp bd br:Nat}
theorem Y9{pg po:Nat}{Km:List Value}{plans:List (List EP)}(h:K9 m pg po Km plans):K9 (RZ m bd dv) pg po Km plans:=
 ⟨h.len,h.few,fun σ W hI=>h.cell σ W hI.1,fun i cv pl h1 h2 σ W hI=>h.calls i cv pl h1 h2 σ W hI.1⟩
theorem dM{W:World}(h:(RZ m bd dv).Inv σ W):W.cell? ⟨bd,0,none⟩=some dv:=by have:=h.2;simp[World.cell?,this]
theorem yt(hK:∀W',W'.heap=W.heap->JL (S0 Try.prog Fin EH).L (.Fg M ρ ws 0 false n) (G ((base 16).at ⟨#[v0,v1,v2,v3,v4,v5,v6,v7,v8,v9,.slice none 0 0,Ab,Ac,Ae,Af,Ah,Ai,Aj,Ak,Al,Am,Ao,Ap,Ar,Au,Av,Aw,Ay,Az,AA,AB,AJ,AL,AO,AP,AQ,AU,AV,AX,AY,AZ,A8,A9,Ba,Bb,Bc,Bf,Bh,Bj,Bl,Bp,Bq,Br],ds⟩ K) cs) W') :
  JL (S0 Try.prog Fin EH).L (.Fg M ρ ws 0 false n) (G ((base 16).at ⟨#[v0,v1,v2,v3,v4,v5,v6,v7,v8,v9,Aa,Ab,Ac,Ae,Af,Ah,Ai,Aj,Ak,Al,Am,Ao,Ap,Ar,Au,Av,Aw,Ay,Az,AA,AB,AJ,AL,AO,AP,AQ,AU,AV,AX,AY,AZ,A8,A9,Ba,Bb,Bc,Bf,Bh,Bj,Bl,Bp,Bq,Br],ds⟩ (.code yB :: K)) cs) W:=by
 refine Fp.Fz (S:=S0 Try.prog Fin EH) (b:=base 16) [] (by simp) zKR nE zKR fun EG ha=>?_;have hh:EG.heap=W.heap:=by obtain⟨τ,d,rfl⟩:=ha;rfl
 have HH:=Lib.hid (zAI hK hh);clear hK hh;dsimp only;simp only[yB,SX,Try.f16];gi_wp2;obtain⟨hK,hh⟩:=HH.out;exact hK EG hh
theorem xM {pg po pn Ga:Nat}(h2:W.cell? ⟨bp,0,none⟩=some (.slice (some ⟨pg,po,none⟩) pn Ga))(hv2:v2=.pointer (some ⟨bp,0,none⟩))(hK:∀ W' Dp Dq Dt Du,W'.heap=W.heap->Dq=.slice (some ⟨pg,po,none⟩) pn Ga->Dt=.int .i64 pn->Du=.int .i64 0->
      JL (S0 Try.prog Fin EH).L (.Fg M ρ ws 0 false n) (G ((base 16).at ⟨#[v0,v1,v2,v3,v4,v5,v6,v7,v8,v9,Aa,Ab,Ac,Ae,Af,Ah,Ai,Aj,Ak,Al,Am,Ao,Ap,Dp,Dq,Dt,Du,Ay,Az,AA,AB,AJ,AL,AO,AP,AQ,AU,AV,AX,AY,AZ,A8,A9,Ba,Bb,Bc,Bf,Bh,Bj,Bl,Bp,Bq,Br],ds⟩ K) cs) W') :
    JL (S0 Try.prog Fin EH).L (.Fg M ρ ws 0 false n) (G ((base 16).at ⟨#[v0,v1,v2,v3,v4,v5,v6,v7,v8,v9,Aa,Ab,Ac,Ae,Af,Ah,Ai,Aj,Ak,Al,Am,Ao,Ap,Ar,Au,Av,Aw,Ay,Az,AA,AB,AJ,AL,AO,AP,AQ,AU,AV,AX,AY,AZ,A8,A9,Ba,Bb,Bc,Bf,Bh,Bj,Bl,Bp,Bq,Br],ds⟩ (.code rn7 :: K)) cs) W:=by
  subst hv2;refine Fp.Fz (S:=S0 Try.prog Fin EH) (b:=base 16) [] (by simp) zKR nE zKR fun Fh Lm=>?_;have hh3:Fh.heap=W.heap:=by obtain⟨τ,d,rfl⟩:=Lm;rfl
  have c0:Fh.cell? ⟨bp,0,none⟩=some (.slice (some ⟨pg,po,none⟩) pn Ga):=by simp only[World.cell?,hh3]at h2 ⊢;exact h2
  have HH:=Lib.hid (zAI hK hh3);clear hK h2 hh3;dsimp only;simp only[rn7,SX,Try.f16];gi_wp2;obtain⟨hK,hh3⟩:=HH.out;exact hK Fh _ _ _ _ hh3 rfl rfl rfl
theorem mq{plans:List (List EP)}{R pg po Ga:Nat}{Km:List Value}{Qb:FuncId}{recv:Value}{Kp:Nat->Prop}(hD:∀ρ b k,P9 (KO D m ρ b k) dv Qb recv)(hdv:∃t v,dv=.iface t v)(hbd:∀σ W,m.Inv σ W->W.cell? ⟨bd,0,none⟩=some dv)(hR:R<2 ^ 62)(hcap:n+plans.length<1000000)(hP:K9 m pg po Km plans)(hI:m.Inv σ W)(hB:∀g,B g=true->g<W.heap.size)(hSB:∀g,m.Sh g->B g=false)(He:∀g,Kp g->(∃c e f,W.heap[g]?=some (.cells c e f))/\B g=false/\¬ m.Sh g)(h2:W.cell? ⟨bp,0,none⟩=some (.slice (some ⟨pg,po,none⟩) plans.length Ga))(hv2:v2=.pointer (some ⟨bp,0,none⟩))(hv3:v3=.pointer (some ⟨bd,0,none⟩))(hv4:v4=.pointer (some ⟨br,0,none⟩))(hK:∀(ρ:Rn) ws' J2 W' a12 fA a26 tm',ρ.ty=link.tWg->ρ.zi=.int .i64 0->ρ.zg=.agg #[]->ρ.shut->¬ ρ.UM->ρ.Bo=B->W.heap.size<=ρ.Wg->W.heap.size<=ρ.gone->Sr bp bd br ρ.come ρ.gone ρ.Wg J2 a12 fA (.slice (some ⟨pg,po,none⟩) plans.length Ga) (.int .i64 plans.length) a26 tm'->HI m ρ plans R ws' σ J2 Kp W W'->ws'.length=plans.length->JL (S0 Try.prog Fin EH).L (.Fg (Fe D m) ρ ws' 0 false (n+plans.length)) (G ((base 16).at ⟨tm',ds⟩ (.code Pv :: K)) cs) W') :
  JL (S0 (X:=Wk EP Cs) (Sg:=Sg) Try.prog Fin EH).L (.Gj B n) (G ((base 16).at ⟨#[v0,v1,v2,v3,v4,v5,v6,v7,v8,v9,Aa,Ab,Ac,Ae,Af,Ah,Ai,Aj,Ak,Al,Am,Ao,Ap,Ar,Au,Av,Aw,Ay,Az,AA,AB,AJ,AL,AO,AP,AQ,AU,AV,AX,AY,AZ,A8,A9,Ba,Bb,Bc,Bf,Bh,Bj,Bl,Bp,Bq,Br],ds⟩ (.code (.seq rn4 (.seq rn5 (.seq yB (.seq (.seq rn7 (.block 0 (.loop Sm))) Pv)))) :: K)) cs) W:=by
 refine J0.Afj (EH:=EH) fun hlow=>?_;show JL (S0 (X:=Wk EP Cs) (Sg:=Sg) Try.prog Fin EH).L _ _ W;have NQ:∀g,m.Sh g->g<W.heap.size:=fun g hg=>by obtain⟨c,e,f,hc⟩:=m.rows σ W g hg hI;exact(zGE hc).1
 have hbp:bp<W.heap.size:=by
  simp only[World.cell?]at h2;cases ho:W.heap[bp]? with
  | none=>rw[ho]at h2;cases h2
  | some o=>exact(zGE ho).1
 refine EO ?_;refine Acb fun W1 co go Dm Dn hcg hW1=>?_;have hz1:W1.heap.size=W.heap.size+2:=by rw[hW1];simp
 have zH:∀g,g<W.heap.size->W1.heap[g]?=W.heap[g]?:=fun g hg=>by rw[hW1];simp only[Array.getElem?_push,Array.size_push];rw[if_neg zOM,if_neg zOM]
 have hch:∀g,g=W.heap.size\/g=W.heap.size+1->∃k,W1.heap[g]?=some (.chan 0 #[] false k k false):=fun g hg=>⟨0,by
  rw[hW1];rcases hg with rfl|rfl
  . simp only[Array.getElem?_push,Array.size_push];rw[if_neg zOM];simp
  . simp only[Array.getElem?_push,Array.size_push];simp⟩
 clear hW1;refine EO ?_;refine Ac2 (M:=Fe D m) (ρ:={ ty:=link.tWg,Wg:=W1.heap.size,come:=co,gone:=go,zi:=.int .i64 0,zg:=.agg #[],Bo:=B,shut:=True,UM:=False }) rfl rfl rfl (by show co≠go;omega) (hch co zOM) (hch go zOM) (fun g hg=>⟨by show g≠W1.heap.size;have:=NQ g hg;omega,hSB g hg⟩) ⟨by show Fin.b0<=co;omega,by show Fin.b0<=go;omega⟩ fun W2 U8 hz2=>?_;have hold:∀g,g<W.heap.size->W2.heap[g]?=W.heap[g]?:=fun g hg=>by rw[U8 g zOM,zH g hg]
 generalize hρ:({ ty:=link.tWg,Wg:=W1.heap.size,come:=co,gone:=go,zi:=.int .i64 0,zg:=.agg #[],Bo:=B,shut:=True,UM:=False }:Rn)=ρ;have q1:ρ.ty=link.tWg:=by rw[← hρ]
 have q2:ρ.zi=.int .i64 0:=by rw[← hρ]
 have q3:ρ.zg=.agg #[]:=by rw[← hρ]
 have q4:ρ.shut:=by rw[← hρ];exact trivial
 have q5:¬ ρ.UM:=by rw[← hρ];exact id
 have q6:ρ.Bo=B:=by rw[← hρ]
 have q7:ρ.Wg=W1.heap.size:=by rw[← hρ]
 have q8:ρ.come=co:=by rw[← hρ]
 have q9:ρ.gone=go:=by rw[← hρ]
 rw[← q8,← q9];refine EO ?_;refine yt fun W3 hW3=>?_;refine EO ?_;refine EO ?_;have hb2:W3.cell? ⟨bp,0,none⟩=some (.slice (some ⟨pg,po,none⟩) plans.length Ga):=by simp only[World.cell?,hW3,hold bp hbp]at h2 ⊢;exact h2
 refine xM hb2 hv2 fun W4 Dp Dq Dt Du UY e24 e25 e26=>?_;refine EU stepG_block ?_;refine EU stepG_loop ?_;have aO:W4.heap=W2.heap:=UY.trans hW3;have HI0:HI (Cs:=Cs) m ρ plans R [] σ (.slice none 0 0) Kp W W4:=
  {
    inv:=m.eq σ W W4 (fun g hg=>.of (by rw[aO];exact hold g (NQ g hg))) hI
    xs:=fun j u hu=>by simp at hu
    TS:=⟨0,rfl,.inl ⟨rfl,rfl⟩⟩
    iC:=fun g hg=>by cases hg
    lt:=fun j u hu=>by simp at hu
    wg:=by rw[aO,q7];omega
    come:=by rw[aO,q8];omega
    gone:=by rw[aO,q9];omega
    bo:=fun g hg=>by rw[q6]at hg;have:=hB g hg;rw[aO];omega
    sh:=fun g hg=>⟨by rw[q7];have:=NQ g hg;omega,by rw[q6];exact hSB g hg⟩
    kp:=fun g hg=>by obtain⟨⟨c,e,f,h⟩,h3,h4⟩:=He g hg;have hlt:=(zGE h).1;exact⟨by rw[aO];exact hold g hlt,⟨c,e,f,h⟩,by rw[q7];omega,by rw[q6];exact h3,h4,(by intro h;cases h),fun j u hu=>by simp at hu⟩ }
 subst hv2 hv3 hv4 e24 e25 e26;refine ZW (n0:=n) (hD ρ) hdv q5 q2 q3 q1 hbd hR hcap hP (fun ws' J2 W' a12 fA a26 tm' hs' h' hl'=>hK ρ ws' J2 W' a12 fA a26 tm' q1 q2 q3 q4 q5 q6 (by rw[q7];omega) (by rw[q9];omega) hs' h' hl') plans [] (.slice none 0 0) Ac Ae W4 0 _ rfl (Nat.zero_le _) HI0 rfl ⟨_,_,_,_,_,_,_,_,_,_,_,_,_,_,Dp,_,_,_,_,_,_,_,_,_,_,_,_,_,_,_,_,_,_,_,_,_,_,_,_,_,_,rfl⟩
end
end
section
def rP:Code:=match Pv with | .seq c _=>c | _=>.skip
def wM:Code:=match Pv with | .seq _ (.seq c _)=>c | _=>.skip
def vC:Code:=match Pv with | .seq _ (.seq _ (.seq c _))=>c | _=>.skip
def iZ:Code:=match Pv with | .seq _ (.seq _ (.seq _ c))=>c | _=>.skip
theorem nZ:Pv=.seq rP (.seq wM (.seq vC iZ)):=rfl
section
variable {X Sg:Type}
variable {Fin:Gb}{EH:FM Try.prog Fin}
variable {W:World}{n:Nat}{K:List Item}{cs:List Frame}{ds:List Deferred}{M:Md X Sg}{ρ:Rn}{ws:List (FE X)}
variable {v0 v1 v2 v3 v4 v5 v6 v7 Aa Ab Ac Ae Af Ah Ai Aj Ak Al Am Ao Ap Ar Au Av Aw Ay Az AA AB AJ AL AO AP AQ AU AV AX AY AZ A8 A9 Ba Bb Bc Bf Bh Bj Bl Bp Bq Br:Value}
theorem dK(hsh:ρ.shut)(hcl:¬ ρ.UM)(hK:∀W' D7 D8,Tw ρ ws W W'->JL (S0 (X:=X) (Sg:=Sg) Try.prog Fin EH).L (.Gj (fun b=>ρ.Bo b||b==ρ.Wg) n) (G ((base 16).at ⟨#[v0,v1,v2,v3,v4,v5,v6,v7,.chan (some ρ.gone),.pointer (some ⟨ρ.Wg,0,none⟩),Aa,Ab,Ac,Ae,Af,Ah,Ai,Aj,Ak,Al,Am,Ao,Ap,Ar,Au,Av,Aw,Ay,Az,AA,AB,AJ,AL,AO,AP,AQ,AU,AV,AX,AY,AZ,A8,A9,Ba,Bb,Bc,Bf,Bh,Bj,Bl,D7,D8,Br],ds⟩ (.code iZ :: K)) cs) W') :
  JL (S0 (X:=X) (Sg:=Sg) Try.prog Fin EH).L (.Fg M ρ ws 0 false n) (G ((base 16).at ⟨#[v0,v1,v2,v3,v4,v5,v6,v7,.chan (some ρ.gone),.pointer (some ⟨ρ.Wg,0,none⟩),Aa,Ab,Ac,Ae,Af,Ah,Ai,Aj,Ak,Al,Am,Ao,Ap,Ar,Au,Av,Aw,Ay,Az,AA,AB,AJ,AL,AO,AP,AQ,AU,AV,AX,AY,AZ,A8,A9,Ba,Bb,Bc,Bf,Bh,Bj,Bl,Bp,Bq,Br],ds⟩ (.code (.seq wM (.seq vC iZ)) :: K)) cs) W:=by
 refine EO ?_;dsimp only;simp only[wM,Pv,SX,Try.f16];refine E9 fun _ hkk=>?_
 (refine ET ?_;walk_nrm)
 refine J0.shut (EH:=EH) hsh hcl rfl (by simp[mayWake,G,Frame.at]) rfl (fun w k hk=>stepG_close rfl rfl nE rfl rfl hk zKR) (Rm.of (Stop:=Qd (S0 (X:=X) (Sg:=Sg) Try.prog Fin EH).L (.Gj (fun b=>ρ.Bo b||b==ρ.Wg) n) (Tw ρ ws W)) fun W1=>?_);walk_nrm;refine E5 ?_;cases hkk;refine EO ?_;simp only[vC,Pv,SX,Try.f16];refine E9 fun _ hkk=>?_;refine JT.iW (L:=link) fP rfl rfl nE rfl rfl fun W2 hT=>?_;walk_nrm;refine E5 ?_;cases hkk;exact hK W2 _ _ hT
end
end
end Go.Proofs.Ytdkfdedgfilhbaa
namespace Go.Proofs.Ytdkfdedgfilhbaa
open Go.RowKit BA TU

theorem OX:(Try.prog.info? 3).map (fun i=>(i.zero,i.size,i.bytes))=some (some (.int .i64 0),1,8):=by kernel_rfl
def UD(w:World)(T b:Nat)(lv:Value)(left:List Int)(last:Int):Prop:=
 w.heap[b]?=some (.cells #[lv,.int .i64 last] T (0,0))/\Reads w lv (left.map (Value.int .i64))/\lv.ownBlock≠some b
theorem UD.drew{w:World}{T b:Nat}{lv:Value}{left:List Int}{last:Int}(h:UD w T b lv left last):UD w.drew T b lv left last:=⟨h.1,h.2.1.drew,h.2.2⟩
theorem Rk{w:World}{l:List Bool}{b o k:Nat}(hb:∀i u,(bools l)[i]?=some u->w.cell? ⟨b,o+i,none⟩=some u)(hk:k<l.length):w.cell? ⟨b,o+k,none⟩=some (.bool (l.getD k false)):=by apply hb;simp[bools,hk]
structure RU(w wr:World)(N ob:Nat)(l:List Bool)(v:Value)(k:Nat):Prop where
 own:FY wr (N+1) 1 v (Jt l k).length ((Jt l k).map fun(j:Nat)=>Value.int .i64 (j:Int))
 below:Below N w wr
 big:N+1<=wr.heap.size
 box:wr.heap[N]?=some (.cells #[.pointer (some ⟨ob,0,none⟩)] 122 (0,0))
 blk:∀g,v.ownBlock=some g->N+1<=g
theorem RU.hit{w wr w1:World}{N ob:Nat}{l:List Bool}{v v':Value}{k:Nat}{ob1:Obj}(h:RU w wr N ob l v k)(hk:l.getD k false=true)(h1:FY w1 (N+1) 1 v' ((Jt l k).length+1) ((Jt l k).map (fun(j:Nat)=>Value.int .i64 (j:Int))++[.int .i64 k]))(h2:(wr.alloc ob1).grownBy w1 v.ownBlock)(h3:v'.ownBlock=v.ownBlock\/v'.ownBlock=none\/∃j,v'.ownBlock=some j/\wr.heap.size+1<=j):RU w w1 N ob l v' (k+1):=by
 have hb:=h.big;have hs:=h2.size;simp at hs;refine⟨?_,?_,by omega,?_,?_⟩
 . rw[Zd l k hk];simpa using h1
 . exact(h.below.alloc zOM _).grown h2 (by simp;omega) (fun g hg=>by have:=h.blk g hg;omega)
 . rw[h2.block N (by simp;omega) (fun e=>by have:=h.blk N e.symm;omega),Below.heap_alloc _ _ _ zOM];exact h.box
 . intro g hg;rcases h3 with h3|h3|⟨j,h3,h4⟩
   . exact h.blk g (h3 ▸ hg)
   . rw[h3]at hg;cases hg
   . rw[h3]at hg;cases hg;omega
theorem RU.miss{w wr:World}{N ob:Nat}{l:List Bool}{v:Value}{k:Nat}(h:RU w wr N ob l v k)(hk:l.getD k false=false):RU w wr N ob l v (k+1):=
 ⟨by rw[Xj l k hk];exact h.own,h.below,h.big,h.box,h.blk⟩
theorem RU.done{w wr:World}{N ob:Nat}{l:List Bool}{v:Value}(h:RU w wr N ob l v l.length) :
   (MQ l=[]/\∃ao c,v=.slice ao 0 c)\/
   (∃rb ro rc,v=.slice (some ⟨rb,ro,none⟩) (MQ l).length rc/\0<(MQ l).length/\(MQ l).length<=rc/\N+1<=rb/\∀j,j<(MQ l).length->wr.cell? ⟨rb,ro+j,none⟩=some (.int .i64 ((MQ l).getD j 0:Nat))):=by
 have hR:=h.own.reads;rw[show Jt l l.length=MQ l from rfl]at hR;rcases hR with⟨hnil,ao,cc,hv,_,_⟩|⟨hne,rb,ro,rc,hv,hr1,hr2,hr3⟩
 . exact .inl ⟨by simpa using hnil,ao,cc,hv⟩
 . simp only[List.length_map]at hv hr1;refine .inr ⟨rb,ro,rc,hv,?_,hr1,h.blk rb (by rw[hv];rfl),fun j hj=>hr3 j _ (by simp[hj])⟩;have:MQ l≠[]:=by simpa using hne
   exact List.length_pos_iff.2 this
theorem XC{w:World}{lb lo lc:Nat}{t:Int}{rest:List Int}(h1:rest.length+1<=lc)(h2:lc<=maxLen)(h:∀i u,(List.map (Value.int .i64) (t :: rest))[i]?=some u->w.cell? ⟨lb,lo+i,none⟩=some u) :
   Reads w (.slice (if lc=1 then some ⟨lb,lo,none⟩else some ⟨lb,lo+1,none⟩) rest.length (lc-1)) (rest.map (Value.int .i64)):=by
 by_cases hr:rest=[]
 . subst hr;exact .inl ⟨rfl,_,_,rfl,by omega,fun h=>by split at h<;>cases h⟩
 . have hp:=List.length_pos_iff.2 hr;refine .inr ⟨by simpa using hr,lb,lo+1,lc-1,by rw[if_neg zOM];simp,by simp;omega,by omega,fun i u hu=>?_⟩;have:=h (i+1) u (by simpa using hu);rw[show lo+1+i=lo+(i+1)by omega];exact this
end Go.Proofs.Ytdkfdedgfilhbaa
namespace Go.Proofs.Ytdkfdedgfilhbaa
open Go Go.Conc Go.LT Go.LC Go.LK Go.RowKit
open BA TU
section
def Ze:Code:=match Try.f61.body with | some (.seq _ (.seq _ (.seq _ c)))=>c | _=>.skip
def pk0:Code:=match Try.f61.body with | some (.seq c _)=>c | _=>.skip
def pk1:Code:=match Try.f61.body with | some (.seq _ (.seq c _))=>c | _=>.skip
def pk2:Code:=match Try.f61.body with | some (.seq _ (.seq _ (.seq c _)))=>c | _=>.skip
def pkL:Code:=match Ze with | .seq c _=>c | _=>.skip
def pk9:Code:=match Ze with | .seq _ (.seq c _)=>c | _=>.skip
def Ab7:Code:=match Ze with | .seq _ (.seq _ (.seq c _))=>c | _=>.skip
def rY:Code:=match Ze with | .seq _ (.seq _ (.seq _ (.seq c _)))=>c | _=>.skip
def zU:Code:=match Ze with | .seq _ (.seq _ (.seq _ (.seq _ (.seq c _))))=>c | _=>.skip
def zh:Code:=match Ze with | .seq _ (.seq _ (.seq _ (.seq _ (.seq _ c))))=>c | _=>.skip
theorem mX:Try.f61.body=some (.seq pk0 (.seq pk1 (.seq pk2 (.seq pkL (.seq pk9 (.seq Ab7 (.seq rY (.seq zU zh)))))))):=rfl
def Abw:Code:=match Try.f76.body with | some (.seq _ (.seq (.seq c _) _))=>c | _=>.skip
def ix0:Code:=match Try.f76.body with | some (.seq c _)=>c | _=>.skip
def vR:Code:=match Try.f76.body with | some (.seq _ (.seq (.seq _ (.block _ (.loop c))) _))=>c | _=>.skip
def ix7:Code:=match Try.f76.body with | some (.seq _ (.seq _ c))=>c | _=>.skip
theorem kS:Try.f76.body=some (.seq ix0 (.seq (.seq Abw (.block 0 (.loop vR))) ix7)):=rfl
structure Jz(W0 W:World):Prop where
 blk:∀g,g<W0.heap.size->W.heap[g]?=W0.heap[g]?
 size:W0.heap.size<=W.heap.size
theorem Jz.refl(W:World):Jz W W:=⟨fun _ _=>rfl,Nat.le_refl _⟩
theorem Jz.trans{a b c:World}(h:Jz a b)(k:Jz b c):Jz a c:=⟨fun g hg=>(k.blk g (Nat.lt_of_lt_of_le hg h.size)).trans (h.blk g hg),Nat.le_trans h.size k.size⟩
theorem Jz.alike{a b c:World}(h:Jz a b)(hh:c.heap=b.heap):Jz a c:=⟨by rw[hh];exact h.blk,by rw[hh];exact h.size⟩
theorem Jz.below{a b c:World}{n:Nat}(h:Jz a b)(k:Below n b c)(hn:a.heap.size<=n):Jz a c:=⟨fun g hg=>(k.block g (Nat.lt_of_lt_of_le hg hn)).trans (h.blk g hg),Nat.le_trans h.size k.size⟩
theorem Jz.alloc{a b:World}(h:Jz a b)(o:Obj):Jz a (b.alloc o):=⟨fun g hg=>(Below.heap_alloc b o g (Nat.lt_of_lt_of_le hg h.size)).trans (h.blk g hg),by simp;exact Nat.le_succ_of_le h.size⟩
theorem Jz.cell{a b:World}(h:Jz a b){ad:Addr}(hl:ad.block<a.heap.size):b.cell? ad=a.cell? ad:=by simp only[World.cell?,h.blk _ hl]
theorem Fa{a:World}{ad:Addr}{v:Value}(h:a.cell? ad=some v):ad.block<a.heap.size:=by
 simp only[World.cell?]at h;cases ho:a.heap[ad.block]? with
 | none=>rw[ho]at h;cases h
 | some o=>exact(zGE ho).1
structure iX(W0 W:World)(T ob:Nat)(lv:Value)(left:List Int)(last:Int)(L:List Nat):Prop where
 blk:∀g,g<W0.heap.size->g≠ob->W.heap[g]?=W0.heap[g]?
 size:W0.heap.size<=W.heap.size
 ord:∃J2,UD W T ob J2 (LG left L) (LH left last L)/\J2.ownBlock=lv.ownBlock
section
variable {main:Bool}{Γ:Type}{S:Fp Try.prog main Γ}{γ:Γ}{W:World}{cf:Frame}{cs:List Frame}
theorem dA{k last:Int}{N ob:Nat}(hN:W.cell? ⟨N,0,none⟩=some (.pointer (some ⟨ob,0,none⟩)))(hl:W.cell? ⟨ob,1,none⟩=some (.int .i64 last))(hJ:JL S.L γ (G (cf.finish (.bool (decide (last<k)))) cs) W) :
  JL S.L γ (G (Frame.enter Try.prog 77 #[.int .i64 k,.pointer (some ⟨N,0,none⟩)] .normal) (cf :: cs)) W:=by
 have ht:#[.int .i64 k,.pointer (some ⟨N,0,none⟩)]++Array.replicate (Try.f77.ntmps-(#[.int .i64 k,.pointer (some ⟨N,0,none⟩)]:Array Value).size) undef=#[.int .i64 k,.pointer (some ⟨N,0,none⟩),undef,undef,undef,undef,undef,undef,undef,undef]:=by
  have:Try.f77.ntmps=10:=by kernel_rfl
  rw[this];walk_nrm
 rw[enter_at (c:=(Try.f77.body).get rfl) _ Try.func77 rfl,ht];refine Fp.Fz (S:=S) (b:=base 77) [] (by simp) zKR nE zKR fun EG ha=>?_;have hc1:EG.cell? ⟨N,0,none⟩=some (.pointer (some ⟨ob,0,none⟩)):=by obtain⟨τ,d,rfl⟩:=ha;exact hN
 have hc2:EG.cell? ⟨ob,1,none⟩=some (.int .i64 last):=by obtain⟨τ,d,rfl⟩:=ha;exact hl
 have hend:=JW.tape (S:=S.base) hJ ha;clear hJ hN hl;simp only[Try.f77,Option.get_some];gi_wp2;intro Y;exact JL.back rfl Try.func77 (v:=.bool (decide (last<k))) (fun w=>by kernel_rfl) hend
theorem kR{last:Int}{N ob rb ro rc:Nat}{L:List Nat}(hsm:L.length<=1000000)(hN:W.cell? ⟨N,0,none⟩=some (.pointer (some ⟨ob,0,none⟩)))(hl:W.cell? ⟨ob,1,none⟩=some (.int .i64 last))(hr:∀j,j<L.length->W.cell? ⟨rb,ro+j,none⟩=some (.int .i64 (L.getD j 0:Nat)))(hJ:JL S.L γ (G (cf.finish (.int .i64 (ix last L))) cs) W) :
  ∀(d x:Nat) (W':World),L.length-x=d->x<=L.length->LT.Alike W W'->(∀j,j<x->((L.getD j 0:Nat):Int)<=last)->∀v2 v3 v5 v9 Aa Ab Ac Ae Af Ah Ai Aj Ak:Value,
    JL S.L γ (G ((base 76).at ⟨#[.slice (some ⟨rb,ro,none⟩) L.length rc,.func (.func 77) #[] #[.pointer (some ⟨N,0,none⟩)],v2,v3,.int .i64 0,v5,.slice (some ⟨rb,ro,none⟩) L.length rc,.int .i64 L.length,.int .i64 x,v9,Aa,Ab,Ac,Ae,Af,Ah,Ai,Aj,Ak],[]⟩ [.code vR,.inLoop vR,.inBlock 0,.code ix7]) (cf :: cs)) W':=by
 intro d;induction d with
 | zero=>
  intro x W' hd hx ha0 hbel v2 v3 v5 v9 Aa Ab Ac Ae Af Ah Ai Aj Ak;obtain rfl:x=L.length:=by omega
  have e:=(nT last L hbel).1;have hend:=JW.tape (S:=S.base) hJ ha0;rw[e]at hend;have hd:decide ((L.length:Int)<(L.length:Int))=false:=by simp
  clear hJ hbel hr;generalize hlp:[Item.inLoop vR,.inBlock 0,.code ix7]=lp;simp only[vR,Try.f76];refine EO ?_;refine E9 fun _ hkk=>?_
  (refine ET ?_;walk_nrm)
  refine E5 ?_;cases hkk;refine EO ?_;refine JL.EX (by simp[Act.eval]) ?_;subst hlp;refine JL.exit rfl ?_;simp only[ix7,Try.f76];refine EO ?_;refine E9 fun _ hkk=>?_
  (refine ET ?_;walk_nrm)
  refine E5 ?_;cases hkk;refine EU stepG_ret' ?_;exact JL.back rfl Try.func76 (v:=.int .i64 (-1)) (fun w=>by kernel_rfl) hend
 | succ d ih=>
  intro x W' hd hx ha0 hbel v2 v3 v5 v9 Aa Ab Ac Ae Af Ah Ai Aj Ak;have hlt:x<L.length:=by omega
  have hcx:=hr x hlt;obtain⟨y,hy⟩:∃y,L.getD x 0=y:=⟨_,rfl⟩
  rw[hy]at hcx;generalize hlp:[Item.inLoop vR,.inBlock 0,.code ix7]=lp;simp only[vR,Try.f76];refine EO ?_;refine E9 fun _ hkk=>?_
  (refine ET ?_;walk_nrm)
  refine E5 ?_;cases hkk;refine EO ?_;refine JL.F3 (by first | (simp[Act.eval];done) | (simp[Act.eval];omega)) ?_;refine EU stepG_skip ?_;refine EO ?_;refine EU stepG_block ?_;refine EO ?_;refine E9 fun _ hkk=>?_;iterate 2(refine ET ?_;walk_nrm)
  refine E5 ?_;cases hkk;refine EO ?_;refine E9 fun _ hkk=>?_;have HH:=Lib.hid (zAI hJ (zAI ih (zAI hr (zAI hbel (zAI hN (zAI hl (zAI ha0 hy)))))));clear hJ ih hr hbel hN hl hy;refine Fp.Kk (S:=S) (b:=base 76) 0 5 [] (by simp) zKR nE (rest:=[5]) rfl zKR fun EG ha=>?_;have hcell:∀a,EG.cell? a=W.cell? a:=fun a=>by obtain⟨τ,d,rfl⟩:=ha;obtain⟨τ,d,rfl⟩:=ha0;rfl
  have ha1:=ha0.trans ha;clear ha0;rw[← hcell]at hcx;dsimp only[List.drop,List.take];gi_wp2;refine⟨rfl,?_⟩;obtain⟨hJ,ih,hr,hbel,hN,hl,_,hy⟩:=HH.out;clear HH;show JL S.L γ _ EG;try dsimp only
  refine JL.cu rfl rfl nE rfl rfl Try.func77 zKR zKR ?_;walk_nrm;refine dA (ob:=ob) (last:=last) (by rw[hcell];exact hN) (by rw[hcell];exact hl) ?_;rw[Frame.finish_at];walk_nrm;refine E5 ?_;cases hkk;by_cases hgt:last<(y:Int)
  . refine JL.F3 (by simp[Act.eval];exact hgt) ?_
    have e:=(rU last L x hlt (by rw[hy];exact hgt) hbel).1;have hend:=JW.tape (S:=S.base) hJ ha1;rw[e]at hend;clear hJ ih hr hbel;refine EO ?_;refine E9 fun _ hkk=>?_;iterate 2(refine ET ?_;walk_nrm)
    refine E5 ?_;cases hkk;refine EU stepG_ret' ?_;exact JL.back rfl Try.func76 (v:=.int .i64 (x:Int)) (fun w=>by kernel_rfl) hend
  . refine JL.EX (by simp[Act.eval];omega) ?_
    have YT:∀j,j<x+1->((L.getD j 0:Nat):Int)<=last:=fun j hj=>by
     rcases Nat.lt_succ_iff_lt_or_eq.1 hj with h|rfl
     . exact hbel j h
     . rw[hy];omega
    refine EU stepG_skip ?_;refine EU stepG_inBlock ?_;have hl1:(-9223372036854775808:Int)<=(x:Int)+1:=by omega
    have hl2:(x:Int)+1<=9223372036854775807:=by omega
    have HH:=Lib.hid (zAI ih (zAI YT (zAI ha1 hlp)));clear ih YT ha1 hJ hr hbel hN hl hcell hcx hlp ha;refine Fp.Fz (S:=S) (b:=base 76) [] (by simp) zKR nE zKR fun F8 ha2=>?_;gi_wp2;obtain⟨ih,YT,ha1,hlp⟩:=HH.out;show JL S.L γ _ F8;subst hlp;refine EU stepG_inLoop ?_;exact ih (x+1) F8 zOM hlt (ha1.trans ha2) YT _ _ _ _ _ _ _ _ _ _ _ _ _
theorem zx{last:Int}{N ob rb ro rc:Nat}{L:List Nat}(hsm:L.length<=1000000)(hN:W.cell? ⟨N,0,none⟩=some (.pointer (some ⟨ob,0,none⟩)))(hl:W.cell? ⟨ob,1,none⟩=some (.int .i64 last))(hr:∀j,j<L.length->W.cell? ⟨rb,ro+j,none⟩=some (.int .i64 (L.getD j 0:Nat)))(hJ:JL S.L γ (G (cf.finish (.int .i64 (ix last L))) cs) W) :
  JL S.L γ (G (Frame.enter Try.prog 76 #[.slice (some ⟨rb,ro,none⟩) L.length rc,.func (.func 77) #[] #[.pointer (some ⟨N,0,none⟩)]] .normal) (cf :: cs)) W:=by
 have ht:#[.slice (some ⟨rb,ro,none⟩) L.length rc,.func (.func 77) #[] #[.pointer (some ⟨N,0,none⟩)]]++Array.replicate (Try.f76.ntmps-(#[.slice (some ⟨rb,ro,none⟩) L.length rc,.func (.func 77) #[] #[.pointer (some ⟨N,0,none⟩)]]:Array Value).size) undef=#[.slice (some ⟨rb,ro,none⟩) L.length rc,.func (.func 77) #[] #[.pointer (some ⟨N,0,none⟩)],undef,undef,undef,undef,undef,undef,undef,undef,undef,undef,undef,undef,undef,undef,undef,undef,undef]:=by
  have:Try.f76.ntmps=19:=by kernel_rfl
  rw[this];walk_nrm
 rw[enter_at _ Try.func76 kS,ht];have HH:=Lib.hid (zAI hJ (zAI hr (zAI hN hl)));clear hJ hr hN hl;simp only[ix0,Try.f76];refine EO ?_;refine E9 fun _ hkk=>?_
 (refine ET ?_;walk_nrm)
 refine E5 ?_;cases hkk;refine EO ?_;refine EO ?_;simp only[Abw,Try.f76];refine E9 fun _ hkk=>?_;iterate 3(refine ET ?_;walk_nrm)
 refine E5 ?_;cases hkk;refine EU stepG_block ?_;refine EU stepG_loop ?_;obtain⟨hJ,hr,hN,hl⟩:=HH.out;exact kR hsm hN hl hr hJ _ 0 W rfl (Nat.zero_le _) (.refl _) (fun j hj=>by omega) _ _ _ _ _ _ _ _ _ _ _ _ _
end
end
section
theorem wz{W wr W':World}{T ob:Nat}{lv:Value}{last k:Int}{L:List Nat}(HO:Jz W wr)(hO:wr.heap[ob]?=some (.cells #[lv,.int .i64 last] T (0,0)))(hR:Reads W lv (([]:List Int).map (Value.int .i64)))(hne:lv.ownBlock≠some ob)(hL:L≠[])(hk:k=LQ [] last L)(hh:W'.heap=(wr.setCell ⟨ob,1,none⟩ (.int .i64 k)).heap):iX W W' T ob lv [] last L:=by
 have hb:∀g,g≠ob->W'.heap[g]?=wr.heap[g]?:=fun g hg=>by rw[hh];simp[World.setCell,Array.getElem?_modify,Ne.symm hg]
 have hs:W'.heap.size=wr.heap.size:=by rw[hh];simp[World.setCell]
 refine⟨fun g hg hgo=>(hb g hgo).trans (HO.blk g hg),by rw[hs];exact HO.size,lv,⟨?_,?_,hne⟩,rfl⟩
 . rw[LH,if_neg hL,← hk,hh];exact VK hO
 . rw[LG,if_neg hL];exact hR.same fun j hj hlt=>(hb j (fun e=>hne (by rw[hj,e]))).trans (HO.blk j hlt)
theorem uI{W wr W':World}{T ob:Nat}{lv J2:Value}{t:Int}{rest:List Int}{last k:Int}{L:List Nat}(HO:Jz W wr)(hO:wr.heap[ob]?=some (.cells #[lv,.int .i64 last] T (0,0)))(hR:Reads W J2 (rest.map (Value.int .i64)))(hne:J2.ownBlock≠some ob)(hlv:J2.ownBlock=lv.ownBlock)(hL:L≠[])(hk:k=LQ (t :: rest) last L)(hh:W'.heap=((wr.setCell ⟨ob,0,none⟩ J2).setCell ⟨ob,1,none⟩ (.int .i64 k)).heap):iX W W' T ob lv (t :: rest) last L:=by
 have hb:∀g,g≠ob->W'.heap[g]?=wr.heap[g]?:=fun g hg=>by rw[hh];simp[World.setCell,Array.getElem?_modify,Ne.symm hg]
 have hs:W'.heap.size=wr.heap.size:=by rw[hh];simp[World.setCell]
 refine⟨fun g hg hgo=>(hb g hgo).trans (HO.blk g hg),by rw[hs];exact HO.size,J2,⟨?_,?_,hne⟩,hlv⟩
 . rw[LH,if_neg hL,← hk,hh];exact VK (gF hO)
 . rw[LG,if_neg hL];exact hR.same fun j hj hlt=>(hb j (fun e=>hne (by rw[hj,e]))).trans (HO.blk j hlt)
theorem Ahr{v v':Value}{n:Nat}{P:Prop}(h:v'.ownBlock=v.ownBlock\/((∀g,v'.ownBlock=some g->n<=g)/\P)):v'.ownBlock=v.ownBlock\/v'.ownBlock=none\/∃j,v'.ownBlock=some j/\n<=j:=by
 rcases h with h|⟨h,_⟩
 . exact .inl h
 . cases e:v'.ownBlock with
   | none=>exact .inr (.inl rfl)
   | some j=>exact .inr (.inr ⟨j,rfl,h j e⟩)
section
variable {main:Bool}{Γ:Type}{S:Fp Try.prog main Γ}{γ:Γ}{W:World}{cf:Frame}{cs:List Frame}
theorem kP{ob:Nat}{lv:Value}{left:List Int}{last:Int}{l:List Bool}{b o c:Nat}(ho:UD W 143 ob lv left last)(hb:∀i u,(bools l)[i]?=some u->W.cell? ⟨b,o+i,none⟩=some u)(hlen:l.length<=1000)(Na:MQ l≠[])(hJ:∀W',iX W W' 143 ob lv left last (MQ l)->JL S.L γ (G (cf.finish (.int .i64 (LQ left last (MQ l)))) cs) W') :
  JL S.L γ (G (Frame.enter Try.prog 61 #[.pointer (some ⟨ob,0,none⟩),.slice (some ⟨b,o,none⟩) l.length c] .normal) (cf :: cs)) W:=by
 obtain⟨i0,hi,hz0,hz1,hz2⟩:=info_parts OX;have hl0:0<l.length:=by
  rcases Nat.eq_zero_or_pos l.length with h|h
  . exact absurd (by rw[List.length_eq_zero_iff.1 h];rfl) Na
  . exact h
 have hbN:b<W.heap.size:=Fa (ad:=⟨b,o+0,none⟩) (Rk hb hl0);have oh:ob<W.heap.size:=(zGE ho.1).1;have hlv:∀k,lv.ownBlock=some k->left≠[]->k<W.heap.size:=fun k hk hleft=>by
  rcases ho.2.1 with⟨hx,_⟩|⟨_,lb,lo,lc,hv,_,_,hcells⟩
  . exact absurd (by simpa using hx) hleft
  . rw[hv]at hk;cases hk
    cases left with
    | nil=>exact absurd rfl hleft
    | cons t r=>exact Fa (hcells 0 _ rfl)
 rw[enter_at _ Try.func61 mX,show Try.f61.ntmps=82 from by kernel_rfl];walk_nrm;have HH:=Lib.hid (zAI hJ (zAI ho (zAI hb (zAI Na (zAI hbN (zAI oh hlv))))));clear hJ ho hb Na hbN oh hlv;refine EO ?_;refine Fp.Fz (S:=S) (b:=base 61) [] (by simp) zKR nE zKR fun EG ha=>?_;have xg:EG.heap=W.heap:=by obtain⟨τ,d,rfl⟩:=ha;rfl
 simp only[pk0,Try.f61];gi_wp2;generalize hWA:World.alloc EG _=WA;have hA:WA.heap=W.heap.push (.cells #[.pointer (some ⟨ob,0,none⟩)] 122 (0,0)):=by rw[← hWA,← xg];rfl
 try rw[xg]
 show JL S.L γ _ WA;try dsimp only
 clear hWA xg ha;refine EO ?_;refine Fp.Fz (S:=S) (b:=base 61) [] (by simp) zKR nE zKR fun F8 ha2=>?_;have KX:F8.heap=WA.heap:=by obtain⟨τ,d,rfl⟩:=ha2;rfl
 simp only[pk1,Try.f61];gi_wp2;generalize hWB:World.alloc F8 _=WB;have hB:WB.heap=WA.heap.push (.cells #[Value.int .i64 0,Value.int .i64 0,Value.int .i64 0,Value.int .i64 0,Value.int .i64 0,Value.int .i64 0,Value.int .i64 0,Value.int .i64 0] 144 (0,0)):=by rw[← hWB,← KX];rfl
 have hs1:WA.heap.size=W.heap.size+1:=by rw[hA];simp
 have hs2:F8.heap.size=W.heap.size+1:=by rw[KX,hs1]
 first | rw[hs2] | rw[hs1] | skip
 show JL S.L γ _ WB;try dsimp only
 clear hWB KX ha2;refine EO ?_;refine Fp.Fz (S:=S) (b:=base 61) [] (by simp) zKR nE zKR fun Fh Lm=>?_;have hh3:Fh.heap=WB.heap:=by obtain⟨τ,d,rfl⟩:=Lm;rfl
 simp only[pk2,Try.f61];gi_wp2;show JL S.L γ _ Fh;try dsimp only
 refine EO ?_;refine Fp.Fz (S:=S) (b:=base 61) [] (by simp) zKR nE zKR fun K3 aW=>?_;have aO:K3.heap=WB.heap:=by rw[← hh3];obtain⟨τ,d,rfl⟩:=aW;rfl
 clear Lm aW hh3;have hz:K3.heap.size=W.heap.size+2:=by rw[aO,hB,hA];simp
 have yO:Jz W K3:=⟨fun g hg=>by rw[aO,hB,hA,Array.getElem?_push,Array.getElem?_push];rw[if_neg (by simp;omega),if_neg zOM],by omega⟩
 have q0:K3.heap[W.heap.size]?=some (.cells #[.pointer (some ⟨ob,0,none⟩)] 122 (0,0)):=by rw[aO,hB,hA,Array.getElem?_push,Array.getElem?_push];rw[if_neg (by simp),if_pos rfl]
 have q1:K3.heap[W.heap.size+1]?=some (.cells #[Value.int .i64 0,Value.int .i64 0,Value.int .i64 0,Value.int .i64 0,Value.int .i64 0,Value.int .i64 0,Value.int .i64 0,Value.int .i64 0] 144 (0,0)):=by rw[aO,hB,hA,Array.getElem?_push];rw[if_pos (by simp)]
 have hG0:RU K3 K3 W.heap.size ob l (.slice (some ⟨W.heap.size+1,0,none⟩) 0 8) 0:=
  ⟨⟨144,by simp[NV],.inr ⟨W.heap.size+1,8,_,rfl,Nat.le_refl _,q1,by simp[NV],by unfold maxLen;omega,rfl,by simp[NV]⟩⟩,
    Below.refl _ _,by omega,q0,fun g hg=>by cases hg;exact Nat.le_refl _⟩
 clear hA hB aO;generalize hN:W.heap.size=N at *;have H1:=Lib.hid (zAI hN (zAI yO hz));clear hN yO hz;have hHB:∀i u,(bools l)[i]?=some u->K3.cell? ⟨b,o+i,none⟩=some u:=fun i u hu=>by rw[H1.out.2.1.cell (by show b<_;rw[H1.out.1];exact HH.out.2.2.2.2.1)];exact HH.out.2.2.1 i u hu
 have hbN:=HH.out.2.2.2.2.1;have HB:=Lib.hid hHB;clear hHB q0 q1;simp only[pkL,Ze,Try.f61];gi_wp2;gi_loopw [6,15] (fun v i wr=>∃k:Nat,k<=l.length/\i=.int .i64 k/\RU K3 wr N ob l v k) (fun _ i _=>l.length-(intOf i).toNat)
 case atStart=>exact⟨0,by omega,rfl,hG0⟩
 case round=>
  clear hG0;obtain⟨k,hk,rfl,hG⟩:=hrel;by_cases hlt:k<l.length
  . have Aap:=V5 l k;have hbig:=hG.big;cases hv:l.getD k false with
    | true=>
      have hcx:wr.cell? ⟨b,o+k,none⟩=some (.bool true):=by rw[hG.below.cell (by exact hbN)];rw[← hv];exact Rk HB.out hlt
      have HV:=Lib.hid hv;clear hv;gi_wp2_with (gi_at_builtin;refine G8 _ rfl _ _ 22 rfl (N+1) 3 i0 (.int .i64 0) 1 8 Try.underlying22 hi hz0 hz1 hz2 rfl (by decide) _ _ _ rfl (hG.own.alloc _) ⟨wr.heap.size,0,none⟩ 1 1 [.int .i64 k] rfl rfl ?c1 ?c2 ?c3 ?c4 ?c5 ?_)
      case c1=>exact cell_one_new _ _ _
      case c2=>intro u hu;simp at hu;subst hu;rfl
      case c3=>unfold maxLen;omega
      case c4=>omega
      case c5=>simp;omega
      intro v' w1 h1 h2 h3;have hG':=hG.hit HV.out h1 h2 (by simpa using Ahr h3);clear h1 h2 h3 hG hcx;gi_wp2;go_roundw
      case rel=>exact⟨k+1,by omega,by go_num,hG'⟩
      case measure=>simp[intOf];omega
    | false=>
      have hcx:wr.cell? ⟨b,o+k,none⟩=some (.bool false):=by rw[hG.below.cell (by exact hbN)];rw[← hv];exact Rk HB.out hlt
      have HV:=Lib.hid hv;clear hv;gi_wp2;go_roundw
      case rel=>exact⟨k+1,by omega,by go_num,hG.miss HV.out⟩
      case measure=>simp[intOf];omega
  . obtain rfl:k=l.length:=by omega
    obtain⟨hJ,ho,hb,Na,_,oh,hlv⟩:=HH.out;obtain⟨hN,yO,hz⟩:=H1.out;clear HH H1 HB;rcases hG.done with⟨h,_⟩|⟨rb,ro,rc,rfl,hpos,hcap,hrb,hr3⟩
    . exact absurd h Na
    have aN:Jz W wr:=yO.below hG.below (by rw[hN];exact Nat.le_refl _);have mE:=hG.box;have hLl:(MQ l).length<=l.length:=V5 l l.length;clear hG yO;generalize MQ l=L at *;have HH:=Lib.hid (zAI hJ (zAI ho (zAI Na (zAI hlv (zAI aN (zAI hN hr3))))));clear hJ ho hb Na hlv aN hN hr3;gi_wp2;obtain⟨hJ,ho,Na,hlv,aN,hN,hr3⟩:=HH.out;clear HH;subst hN;show JL S.L γ _ wr;try dsimp only
    refine EO ?_;simp only[pk9,Ze,Try.f61];refine E9 fun _ hkk=>?_;iterate 3(refine ET ?_;walk_nrm)
    refine E5 ?_;cases hkk;refine EO ?_;simp only[Ab7,Ze,Try.f61];refine EO ?_;refine E9 fun _ hkk=>?_;iterate 2(refine ET ?_;walk_nrm)
    refine E5 ?_;cases hkk;refine JL.EX (by simp[Act.eval];omega) ?_;refine EU stepG_skip ?_;have hO:wr.heap[ob]?=some (.cells #[lv,.int .i64 last] 143 (0,0)):=by rw[aN.blk ob oh];exact ho.1
    refine EO ?_;cases left with
    | cons t rest=>
      rcases ho.2.1 with⟨h,_⟩|⟨_,lb,lo,lc,rfl,hl1,hl2,hl3⟩
      . simp at h
      simp only[List.length_map,List.length_cons]at *;have Agt:lb<W.heap.size:=hlv lb rfl (by simp);have Ae5:lb≠ob:=fun e=>ho.2.2 (by rw[← e];rfl);have hcl:wr.cell? ⟨lb,lo,none⟩=some (.int .i64 t):=by rw[aN.cell (ad:=⟨lb,lo,none⟩) Agt];exact hl3 0 _ rfl
      obtain⟨x,hx⟩:∃x,at_ t L.length=x:=⟨_,rfl⟩
      have hxl:x<L.length:=by rw[← hx];exact pO t L.length hpos
      obtain⟨y,hy⟩:∃y,L.getD x 0=y:=⟨_,rfl⟩
      have hcx:=hr3 x hxl;rw[hy]at hcx;obtain⟨hm2,hm1,hm3,hm4⟩:=oL t L.length hpos;have hxe:(t.tmod (L.length:Int)+(L.length:Int)) % (L.length:Int)=(x:Int):=by rw[← hx,at_,Int.toNat_of_nonneg hm3]
      have hk:(y:Int)=LQ (t :: rest) last L:=by
        rw[LQ,if_neg Na];show _=((L.getD (at_ t L.length) 0:Nat):Int)
        rw[hx,hy]
      have hRt:=XC (w:=W) (rest:=rest) hl1 hl2 (fun i u hu=>hl3 i u hu);have hL1:L.length≠0:=by omega
      have hL2:(1:Int)<=(rest.length:Int)+1:=by omega
      refine Fp.Fz (S:=S) (b:=base 61) [] (by simp) zKR nE zKR fun GZ RP=>?_;have NH:GZ.heap=wr.heap:=by obtain⟨τ,d,rfl⟩:=RP;rfl
      have c0:GZ.cell? ⟨W.heap.size,0,none⟩=some (.pointer (some ⟨ob,0,none⟩)):=by simp[World.cell?,NH,mE]
      have c1:GZ.cell? ⟨ob,0,none⟩=some (.slice (some ⟨lb,lo,none⟩) (rest.length+1) lc):=by simp[World.cell?,NH,hO]
      have c2:GZ.cell? ⟨lb,lo,none⟩=some (.int .i64 t):=by simp only[World.cell?,NH]at hcl ⊢;exact hcl
      have c3:GZ.cell? ⟨rb,ro+x,none⟩=some (.int .i64 y):=by simp only[World.cell?,NH]at hcx ⊢;exact hcx
      have c4:GZ.cell? ⟨ob,1,none⟩=some (.int .i64 last):=by simp[World.cell?,NH,hO]
      have f0:GZ.frozen? ⟨ob,0,none⟩=false:=by simp[World.frozen?,NH,hO]
      have f1:GZ.frozen? ⟨ob,1,none⟩=false:=by simp[World.frozen?,NH,hO]
      obtain⟨J2,dQ⟩:∃x,Value.slice (if lc=1 then some ⟨lb,lo,none⟩else some ⟨lb,lo+1,none⟩) rest.length (lc-1)=x:=⟨_,rfl⟩
      rw[dQ]at hRt;have hlo:J2.ownBlock=some lb:=by rw[← dQ];split<;>rfl
      have hfin:=fun(W':World) (hh:W'.heap=((wr.setCell ⟨ob,0,none⟩ J2).setCell ⟨ob,1,none⟩ (.int .i64 y)).heap)=>
        hJ W' (uI aN hO hRt (by rw[hlo];intro h;cases h;exact Ae5 rfl) (by rw[hlo];rfl) Na hk hh)
      rw[← hk]at hfin;have HH:=Lib.hid (zAI hfin (zAI NH dQ));clear hJ hfin ho hlv Na aN hr3 hRt hlo hO hcl hcx hl3 hk hx hy mE NH dQ RP hm3 hm4;simp only[rY,Ze,Try.f61];gi_wp2;gi_region
      simp only[HH.out.2.2];gi_wp2;gi_region
      gi_wp2;intro Y;obtain⟨hfin,NH,dQ⟩:=HH.out;exact JL.back rfl Try.func61 (v:=.int .i64 (y:Int)) (fun w=>by kernel_rfl) (hfin _ (by simp only[World.setCell,NH];rfl))
    | nil=>
      rcases ho.2.1 with⟨_,lo,lc,rfl,hl1,hl2⟩|⟨h,_⟩
      rotate_left
      . simp at h
      refine Fp.Fz (S:=S) (b:=base 61) [] (by simp) zKR nE zKR fun GZ RP=>?_;have NH:GZ.heap=wr.heap:=by obtain⟨τ,d,rfl⟩:=RP;rfl
      have c0:GZ.cell? ⟨W.heap.size,0,none⟩=some (.pointer (some ⟨ob,0,none⟩)):=by simp[World.cell?,NH,mE]
      have c1:GZ.cell? ⟨ob,0,none⟩=some (.slice lo 0 lc):=by simp[World.cell?,NH,hO]
      have c4:GZ.cell? ⟨ob,1,none⟩=some (.int .i64 last):=by simp[World.cell?,NH,hO]
      have HH:=Lib.hid (zAI hJ (zAI NH (zAI aN (zAI hO (zAI hr3 (zAI Na (zAI ho (zAI c0 c4))))))));clear hJ NH aN hO hr3 Na ho hlv mE RP;simp only[rY,Ze,Try.f61];gi_wp2;obtain⟨hJ,NH,aN,hO,hr3,Na,ho,c0,c4⟩:=HH.out;clear HH;show JL S.L γ _ GZ;try dsimp only
      refine EO ?_;simp only[zU,Ze,Try.f61];refine E9 fun _ hkk=>?_
      (refine ET ?_;walk_nrm)
      refine JL.Jc (.func (.func 77) #[] #[.pointer (some ⟨W.heap.size,0,none⟩)]) rfl rfl nE (fun _=>by kernel_rfl) ?_;walk_nrm;refine JL.enter rfl rfl nE rfl Try.func76 zKR zKR ?_;walk_nrm;refine zx zOM c0 c4 (fun j hj=>by have:=hr3 j hj;simp only[World.cell?,NH]at this ⊢;exact this) ?_;rw[Frame.finish_at];walk_nrm
      (refine ET ?_;walk_nrm)
      refine E5 ?_;cases hkk;obtain⟨x,hxl,hmx,hnx⟩:=dS last L hpos;obtain⟨y,hy⟩:∃y,L.getD x 0=y:=⟨_,rfl⟩
      have hcx:=hr3 x hxl;rw[hy]at hcx;have hk:(y:Int)=LQ [] last L:=by
        rw[LQ,if_neg Na];show _=((Z9 last L:Nat):Int)
        rw[hnx,hy]
      refine Fp.Fz (S:=S) (b:=base 61) [] (by simp) zKR nE zKR fun ZE ha6=>?_;have pR:ZE.heap=wr.heap:=by rw[← NH];obtain⟨τ,d,rfl⟩:=ha6;rfl
      have d0:ZE.cell? ⟨W.heap.size,0,none⟩=some (.pointer (some ⟨ob,0,none⟩)):=by simp only[World.cell?,pR,← NH]at c0 ⊢;exact c0
      have d3:ZE.cell? ⟨rb,ro+x,none⟩=some (.int .i64 y):=by simp only[World.cell?,pR]at hcx ⊢;exact hcx
      have d4:ZE.cell? ⟨ob,1,none⟩=some (.int .i64 last):=by simp only[World.cell?,pR,← NH]at c4 ⊢;exact c4
      have f1:ZE.frozen? ⟨ob,1,none⟩=false:=by simp[World.frozen?,pR,hO]
      have hfin:=fun(W':World) (hh:W'.heap=(wr.setCell ⟨ob,1,none⟩ (.int .i64 y)).heap)=>hJ W' (wz aN hO (.inl ⟨rfl,_,_,rfl,hl1,hl2⟩) ho.2.2 Na hk hh);rw[← hk]at hfin;have HH:=Lib.hid (zAI hfin pR);clear hJ hfin ho Na aN hr3 hO hcx hk hy NH pR ha6 c0 c4 c1 hnx;generalize ix last L=iv at *;simp only[zh,Ze,Try.f61];gi_wp2;gi_region
      gi_wp2;intro Y;obtain⟨hfin,pR⟩:=HH.out;exact JL.back rfl Try.func61 (v:=.int .i64 (y:Int)) (fun w=>by kernel_rfl) (hfin _ (by simp only[World.setCell,pR];rfl))
end
end
end Go.Proofs.Ytdkfdedgfilhbaa
namespace Go.Proofs.Ytdkfdedgfilhbaa
open Go Go.RowKit BA
theorem ML{F:Fence}{n:Nat}{P:Program}(w:World){ops:Array Oper}{rest:List Oper}{o:Oper}{a:Act}{Q:Exit->Act->World->Prop}(hg:o.guard=none)(s x:Operand)(t:TypeId)(hop:o.op=Op.call { callee:=Callee.builtin Builtin.append,args:=#[s,x],argTypes:=#[t,t] })(base:Nat)(e:TypeId)(i:TypeInfo)(z:Value)(bytes:Nat)(h1:P.underlying t=some (.slice e))(h2:P.info? e=some i)(h3:i.zero=some z)(h4:i.size=1)(h5:i.bytes=bytes)(h6:z.cells.size=1)(v:Value)(k:Nat)(xs:List Value)(hs:a.eval s=v)(hown:FY w base 1 v k xs)(sv:Value)(ys:List Value)(hx:a.eval x=sv)(hr:Reads w sv ys)(h1c:∀u∈ys,u.oneCell'=true)(b1:k+ys.length<=maxLen)(b2:(k+ys.length)*bytes<=140737488355328)(b3:base<=w.heap.size)(hK:∀v' w',FY w' base 1 v' (k+ys.length) (xs++ys)->w.grownBy w' v.ownBlock->(v'.ownBlock=v.ownBlock\/v'.ownBlock=none\/∃g,v'.ownBlock=some g/\w.heap.size<=g)->wpListIn F n P ops Q rest (a.put o.dst v') w') :
   wpListIn F n P ops Q (o :: rest) a w:=by
 refine wpListIn_plain hg fun K hK'=>?_;obtain⟨v',w',hrun,r1,r2,r3⟩:=Pn (P:=P) w base t o.type e i z bytes h1 h2 h3 h4 h5 h6 v k xs hown sv ys hr h1c b1 b2 b3;unfold Oper.wpIn;refine⟨?_,?_⟩
 . simp[Oper.about,hop,resolve,Target.leads,Sem.run_pure]
 . rw[Oper.semAt_plain F _ _ (by rw[hop];intro c hc';cases hc')]
   simp[execOp,hop,resolve,invoke,builtin,hs,hx,hrun,Result.andThen];exact hK' _ _ (hK v' w' r1 r2 r3)
theorem aI(xs:List Int):∀u∈xs.map (Value.int .i64),u.oneCell'=true:=by intro u hu;rw[List.mem_map]at hu;obtain⟨x,_,rfl⟩:=hu;rfl
theorem VA{w:World}{v:Value}{xs:List Int}(h:Reads w v (xs.map (Value.int .i64))):∃ao c,v=.slice ao xs.length c:=by obtain⟨ao,c,h⟩:=h.shape;exact⟨ao,c,by rw[h,List.length_map]⟩
def wJ(w:World)(xs:List Int)(e:Ending)(w':World):Prop:=
 ∃ao c,e=.returned (.slice ao xs.length c)/\Reads w' (.slice ao xs.length c) (xs.map (Value.int .i64))/\Below w.heap.size w w'/\∀k,(Value.slice ao xs.length c).ownBlock=some k->w.heap.size<=k/\k<w'.heap.size/\∃c e f,w'.heap[k]?=some (.cells c e f)
theorem iE{w:World}{base size n:Nat}{v:Value}{xs:List Value}(h:FY w base size v n xs){g:Nat}(hg:v.ownBlock=some g):∃c e f,w.heap[g]?=some (.cells c e f):=by
 obtain⟨te,_,⟨rfl,_⟩|⟨g',cap,cur,rfl,_,h1,_⟩⟩:=h
 . cases hg
 . cases hg
   exact⟨_,_,_,h1⟩
theorem fI(sv:Value)(xs:List Int)(w:World)(hr:Reads w sv (xs.map (Value.int .i64)))(hlen:xs.length<=1000000000) :
  CallsIn (Fence.list [31,59,75] none) 0 Try.prog 75 #[sv] w (wJ w xs):=by
 obtain⟨i0,hi,hz0,hz1,hz2⟩:=info_parts OX;have hrr:=hr;have hml:(xs.map (Value.int .i64)).length=xs.length:=by simp
 have key:∀(ao:Option Addr) (n c:Nat),sv=.slice ao n c->∀wx,(binOp .eql 22 (.slice ao n c) (.slice none 0 0)).run Try.prog wx=.ok (.bool ao.isNone) wx:=fun ao n c _ wx=>Lib.run_eql_slice_nil wx 22 3 ao n c 0 0 Try.underlying22;have hsh:∃ao n c,sv=.slice ao n c/\(ao=none->xs=[]):=by
  rcases hr with⟨h,ao,c,hv,_,_⟩|⟨_,b,o,c,hv,_⟩
  . exact⟨ao,0,c,hv,fun _=>by simpa using h⟩
  . exact⟨_,_,c,hv,fun h=>by cases h⟩
 obtain⟨ao,n,c,rfl,hnil⟩:=hsh;have hk:=key ao n c rfl;clear key;cases ao with
 | none=>
  obtain rfl:=hnil rfl;gi_enter Try.func75,Try.ntmps75
  gi_wp2;go_ret
  exact⟨none,0,rfl,.inl ⟨rfl,none,0,rfl,by unfold maxLen;omega,fun _=>rfl⟩,Below.refl _ _,fun k hk=>by cases hk⟩
 | some a=>
  have HH:=Lib.hid hrr;clear hrr hr hml hnil;gi_enter Try.func75,Try.ntmps75
  have hre:=fun(o:Obj)=>HH.out.same (w':=w.alloc o) fun k _ hlt=>Below.heap_alloc _ _ _ hlt;have HRE:=Lib.hid hre;clear hre;gi_wp2_with (gi_at_builtin;refine ML _ rfl _ _ 22 rfl w.heap.size 3 i0 (.int .i64 0) 8 Try.underlying22 hi hz0 hz1 hz2 rfl _ 0 [] rfl ?c0 _ (xs.map (Value.int .i64)) rfl (HRE.out _) (aI xs) ?c3 ?c4 ?c5 ?_)
  case c0=>have:=World.ownsRow_made (base:=w.heap.size) (e:=3) (size:=1) w #[] 0 (Nat.le_refl _) (by unfold maxLen;omega) (by simp);exact⟨_,this⟩
  case c3=>simp;unfold maxLen;omega
  case c4=>simp;omega
  case c5=>simp
  intro v' w1 h1 h2 h3;have hb:=fun k hk=>zAI (h1.blk k hk).1 (zAI (h1.blk k hk).2 (iE h1 hk));have hbel:Below w.heap.size w w1:=((Below.refl _ _).alloc (Nat.le_refl _) _).grown h2 (by simp) (fun k hk=>by cases hk;exact Nat.le_refl _);have hre:=h1.reads;obtain⟨ao',c',rfl⟩:=VA hre;clear h1 h2 h3;gi_wp2;go_ret
  exact⟨ao',c',rfl,hre,hbel,hb⟩
def cZ(T:TypeId)(w:World)(left:List Int)(last:Int)(e:Ending)(w':World):Prop:=
 ∃b lv,e=.returned (.pointer (some ⟨b,0,none⟩))/\UD w' T b lv left last/\Below w.heap.size w w'/\w.heap.size<=b/\∀k,lv.ownBlock=some k->w.heap.size<=k/\k<w'.heap.size/\∃c e f,w'.heap[k]?=some (.cells c e f)
theorem kU{w w1:World}{T:TypeId}{v:Value}{left:List Int}{last:Int}(hr:Reads w1 v (left.map (Value.int .i64)))(hb:Below w.heap.size w w1)(hf:∀k,v.ownBlock=some k->w.heap.size<=k/\k<w1.heap.size) :
  UD (w1.alloc (.cells #[v,.int .i64 last] T)) T w1.heap.size v left last/\Below w.heap.size w (w1.alloc (.cells #[v,.int .i64 last] T)):=
 ⟨⟨heap_alloc_new _ _,hr.same fun k _ hlt=>Below.heap_alloc _ _ _ hlt,fun h=>by have:=(hf _ h).2;omega⟩,hb.alloc hb.size _⟩
theorem rz(sv:Value)(xs:List Int)(w:World)(hr:Reads w sv (xs.map (Value.int .i64)))(hlen:xs.length<=1000000000) :
  CallsIn (Fence.list [31,59,75] none) 0 Try.prog 59 #[sv] w (cZ 143 w xs (-1)):=by
 gi_enter Try.func59,Try.ntmps59
 gi_wp2_with (gi_at_call 75;refine(fI _ xs _ hr hlen).mono ?_;rintro e w1 ⟨ao,c,rfl,hr1,hb1,hf1⟩)
 go_ret
 have:=kU (T:=143) (last:=-1) hr1 hb1 (fun k hk=>⟨(hf1 k hk).1,(hf1 k hk).2.1⟩);exact⟨w1.heap.size,_,rfl,this.1,this.2,hb1.size,fun k hk=>⟨(hf1 k hk).1,by have:=(hf1 k hk).2.1;simp;omega,by obtain⟨c,e,f,hc⟩:=(hf1 k hk).2.2;exact⟨c,e,f,by rw[Below.heap_alloc _ _ _ (hf1 k hk).2.1];exact hc⟩⟩⟩
end Go.Proofs.Ytdkfdedgfilhbaa
namespace Go.LT
open Go Go.Conc
section
structure aM(tm:Array Value)(s0:Nat)(vs:List Value)(l:Array Bool)(a:Act):Prop where
 ds:a.defers=[]
 size:a.tmps.size=tm.size
 low:∀s,s<s0->a.tmps[s]?=tm[s]?
 val:∀j v,l[j]?=some true->vs[j]?=some v->a.tmps[s0+j]?=some v
def FL(W0:World):List (Nat × World)->Array Bool->World
 | [],_=>W0
 | (c,w) :: t,l=>FL (if l[c]?=some true then w else W0) t l
theorem FX{i:Nat}{l:Array Bool}:∀(cs:List (Nat × World)) (W0:World),¬ i∈cs.map Prod.fst->FL W0 cs (l.setIfInBounds i true)=FL W0 cs l:=by
 intro cs;induction cs with
 | nil=>intro W0 _;rfl
 | cons x t ih=>
  intro W0 h;obtain⟨c,w⟩:=x;simp only[List.map_cons,List.mem_cons,not_or]at h;simp only[FL,Array.getElem?_setIfInBounds_ne h.1];exact ih _ h.2
theorem Ov{l:Array Bool}:∀(cs:List (Nat × World)) (W0:World),FL W0 cs l=W0\/∃c w,(c,w)∈cs/\l[c]?=some true/\FL W0 cs l=w:=by
 intro cs;induction cs with
 | nil=>intro W0;exact .inl rfl
 | cons x t ih=>
  intro W0;obtain⟨c,w⟩:=x;simp only[FL];by_cases h:l[c]?=some true
  . rw[if_pos h];rcases ih w with e|⟨c',w',hm,hl,e⟩
    . exact .inr ⟨c,w,by simp,h,e⟩
    . exact .inr ⟨c',w',by simp[hm],hl,e⟩
  . rw[if_neg h];rcases ih W0 with e|⟨c',w',hm,hl,e⟩
    . exact .inl e
    . exact .inr ⟨c',w',by simp[hm],hl,e⟩
theorem IJ{l:Array Bool}:∀(cs:List (Nat × World)) (W0:World),(∀c w,(c,w)∈cs->l[c]?≠some true)->FL W0 cs l=W0:=by
 intro cs;induction cs with
 | nil=>intro W0 _;rfl
 | cons x t ih=>
  intro W0 h;obtain⟨c,w⟩:=x;simp only[FL];rw[if_neg (h c w (by simp))];exact ih _ fun c' w' hm=>h c' w' (by simp[hm])
theorem Gt{l:Array Bool}{c:Nat}{w:World}{t:List (Nat × World)}(hc:l[c]?=some true)(ht:∀c w,(c,w)∈t->l[c]?≠some true):∀(cs:List (Nat × World)) (W0:World),FL W0 (cs++(c,w) :: t) l=w:=by
 intro cs;induction cs with
 | nil=>
  intro W0;simp only[List.nil_append,FL,if_pos hc];exact IJ _ _ ht
 | cons x s ih=>
  intro W0;obtain⟨c',w'⟩:=x;simp only[List.cons_append,FL];exact ih _
section
variable {F:Fence}{n:Nat}{P:Program}{ops:Array Oper}{Q:Exit->Act->World->Prop}
theorem aM.put{tm:Array Value}{s0 N:Nat}{vs:List Value}{l:Array Bool}{a:Act}(h:aM tm s0 vs l a){i:Nat}{v:Value}(hi:vs[i]?=some v)(hfit:s0+vs.length<=tm.size):aM tm s0 vs (l.setIfInBounds i true) (a.put (some (s0+i)) v):=by
 have hlt:i<vs.length:=(List.getElem?_eq_some_iff.1 hi).1;refine⟨h.ds,by simp[Act.put,h.size],fun s hs=>?_,fun j u hj hu=>?_⟩
 . show(a.tmps.setIfInBounds (s0+i) v)[s]?=_;rw[Array.getElem?_setIfInBounds_ne zOM];exact h.low s hs
 . show(a.tmps.setIfInBounds (s0+i) v)[s0+j]?=_;by_cases e:i=j
   . subst e;rw[Array.getElem?_setIfInBounds_self_of_lt (by rw[h.size];omega)];rw[hi]at hu;exact hu
   . rw[Array.getElem?_setIfInBounds_ne zOM];rw[Array.getElem?_setIfInBounds_ne e]at hj;exact h.val j u hj hu
theorem aM.skip{tm:Array Value}{s0:Nat}{vs:List Value}{l:Array Bool}{a:Act}(h:aM tm s0 vs l a){i:Nat}(hi:vs.length<=i):aM tm s0 vs (l.setIfInBounds i true) (a.put none undef):=
 ⟨h.ds,h.size,h.low,fun j u hj hu=>by have hlt:j<vs.length:=(List.getElem?_eq_some_iff.1 hu).1;rw[Array.getElem?_setIfInBounds_ne zOM]at hj;exact h.val j u hj hu⟩
theorem RF {id:Nat}{tm:Array Value}{w:World}{s0 N:Nat}{vs:List Value}(cs:List (Nat × World))(hF:F.round=none)(hm:P.follows .mixedOrders=true)(Kt:∀ (i:Nat) (o:Oper),ops[i]?=some o->∀ e∈o.after,e.on < i)(hsz:ops.size=N+1)(hvs:vs.length=N)(hfit:s0+N<=tm.size)(hg:∀ (i:Nat) (o:Oper),ops[i]?=some o->o.guard=none/\o.dst=if i=N then none else some (s0+i))(hop:∀ (l:Array Bool) (a:Act) (i:Nat) (o:Oper),aM tm s0 vs l a->l.size=N+1->Down .any ops l->l[i]?=some false->ops[i]?=some o->(∀ e∈o.after,Region.binds .any e=true->l[e.on]?=some true)->
      o.about P (FL w.drew cs l) a.eval=none/\(if i=N then(execOp a.eval o).run P (FL w.drew cs l)=.ok .skip (FL w.drew cs (l.setIfInBounds i true))else ∃v,vs[i]?=some v/\(execOp a.eval o).run P (FL w.drew cs l)=.ok (.value v) (FL w.drew cs (l.setIfInBounds i true))))(hend:∀(l:Array Bool) (a:Act),aM tm s0 vs l a->(∀i,i<N+1->l[i]?=some true)->Q .normal a (FL w.drew cs l)):(Code.region id ops true).wpIn F n P Q ⟨tm,[]⟩ w:=by
  have hrep:∀j,(Array.replicate ops.size false)[j]?≠some true:=fun j hj=>by rw[Array.getElem?_replicate]at hj;split at hj<;>cases hj
  refine Wo (I:=fun l a w'=>aM tm s0 vs l a/\w'=FL w.drew cs l) hm Kt ⟨⟨rfl,rfl,fun _ _=>rfl,fun j v hj=>absurd hj (hrep j)⟩,(IJ _ _ fun c _ _=>hrep c).symm⟩ ?_ ?_
  . rintro l a w' i o ⟨hI,rfl⟩ hl hd hb ho hod;rw[hsz]at hl;obtain⟨g1,g2⟩:=hg i o ho;obtain⟨r1,r2⟩:=hop l a i o hI hl hd hb ho hod;by_cases hi:i=N
    . rw[if_pos hi]at r2 g2;refine TH hF ho g1 r1 r2 ⟨?_,rfl⟩;rw[g2];exact hI.skip zOM
    . rw[if_neg hi]at r2 g2;obtain⟨v,hv,r2⟩:=r2;refine Gv hF ho g1 r1 r2 ⟨?_,rfl⟩;rw[g2];exact hI.put (N:=N) hv zOM
  . rintro l a w' ⟨hI,rfl⟩ hl hall;rw[hsz]at hall;exact hend l a hI hall
end
def FH(o:Oper):List Nat:=(o.after.toList.filter (Region.binds .any)).map (·.on)
theorem NW{o:Oper}{l:Array Bool}{i:Nat}(h:i∈FH o)(hl:∀e∈o.after,Region.binds .any e=true->l[e.on]?=some true):l[i]?=some true:=by obtain⟨e,he,rfl⟩:=List.mem_map.1 h;rw[List.mem_filter]at he;exact hl e (Array.mem_toList_iff.1 he.1) he.2
theorem FB{ops:Array Oper}{l:Array Bool}{i j:Nat}{ws:List Nat}(hw:(ops[i]?).map FH=some ws)(hd:Down .any ops l)(h:l[i]?=some true)(hj:j∈ws):l[j]?=some true:=by
 cases ho:ops[i]? with
 | none=>rw[ho]at hw;cases hw
 | some o=>
  rw[ho]at hw;exact NW (by rw[Option.some.inj hw];exact hj) (hd i o ho h)
theorem EY{ops:Array Oper}{l:Array Bool}{i j:Nat}{o:Oper}{ws:List Nat}(hw:(ops[i]?).map FH=some ws)(ho:ops[i]?=some o)(hod:∀e∈o.after,Region.binds .any e=true->l[e.on]?=some true)(hj:j∈ws):l[j]?=some true:=by rw[ho]at hw;exact NW (by rw[Option.some.inj hw];exact hj) hod
end
section
section
variable [Host]
variable {P:Program}{main:Bool}{Γ:Type}{S:Fp P main Γ}{γ:Γ}{W:World}
theorem Fp.rD{f:FuncId}{κ:CallKind}{k:List Item}{cs:List Frame}{ds:List Deferred}{tm:Array Value}{ops:Array Oper}(L:List FuncId)(hL:∀f∈L,Lets P f)(hf:f∈L)(Ro:κ≠.early)(is rest:List Nat)(hok:Gn P (.inRegion ops is)=true)(h:∀EG,Alike W EG->wpOpsIn (Fence.list L none) 0 P ops (Behind S γ fun tm=>G (GH f tm (.inRegion ops rest :: k) ds .run κ) cs) is ⟨tm,[]⟩ EG):JW S.base γ (G (GH f tm (.inRegion ops (is++rest) :: k) ds .run κ) cs) W:=by
 intro w hw;refine S.way _ _ _ ((Uj (R:=S.R γ) (D:=S.D γ) (F:=(·∈L)) (Fn:=Fence.list L none) (n:=0) (tm:=tm) (Q:=Behind S γ fun tm=>G (GH f tm (.inRegion ops rest :: k) ds .run κ) cs) (S.turns γ) (S.kept γ) hL (fun _ h=>h) rfl rfl rfl hf Ro hok (l':=rest) (k:=k) (ds:=ds) (cs:=cs) hw.2 (fun e a w q=>.inl q.1) fun τ=>?_).mono fun g w' hst=>?_)
 . obtain⟨⟨oH,d',rfl⟩,_⟩:=hw;exact h _ ⟨τ,0,rfl⟩
 . obtain⟨e,tm',τ,d,hR,⟨rfl,hq⟩,hg⟩:=hst;have hs:Io (S.B γ) w' (sh (EF (S.B γ) w') τ d):=⟨⟨τ,d,rfl⟩,hR⟩
   exact hg ▸ hq w' hs
end
section
variable {F:Fence}{n:Nat}{P:Program}{Q:Exit->Act->World->Prop}
theorem R8{ops Ji:Array Oper}:∀(l:List Nat),(∀i∈l,Ji[i]?=ops[i]?/\∀o,ops[i]?=some o->o.guard=none)->∀a w,wpOpsIn F n P Ji Q l a w->wpOpsIn F n P ops Q l a w:=by
 intro l;induction l with
 | nil=>intro _ a w h;simpa [wpOpsIn]using h
 | cons i l ih=>
  intro hl a w h;have hi:=hl i (by simp);rw[wpOpsIn_cons]at h ⊢;have h2:wpOpIn F n P ops Q i (wpOpsIn F n P Ji Q l) a w:=by
   unfold wpOpIn at h ⊢;rw[hi.1]at h;cases ho:ops[i]? with
   | none=>rw[ho]at h;exact h
   | some o=>
    rw[ho]at h;have hg:=hi.2 o ho;simp only[Region.wanted,hg]at h ⊢;exact h
  exact wpOpIn_mono (fun a w h=>ih (fun j hj=>hl j (by simp[hj])) a w h) h2
end
theorem Abd{md:Region.Mode}{ops:Array Oper}:∀(fuel t:Nat) (listed:Array Bool) (acc:List Nat),(∀i∈acc,i<ops.size)->∀i∈Region.linearise.go md ops fuel t listed acc,i<ops.size:=by
 intro fuel;induction fuel with
 | zero=>intro t listed acc h i hi;simp[Region.linearise.go]at hi;exact h i hi
 | succ fuel ih=>
  intro t listed acc h i hi;simp only[Region.linearise.go]at hi;change i∈(match(Region.ready md ops listed)[t % (Region.ready md ops listed).length]? with
   | some i=>Region.linearise.go md ops fuel (t / (Region.ready md ops listed).length) (listed.setIfInBounds i true) (i :: acc)
   | none=>acc.reverse)at hi
  cases hr:(Region.ready md ops listed)[t % (Region.ready md ops listed).length]? with
  | none=>rw[hr]at hi;exact h i (by simpa using hi)
  | some j=>
   rw[hr]at hi;refine ih _ _ _ (fun x hx=>?_) i hi;rcases List.mem_cons.1 hx with rfl|hx
   . obtain⟨_,o,ho,_⟩:=mem_ready.1 (List.mem_of_getElem? hr);exact(zGE ho).1
   . exact h x hx
theorem Oy{md:Region.Mode}{ops:Array Oper}{t:Nat}:∀i∈Region.linearise md ops t,i<ops.size:=by unfold Region.linearise;exact Abd _ _ _ _ (by simp)
section
variable {P:Program}{main:Bool}{Γ:Type}{S:Fp P main Γ}{γ:Γ}{W:World}
theorem Tt(B:Hid)(w:World):Kept B w { w with drawn:=w.drawn+1 }:=⟨rfl,rfl,rfl,Nat.le_succ _,Nat.le_refl _,fun _ _=>rfl,fun _ _ h _=>h,fun _ _ _ h=>h,fun _ _=>rfl⟩
theorem Fp.Z0 {b:Frame}{k:List Item}{cs:List Frame}{ds:List Deferred}{tm:Array Value}{ops Ji:Array Oper}{id N s0:Nat}{vs:List Value}(hm:P.follows .mixedOrders=true)(hi:P.inits.idxOf? b.fn=none)(Ro:b.kind≠.early)(hs:ops.size=N+1)(hs0:Ji.size=N)(hop:∀ i,i < N->Ji[i]?=ops[i]?)(Kt:∀ (i:Nat) (o:Oper),ops[i]?=some o->∀ e∈o.after,e.on < i)(hcl:∀ listed:Array Bool,listed.size=N+1->Down .any ops listed->N∈Region.ready .any ops listed->∀ i,i < N->listed[i]?=some true)(hok:Ji.toList.all (@K5 (Host.only b.fn) P)=true)(hvs:vs.length=N)(hfit:s0+N<=tm.size)(hg:∀ (i:Nat) (o:Oper),Ji[i]?=some o->o.guard=none/\o.dst=some (s0+i))(hrun:∀ (w:World),Alike W w->∀ (l:Array Bool) (a:Act) (i:Nat) (o:Oper),aM tm s0 vs l a->l[i]?=some false->Ji[i]?=some o->(∀ e∈o.after,Region.binds .any e=true->l[e.on]?=some true)->
      o.about P w a.eval=none/\∃v,vs[i]?=some v/\(execOp a.eval o).run P w=.ok (.value v) w)(hJ:∀(l:Array Bool) (tm':Array Value) (W':World),aM tm s0 vs l ⟨tm',[]⟩->(∀i,i<N->l[i]?=some true)->Alike W W'->JL S.L γ (G (b.at ⟨tm',ds⟩ (.inRegion ops [N] :: k)) cs) W') :
    JL S.L γ (G (b.at ⟨tm,ds⟩ (.code (.region id ops true) :: k)) cs) W:=by
  refine S.step rfl fun w hw=>?_;have hst:stepG P main (G (b.at ⟨tm,ds⟩ (.code (.region id ops true) :: k)) cs) w=.go (G (b.at ⟨tm,ds⟩ (.inRegion ops (Region.schedule (P.follows .mixedOrders) ops (w.tape w.drawn (.order b.fn id))) :: k)) cs) { w with drawn:=w.drawn+1 } #[]:=by simp[G,Frame.at,stepG,stepG.exec,choose,Sem.run,Question.forced,Question.cut]
  refine⟨_,_,_,hst,Tt _ _,by simp,W,?_,?_⟩
  . obtain⟨⟨τ,d,rfl⟩,hR⟩:=hw;exact⟨⟨τ,d,rfl⟩,hR.kept (Tt _ _)⟩
  . rw[R6 hm hs hs0 hop Kt hcl];generalize w.tape w.drawn (.order b.fn id)=t;show JW S.base γ (G (GH b.fn tm (.inRegion ops (Region.linearise .any Ji t++[N]) :: k) ds .run b.kind) cs) W;have Acz:∀(i:Nat) (o:Oper),Ji[i]?=some o->∀e∈o.after,e.on<i:=fun i o ho=>Kt i o (by rw[← hop i (by rw[← hs0];exact(zGE ho).1)];exact ho);refine @Fp.rD (Host.only b.fn) P main Γ S γ W b.fn b.kind k cs ds tm ops [b.fn] (O9 hi (by simp)) (by simp) Ro (Region.linearise .any Ji t) [N] ?_ fun EG ha=>?_
    . show((Region.linearise .any Ji t).all fun i=>(ops[i]?).all (@K5 (Host.only b.fn) P))=true;rw[List.all_eq_true];intro i hi';have hlt:=Oy i hi';rw[← hop i zOM,Array.getElem?_eq_getElem hlt,Option.all_some];rw[List.all_eq_true]at hok;exact hok _ (Array.getElem_mem_toList hlt)
    . refine R8 _ (fun i hi'=>?_) _ _ ?_ (Ji:=Ji)
      . have hlt:=Oy i hi';have e:=hop i zOM;exact⟨e,fun o ho=>(hg i o (by rw[e];exact ho)).1⟩
      . have hrep:∀j,(Array.replicate Ji.size false)[j]?≠some true:=fun j hj=>by rw[Array.getElem?_replicate]at hj;split at hj<;>cases hj
        refine wpAnyIn_sound _ _ _ _ _ (TI (I:=fun l a w'=>aM tm s0 vs l a/\w'=EG) Acz ?_ ?_ Ji.size (Array.replicate Ji.size false) _ _ ⟨List.range Ji.size,by simp,fun i hi _=>List.mem_range.2 hi⟩ (by simp) (fun i o ho hb=>absurd hb (hrep i)) ⟨⟨rfl,rfl,fun _ _=>rfl,fun j v hj=>absurd hj (hrep j)⟩,rfl⟩)
        . rintro l a w' i o ⟨hI,rfl⟩ hl hd hb ho hod;obtain⟨g1,g2⟩:=hg i o ho;obtain⟨r1,v,hv,r2⟩:=hrun w' ha l a i o hI hb ho hod;refine Gv (Fence.list_round _ _) ho g1 r1 r2 ⟨?_,rfl⟩;rw[g2];exact hI.put (N:=N) hv zOM
        . rintro l a w' ⟨hI,rfl⟩ hl hall;obtain⟨tm',jk⟩:=a;obtain rfl:jk=[]:=hI.ds;rw[hs0]at hall;exact⟨rfl,hJ l tm' _ hI hall ha⟩
end
end
end Go.LT
namespace Go.Proofs.Ytdkfdedgfilhbaa
open Go Go.Conc Go.LT Go.LC Go.LK Go.RowKit
open Go.ConcN (WgLive)
open BA TU
section
def Py:Code:=match Try.f31.body with | some c=>c | _=>.skip
def pd0:Code:=match Py with | .seq c _=>c | _=>.skip
def pd1:Code:=match Py with | .seq _ (.seq c _)=>c | _=>.skip
def pd2:Code:=match Py with | .seq _ (.seq _ (.seq c _))=>c | _=>.skip
def pd4:Code:=match Py with | .seq _ (.seq _ (.seq _ (.seq c _)))=>c | _=>.skip
def pd5:Code:=match Py with | .seq _ (.seq _ (.seq _ (.seq _ (.seq c _))))=>c | _=>.skip
def pd6:Code:=match Py with | .seq _ (.seq _ (.seq _ (.seq _ (.seq _ (.seq c _)))))=>c | _=>.skip
def UF:Code:=match Py with | .seq _ (.seq _ (.seq _ (.seq _ (.seq _ (.seq _ (.seq (.block _ (.loop (.block _ c))) _))))))=>c | _=>.skip
def fU:Code:=match Py with | .seq _ (.seq _ (.seq _ (.seq _ (.seq _ (.seq _ (.seq _ c))))))=>c | _=>.skip
theorem jQ:Try.f31.body=some (.seq pd0 (.seq pd1 (.seq pd2 (.seq pd4 (.seq pd5 (.seq pd6 (.seq (.block 0 (.loop (.block 1 UF))) fU))))))):=rfl
def pd7:Code:=match UF with | .seq c _=>c | _=>.skip
def pd8:Code:=match UF with | .seq _ (.seq c _)=>c | _=>.skip
def pd9:Code:=match UF with | .seq _ (.seq _ (.seq (.seq c _) _))=>c | _=>.skip
def rX:Code:=match UF with | .seq _ (.seq _ (.seq _ (.seq c _)))=>c | _=>.skip
def uE:Code:=match UF with | .seq _ (.seq _ (.seq _ (.seq _ (.seq c _))))=>c | _=>.skip
def uN:Code:=match UF with | .seq _ (.seq _ (.seq _ (.seq _ (.seq _ (.seq c _)))))=>c | _=>.skip
def kN:Code:=match UF with | .seq _ (.seq _ (.seq _ (.seq _ (.seq _ (.seq _ (.seq c _))))))=>c | _=>.skip
def ZM:Code:=match UF with | .seq _ (.seq _ (.seq _ (.seq _ (.seq _ (.seq _ (.seq _ c))))))=>c | _=>.skip
theorem vG:UF=.seq pd7 (.seq pd8 (.seq (.seq pd9 (.cond (.tmp 42) (.exit 0) .skip)) (.seq rX (.seq uE (.seq uN (.seq kN ZM)))))):=rfl
def rQ:Code:=match fU with | .seq (.seq c _) _=>c | _=>.skip
def XU:Code:=match fU with | .seq (.seq _ (.block _ (.loop c))) _=>c | _=>.skip
def bE:Code:=match fU with | .seq _ c=>c | _=>.skip
theorem tV:fU=.seq (.seq rQ (.block 2 (.loop XU))) bE:=rfl
def qU:Code:=match XU with | .seq c _=>c | _=>.skip
def qy:Code:=match XU with | .seq _ (.seq _ (.seq (.block _ (.seq c _)) _))=>c | _=>.skip
def nM:Code:=match XU with | .seq _ (.seq _ (.seq (.block _ (.seq _ (.seq c _))) _))=>c | _=>.skip
def qI:Code:=match XU with | .seq _ (.seq _ (.seq (.block _ (.seq _ (.seq _ (.seq c _)))) _))=>c | _=>.skip
def jN:Code:=match XU with | .seq _ (.seq _ (.seq (.block _ (.seq _ (.seq _ (.seq _ (.cond _ c _))))) _))=>c | _=>.skip
def ug:Code:=match XU with | .seq _ (.seq _ (.seq _ c))=>c | _=>.skip
theorem TN:XU=.seq qU (.seq (.cond (.tmp 70) .skip (.exit 2)) (.seq (.block 3 (.seq qy (.seq nM (.seq qI (.cond (.tmp 88) jN .skip))))) ug)):=rfl
structure PO where
 lg:Nat
 lc:Nat
 bc:Nat
 bz:Nat
 ob:Nat
 sg:Nat
 br:Nat
 most:Nat
 wa:Option Addr
 wn:Nat
 wc:Nat
 ta:Option Addr
 tn:Nat
 tc:Nat
 ya:Option Addr
 yc:Nat
 u:Int
 ol:Option Nat
 hl:List Int
 hg:Nat
 ho:Nat
def PO.cv(q:PO):Value:=.agg #[.slice q.wa q.wn q.wc,.slice q.ta q.tn q.tc,.slice q.ya q.hl.length q.yc,.int .i64 q.u]
def Sd(q:PO)(co n:Nat)(GK Gi Ia Jh JD IE u68 u69:Value)(tm:Array Value):Prop:=∃v4 v5 Ai Aj Ak Al Am Ao Ap Ar Au Av Aw Ay Az AA AB AJ AL AO AP AQ AU AV AX AY AZ A8 A9 Ba Bb Bc Bf Bh Bj Bl Bp Bq Br Bu Bv Bw Bz BD BF BG BH BI BJ BK BL BM BN BR BS BU BX BZ Ca Cb Cc Ce Cg Ci Cj Ck Cm Co Cq Cr Ct Cu Cw Cx Cy Cz CB CF CG CJ CK CO CQ CS CU CV CW CX CY,tm=#[q.cv,.slice (some ⟨q.lg,0,none⟩) n q.lc,.chan (some co),.pointer (some ⟨q.bc,0,none⟩),v4,v5,.pointer (some ⟨q.bz,0,none⟩),.int .i64 q.most,.pointer (some ⟨q.ob,0,none⟩),.slice (some ⟨q.sg,0,none⟩) n n,.pointer (some ⟨q.br,0,none⟩),GK,Gi,Ia,Jh,JD,Ai,Aj,Ak,Al,Am,Ao,Ap,Ar,Au,Av,Aw,Ay,Az,AA,AB,AJ,AL,AO,AP,AQ,AU,AV,AX,AY,AZ,A8,A9,Ba,Bb,Bc,Bf,Bh,Bj,Bl,Bp,Bq,Br,Bu,Bv,Bw,Bz,BD,BF,BG,BH,BI,BJ,BK,BL,BM,BN,IE,u68,u69,BR,BS,BU,BX,BZ,Ca,Cb,Cc,Ce,Cg,Ci,Cj,Ck,Cm,Co,Cq,Cr,Ct,Cu,Cw,Cx,Cy,Cz,CB,CF,CG,CJ,CK,CO,CQ,CS,CU,CV,CW,CX,CY]
structure yS(q:PO)(bs:List Nat)(left:List Int)(last:Int)(steps:List Nat)(s:Nat)(cut:Value)(W:World):Prop where
 row:∀(i b:Nat),bs[i]?=some b->W.cell? ⟨q.lg,i,none⟩=some (.pointer (some ⟨b,0,none⟩))
 cse:W.heap[q.bc]?=some (.cells #[.slice q.wa q.wn q.wc,.slice q.ta q.tn q.tc,.slice q.ya q.hl.length q.yc,.int .i64 q.u] 25 (0,0))
 ord:∃Ux,UD W 143 q.ob Ux left last/\Ux.ownBlock=q.ol
 UU:W.heap[q.sg]?=some (.cells (steps.map fun(k:Nat)=>Value.int .i64 k).toArray 3 (0,0))
 run:W.heap[q.br]?=some (.cells #[.slice none 0 0,.slice none 0 0,.int .i64 s,cut] 31 (0,0))
 res:W.heap[q.bz]?=some (.cells #[.slice none 0 0,.slice none 0 0,.int .i64 0,.bool false] 31 (0,0))
def PO.K(q:PO)(Kp:Nat->Prop)(g:Nat):Prop:=g=q.lg\/g=q.bc\/g=q.bz\/g=q.ob\/q.ol=some g\/g=q.sg\/g=q.br\/Kp g
structure PO.Lay(q:PO)(Kp:Nat->Prop):Prop where
 h1:q.lg<q.bc
 h2:q.bc<q.bz
 h3:q.bz<q.ob
 h4:q.ob<q.sg
 h5:q.sg<q.br
 h6:∀g,q.ol=some g->q.bz<g/\g<q.sg/\g≠q.ob
 h7:∀g,Kp g->g<q.bc
structure MO{Cs Sg:Type}(m:Mem Sg)(ρ:Rn)(ws:List (FE (Wk EP Cs)))(q:PO)(Kp:Nat->Prop)(W0:World)(R:Nat)(σ:Sg)(left:List Int)(last:Int)(s:Nat)(steps:List Nat)(cut:Value)(W:World):Prop where
 rows:yS q (ws.map (·.b)) left last steps s cut W
 lay:q.Lay Kp
 inv:m.Inv σ W
 free:∀g,q.K Kp g->(∃c e f,W.heap[g]?=some (.cells c e f))/\g≠ρ.Wg/\ρ.Bo g=false/\¬ m.Sh g/\∀(j:Nat) (u:FE (Wk EP Cs)),ws[j]?=some u->¬ u.own g
 kept:∀g,Kp g->W.heap[g]?=W0.heap[g]?
 ov:∀(j:Nat) (u:FE (Wk EP Cs)),ws[j]?=some u->u.over=u.x.over/\kV u.x
 fuel:∀(j:Nat) (u:FE (Wk EP Cs)),ws[j]?=some u->R<=u.r+s
 VF:steps.length=ws.length
 few:ws.length<=1000
 hal:q.hl.length<=1000000/\∀(i:Nat) (x:Int),q.hl[i]?=some x->-9223372036854775808<=x/\x<=9223372036854775807/\q.ya=some ⟨q.hg,q.ho,none⟩/\∀σ W,m.Inv σ W->W.cell? ⟨q.hg,q.ho+i,none⟩=some (.int .i64 x)
section
variable {Cs Sg:Type}{D:Dr EP Cs Sg}{m:Mem Sg}{ρ:Rn}{ws:List (FE (Wk EP Cs))}
variable {Fin:Gb}{EH:FM Try.prog Fin}
variable {q:PO}{Kp:Nat->Prop}{W0 W:World}{R s co n nn:Nat}{σ:Sg}{left:List Int}{last:Int}{steps:List Nat}{cut GK Gi Ia Jh JD IE u68 u69:Value}{ds:List Deferred}{K:List Item}{cs:List Frame}
theorem yS.keep{bs:List Nat}{W':World}(h:yS q bs left last steps s cut W)(hk:∀g,q.K (fun _=>False) g->W'.heap[g]?=W.heap[g]?):yS q bs left last steps s cut W':=by
 have hc:∀a:Addr,q.K (fun _=>False) a.block->W'.cell? a=W.cell? a:=fun a ha=>cell_of (hk _ ha);refine⟨fun i b hb=>?_,?_,?_,?_,?_,?_⟩
 . rw[hc ⟨q.lg,i,none⟩ (.inl rfl)];exact h.row i b hb
 . rw[hk _ (.inr (.inl rfl))];exact h.cse
 . obtain⟨Ux,⟨o1,o2,o3⟩,o4⟩:=h.ord;refine⟨Ux,⟨?_,o2.same fun k hk' _=>hk _ (.inr (.inr (.inr (.inr (.inl (by rw[← o4];exact hk')))))),o3⟩,o4⟩;rw[hk _ (.inr (.inr (.inr (.inl rfl))))];exact o1
 . rw[hk _ (.inr (.inr (.inr (.inr (.inr (.inl rfl))))))];exact h.UU
 . rw[hk _ (.inr (.inr (.inr (.inr (.inr (.inr (.inl rfl)))))))];exact h.run
 . rw[hk _ (.inr (.inr (.inl rfl)))];exact h.res
theorem PO.K.weak{g:Nat}(h:q.K (fun _=>False) g):q.K Kp g:=by
 rcases h with h|h|h|h|h|h|h|h
 . exact .inl h
 . exact .inr (.inl h)
 . exact .inr (.inr (.inl h))
 . exact .inr (.inr (.inr (.inl h)))
 . exact .inr (.inr (.inr (.inr (.inl h))))
 . exact .inr (.inr (.inr (.inr (.inr (.inl h)))))
 . exact .inr (.inr (.inr (.inr (.inr (.inr (.inl h))))))
 . exact h.elim
theorem MO.lt(h:MO m ρ ws q Kp W0 R σ left last s steps cut W){g:Nat}(hg:q.K Kp g):g<W.heap.size:=by obtain⟨⟨c,e,f,hc⟩,_⟩:=h.free g hg;exact(zGE hc).1
theorem MO.uV(h:MO m ρ ws q Kp W0 R σ left last s steps cut W){g:Nat}(hg:m.Sh g):g<W.heap.size:=by obtain⟨c,e,f,hc⟩:=m.rows σ W g hg h.inv;exact(zGE hc).1
theorem MO.keep{W':World}(h:MO m ρ ws q Kp W0 R σ left last s steps cut W)(hk:∀g,q.K Kp g->W'.heap[g]?=W.heap[g]?)(hs:∀g,m.Sh g->W'.heap[g]?=W.heap[g]?):MO m ρ ws q Kp W0 R σ left last s steps cut W':=
  { rows:=h.rows.keep fun g hg=>hk g hg.weak,lay:=h.lay,
     inv:=m.eq σ W W' (fun g hg=>.of (hs g hg)) h.inv,
     free:=fun g hg=>(by rw[hk g hg];exact h.free g hg),
     kept:=fun g hg=>(by rw[hk g (.inr (.inr (.inr (.inr (.inr (.inr (.inr hg)))))))];exact h.kept g hg),
     ov:=h.ov,fuel:=h.fuel,VF:=h.VF,few:=h.few,
     hal:=h.hal }
theorem MO.olds{W':World}(h:MO m ρ ws q Kp W0 R σ left last s steps cut W)(ho:Jz W W'):MO m ρ ws q Kp W0 R σ left last s steps cut W':=h.keep (fun g hg=>ho.blk g (h.lt hg)) fun g hg=>ho.blk g (h.uV hg)
theorem MO.alike{W':World}(h:MO m ρ ws q Kp W0 R σ left last s steps cut W)(hh:W'.heap=W.heap):MO m ρ ws q Kp W0 R σ left last s steps cut W':=h.keep (fun g _=>by rw[hh]) fun g _=>by rw[hh]
theorem MO.turn{W':World}{left':List Int}{last':Int}{s':Nat}{Pq:List Nat}{cut':Value}(h:MO m ρ ws q Kp W0 R σ left last s steps cut W){x:Nat}(hx:q.K Kp x)(hb:q.bc<x)(ho:∀g,g<W.heap.size->g≠x->W'.heap[g]?=W.heap[g]?)(hr:∃c e f,W'.heap[x]?=some (.cells c e f))(hR:yS q (ws.map (·.b)) left' last' Pq s' cut' W')(hss:s<=s')(hsl:Pq.length=steps.length):MO m ρ ws q Kp W0 R σ left' last' s' Pq cut' W':=
  { rows:=hR,lay:=h.lay,
     inv:=m.eq σ W W' (fun g hg=>.of (ho g (h.uV hg) fun e=>(h.free x hx).2.2.2.1 (e ▸ hg))) h.inv,
     free:=fun g hg=>(by
       by_cases e:g=x
       . rw[e];exact⟨hr,(h.free x hx).2⟩
       . rw[ho g (h.lt hg) e];exact h.free g hg),
     kept:=fun g hg=>(by have h7:=h.lay.h7 g hg;rw[ho g (h.lt (.inr (.inr (.inr (.inr (.inr (.inr (.inr hg)))))))) zOM];exact h.kept g hg),
     ov:=h.ov,
     fuel:=fun j u hu=>(by have:=h.fuel j u hu;omega),
     VF:=(by rw[hsl];exact h.VF),
     few:=h.few,
     hal:=h.hal }
theorem Rf{M:Md (Wk EP Cs) Sg}(hM:M=Fe D m)(hK:Known M ρ ws W){i:Nat}{v:FE (Wk EP Cs)}(hv:ws[i]?=some v):W.cell? ⟨v.b,10,none⟩=some (.bool v.x.over)/\W.cell? ⟨v.b,7,none⟩=some (.int .i64 v.x.bg)/\W.cell? ⟨v.b,8,none⟩=some (.int .i64 v.x.ow):=by
 subst hM;obtain⟨_,hb,t,co,go,gr,ans,hrow,_⟩:=hK.record i v hv;have hin:=(hK.inside i v hv).1;have hc:=hrow.cells;refine⟨?_,?_,?_⟩
 . rw[hK.cell i v hv ⟨v.b,10,none⟩ hin];exact hc.2.2.2.2.2.1
 . rw[hK.cell i v hv ⟨v.b,7,none⟩ hin];exact hc.2.2.1
 . rw[hK.cell i v hv ⟨v.b,8,none⟩ hin];exact hc.2.2.2.1
end
end
section
theorem X8:∀g∈[60],@Lets (Host.only 31) Try.prog g:=fun g hg=>by obtain rfl:=List.mem_singleton.1 hg;exact⟨by kernel_rfl,.inl ⟨_,_,Try.func60,by kernel_rfl,rfl,by kernel_rfl⟩⟩
section
variable {Cs Sg:Type}{D:Dr EP Cs Sg}{m:Mem Sg}{ρ:Rn}{ws:List (FE (Wk EP Cs))}
variable {Fin:Gb}{EH:FM Try.prog Fin}
variable {q:PO}{Kp:Nat->Prop}{W0 W:World}{R s co n nn:Nat}{σ:Sg}{left:List Int}{last:Int}{steps:List Nat}{cut GK Gi Ia Jh JD IE u68 u69:Value}{ds:List Deferred}{K:List Item}{cs:List Frame}
theorem Ab8(h:MO m ρ ws q Kp W0 R σ left last s steps cut W)(hn:n=ws.length)(hsb:∀(i c:Nat),steps[i]?=some c->c<=1000000){tm:Array Value}(hs:Sd q co n GK Gi Ia Jh JD IE u68 u69 tm)(hK:∀W' tm' wb,Sd q co n (.slice (some ⟨wb,0,none⟩) n n) (.bool ((List.range n).any (NZ q.hl steps (ws.map fun u=>u.x.over)))) Ia Jh JD IE u68 u69 tm'->MO m ρ ws q Kp W0 R σ left last s steps cut W'->(∀i,i<n->W'.cell? ⟨wb,i,none⟩=some (.bool (NZ q.hl steps (ws.map fun u=>u.x.over) i)))->JL (S0 Try.prog Fin EH).L (.Fg (Fe D m) ρ ws 0 false nn) (G ((base 31).at ⟨tm',ds⟩ K) cs) W') :
  JL (S0 Try.prog Fin EH).L (.Fg (Fe D m) ρ ws 0 false nn) (G ((base 31).at ⟨tm,ds⟩ (.code pd7 :: K)) cs) W:=by
 refine J0.know (EH:=EH) fun hKn=>?_;have hov:∀(i b:Nat),(ws.map (·.b))[i]?=some b->W.cell? ⟨b,10,none⟩=some (.bool ((ws.map fun u=>u.x.over).getD i false)):=fun i b hb=>by rw[List.getElem?_map]at hb;obtain⟨u,hu,rfl⟩:=Option.map_eq_some_iff.1 hb;rw[(Rf (D:=D) rfl hKn hu).1];simp[hu]
 obtain⟨v4,v5,Ai,Aj,Ak,Al,Am,Ao,Ap,Ar,Au,Av,Aw,Ay,Az,AA,AB,AJ,AL,AO,AP,AQ,AU,AV,AX,AY,AZ,A8,A9,Ba,Bb,Bc,Bf,Bh,Bj,Bl,Bp,Bq,Br,Bu,Bv,Bw,Bz,BD,BF,BG,BH,BI,BJ,BK,BL,BM,BN,BR,BS,BU,BX,BZ,Ca,Cb,Cc,Ce,Cg,Ci,Cj,Ck,Cm,Co,Cq,Cr,Ct,Cu,Cw,Cx,Cy,Cz,CB,CF,CG,CJ,CK,CO,CQ,CS,CU,CV,CW,CX,CY,rfl⟩:=hs;refine Fp.Fz (S:=S0 Try.prog Fin EH) (b:=base 31) [60] X8 zKR nE zKR fun EG ha=>?_;have hh:EG.heap=W.heap:=by obtain⟨τ,d,rfl⟩:=ha;rfl
 have hcell:∀a,EG.cell? a=W.cell? a:=fun a=>by simp only[World.cell?,hh]
 have h1:=h.alike hh;have hbl:(ws.map (·.b)).length=n:=by simp[hn]
 have hn8:=h.few;have hdl:(ws.map fun u=>u.x.over).length=(ws.map (·.b)).length:=by simp
 have hrd:∀(i b:Nat),(ws.map (·.b))[i]?=some b->EG.cell? ⟨q.lg,0+i,none⟩=some (.pointer (some ⟨b,0,none⟩))/\EG.cell? ⟨b,10,none⟩=some (.bool ((ws.map fun u=>u.x.over).getD i false)):=fun i b hb=>⟨by rw[Nat.zero_add];exact h1.rows.row i b hb,by rw[hcell];exact hov i b hb⟩
 have c0:EG.cell? ⟨q.bc,0,none⟩=some (.slice q.wa q.wn q.wc):=by simp[World.cell?,h1.rows.cse]
 have c1:EG.cell? ⟨q.bc,1,none⟩=some (.slice q.ta q.tn q.tc):=by simp[World.cell?,h1.rows.cse]
 have c2:EG.cell? ⟨q.bc,2,none⟩=some (.slice q.ya q.hl.length q.yc):=by simp[World.cell?,h1.rows.cse]
 have c3:EG.cell? ⟨q.bc,3,none⟩=some (.int .i64 q.u):=by simp[World.cell?,h1.rows.cse]
 have hbn:(ws.map (·.b)).length<=1000:=by simp;omega
 have hsl:steps.length=(ws.map (·.b)).length:=by rw[h.VF];simp
 have ZB:=h1.hal;have hst:∀(i c:Nat),steps[i]?=some c->EG.cell? ⟨q.sg,i,none⟩=some (.int .i64 c):=fun i c hc=>by simp[World.cell?,h1.rows.UU,hc]
 have HH:=Lib.hid (zAI hK (zAI h1 (zAI hrd (zAI hdl (zAI hbn (zAI hsl (zAI ZB (zAI hst hsb))))))));clear hK h h1 hov hcell hKn hrd hdl hn hn8 hbn hsl ZB hst hsb;generalize hdn:(ws.map fun u=>u.x.over)=dn at *;generalize hbs:ws.map (·.b)=bs at *;subst hbl;have HD:=Lib.hid (zAI hdn hbs);clear hdn hbs;dsimp only;simp only[pd7,UF,Py,Try.f31];gi_wp2_with (gi_at_call 60;refine(dN (lg:=q.lg) (lo:=0) (bs:=bs) (dn:=dn) (st:=steps) (hl:=q.hl) _ HH.out.2.2.2.1 HH.out.2.2.2.2.2.1 HH.out.2.2.2.2.1 HH.out.2.2.2.2.2.2.1.1 HH.out.2.2.2.2.2.2.2.2 (fun i x hx=>⟨(HH.out.2.2.2.2.2.2.1.2 i x hx).1,(HH.out.2.2.2.2.2.2.1.2 i x hx).2.1,q.hg,q.ho,(HH.out.2.2.2.2.2.2.1.2 i x hx).2.2.1,(HH.out.2.2.2.2.2.2.1.2 i x hx).2.2.2 _ _ HH.out.2.1.inv⟩) HH.out.2.2.2.2.2.2.2.1 HH.out.2.2.1).mono ?_;rintro e w1 ⟨wb,hwb,rfl,hB,hcells⟩)
 obtain⟨hK,h1,_⟩:=HH.out;obtain⟨rfl,rfl⟩:=HD.out;clear HH HD;exact hK w1 _ wb ⟨_,_,_,_,_,_,_,_,_,_,_,_,_,_,_,_,_,_,_,_,_,_,_,_,_,_,_,_,_,_,_,_,_,_,_,_,_,_,_,_,_,_,_,_,_,_,_,_,_,_,_,_,_,_,_,_,_,_,_,_,_,_,_,_,_,_,_,_,_,_,_,_,_,_,_,_,_,_,_,_,_,_,_,_,_,_,_,_,_,rfl⟩ (h1.olds ((Jz.refl EG).below hB (Nat.le_refl _))) hcells
theorem Aa9(h:MO m ρ ws q Kp W0 R σ left last s steps cut W){bv:Bool}{tm:Array Value}(hs:Sd q co n GK (.bool bv) Ia Jh JD IE u68 u69 tm)(hK:∀W' tm',Sd q co n GK (.bool bv) Ia Jh JD IE u68 u69 tm'->MO m ρ ws q Kp W0 R σ left last s steps (.bool bv) W'->(∀g,g≠q.br->W'.heap[g]?=W.heap[g]?)->JL (S0 Try.prog Fin EH).L (.Fg (Fe D m) ρ ws 0 false nn) (G ((base 31).at ⟨tm',ds⟩ K) cs) W') :
   JL (S0 Try.prog Fin EH).L (.Fg (Fe D m) ρ ws 0 false nn) (G ((base 31).at ⟨tm,ds⟩ (.code pd8 :: K)) cs) W:=by
 obtain⟨v4,v5,Ai,Aj,Ak,Al,Am,Ao,Ap,Ar,Au,Av,Aw,Ay,Az,AA,AB,AJ,AL,AO,AP,AQ,AU,AV,AX,AY,AZ,A8,A9,Ba,Bb,Bc,Bf,Bh,Bj,Bl,Bp,Bq,Br,Bu,Bv,Bw,Bz,BD,BF,BG,BH,BI,BJ,BK,BL,BM,BN,BR,BS,BU,BX,BZ,Ca,Cb,Cc,Ce,Cg,Ci,Cj,Ck,Cm,Co,Cq,Cr,Ct,Cu,Cw,Cx,Cy,Cz,CB,CF,CG,CJ,CK,CO,CQ,CS,CU,CV,CW,CX,CY,rfl⟩:=hs;refine Fp.Fz (S:=S0 Try.prog Fin EH) (b:=base 31) [] (by simp) zKR nE zKR fun EG ha=>?_;have hh:EG.heap=W.heap:=by obtain⟨τ,d,rfl⟩:=ha;rfl
 have h1:=h.alike hh;have c3:EG.cell? ⟨q.br,3,none⟩=some cut:=by simp[World.cell?,h1.rows.run]
 have f3:EG.frozen? ⟨q.br,3,none⟩=false:=by simp[World.frozen?,h1.rows.run]
 have HH:=Lib.hid (zAI hK (zAI h1 hh));clear hK h h1 hh;dsimp only;simp only[pd8,UF,Py,Try.f31];gi_wp2;obtain⟨hK,h1,hh⟩:=HH.out;clear HH;generalize hW':World.setCell _ _ _=W';have hoth:∀g,g≠q.br->W'.heap[g]?=EG.heap[g]?:=fun g hg=>by rw[← hW'];simp[World.setCell,Array.getElem?_modify,Ne.symm hg]
 have hrow:W'.heap[q.br]?=some (.cells #[.slice none 0 0,.slice none 0 0,.int .i64 s,.bool bv] 31 (0,0)):=by rw[← hW'];have:=h1.rows.run;simp[World.setCell,Array.getElem?_modify,this]
 have hl:=h1.lay;have l1:=hl.h1;have l2:=hl.h2;have l3:=hl.h3;have l4:=hl.h4;have l5:=hl.h5;refine hK W' _ ⟨_,_,_,_,_,_,_,_,_,_,_,_,_,_,_,_,_,_,_,_,_,_,_,_,_,_,_,_,_,_,_,_,_,_,_,_,_,_,_,_,_,_,_,_,_,_,_,_,_,_,_,_,_,_,_,_,_,_,_,_,_,_,_,_,_,_,_,_,_,_,_,_,_,_,_,_,_,_,_,_,_,_,_,_,_,_,_,_,_,rfl⟩ (h1.turn (x:=q.br) (.inr (.inr (.inr (.inr (.inr (.inr (.inl rfl))))))) zOM (fun g _ hg=>hoth g hg) ⟨_,_,_,hrow⟩ ?_ (Nat.le_refl _) rfl) fun g hg=>by rw[hoth g hg,hh]
 have hk:∀g,q.K (fun _=>False) g->g≠q.br->W'.heap[g]?=EG.heap[g]?:=fun g _ hg=>hoth g hg;obtain⟨r1,r2,⟨Ux,⟨o1,o2,o3⟩,o4⟩,r4,r5,r6⟩:=h1.rows;have h6:=hl.h6;refine⟨fun i b hb=>?_,by rw[hoth _ zOM];exact r2,⟨Ux,⟨by rw[hoth _ zOM];exact o1,o2.same fun k hk' _=>hoth k ?_,o3⟩,o4⟩,by rw[hoth _ zOM];exact r4,hrow,by rw[hoth _ zOM];exact r6⟩
 . rw[cell_of (a:=⟨q.lg,i,none⟩) (hoth q.lg zOM)];exact r1 i b hb
 . have:=h6 k (by rw[← o4];exact hk')
   omega
theorem Ab9(h:MO m ρ ws q Kp W0 R σ left last s steps cut W)(hsb:s<=1000000)(hm:q.most<=1000000){bv:Bool}{tm:Array Value}(hs:Sd q co n GK (.bool bv) Ia Jh JD IE u68 u69 tm)(hK:∀W' tm',Sd q co n GK (.bool bv) Ia Jh JD IE u68 u69 tm'->tm'[42]?=some (.bool (!bv||decide (q.most<=s)))->W'.heap=W.heap->JL (S0 Try.prog Fin EH).L (.Fg (Fe D m) ρ ws 0 false nn) (G ((base 31).at ⟨tm',ds⟩ K) cs) W') :
  JL (S0 Try.prog Fin EH).L (.Fg (Fe D m) ρ ws 0 false nn) (G ((base 31).at ⟨tm,ds⟩ (.code pd9 :: K)) cs) W:=by
 obtain⟨v4,v5,Ai,Aj,Ak,Al,Am,Ao,Ap,Ar,Au,Av,Aw,Ay,Az,AA,AB,AJ,AL,AO,AP,AQ,AU,AV,AX,AY,AZ,A8,A9,Ba,Bb,Bc,Bf,Bh,Bj,Bl,Bp,Bq,Br,Bu,Bv,Bw,Bz,BD,BF,BG,BH,BI,BJ,BK,BL,BM,BN,BR,BS,BU,BX,BZ,Ca,Cb,Cc,Ce,Cg,Ci,Cj,Ck,Cm,Co,Cq,Cr,Ct,Cu,Cw,Cx,Cy,Cz,CB,CF,CG,CJ,CK,CO,CQ,CS,CU,CV,CW,CX,CY,rfl⟩:=hs;refine Fp.Fz (S:=S0 Try.prog Fin EH) (b:=base 31) [] (by simp) zKR nE zKR fun EG ha=>?_;have hh:EG.heap=W.heap:=by obtain⟨τ,d,rfl⟩:=ha;rfl
 have h1:=h.alike hh;have c2:EG.cell? ⟨q.br,2,none⟩=some (.int .i64 s):=by simp[World.cell?,h1.rows.run]
 have HH:=Lib.hid (zAI hK (zAI h1 hh));clear hK h h1 hh;dsimp only;simp only[pd9,UF,Py,Try.f31];cases bv with
 | true=>
  gi_wp2;obtain⟨hK,h1,hh⟩:=HH.out;refine hK EG _ ⟨_,_,_,_,_,_,_,_,_,_,_,_,_,_,_,_,_,_,_,_,_,_,_,_,_,_,_,_,_,_,_,_,_,_,_,_,_,_,_,_,_,_,_,_,_,_,_,_,_,_,_,_,_,_,_,_,_,_,_,_,_,_,_,_,_,_,_,_,_,_,_,_,_,_,_,_,_,_,_,_,_,_,_,_,_,_,_,_,_,rfl⟩ ?_ hh;by_cases e:q.most<=s<;>simp[e]
 | false=>
  gi_wp2;obtain⟨hK,h1,hh⟩:=HH.out;refine hK EG _ ⟨_,_,_,_,_,_,_,_,_,_,_,_,_,_,_,_,_,_,_,_,_,_,_,_,_,_,_,_,_,_,_,_,_,_,_,_,_,_,_,_,_,_,_,_,_,_,_,_,_,_,_,_,_,_,_,_,_,_,_,_,_,_,_,_,_,_,_,_,_,_,_,_,_,_,_,_,_,_,_,_,_,_,_,_,_,_,_,_,_,rfl⟩ ?_ hh
  simp
theorem rM(h:MO m ρ ws q Kp W0 R σ left last s steps cut W)(hsb:s<=1000000){tm:Array Value}(hs:Sd q co n GK Gi Ia Jh JD IE u68 u69 tm)(hK:∀W' tm',Sd q co n GK Gi Ia Jh JD IE u68 u69 tm'->MO m ρ ws q Kp W0 R σ left last (s+1) steps cut W'->JL (S0 Try.prog Fin EH).L (.Fg (Fe D m) ρ ws 0 false nn) (G ((base 31).at ⟨tm',ds⟩ K) cs) W') :
   JL (S0 Try.prog Fin EH).L (.Fg (Fe D m) ρ ws 0 false nn) (G ((base 31).at ⟨tm,ds⟩ (.code uE :: K)) cs) W:=by
 obtain⟨v4,v5,Ai,Aj,Ak,Al,Am,Ao,Ap,Ar,Au,Av,Aw,Ay,Az,AA,AB,AJ,AL,AO,AP,AQ,AU,AV,AX,AY,AZ,A8,A9,Ba,Bb,Bc,Bf,Bh,Bj,Bl,Bp,Bq,Br,Bu,Bv,Bw,Bz,BD,BF,BG,BH,BI,BJ,BK,BL,BM,BN,BR,BS,BU,BX,BZ,Ca,Cb,Cc,Ce,Cg,Ci,Cj,Ck,Cm,Co,Cq,Cr,Ct,Cu,Cw,Cx,Cy,Cz,CB,CF,CG,CJ,CK,CO,CQ,CS,CU,CV,CW,CX,CY,rfl⟩:=hs;refine Fp.Fz (S:=S0 Try.prog Fin EH) (b:=base 31) [] (by simp) zKR nE zKR fun EG ha=>?_;have hh:EG.heap=W.heap:=by obtain⟨τ,d,rfl⟩:=ha;rfl
 have h1:=h.alike hh;have c2:EG.cell? ⟨q.br,2,none⟩=some (.int .i64 s):=by simp[World.cell?,h1.rows.run]
 have f2:EG.frozen? ⟨q.br,2,none⟩=false:=by simp[World.frozen?,h1.rows.run]
 have hl1:(-9223372036854775808:Int)<=(s:Int)+1:=by omega
 have hl2:(s:Int)+1<=9223372036854775807:=by omega
 have HH:=Lib.hid (zAI hK (zAI h1 hh));clear hK h h1 hh;dsimp only;simp only[uE,UF,Py,Try.f31];gi_wp2;obtain⟨hK,h1,hh⟩:=HH.out;clear HH;generalize hW':World.setCell _ _ _=W';have hoth:∀g,g≠q.br->W'.heap[g]?=EG.heap[g]?:=fun g hg=>by rw[← hW'];simp[World.setCell,Array.getElem?_modify,Ne.symm hg]
 have hrow:W'.heap[q.br]?=some (.cells #[.slice none 0 0,.slice none 0 0,.int .i64 ((s+1:Nat):Int),cut] 31 (0,0)):=by rw[← hW'];have:=h1.rows.run;simp[World.setCell,Array.getElem?_modify,this]
 have hl:=h1.lay;have l1:=hl.h1;have l2:=hl.h2;have l3:=hl.h3;have l4:=hl.h4;have l5:=hl.h5;refine hK W' _ ⟨_,_,_,_,_,_,_,_,_,_,_,_,_,_,_,_,_,_,_,_,_,_,_,_,_,_,_,_,_,_,_,_,_,_,_,_,_,_,_,_,_,_,_,_,_,_,_,_,_,_,_,_,_,_,_,_,_,_,_,_,_,_,_,_,_,_,_,_,_,_,_,_,_,_,_,_,_,_,_,_,_,_,_,_,_,_,_,_,_,rfl⟩ (h1.turn (x:=q.br) (.inr (.inr (.inr (.inr (.inr (.inr (.inl rfl))))))) zOM (fun g _ hg=>hoth g hg) ⟨_,_,_,hrow⟩ ?_ zOM rfl);obtain⟨r1,r2,⟨Ux,⟨o1,o2,o3⟩,o4⟩,r4,r5,r6⟩:=h1.rows;have h6:=hl.h6;refine⟨fun i b hb=>?_,by rw[hoth _ zOM];exact r2,⟨Ux,⟨by rw[hoth _ zOM];exact o1,o2.same fun k hk' _=>hoth k ?_,o3⟩,o4⟩,by rw[hoth _ zOM];exact r4,hrow,by rw[hoth _ zOM];exact r6⟩
 . rw[cell_of (a:=⟨q.lg,i,none⟩) (hoth q.lg zOM)];exact r1 i b hb
 . have:=h6 k (by rw[← o4];exact hk')
   omega
theorem tQ(h:MO m ρ ws q Kp W0 R σ left last s steps cut W)(hn:n=ws.length){k:Nat}(hk:k<n)(hst:∀(i c:Nat),steps[i]?=some c->c<=1000000){tm:Array Value}(hs:Sd q co n GK Gi (.int .i64 k) Jh JD IE u68 u69 tm)(hK:∀W' tm',Sd q co n GK Gi (.int .i64 k) Jh JD IE u68 u69 tm'->MO m ρ ws q Kp W0 R σ left last s (steps.set k (steps.getD k 0+1)) cut W'->JL (S0 Try.prog Fin EH).L (.Fg (Fe D m) ρ ws 0 false nn) (G ((base 31).at ⟨tm',ds⟩ K) cs) W') :
   JL (S0 Try.prog Fin EH).L (.Fg (Fe D m) ρ ws 0 false nn) (G ((base 31).at ⟨tm,ds⟩ (.code uN :: K)) cs) W:=by
 obtain⟨v4,v5,Ai,Aj,Ak,Al,Am,Ao,Ap,Ar,Au,Av,Aw,Ay,Az,AA,AB,AJ,AL,AO,AP,AQ,AU,AV,AX,AY,AZ,A8,A9,Ba,Bb,Bc,Bf,Bh,Bj,Bl,Bp,Bq,Br,Bu,Bv,Bw,Bz,BD,BF,BG,BH,BI,BJ,BK,BL,BM,BN,BR,BS,BU,BX,BZ,Ca,Cb,Cc,Ce,Cg,Ci,Cj,Ck,Cm,Co,Cq,Cr,Ct,Cu,Cw,Cx,Cy,Cz,CB,CF,CG,CJ,CK,CO,CQ,CS,CU,CV,CW,CX,CY,rfl⟩:=hs;refine Fp.Fz (S:=S0 Try.prog Fin EH) (b:=base 31) [] (by simp) zKR nE zKR fun EG ha=>?_;have hh:EG.heap=W.heap:=by obtain⟨τ,d,rfl⟩:=ha;rfl
 have h1:=h.alike hh;have hkl:k<steps.length:=by rw[h.VF];omega
 have hgk:steps[k]?=some (steps.getD k 0):=by simp[List.getD,hkl]
 have hcb:=hst k _ hgk;have ck:EG.cell? ⟨q.sg,k,none⟩=some (.int .i64 (steps.getD k 0:Nat)):=by have:=h1.rows.UU;simp only[World.cell?,this];simp[hkl]
 have fk:EG.frozen? ⟨q.sg,k,none⟩=false:=by simp[World.frozen?,h1.rows.UU]
 generalize hc:steps.getD k 0=c at *;have hl1:(-9223372036854775808:Int)<=(c:Int)+1:=by omega
 have hl2:(c:Int)+1<=9223372036854775807:=by omega
 have hk0:¬ ((k:Int)<0):=by omega
 have HH:=Lib.hid (zAI hK (zAI h1 (zAI hh (zAI hgk (zAI hc hn)))));clear hK h h1 hh hgk hc hn;dsimp only;simp only[uN,UF,Py,Try.f31];gi_wp2;obtain⟨hK,h1,hh,hgk,hc,hn⟩:=HH.out;clear HH;generalize hW':World.setCell _ _ _=W';have hoth:∀g,g≠q.sg->W'.heap[g]?=EG.heap[g]?:=fun g hg=>by rw[← hW'];simp[World.setCell,Array.getElem?_modify,Ne.symm hg]
 have hrow:W'.heap[q.sg]?=some (.cells ((steps.set k (c+1)).map fun(k:Nat)=>Value.int .i64 k).toArray 3 (0,0)):=by rw[← hW'];have:=h1.rows.UU;simp[World.setCell,Array.getElem?_modify,this]
 have hl:=h1.lay;have l1:=hl.h1;have l2:=hl.h2;have l3:=hl.h3;have l4:=hl.h4;have l5:=hl.h5;refine hK W' _ ⟨_,_,_,_,_,_,_,_,_,_,_,_,_,_,_,_,_,_,_,_,_,_,_,_,_,_,_,_,_,_,_,_,_,_,_,_,_,_,_,_,_,_,_,_,_,_,_,_,_,_,_,_,_,_,_,_,_,_,_,_,_,_,_,_,_,_,_,_,_,_,_,_,_,_,_,_,_,_,_,_,_,_,_,_,_,_,_,_,_,rfl⟩ (h1.turn (x:=q.sg) (.inr (.inr (.inr (.inr (.inr (.inl rfl)))))) zOM (fun g _ hg=>hoth g hg) ⟨_,_,_,hrow⟩ ?_ (Nat.le_refl _) (by simp));obtain⟨r1,r2,⟨Ux,⟨o1,o2,o3⟩,o4⟩,r4,r5,r6⟩:=h1.rows;have h6:=hl.h6;refine⟨fun i b hb=>?_,by rw[hoth _ zOM];exact r2,⟨Ux,⟨by rw[hoth _ zOM];exact o1,o2.same fun k hk' _=>hoth k ?_,o3⟩,o4⟩,hrow,by rw[hoth _ zOM];exact r5,by rw[hoth _ zOM];exact r6⟩
 . rw[cell_of (a:=⟨q.lg,i,none⟩) (hoth q.lg zOM)];exact r1 i b hb
 . have:=h6 k (by rw[← o4];exact hk')
   omega
end
end
section
section
variable {Cs Sg:Type}{D:Dr EP Cs Sg}{m:Mem Sg}{ρ:Rn}{ws:List (FE (Wk EP Cs))}
variable {Fin:Gb}{EH:FM Try.prog Fin}
variable {q:PO}{Kp:Nat->Prop}{W0 W:World}{R s co n nn:Nat}{σ:Sg}{left:List Int}{last:Int}{steps:List Nat}{cut GK Gi Ia Jh JD IE u68 u69:Value}{ds:List Deferred}{K:List Item}{cs:List Frame}
theorem qH(h:MO m ρ ws q Kp W0 R σ left last s steps cut W)(hn:n=ws.length){wb:Nat}{rd:List Bool}(hrl:rd.length=n)(hne:MQ rd≠[])(hcells:∀i,i<n->W.cell? ⟨wb,i,none⟩=some (.bool (rd.getD i false))){tm:Array Value}(hs:Sd q co n (.slice (some ⟨wb,0,none⟩) n n) Gi Ia Jh JD IE u68 u69 tm)(hK:∀W' tm',Sd q co n (.slice (some ⟨wb,0,none⟩) n n) Gi (.int .i64 (LQ left last (MQ rd))) Jh JD IE u68 u69 tm'->MO m ρ ws q Kp W0 R σ (LG left (MQ rd)) (LH left last (MQ rd)) s steps cut W'->JL (S0 Try.prog Fin EH).L (.Fg (Fe D m) ρ ws 0 false nn) (G ((base 31).at ⟨tm',ds⟩ K) cs) W') :
   JL (S0 Try.prog Fin EH).L (.Fg (Fe D m) ρ ws 0 false nn) (G ((base 31).at ⟨tm,ds⟩ (.code rX :: K)) cs) W:=by
 subst hrl;have HN:=Lib.hid hn;clear hn;obtain⟨v4,v5,Ai,Aj,Ak,Al,Am,Ao,Ap,Ar,Au,Av,Aw,Ay,Az,AA,AB,AJ,AL,AO,AP,AQ,AU,AV,AX,AY,AZ,A8,A9,Ba,Bb,Bc,Bf,Bh,Bj,Bl,Bp,Bq,Br,Bu,Bv,Bw,Bz,BD,BF,BG,BH,BI,BJ,BK,BL,BM,BN,BR,BS,BU,BX,BZ,Ca,Cb,Cc,Ce,Cg,Ci,Cj,Ck,Cm,Co,Cq,Cr,Ct,Cu,Cw,Cx,Cy,Cz,CB,CF,CG,CJ,CK,CO,CQ,CS,CU,CV,CW,CX,CY,rfl⟩:=hs;dsimp only;simp only[rX,UF,Py,Try.f31];refine E9 fun _ hkk=>?_;iterate 2(refine ET ?_;walk_nrm)
 refine JL.enter rfl rfl nE rfl Try.func61 zKR zKR ?_;walk_nrm;have hn8:=h.few;obtain⟨Ux,TR,ho4⟩:=h.rows.ord;refine kP (S:=S0 Try.prog Fin EH) (l:=rd) (b:=wb) (o:=0) TR (fun i u hu=>?_) (by have:=HN.out;omega) hne fun W' hP=>?_
 . have hlt:i<rd.length:=by
    have:=(List.getElem?_eq_some_iff.1 hu).1
    simpa [bools]using this
   rw[Nat.zero_add,hcells i hlt];simp[bools,hlt]at hu;rw[← hu];simp[hlt]
 . rw[Frame.finish_at];show JL (S0 Try.prog Fin EH).L _ _ W';walk_nrm
   (refine ET ?_;walk_nrm)
   refine E5 ?_;cases hkk;have hl:=h.lay;have l1:=hl.h1;have l2:=hl.h2;have l3:=hl.h3;have l4:=hl.h4;have l5:=hl.h5;have h6:=hl.h6;obtain⟨Ahw,ho',Afw⟩:=hP.ord;have hx:q.K Kp q.ob:=.inr (.inr (.inr (.inl rfl)));have hoth:=fun g (hg:g<W.heap.size) (hne:g≠q.ob)=>hP.blk g hg hne;refine hK W' _ ⟨_,_,_,_,_,_,_,_,_,_,_,_,_,_,_,_,_,_,_,_,_,_,_,_,_,_,_,_,_,_,_,_,_,_,_,_,_,_,_,_,_,_,_,_,_,_,_,_,_,_,_,_,_,_,_,_,_,_,_,_,_,_,_,_,_,_,_,_,_,_,_,_,_,_,_,_,_,_,_,_,_,_,_,_,_,_,_,_,_,rfl⟩ (h.turn (x:=q.ob) hx zOM hoth ⟨_,_,_,ho'.1⟩ ?_ (Nat.le_refl _) rfl);obtain⟨r1,r2,_,r4,r5,r6⟩:=h.rows;have k1:q.lg<W.heap.size:=h.lt (.inl rfl);have k2:q.bc<W.heap.size:=h.lt (.inr (.inl rfl));have k3:q.bz<W.heap.size:=h.lt (.inr (.inr (.inl rfl)));have k4:q.sg<W.heap.size:=h.lt (.inr (.inr (.inr (.inr (.inr (.inl rfl))))))
   have k5:q.br<W.heap.size:=h.lt (.inr (.inr (.inr (.inr (.inr (.inr (.inl rfl)))))));refine⟨fun i b hb=>?_,by rw[hoth _ k2 zOM];exact r2,⟨Ahw,ho',Afw.trans ho4⟩,by rw[hoth _ k4 zOM];exact r4,by rw[hoth _ k5 zOM];exact r5,by rw[hoth _ k3 zOM];exact r6⟩;rw[cell_of (a:=⟨q.lg,i,none⟩) (hoth q.lg k1 zOM)];exact r1 i b hb
end
end
end Go.Proofs.Ytdkfdedgfilhbaa
end
