/-
  Part 11 of the proof that CellOrders is true of every input of bulk at most 1048576.
-/
import Derived.Test.YtdkfdedgfilhbaaQ10
set_option linter.unusedVariables false
set_option linter.unusedSectionVars false
set_option linter.unusedSimpArgs false
set_option maxHeartbeats 8000000
set_option maxRecDepth 100000
noncomputable section
namespace Go.LK
open Go Go.Conc Go.LT Go.LC Go.Conc.Lib Go.ConcR.Gen Go.RowKit
open Go.ConcN (WgLive sumTo upd sumTo_upd upd_ne upd_same)
open Go.ConcR (KK wgBlock WgAt stA smA rd wr mk)
section
section
variable {X Sg:Type}
variable {P:Program}{L:WgLink}{Fin:Gb}{EH:FM P Fin}
variable {M:Md X Sg}{ρ:Rn}{ws:List (FE X)}{W:World}{ex n:Nat}{b₀:Frame}{a₀:Act}{ops₀:Array Oper}{i₀:Nat}{rest₀:List Nat}{k₀:List Item}{cs:List Frame}
theorem bub{S:O8 P true (G0 X Sg)}(H:WgLib P L){γ:G0 X Sg}{b:Frame}{a:Act}{k:List Item}{ops:Array Oper}{i:Nat}{rest:List Nat}{o:Oper}{aSx:Array Operand}{ats:Array TypeId}(ho:ops[i]?=some o)(hw:Region.wanted o (yielded ops a.tmps)=true)(hk:b.kind≠.early)(hop:o.op=.call { callee:=.value (.func L.inBubble),args:=aSx,argTypes:=ats })(h:JL S γ (G (b.at (a.put o.dst (.bool false)) (.inRegion ops rest :: k)) cs) W):JL S γ (G (b.at a (.inRegion ops (i :: rest) :: k)) cs) W:=
 JL.pure (.bool false) ho hw hk hop H.f_inBubble (x_inBubble_n L) (x_inBubble_b L) (x_inBubble_x L) (x_inBubble_f L) h
theorem add1(H:WgLib P L)(hty:ρ.ty=L.tWg)(hcap:n+ex+1<2147483648)(hT:JL (jA (X:=X) (Sg:=Sg) P Fin EH) (.Fg M ρ ws (ex+1) false n) (G (b₀.at (a₀.put ((ops₀[i₀]?).bind (·.dst)) (.tuple #[])) (.inRegion ops₀ rest₀ :: k₀)) cs) W) :
   JL (jA (X:=X) (Sg:=Sg) P Fin EH) (.Fg M ρ ws ex false n) (G ((base L.add).at ⟨#[.pointer (some ⟨ρ.Wg,0,none⟩),.int .i64 1]++Array.replicate 115 undef,[]⟩ [.code (body_add L)]) (b₀.at a₀ (.inRegion ops₀ (i₀ :: rest₀) :: k₀) :: cs)) W:=by
 lib_facts
 simp only[body_add,addFn,Option.getD_some];walk_nrm;refine EO ?_;refine JL.F3 rfl ?_;refine EO ?_;refine EO ?_;refine E9 fun _ hkk=>?_;iterate 2(refine ET ?_;walk_nrm)
 refine E5 ?_;cases hkk;refine JL.EX rfl ?_;refine EU stepG_skip ?_;refine EO ?_;refine E9 fun _ hkk=>?_;refine J0.aU (EH:=EH) rfl (fun w=>stepG_mark0 .disable (by simp) rfl rfl (by k_ne) rfl H.f_disable (x_disable_n L) (x_disable_b L) (x_disable_x L) (x_disable_f L)) ?_;show JL (jA (X:=X) (Sg:=Sg) P Fin EH) _ _ _;walk_nrm;refine E5 ?_;cases hkk;refine E9 fun _ hkk=>?_;refine EU (stepG_defer rfl rfl (by first|exact cK|exact eT|decide|assumption) rfl) ?_;walk_nrm;refine E5 ?_;cases hkk;refine EO ?_;refine E9 fun _ hkk=>?_
 (refine ET ?_;walk_nrm)
 refine E5 ?_;cases hkk;refine EO ?_;refine EO ?_;refine E9 fun _ hkk=>?_;refine bub H rfl rfl (by k_ne) rfl ?_;walk_nrm;refine E5 ?_;cases hkk;refine JL.EX rfl ?_;refine EU stepG_skip ?_;refine EO ?_;refine E9 fun _ hkk=>?_;iterate 6(refine ET ?_;walk_nrm)
 refine JL.call rfl rfl (by first|exact cK|exact eT|decide|assumption) rfl H.f_uAdd (nm_uAdd L) rfl ?_;walk_nrm;simp only[uAddFn];walk_nrm;refine EO ?_;refine E9 fun _ hkk=>?_
 (refine ET ?_;walk_nrm)
 refine E5 ?_;cases hkk;refine EO ?_;refine E9 fun _ hkk=>?_;iterate 4(refine ET ?_;walk_nrm)
 apply J0.add (EH:=EH) rfl hcap
 . intro w v hv hw;have e0:IntKind.u64.wrap ((v:Int)*KK+4294967296)=((v+1:Nat):Int)*KK:=by rw[IntKind.wrap_u64];simp only[KK];omega
   refine(stepG_add_atomic rfl rfl (by k_ne) rfl H.f_addU64 (x_addU64_n L) (x_addU64_b L) (x_addU64_x L) .u64 (x_addU64_f L) rfl rfl (show w.cell? (stA ρ.Wg)=_ from hw.cellSt) (hw.thaw 0)).trans ?_;rw[e0];rfl
 intro v hv;show JL (jA (X:=X) (Sg:=Sg) P Fin EH) _ _ _;have hmk:∀g':Goroutine,JL (jA (X:=X) (Sg:=Sg) P Fin EH) (.Fg M ρ ws (ex+1) false n) g' W->∀g:Goroutine,g.status=.running->(∀w,stepG P true g w=.go g' w #[mk .enable])->JL (jA (X:=X) (Sg:=Sg) P Fin EH) (.Fg M ρ ws (ex+1) true n) g W:=fun g' hJ g hg h=>J0.en (EH:=EH) hg h hJ;clear hcap;rcases Nat.eq_zero_or_pos v with rfl|hvp
 . have z:(((0+1:Nat):Int))*KK=4294967296:=by simp[KK]
   simp only[z];walk_nrm
   (refine ET ?_;walk_nrm)
   refine E5 ?_;cases hkk;refine EU stepG_ret' ?_;refine JL.leave1 rfl rfl H.f_uAdd rfl ?_;walk_nrm
   (refine ET ?_;walk_nrm)
   refine E5 ?_;cases hkk;refine EO ?_;refine EO ?_;refine E9 fun _ hkk=>?_;iterate 4(refine ET ?_;walk_nrm)
   refine EU (stepG_unwanted rfl rfl) ?_;walk_nrm;refine EU (stepG_unwanted rfl rfl) ?_;walk_nrm
   (refine ET ?_;walk_nrm)
   refine E5 ?_;cases hkk;refine JL.EX rfl ?_;refine EU stepG_skip ?_;refine EO ?_;refine E9 fun _ hkk=>?_;iterate 4(refine ET ?_;walk_nrm)
   refine E5 ?_;cases hkk;refine EO ?_;refine E9 fun _ hkk=>?_;iterate 4(refine ET ?_;walk_nrm)
   refine E5 ?_;cases hkk;refine EO ?_;refine EO ?_;refine E9 fun _ hkk=>?_;iterate 10(refine ET ?_;walk_nrm)
   refine E5 ?_;cases hkk;refine JL.F3 rfl ?_;refine E9 fun _ hkk=>?_;iterate 3(refine ET ?_;walk_nrm)
   refine JL.value (.pointer (some ⟨ρ.Wg,1,none⟩)) rfl rfl (by k_ne) (fun w hl=>by
    have hcv:=run_convert_to_unsafe (P:=P) H.underlying_tPU32 H.underlying_tUP H.room_tU32 (ConcN.Gen.WgLive.cell1 (show WgLive ρ.ty ρ.Wg w from hl)).choose_spec;go_simp) (fun w hl e he=>by
    have hce:=fun es=>events_convert_to_unsafe (P:=P) H.underlying_tPU32 H.underlying_tUP H.room_tU32 (ConcN.Gen.WgLive.cell1 (show WgLive ρ.ty ρ.Wg w from hl)).choose_spec es;simp[go_sem,hce]at he) ?_
   walk_nrm;refine J0.said (EH:=EH) (aG ρ.Wg 1) rfl (fun w _=>stepG_markAt .read (by simp) rfl rfl (by k_ne) rfl H.f_raceRead (x_raceRead_n L) (x_raceRead_b L) (x_raceRead_x L) (x_raceRead_f L) (ad:=⟨ρ.Wg,1,none⟩) (by simp[Act.eval])) ?_;show JL (jA (X:=X) (Sg:=Sg) P Fin EH) _ _ _;walk_nrm;refine E5 ?_;cases hkk;refine EO ?_;refine EO ?_;refine E9 fun _ hkk=>?_;iterate 2(refine ET ?_;walk_nrm)
   refine E5 ?_;cases hkk;refine JL.EX rfl ?_;refine EU stepG_skip ?_;refine EO ?_;refine EO ?_;refine E9 fun _ hkk=>?_;iterate 3(refine ET ?_;walk_nrm)
   refine EU (stepG_unwanted rfl rfl) ?_;walk_nrm;refine EU (stepG_unwanted rfl rfl) ?_;walk_nrm;iterate 2(refine ET ?_;walk_nrm)
   refine EU (stepG_unwanted rfl rfl) ?_;walk_nrm;refine EU (stepG_unwanted rfl rfl) ?_;walk_nrm;refine EU (stepG_unwanted rfl rfl) ?_;walk_nrm;refine EU (stepG_unwanted rfl rfl) ?_;walk_nrm
   (refine ET ?_;walk_nrm)
   refine E5 ?_;cases hkk;refine JL.EX rfl ?_;refine EU stepG_skip ?_;refine EO ?_;refine EO ?_;refine E9 fun _ hkk=>?_;iterate 3(refine ET ?_;walk_nrm)
   refine EU (stepG_unwanted rfl rfl) ?_;walk_nrm;refine EU (stepG_unwanted rfl rfl) ?_;walk_nrm
   (refine ET ?_;walk_nrm)
   refine E5 ?_;cases hkk;refine JL.F3 rfl ?_;refine EU stepG_ret' ?_;refine hmk _ ?_ _ rfl fun w=>stepG_unwind_entry (v:=.tuple #[]) (evs:=#[mk .enable]) rfl H.f_enable (x_enable_n L) (x_enable_b L) (x_enable_x L) (x_enable_f L) (by simp[Extern.Race.none_]) (by simp[mk]) (by simp[mk]);refine JL.leave0 rfl rfl H.f_add rfl ?_;exact hT
 . obtain⟨V,hV⟩:∃V:Int,V=(v:Int)+1:=⟨_,rfl⟩
   obtain⟨S,hS⟩:∃S:Int,S=V*KK:=⟨_,rfl⟩
   have z:(((v+1:Nat):Int))*KK=S:=by rw[hS,hV];simp
   simp only[z];have a1:S / 4294967296=V:=by rw[hS];simp only[KK];omega
   have b1:bits .and .u64 S 2147483648=0:=by rw[hS,hV];have:=ConcN.st_flag (v+1) 0 zOM zOM;simpa [KK]using this
   have b2:bits .and .u64 S 2147483647=0:=by rw[hS,hV];have:=ConcN.st_waiters (v+1) 0 zOM zOM;simpa [KK]using this
   have c1:IntKind.i32.wrap V=V:=by rw[IntKind.wrap_i32];omega
   have hV1:1<V:=by omega
   have hV2:V<2147483648:=by omega
   have q1:(V==1)=false:=by simp;omega
   have q2:decide (V=1)=false:=decide_eq_false zOM;have q3:decide (V<0)=false:=decide_eq_false zOM;have q4:decide (0<V)=true:=decide_eq_true zOM;have q5:(V==0)=false:=by simp;omega
   have q6:decide (V=0)=false:=decide_eq_false zOM;clear hS hV z;walk_nrm
   (refine ET ?_;walk_nrm)
   refine E5 ?_;cases hkk;refine EU stepG_ret' ?_;refine JL.leave1 rfl rfl H.f_uAdd rfl ?_;walk_nrm
   (refine ET ?_;walk_nrm)
   refine E5 ?_;cases hkk;refine EO ?_;refine EO ?_;refine E9 fun _ hkk=>?_;iterate 4(refine ET ?_;walk_nrm)
   refine EU (stepG_unwanted rfl rfl) ?_;walk_nrm;refine EU (stepG_unwanted rfl rfl) ?_;walk_nrm
   (refine ET ?_;walk_nrm)
   refine E5 ?_;cases hkk;refine JL.EX rfl ?_;refine EU stepG_skip ?_;refine EO ?_;refine E9 fun _ hkk=>?_;iterate 4(refine ET ?_;walk_nrm)
   refine E5 ?_;cases hkk;refine EO ?_;refine E9 fun _ hkk=>?_;iterate 4(refine ET ?_;walk_nrm)
   refine E5 ?_;cases hkk;refine EO ?_;refine EO ?_;refine E9 fun _ hkk=>?_;iterate 10(refine ET ?_;walk_nrm)
   refine E5 ?_;cases hkk;refine JL.EX rfl ?_;refine EU stepG_skip ?_;refine EO ?_;refine EO ?_;refine E9 fun _ hkk=>?_;iterate 2(refine ET ?_;walk_nrm)
   refine E5 ?_;cases hkk;refine JL.EX rfl ?_;refine EU stepG_skip ?_;refine EO ?_;refine EO ?_;refine E9 fun _ hkk=>?_;iterate 3(refine ET ?_;walk_nrm)
   refine EU (stepG_unwanted rfl rfl) ?_;walk_nrm;refine EU (stepG_unwanted rfl rfl) ?_;walk_nrm;iterate 2(refine ET ?_;walk_nrm)
   refine EU (stepG_unwanted rfl rfl) ?_;walk_nrm;refine EU (stepG_unwanted rfl rfl) ?_;walk_nrm;refine EU (stepG_unwanted rfl rfl) ?_;walk_nrm;refine EU (stepG_unwanted rfl rfl) ?_;walk_nrm
   (refine ET ?_;walk_nrm)
   refine E5 ?_;cases hkk;refine JL.EX rfl ?_;refine EU stepG_skip ?_;refine EO ?_;refine EO ?_;refine E9 fun _ hkk=>?_;iterate 3(refine ET ?_;walk_nrm)
   refine EU (stepG_unwanted rfl rfl) ?_;walk_nrm;refine EU (stepG_unwanted rfl rfl) ?_;walk_nrm
   (refine ET ?_;walk_nrm)
   refine E5 ?_;cases hkk;refine JL.F3 rfl ?_;refine EU stepG_ret' ?_;refine hmk _ ?_ _ rfl fun w=>stepG_unwind_entry (v:=.tuple #[]) (evs:=#[mk .enable]) rfl H.f_enable (x_enable_n L) (x_enable_b L) (x_enable_x L) (x_enable_f L) (by simp[Extern.Race.none_]) (by simp[mk]) (by simp[mk]);refine JL.leave0 rfl rfl H.f_add rfl ?_;exact hT
end
end
end Go.LK
namespace Go.LC
open Go Go.Conc
section
section
variable {P:Program}{gs:Array Goroutine}{w w₁:World}{sl:Option (Nat × Nat)}{i:Nat}{g g₂:Goroutine}{cases:Array CommCase}{blocking:Bool}{shape:CommShape}{es:Array Event}{k c cap s r:Nat}{z:Value}{tm:Bool}
theorem Yd(hi:gs[i]?=some g)(h:stepG P (i==0) g w=.comm g₂ cases blocking shape w₁ es)(hk:cases[k]?=some (rcase c z))(ho:∀(m:Nat) (c':CommCase),m≠k->cases[m]?=some c'->NoWays w₁ (gs.setIfInBounds i ph) c')(hc:w₁.heap[c]?=some (.chan cap #[] true s r tm))(hp:partners (gs.setIfInBounds i ph) c true=[]) :
   runT P (crowd gs w sl) i=(.next (crowd (gs.setIfInBounds i (g₂.finishComm P cases shape k z false)) w₁ sl),
    MemOp.ofEvents i g.frame.fn g.frame.place es++#[{ g:=i,fn:=g₂.frame.fn,pos:=g₂.frame.place,act:=.recvClosed c }]):=by
 have hw:ways w₁ (gs.setIfInBounds i ph) (rcase c z)=[.closed]:=by simp[ways,rcase,hc,hp]
 rw[runT_crowd_comm hi h];unfold communicate;simp only[ready_one hk (by rw[hw];simp) ho,hw];rw[if_neg]
 . simp[choose,Sem.run,Question.forced,bind,Sem.bind,pure,rcase,crowd,hc,hk]
 . rw[Bool.not_eq_true];exact any_ill (made_of_one hk (made_recv z hc) ho)
end
end
end Go.LC
namespace Go.LK
open Go Go.Conc Go.LT Go.LC
open Go.ConcN (WgLive sumTo upd sumTo_upd upd_ne upd_same)
open Go.ConcR (KK wgBlock WgAt stA smA rd wr mk DC0)
section
structure wu(P:Program)(ty:TypeId)(Wg gone:Nat)(st:Seat):Prop where
 wf:st.Wf
 at_:∃(kk:Nat) (z:Value),st.cases[kk]?=some (rcase gone z)/\∀g₂,st.home g₂->∃m,∀w,WgLive ty Wg w->Goes P false (RX ty Wg) DA (Lr P ty Wg) m (g₂.finishComm P st.cases st.shape (kk:Nat) z false) w
inductive Sw(P:Program)(ty:TypeId)(Wg:Nat)(K:World->Prop)(Still:Loc->Prop)(Bd:Nat)(st:Seat):Nat->Nat->Nat->Goroutine->World->Prop
 | seat {m:Nat} {g:Goroutine} {w w₀:World}:K w->Goes P false (RK K) (DS Still Bd) (fun g _=>∃g₂,AtIn P false K Still Bd st g g₂) m g w₀->Sw P ty Wg K Still Bd st 9 m 0 g w
 | leave {m:Nat} {g:Goroutine} {w:World}:Goes P false (RX ty Wg) DA (Lr P ty Wg) m g w->Sw P ty Wg K Still Bd st 8 m 0 g w
 | fin {s m d:Nat} {g:Goroutine} {w:World}:s<=7->Fs P ty Wg s m d g w->Sw P ty Wg K Still Bd st s m d g w
def aQ(Wg:Nat)(w w':World):Prop:=JY Wg w w'\/∃o,Rw o/\w'={ w with heap:=w.heap.push o }
theorem aQ.size{Wg:Nat}{w w':World}(h:aQ Wg w w'):w.heap.size<=w'.heap.size:=by
 rcases h with h|⟨o,_,rfl⟩
 . exact Nat.le_of_eq h.size.symm
 . simp
theorem aQ.block{Wg:Nat}{w w':World}(h:aQ Wg w w'){b:Nat}(hb:b≠Wg)(hlt:b<w.heap.size):w'.heap[b]?=w.heap[b]?:=by
 rcases h with h|⟨o,_,rfl⟩
 . rcases h with rfl | ⟨x,rfl⟩ | ⟨x,rfl⟩<;>simp[World.setCell,stA,smA,Array.getElem?_modify,Ne.symm hb]
 . show(w.heap.push o)[b]?=_;rw[Array.getElem?_push,if_neg zOM]
structure Sj(Wg:Nat)(K:Nat->World->Prop)(Still:Nat->Loc->Prop)(Shun:Loc->Prop):Prop extends Env2 Wg K Still Shun where
 grow:∀i w w',w.heap.size<=w'.heap.size->(∀b,b≠Wg->b<w.heap.size->w'.heap[b]?=w.heap[b]?)->K i w->K i w'
inductive JG(n:Nat)(role:Nat->Fv):Bool->Nat->Nat->Nat->Prop
 | b0 {v:Nat} (hs:∀i,i≠0->i<n->(5<=(role i).stage/\(role i).stage<=9)\/(role i).stage=1) (hc:v=sumTo n fun i=>JE (role i)):JG n role false v 0 0
 | b1 {v:Nat} (hv:1<=v) (hs:∀i,i≠0->i<n->(5<=(role i).stage/\(role i).stage<=9)\/(role i).stage=1) (hc:v=sumTo n fun i=>JE (role i)):JG n role true v 1 0
 | b2 (L:Nat) (hL:L≠0) (hLn:L<n) (hs:(role L).stage=4\/(role L).stage=3) (ho:∀i,i≠0->i≠L->i<n->(role i).stage=1):JG n role true 0 1 0
 | b3 (L:Nat) (hL:L≠0) (hLn:L<n) (hs:(role L).stage=2) (ho:∀i,i≠0->i≠L->i<n->(role i).stage=1):JG n role true 0 0 0
 | b4 (ho:∀i,i≠0->i<n->(role i).stage=1):JG n role true 0 0 1
def xq(Still:Nat->Loc->Prop)(T:Trace)(i:Nat):Prop:=∀j a,touchAt T j=some a->a.write=true->Still i a.loc->Knows T i j
theorem xq.app{Still:Nat->Loc->Prop}{T u:Trace}{i:Nat}(h:xq Still T i)(hu:∀op∈u,∀b,op.act.touch?=some b->b.write=true->¬ Still i b.loc):xq Still (T++u) i:=fun j a ha hw hs=>by
 obtain⟨x,hx,hxa⟩:=touch_of ha;rcases getElem?_append_cases hx with⟨_,hx'⟩|⟨_,hxu⟩
 . exact(h j a (by rw[touchAt_of hx'];exact hxa) hw hs).app u
 . exact absurd hs (hu x hxu a hxa hw)
theorem Gr.Aaa{Still:Nat->Loc->Prop}{Shun:Loc->Prop}{Loose:Nat->Prop}{B:Nat}{Kn:Nat->Prop}{T:Trace}(H:Gr Still Shun (fun _=>False) Loose B Kn T){i:Nat}(hk:xq Still T i)(hd:Deaf T i=0):Gr Still Shun (fun x=>x=i) Loose B Kn T:=
 ⟨H.clean,H.known,H.atom,fun j a ha hw g hg hs=>by subst hg;exact hk j a ha hw hs,fun g hg=>by subst hg;exact hd,H.seen⟩
def Rl(Wg:Nat)(T:Trace)(j:Nat):Prop:=∃r g,j<r/\T.g? j=some g/\T.act? r=some (.mark (.releaseMerge (stA Wg)))/\T.g? r=some g/\T.heard r/\∀k,r<k->T.act? k≠some (.mark (.release (stA Wg)))
theorem g?_old{T:Trace}(u:Trace){j:Nat}(h:j<T.size):(T++u).g? j=T.g? j:=by unfold Trace.g?;rw[getElem?_append_old h]
theorem act?_old{T:Trace}(u:Trace){j:Nat}(h:j<T.size):(T++u).act? j=T.act? j:=by unfold Trace.act?;rw[getElem?_append_old h]
theorem lt_of_act?{T:Trace}{j:Nat}{x:MemAct}(h:T.act? j=some x):j<T.size:=by obtain⟨z,hz,_⟩:=Option.map_eq_some_iff.1 h;exact lt_size_of_getElem? hz
theorem lt_of_g?{T:Trace}{j g:Nat}(h:T.g? j=some g):j<T.size:=by obtain⟨z,hz,_⟩:=Option.map_eq_some_iff.1 h;exact lt_size_of_getElem? hz
theorem heard_old{T:Trace}(u:Trace){j:Nat}(h:T.heard j):(T++u).heard j:=by obtain⟨g,hg,hd⟩:=h;have hlt:=lt_of_g? hg;exact⟨g,by rw[g?_old u hlt];exact hg,by rw[deaf_old (Nat.le_of_lt hlt)];exact hd⟩
theorem Rl.app{Wg:Nat}{T u:Trace}{j:Nat}(h:Rl Wg T j)(hu:∀op∈u,op.act≠.mark (.release (stA Wg))):Rl Wg (T++u) j:=by
 obtain⟨r,g,h1,h2,h3,h4,h5,h6⟩:=h;have hr:=lt_of_act? h3;refine⟨r,g,h1,by rw[g?_old u zOM];exact h2,by rw[act?_old u hr];exact h3,by rw[g?_old u hr];exact h4,heard_old u h5,fun k hk e=>?_⟩;obtain⟨z,hz,hza⟩:=Option.map_eq_some_iff.1 e;rcases getElem?_append_cases hz with⟨hlt,hz'⟩|⟨_,hzu⟩
 . exact h6 k hk (by unfold Trace.act?;rw[hz'];exact congrArg some hza)
 . exact hu z hzu hza
structure Sop(Still:Nat->Loc->Prop)(Wg i s s':Nat)(ops:Trace):Prop where
 norel:∀op∈ops,op.act≠.mark (.release (stA Wg))
 shy:s'<=6->∀op∈ops,∀b,op.act.touch?=some b->∀x,¬ Still x b.loc
 rel:s'<=6->7<=s->∃fn pos,ops=#[{ g:=i,fn:=fn,pos:=pos,act:=.mark (.releaseMerge (stA Wg)) }]
structure MJ(P:Program)(ty:TypeId)(Wg gone:Nat)(K:Nat->World->Prop)(Still:Nat->Loc->Prop)(Bd:Nat->Nat)(St:Nat->Seat)(Shun:Loc->Prop)(Loose:Nat->Prop)(d0:Nat)(pz:Bool)(role:Nat->Fv)(v wt sm:Nat)(T:Trace)(gs:Array Goroutine)(w:World):Prop where
 Ie:∀i g s m d,i≠0->gs[i]?=some g->role i=.fin s m d->Sw P ty Wg (K i) (Still i) (Bd i) (St i) s m d g w/\Deaf T i=d
 nine:∀i,i≠0->i<gs.size->(role i).stage=9->Loose i/\Bd i<=w.heap.size/\xq Still T i/\wu P ty Wg gone (St i)/\∀c,(St i).has c->c≠gone->c≠Wg/\∃k,w.heap[c]?=some (.chan 0 #[] false k k false)
 chan:gone≠Wg/\∃k,w.heap[gone]?=some (.chan 0 #[] true k k false)
 all:∀i,i≠0->i<gs.size->∃s m d,role i=.fin s m d
 zero:JE (role 0)=0
 deaf0:Deaf T 0=d0
 above:∀j,gs.size<=j->Deaf T j=0
 past:Gr Still Shun (fun _=>False) Loose w.heap.size (Knows T 0) T
 tight:¬ Loose 0
 wg:WgAt ty Wg w (v*KK+wt) sm
 mode:JG gs.size role pz v wt sm
 few:v<2147483648
 rel:∀j a,touchAt T j=some a->a.loc.isMemory=true->Knows T 0 j\/(∃g,T.g? j=some g/\g≠0/\g<gs.size/\7<=(role g).stage)\/Rl Wg T j\/(Shun a.loc/\a.kind=.atomic/\¬ T.counts j)
section
variable {P:Program}{ty:TypeId}{Wg gone d0:Nat}{K:Nat->World->Prop}{Still:Nat->Loc->Prop}{Bd:Nat->Nat}{St:Nat->Seat}{Shun:Loc->Prop}{Loose:Nat->Prop}{role:Nat->Fv}{pz:Bool}{v wt sm:Nat}{T:Trace}{gs:Array Goroutine}{w:World}
theorem Sw.status{K:World->Prop}{Still:Loc->Prop}{Bd:Nat}{st:Seat}{s m d:Nat}{g:Goroutine}(h:Sw P ty Wg K Still Bd st s m d g w):g.status=.running\/g.status=.finished:=by
 cases h with
 | seat hK hG=>exact .inl (Goes.running (fun _ _ ⟨_,x⟩=>x.1) w hK hG)
 | leave hG=>exact .inl (Goes.running (fun _ _ x=>x.1) w (FT w) hG)
 | fin _ hF=>exact hF.status
theorem Sw.rely{K:World->Prop}{Still:Loc->Prop}{Bd:Nat}{st:Seat}{s m d:Nat}{g:Goroutine}{w':World}(h:Sw P ty Wg K Still Bd st s m d g w)(hK:K w->K w')(hr:RX ty Wg w w'):Sw P ty Wg K Still Bd st s m d g w':=by
 cases h with
 | seat h hG=>exact .seat (hK h) hG
 | leave hG=>exact .leave (Goes.rely KL hG hr)
 | fin hs hF=>exact .fin hs (hF.rely hr)
theorem aQ.keep(E:Sj Wg K Still Shun){w':World}(hw:aQ Wg w w')(i:Nat)(h:K i w):K i w':=E.grow i w w' hw.size (fun b hb hlt=>hw.block hb hlt) h
theorem MJ.put(E:Sj Wg K Still Shun)(C:MJ P ty Wg gone K Still Bd St Shun Loose d0 pz role v wt sm T gs w){i:Nat}{g':Goroutine}{s' m' d' v' Nr sm':Nat}{w':World}{ops:Trace}{gs':Array Goroutine}(hw:aQ Wg w w')(hlt:i<gs.size)(h0:i≠0)(hops:∀op∈ops,op.g=i)(hst:∀op∈ops,∀b,op.act.touch?=some b->b.write=true->∀x,¬ Still x b.loc)(hsz:gs'.size=gs.size)(hoth:∀x,x≠i->x≠0->gs'[x]?=gs[x]?)(hself:gs'[i]?=some g')(hF:Sw P ty Wg (K i) (Still i) (Bd i) (St i) s' m' d' g' w')(h9:s'=9->(role i).stage=9)(hd:Deaf (T++ops) i=d')(hp:Gr Still Shun (fun _=>False) Loose w.heap.size (Knows (T++ops) 0) (T++ops))(hwg:WgAt ty Wg w' (v'*KK+Nr) sm')(hm:JG gs.size (upd role i (.fin s' m' d')) pz v' Nr sm')(hf:v'<2147483648)(qE:Sop Still Wg i (role i).stage s' ops)(hd0:7<=(role i).stage->s'<=6->Deaf T i=0) :
   MJ P ty Wg gone K Still Bd St Shun Loose d0 pz (upd role i (.fin s' m' d')) v' Nr sm' (T++ops) gs' w':=by
 have hrx:=Mw ty Wg ⟨_,_,C.wg⟩ ⟨_,_,hwg⟩;have hD:∀x,x≠i->Deaf (T++ops) x=Deaf T x:=fun x hx=>Deaf_other T (fun z=>hx z.symm) _ hops;have lt:∀{g:Nat} {o},w.heap[g]?=some o->g<w.heap.size:=fun h=>(zGE h).1;refine⟨fun x y s m d hx hy e=>?_,fun x hx hlx jo=>?_,?_,fun x hx hlx=>?_,?_,by rw[hD 0 (Ne.symm h0)];exact C.deaf0,fun j hj=>?_,hp.mono hw.size,C.tight,hwg,by rw[hsz];exact hm,hf,fun j a ha hmem=>?_⟩
 rotate_right
 . rcases hp.known j a ha hmem with hk | ⟨_,g,hg,hl,hS⟩ | hk
   . exact .inl hk
   . obtain⟨x,hx,hxa⟩:=touch_of ha;rcases getElem?_append_cases hx with⟨hlt',hx'⟩|⟨_,hxu⟩
     . rcases C.rel j a (by rw[touchAt_of hx'];exact hxa) hmem with hk | ⟨g',k1,k2,k3,k4⟩ | hk | ⟨hk,_,_⟩
       . exact .inl (hk.app _)
       . by_cases ei:g'=i
         . subst ei;rcases Nat.lt_or_ge s' 7 with h7|h7
           . right;right;left
             obtain⟨fn,pos,eo⟩:=qE.rel zOM k4;have hlast:(T++ops)[T.size]?=some { g:=g',fn:=fn,pos:=pos,act:=.mark (.releaseMerge (stA Wg)) }:=by rw[eo,Array.getElem?_append_right (Nat.le_refl _)];simp
             refine⟨T.size,g',hlt',by rw[g?_old ops hlt'];exact k1,by unfold Trace.act?;rw[hlast];rfl,by unfold Trace.g?;rw[hlast];rfl,⟨g',by unfold Trace.g?;rw[hlast];rfl,by rw[deaf_old (Nat.le_refl _)];exact hd0 k4 zOM⟩,fun k hk e=>?_⟩;have:=lt_of_act? e;rw[eo]at this;simp at this;omega
           . exact .inr (.inl ⟨g',by rw[g?_old ops hlt'];exact k1,k2,by rw[hsz];exact k3,by rw[upd_same];exact h7⟩)
         . exact .inr (.inl ⟨g',by rw[g?_old ops hlt'];exact k1,k2,by rw[hsz];exact k3,by rw[upd_ne _ _ ei];exact k4⟩)
       . exact .inr (.inr (.inl (hk.app qE.norel)))
       . exact absurd hk (E.apart _ _ hS)
     . rcases Nat.lt_or_ge s' 7 with h7 | h7
       . exact absurd hS (qE.shy zOM x hxu a hxa g)
       . exact .inr (.inl ⟨i,by unfold Trace.g?;rw[hx];exact congrArg some (hops x hxu),h0,by rw[hsz];exact hlt,by rw[upd_same];exact h7⟩)
   . exact .inr (.inr (.inr hk))
 . by_cases ex:x=i
   . subst ex;rw[upd_same]at e;cases e
     rw[hself]at hy;obtain rfl:=Option.some.inj hy;exact⟨hF,hd⟩
   . rw[upd_ne role _ ex]at e;rw[hoth x ex hx]at hy;obtain⟨a1,a2⟩:=C.Ie x y s m d hx hy e;rw[hD x ex];exact⟨a1.rely (hw.keep E x) hrx,a2⟩
 . have hold:(role x).stage=9:=by
     by_cases ex:x=i
     . subst ex;rw[upd_same]at jo;exact h9 jo
     . rw[upd_ne role _ ex]at jo;exact jo
   obtain⟨a1,a2,a3,a4,a5⟩:=C.nine x hx (by rw[← hsz];exact hlx) hold;refine⟨a1,Nat.le_trans a2 hw.size,a3.app fun op hop b hb hwr=>hst op hop b hb hwr x,a4,fun c hc hne=>?_⟩;obtain⟨b1,k,hk⟩:=a5 c hc hne;exact⟨b1,k,by rw[hw.block b1 (lt hk)];exact hk⟩
 . obtain⟨h1,k,hk⟩:=C.chan;exact⟨h1,k,by rw[hw.block h1 (lt hk)];exact hk⟩
 . by_cases ex:x=i
   . subst ex;exact⟨_,_,_,upd_same _ _ _⟩
   . rw[upd_ne role _ ex];exact C.all x hx (by rw[← hsz];exact hlx)
 . rw[upd_ne role _ (Ne.symm h0)];exact C.zero
 . rw[hD j zOM];exact C.above j zOM
theorem JG.congr{n:Nat}{r r':Nat->Fv}{pz:Bool}{v wt sm:Nat}(h:JG n r pz v wt sm)(hs:∀i,i<n->(r' i).stage=(r i).stage/\JE (r' i)=JE (r i)):JG n r' pz v wt sm:=by
 cases h with
 | b0 h1 hc=>exact .b0 (fun i h0 hi=>by rw[(hs i hi).1];exact h1 i h0 hi) (by rw[hc];exact Go.ConcN.sumTo_congr fun i hi=>((hs i hi).2).symm)
 | b1 hv h1 hc=>exact .b1 hv (fun i h0 hi=>by rw[(hs i hi).1];exact h1 i h0 hi) (by rw[hc];exact Go.ConcN.sumTo_congr fun i hi=>((hs i hi).2).symm)
 | b2 L hL hn h1 ho=>exact .b2 L hL hn (by rw[(hs L hn).1];exact h1) fun i a b c=>by rw[(hs i c).1];exact ho i a b c
 | b3 L hL hn h1 ho=>exact .b3 L hL hn (by rw[(hs L hn).1];exact h1) fun i a b c=>by rw[(hs i c).1];exact ho i a b c
 | b4 ho=>exact .b4 fun i a c=>by rw[(hs i c).1];exact ho i a c
theorem JG.on{n:Nat}{role:Nat->Fv}{pz:Bool}{v wt sm i s s' m m' d d':Nat}(h:JG n role pz v wt sm)(hi:i<n)(h0:i≠0)(er:role i=.fin s m d)(hs:5<=s)(hs':5<=s'/\s'<=9):JG n (upd role i (.fin s' m' d')) pz v wt sm:=by
 have e1:JE (role i)=1:=by rw[er];simp[JE,cn,hs]
 have e2:JE (.fin s' m' d')=1:=by simp[JE,cn,hs'.1]
 have hsum:=OE (role:=role) (r':=.fin s' m' d') hi;have hst:(role i).stage=s:=by rw[er];rfl
 have hst':∀x,x≠0->x<n->((5<=(role x).stage/\(role x).stage<=9)\/(role x).stage=1)->(5<=(upd role i (.fin s' m' d') x).stage/\(upd role i (.fin s' m' d') x).stage<=9)\/(upd role i (.fin s' m' d') x).stage=1:=fun x a b c=>by
  by_cases e:x=i
  . subst e;rw[upd_same];exact .inl hs'
  . rw[upd_ne _ _ e];exact c
 cases h with
 | b0 h1 hc=>exact .b0 (fun x a b=>hst' x a b (h1 x a b)) zOM
 | b1 hv h1 hc=>exact .b1 hv (fun x a b=>hst' x a b (h1 x a b)) zOM
 | b2 L hL hn h1 ho=>
  exfalso
  by_cases e:i=L
  . subst e;omega
  . have:=ho i h0 e hi;omega
 | b3 L hL hn h1 ho=>
  exfalso
  by_cases e:i=L
  . subst e;omega
  . have:=ho i h0 e hi;omega
 | b4 ho=>exfalso;have:=ho i h0 hi;omega
end
end
section
section
variable {P:Program}{ty:TypeId}{Wg gone d0:Nat}{K:Nat->World->Prop}{Still:Nat->Loc->Prop}{Bd:Nat->Nat}{St:Nat->Seat}{Shun:Loc->Prop}{Loose:Nat->Prop}{role:Nat->Fv}{pz:Bool}{v wt sm:Nat}{T:Trace}{gs:Array Goroutine}{w:World}
def YH(P:Program)(ty:TypeId)(Wg gone:Nat)(K:Nat->World->Prop)(Still:Nat->Loc->Prop)(Bd:Nat->Nat)(St:Nat->Seat)(Shun:Loc->Prop)(Loose:Nat->Prop)(d0:Nat)(pz:Bool)(role:Nat->Fv)(sm:Nat)(T:Trace)(gs:Array Goroutine)(w:World)(sl:Option (Nat × Nat))(i:Nat)(g:Goroutine):Prop:=
 ∃gs' w' ops r' v' Nr sm',runT P (crowd gs w sl) i=(.next (crowd gs' w' sl),ops)/\gs'.size=gs.size/\aQ Wg w w'/\(∀op∈ops,op.g=i)/\MJ P ty Wg gone K Still Bd St Shun Loose d0 pz (upd role i r') v' Nr sm' (T++ops) gs' w'/\Less gs.size (upd role i r') role/\JE r'<=JE (role i)/\
  ((gs'[0]?=gs[0]?/\sm'=sm)\/∃g',gs'[0]?=(gs[0]?).map (woken P g g' w')/\(sm'=1->sm=0->mayWake P g=true/\g'.status≠.blocked/\g'.status≠.waiting))
theorem MJ.go(E:Sj Wg K Still Shun)(C:MJ P ty Wg gone K Still Bd St Shun Loose d0 pz role v wt sm T gs w){i:Nat}{g g':Goroutine}{sl:Option (Nat × Nat)}{s m d s' m' d' v' Nr sm':Nat}{w':World}{es:Array Event}(hi:gs[i]?=some g)(h0:i≠0)(er:role i=.fin s m d)(hgo:stepG P false g w=.go g' w' es)(hw:aQ Wg w w')(hst:∀op∈MemOp.ofEvents i g.frame.fn g.frame.place es,∀b,op.act.touch?=some b->b.write=true->∀x,¬ Still x b.loc)(hF:Sw P ty Wg (K i) (Still i) (Bd i) (St i) s' m' d' g' w')(h9:s'=9->s=9)(hd:Deaf (T++MemOp.ofEvents i g.frame.fn g.frame.place es) i=d')(hp:Gr Still Shun (fun _=>False) Loose w.heap.size (Knows (T++MemOp.ofEvents i g.frame.fn g.frame.place es) 0) (T++MemOp.ofEvents i g.frame.fn g.frame.place es))(hwg:WgAt ty Wg w' (v'*KK+Nr) sm')(hm:JG gs.size (upd role i (.fin s' m' d')) pz v' Nr sm')(hf:v'<2147483648)(hless:s'<s\/(s'=s/\m'<m))(hsm:sm'=1->sm=0->mayWake P g=true/\g'.status≠.blocked/\g'.status≠.waiting)(hsx:(∀e∈es,MemAct.ofEvent e≠.mark (.release (stA Wg)))/\(s'<=6->∀e∈es,∀b,(MemAct.ofEvent e).touch?=some b->b.loc=.cell (stA Wg)\/b.loc=.cell (smA Wg))/\(s'<=6->7<=s->es=#[Go.ConcR.mk (.releaseMerge (stA Wg))]):=by refine⟨by simp[MemAct.ofEvent,rd,wr,Go.ConcR.mk,semEvents],by simp[MemAct.ofEvent,MemAct.touch?,rd,wr,Go.ConcR.mk,semEvents],fun _ _=>?_⟩;first | rfl | (exfalso;omega))(hd0:7<=s->s'<=6->Deaf T i=0:=by intro _ _;first | assumption | (exfalso;omega)) :
   YH P ty Wg gone K Still Bd St Shun Loose d0 pz role sm T gs w sl i g:=by
 have hlt:i<gs.size:=(zGE hi).1;have hi0:(i==0)=false:=by simp;omega
 refine⟨_,w',_,.fin s' m' d',v',Nr,sm',runT_crowd_go (sl:=sl) hi (by rw[hi0];exact hgo),by simp,hw,fun op hop=>by obtain⟨e,_,rfl⟩:=Conc.mem_ofEvents hop;rfl,?_,Hu hlt (by rw[er];exact hless),by rw[er];unfold JE cn;dsimp only;split<;>split<;>omega,.inr ⟨g',?_,hsm⟩⟩
 . refine C.put E hw hlt h0 (fun op hop=>by obtain⟨e,_,rfl⟩:=Conc.mem_ofEvents hop;rfl) hst (by simp) (fun x hx hx0=>?_) (Array.getElem?_setIfInBounds_self_of_lt (by simpa using hlt)) hF (fun e=>by rw[er];exact h9 e) hd hp hwg hm hf ⟨fun op hop=>?_,fun h6 op hop b hb x hS=>?_,fun h6 h7=>⟨g.frame.fn,g.frame.place,?_⟩⟩ (fun h7=>hd0 (by rw[er]at h7;exact h7))
   rotate_left
   . obtain⟨e,he,rfl⟩:=Conc.mem_ofEvents hop;exact hsx.1 e he
   . obtain⟨e,he,rfl⟩:=Conc.mem_ofEvents hop;rcases hsx.2.1 h6 e he b hb with hl|hl
     . rw[hl]at hS;exact E.apart x _ hS E.shun
     . rw[hl]at hS;exact E.apart x _ hS E.SB
   . rw[hsx.2.2 h6 (by rw[er]at h7;exact h7)];simp[ofEvents_eq,Go.ConcR.mk,MemAct.ofEvent]
   rw[Array.getElem?_setIfInBounds_ne (fun e=>hx e.symm),Array.getElem?_map];cases ey:gs[x]? with
   | none=>rfl
   | some y=>
     obtain⟨s2,m2,d2,e2⟩:=C.all x hx0 (zGE ey).1;simp[woken_of_again (again_of_running (C.Ie x y s2 m2 d2 hx0 ey e2).1.status w')]
 . rw[Array.getElem?_setIfInBounds_ne h0,Array.getElem?_map]
theorem MJ.by_step(E:Sj Wg K Still Shun)(C:MJ P ty Wg gone K Still Bd St Shun Loose d0 pz role v wt sm T gs w){i:Nat}{g:Goroutine}{sl:Option (Nat × Nat)}(hi:gs[i]?=some g)(h0:i≠0)(hrun:g.status=.running)(hz:∀y c,gs[0]?=some y->offersAt y c true=[]) :
  YH P ty Wg gone K Still Bd St Shun Loose d0 pz role sm T gs w sl i g:=by
 have hlt:i<gs.size:=(zGE hi).1;have hi0:(i==0)=false:=by simp;omega
 obtain⟨s,m,d,er⟩:=C.all i h0 hlt;obtain⟨hF,hD⟩:=C.Ie i g s m d h0 hi er;have hst:(role i).stage=s:=by rw[er];rfl
 have hops:∀(es:Array Event),∀op∈MemOp.ofEvents i g.frame.fn g.frame.place es,op.g=i:=fun es op hop=>by obtain⟨e,_,rfl⟩:=Conc.mem_ofEvents hop;rfl
 have hWs:Wg<w.heap.size:=(zGE C.wg).1;have TT:∀(t u:Trace) i,Knows t 0 i->Knows (t++u) 0 i:=fun t u i=>Knows.app u;have mute:∀(es:Array Event),(∀e∈es,(MemAct.ofEvent e).touch?=none/\(MemAct.ofEvent e).low (Wg+1))->Gr Still Shun (fun _=>False) Loose w.heap.size (Knows (T++MemOp.ofEvents i g.frame.fn g.frame.place es) 0) (T++MemOp.ofEvents i g.frame.fn g.frame.place es)/\(∀op∈MemOp.ofEvents i g.frame.fn g.frame.place es,∀b,op.act.touch?=some b->b.write=true->∀x,¬ Still x b.loc):=fun es hes=>by
  refine⟨C.past.mute (TT T _) (hops es) (fun op hop=>?_) (fun z=>z.elim) fun op hop=>?_,fun op hop b hb=>?_⟩
  . obtain⟨e,he,rfl⟩:=Conc.mem_ofEvents hop;exact(hes e he).1
  . obtain⟨e,he,rfl⟩:=Conc.mem_ofEvents hop;exact MemAct.low_mono hWs (hes e he).2
  . obtain⟨e,he,rfl⟩:=Conc.mem_ofEvents hop;rw[(hes e he).1]at hb;cases hb
 have vF:∀(ad:Addr) (es:Array Event),Shun (.cell ad)->(∀e∈es,e=⟨.cell ad,false,true⟩\/e=⟨.cell ad,true,true⟩)->∀op∈MemOp.ofEvents i g.frame.fn g.frame.place es,∀b,op.act.touch?=some b->b.write=true->∀x,¬ Still x b.loc:=fun ad es hS hes op hop b hb _ x hx=>by
  obtain⟨e,he,rfl⟩:=Conc.mem_ofEvents hop;have hloc:b.loc=.cell ad:=by rcases hes e he with rfl|rfl<;>(simp only[MemAct.ofEvent,MemAct.touch?,Option.some.injEq]at hb;subst hb;rfl)
  rw[hloc]at hx;exact E.apart x _ hx hS
 cases hF with
 | seat hK hG=>
  obtain⟨hL,hBd,hkn,⟨hwf,kk,z,hkk,TA⟩,hch⟩:=C.nine i h0 hlt hst;have hcase:(∃g₂,AtIn P false (K i) (Still i) (Bd i) (St i) g g₂)\/∃m' g' es,m=m'+1/\stepG P false g w=.go g' w es/\(∀e∈es,EvC (Still i) (Bd i) e)/\Goes P false (RK (K i)) (DS (Still i) (Bd i)) (fun g _=>∃g₂,AtIn P false (K i) (Still i) (Bd i) (St i) g g₂) m' g' w:=by
    cases m with
    | zero=>exact .inl (hG w hK)
    | succ m'=>
      rcases hG with hstop|⟨_,hstep⟩
      . exact .inl (hstop w hK)
      . have hs:=hstep w hK;cases hgo:stepG P false g w with
        | go g' w' es=>
          rw[hgo,goes_go]at hs;obtain⟨⟨rfl,hes⟩,hG'⟩:=hs;exact .inr ⟨m',g',es,rfl,rfl,hes,hG'⟩
        | _=>rw[hgo]at hs;exact hs.elim
  have rd1:∀(es:Array Event),(∀e∈es,EvC (Still i) (Bd i) e)->Gr Still Shun (fun _=>False) Loose w.heap.size (Knows (T++MemOp.ofEvents i g.frame.fn g.frame.place es) 0) (T++MemOp.ofEvents i g.frame.fn g.frame.place es)/\Deaf (T++MemOp.ofEvents i g.frame.fn g.frame.place es) i=0/\(∀op∈MemOp.ofEvents i g.frame.fn g.frame.place es,∀b,op.act.touch?=some b->b.write=true->∀x,¬ Still x b.loc):=fun es hes=>by obtain⟨_,hr,hl,hd⟩:=NA (fn:=g.frame.fn) (pos:=g.frame.place) hBd E.toEnv2.toEnv hes;refine⟨((Gr.Aaa C.past hkn hD).read (TT T _) rfl hL (hops es) hr (hd T) hl).fewer (fun _ h=>h.elim),(hd T).trans hD,fun op hop b hb hw=>?_⟩;rw[(hr op hop b hb).1]at hw;cases hw
  rcases hcase with⟨g₂,hat⟩|⟨m',g',es,rfl,hgo,hes,hG'⟩
  . obtain⟨_,_,_,_,hhome,es,hes,hstp⟩:=id hat;obtain⟨m',hgo⟩:=TA g₂ hhome;obtain⟨hp,hd',hw'⟩:=rd1 es hes;obtain⟨hgw,kg,hcg⟩:=C.chan;have Af6:∀x y c,x≠i->gs[x]?=some y->offersAt y c true=[]:=fun x y c hx hy=>by
      by_cases hx0:x=0
      . subst hx0;exact hz y c hy
      . obtain⟨s2,m2,d2,e2⟩:=C.all x hx0 (zGE hy).1;exact offersAt_of_not_blocked (fun hb=>by rcases(C.Ie x y s2 m2 d2 hx0 hy e2).1.status with z | z<;>rw[z]at hb<;>cases hb) c true
    have hpn:∀c,partners (gs.setIfInBounds i ph) c true=[]:=fun c=>partners_nil fun x y hy=>by
      rcases getElem?_stand gs i x y hy with⟨_,rfl⟩|⟨hx,hy'⟩
      . exact offersAt_ph _ _
      . exact Af6 x y c hx hy'
    have hno:∀(q:Nat) (c':CommCase),q≠kk->(St i).cases[q]?=some c'->NoWays w (gs.setIfInBounds i ph) c':=fun q c' hq hcq=>by
      obtain⟨c'',z',rfl⟩:=hwf.recvs c' (Array.mem_of_getElem? hcq);have hne:c''≠gone:=fun e=>by subst e;exact hq (hwf.apart q kk _ z' z hcq hkk)
      obtain⟨_,k2,hc2⟩:=hch c'' ⟨q,z',hcq⟩ hne;exact ways_recv_none hc2 (hpn c'')
    have hrt:=Yd (sl:=sl) (P:=P) hi (by rw[hi0];exact hstp w hK) hkk hno hcg (hpn gone);have hlast:∀op∈(#[{ g:=i,fn:=g₂.frame.fn,pos:=g₂.frame.place,act:=.recvClosed gone }]:Trace),op={ g:=i,fn:=g₂.frame.fn,pos:=g₂.frame.place,act:=.recvClosed gone }:=fun op hop=>by simpa using hop
    have pQ:∀op∈MemOp.ofEvents i g.frame.fn g.frame.place es++#[{ g:=i,fn:=g₂.frame.fn,pos:=g₂.frame.place,act:=.recvClosed gone }],op.g=i:=fun op hop=>by
      rcases Array.mem_append.1 hop with h|h
      . exact hops es op h
      . rw[hlast op h]
    have hd2:Deaf (T++(MemOp.ofEvents i g.frame.fn g.frame.place es++#[{ g:=i,fn:=g₂.frame.fn,pos:=g₂.frame.place,act:=.recvClosed gone }])) i=0:=by rw[← Array.append_assoc,Deaf_push];exact hd'
    refine⟨_,w,_,.fin 8 m' 0,v,wt,sm,hrt,by simp,.inl (.inl rfl),pQ,?_,Hu hlt (.inl (by rw[hst];simp[Fv.stage])),by rw[er];simp[JE,cn],.inl ⟨Array.getElem?_setIfInBounds_ne h0,rfl⟩⟩;refine C.put E (.inl (.inl rfl)) hlt h0 pQ (fun op hop b hb hwr x=>?_) (by simp) (fun x hx _=>Array.getElem?_setIfInBounds_ne (fun e=>hx e.symm)) (Array.getElem?_setIfInBounds_self_of_lt hlt) (.leave (hgo w ⟨_,_,C.wg⟩)) (fun e=>by omega) hd2 ?_ C.wg (C.mode.on hlt h0 er zOM zOM) C.few ⟨fun op hop=>?_,fun h=>by omega,fun h=>by omega⟩ (fun _ h=>by omega)
    rotate_right
    . rcases Array.mem_append.1 hop with h | h
      . obtain⟨e,he,rfl⟩:=Conc.mem_ofEvents h;obtain⟨x,rfl,_⟩:=hes e he;simp[MemAct.ofEvent]
      . rw[hlast op h];simp
    . rcases Array.mem_append.1 hop with h | h
      . exact hw' op h b hb hwr x
      . rw[hlast op h]at hb;cases hb
    . rw[← Array.append_assoc];refine hp.mute (TT _ _) (fun op hop=>by rw[hlast op hop]) (fun op hop=>by rw[hlast op hop];rfl) (fun z=>z.elim) fun op hop=>?_;rw[hlast op hop];exact(zGE hcg).1
  . obtain⟨hp,hd',hw'⟩:=rd1 es hes;exact C.go E hi h0 er hgo (.inl (.inl rfl)) hw' (.seat hK hG') (fun _=>rfl) hd' hp C.wg (C.mode.on hlt h0 er zOM zOM) C.few (.inr ⟨rfl,by omega⟩) (fun a b=>by omega) ⟨fun e he=>by obtain⟨x,rfl,_⟩:=hes e he;simp[MemAct.ofEvent],fun h=>by omega,fun h=>by omega⟩
 | leave hG=>
  rcases Gy (FT w) hG with⟨_,g',hgo,m',hG'⟩|⟨n',g',w',es,rfl,hgo,⟨rfl,hDA⟩,hG'⟩
  . have hes:∀e∈(#[Go.ConcR.mk (.releaseMerge (stA Wg))]:Array Event),(MemAct.ofEvent e).touch?=none/\(MemAct.ofEvent e).low (Wg+1):=fun e he=>by simp only[List.mem_toArray,List.mem_cons,List.not_mem_nil,or_false]at he;subst he;exact⟨rfl,Nat.lt_succ_self _⟩
    obtain⟨hp,hw'⟩:=mute _ hes;exact C.go E hi h0 er hgo (.inl (.inl rfl)) hw' (.fin zOM (.k1 hG')) (fun e=>by omega) (by rw[Deaf_own,hD];rfl) hp C.wg (C.mode.on hlt h0 er zOM zOM) C.few (.inl zOM) (fun a b=>by omega)
  . obtain⟨hp,hw'⟩:=mute #[] (by simp);have hwo:aQ Wg w w':=by
      rcases hDA with rfl|⟨o,ho,rfl⟩
      . exact .inl (.inl rfl)
      . exact .inr ⟨o,ho,rfl⟩
    have hwg':WgAt ty Wg w' (v*KK+wt) sm:=by
      rcases hDA with rfl|⟨o,ho,rfl⟩
      . exact C.wg
      . have:=C.wg;unfold WgAt at this ⊢;show(w.heap.push o)[Wg]?=_;rw[Array.getElem?_push,if_neg zOM];exact this
    exact C.go E hi h0 er hgo hwo hw' (.leave hG') (fun e=>by omega) (by rw[Deaf_own,hD];rfl) hp hwg' (C.mode.on hlt h0 er zOM zOM) C.few (.inr ⟨rfl,by omega⟩) (fun a b=>by omega)
 | fin hs7 hF=>
  have dc:∀{w':World} {es:Array Event},DC0 w w' es->w'=w/\es=#[]:=fun h=>⟨h.1,h.2⟩
  have quiet:∀(g':Goroutine) (es:Array Event) (m':Nat),stepG P false g w=.go g' w es->Fs P ty Wg s m' (deafBehind d es) g' w->m'<m->(∀e∈es,(MemAct.ofEvent e).touch?=none/\(MemAct.ofEvent e).low (Wg+1)/\MemAct.ofEvent e≠.mark (.release (stA Wg)))->YH P ty Wg gone K Still Bd St Shun Loose d0 pz role sm T gs w sl i g:=fun g' es m' hgo hF' hlt' hes=>by
    obtain⟨hp,hw'⟩:=mute es (fun e he=>⟨(hes e he).1,(hes e he).2.1⟩);refine C.go E hi h0 er hgo (.inl (.inl rfl)) hw' (.fin hs7 hF') (fun e=>e) (by rw[Deaf_own,hD]) hp C.wg (C.mode.congr fun x hx=>?_) C.few (.inr ⟨rfl,hlt'⟩) (fun a b=>by omega) ⟨fun e he=>(hes e he).2.2,fun _ e he b hb=>(by rw[(hes e he).1]at hb;cases hb),fun h6 h7=>absurd h7 zOM⟩;by_cases e:x=i
    . subst e;rw[upd_same,er];exact⟨rfl,rfl⟩
    . rw[upd_ne _ _ e];exact⟨rfl,rfl⟩
  have idle:∀(g':Goroutine) (w':World) (es:Array Event) (m':Nat),stepG P false g w=.go g' w' es->DC0 w w' es->Fs P ty Wg s m' d g' w'->m'<m->YH P ty Wg gone K Still Bd St Shun Loose d0 pz role sm T gs w sl i g:=fun g' w' es m' hgo hdc hF' hlt'=>by obtain⟨rfl,rfl⟩:=dc hdc;exact quiet g' #[] m' hgo (by simpa [deafBehind]using hF') hlt' (by simp)
  have lone:∀{Nr sm':Nat},JG gs.size role pz v wt sm->(s=4\/s=3\/s=2)->pz=true/\v=0/\sm=0/\((s=4\/s=3)->wt=1)/\(s=2->wt=0)/\∀x,x≠0->x≠i->x<gs.size->(role x).stage=1:=fun{Nr sm'} hmo hs=>by
    cases hmo with
    | b0 h1 hc=>exfalso;have:=h1 i h0 hlt;omega
    | b1 hv h1 hc=>exfalso;have:=h1 i h0 hlt;omega
    | b2 L hL hn h1 ho=>
      by_cases e:i=L
      . subst e;exact⟨rfl,rfl,rfl,fun _=>rfl,fun h2=>by omega,ho⟩
      . exfalso;have:=ho i h0 e hlt;omega
    | b3 L hL hn h1 ho=>
      by_cases e:i=L
      . subst e;exact⟨rfl,rfl,rfl,fun h2=>by omega,fun _=>rfl,ho⟩
      . exfalso;have:=ho i h0 e hlt;omega
    | b4 ho=>exfalso;have:=ho i h0 hlt;omega
  cases hF with
  | r0 h=>
    rcases Gy (FT w) h with⟨_,g',hgo,m',hG⟩|⟨n',g',w',es,rfl,hgo,Rv,hG⟩
    . have hes:∀e∈(#[Go.ConcR.mk (.releaseMerge (stA Wg))]:Array Event),(MemAct.ofEvent e).touch?=none/\(MemAct.ofEvent e).low (Wg+1):=fun e he=>by simp only[List.mem_toArray,List.mem_cons,List.not_mem_nil,or_false]at he;subst he;exact⟨rfl,Nat.lt_succ_self _⟩
      obtain⟨hp,hw'⟩:=mute _ hes;exact C.go E hi h0 er hgo (.inl (.inl rfl)) hw' (.fin zOM (.k1 hG)) (fun e=>by omega) (by rw[Deaf_own,hD];rfl) hp C.wg (C.mode.on hlt h0 er zOM zOM) C.few (.inl zOM) (fun a b=>by omega)
    . exact idle g' w' es n' hgo Rv (.r0 hG) zOM
  | k1 h=>
    rcases Gy (FT w) h with⟨_,g',hgo,m',hG⟩|⟨n',g',w',es,rfl,hgo,Rv,hG⟩
    . have hes:∀e∈(#[Go.ConcR.mk .disable]:Array Event),(MemAct.ofEvent e).touch?=none/\(MemAct.ofEvent e).low (Wg+1):=fun e he=>by simp only[List.mem_toArray,List.mem_cons,List.not_mem_nil,or_false]at he;subst he;exact⟨rfl,trivial⟩
      obtain⟨hp,hw'⟩:=mute _ hes;exact C.go E hi h0 er hgo (.inl (.inl rfl)) hw' (.fin zOM (.d1 hG)) (fun e=>by omega) (by rw[Deaf_own,hD];rfl) hp C.wg (C.mode.on hlt h0 er zOM zOM) C.few (.inl zOM) (fun a b=>by omega)
    . exact idle g' w' es n' hgo Rv (.k1 hG) zOM
  | d1 h=>
    rcases Gy (FT w) h with⟨_,hadd⟩|⟨n',g',w',es,rfl,hgo,Rv,hG⟩
    . have hmo:=C.mode;have WW:=C.wg;have Qe:=C.few;have hsum:=fun r'=>OE (role:=role) (r':=r') hlt;have e1:JE (role i)=1:=by rw[er];rfl
      have hev:∀e∈(#[rd (stA Wg),wr (stA Wg)]:Array Event),e=⟨.cell (stA Wg),false,true⟩\/e=⟨.cell (stA Wg),true,true⟩:=fun e he=>by simpa [rd,wr]using he
      have hp:=C.past.Ob (ad:=stA Wg) (TT T (MemOp.ofEvents i g.frame.fn g.frame.place #[rd (stA Wg),wr (stA Wg)])) (fun z=>z.elim) E.shun E.apart hWs (by rw[hD];omega) (fn:=g.frame.fn) (pos:=g.frame.place) (es:=#[rd (stA Wg),wr (stA Wg)]) hev;have hw':=vF (stA Wg) #[rd (stA Wg),wr (stA Wg)] E.shun hev;have hdf:Deaf (T++MemOp.ofEvents i g.frame.fn g.frame.place #[rd (stA Wg),wr (stA Wg)]) i=1:=by rw[Deaf_own,hD];rfl
      have lX:∀(h1:∀x,x≠0->x<gs.size->(5<=(role x).stage/\(role x).stage<=9)\/(role x).stage=1) q x,x≠0->x<gs.size->(5<=(upd role i (.fin 1 q 1) x).stage/\(upd role i (.fin 1 q 1) x).stage<=9)\/(upd role i (.fin 1 q 1) x).stage=1:=fun h1 q x a c=>by
        by_cases e:x=i
        . subst e;rw[upd_same];exact .inr rfl
        . rw[upd_ne _ _ e];exact h1 x a c
      cases hmo with
      | b0 h1 hc=>
        have hpos:1<=v:=by have:=Go.ConcN.le_sumTo (f:=fun a=>JE (role a)) hlt;omega
        obtain⟨v',rfl⟩:∃v',v=v'+1:=⟨v-1,by omega⟩
        obtain⟨g',hgo,_,hq⟩:=hadd v' 0 zOM zOM (by simpa using WW);obtain⟨q,hq⟩:=hq zOM;have hwg':WgAt ty Wg (w.setCell (stA Wg) (.int .u64 ((v':Int)*KK+((0:Nat):Int)))) ((v':Int)*KK+((0:Nat):Int)) ((0:Nat):Int):=by have:=WW.setSt ((v':Int)*KK+((0:Nat):Int));simpa using this
        refine C.go E hi h0 er hgo (.inl (.inr (.inl ⟨_,rfl⟩))) hw' (.fin zOM (.quit hq)) (fun e=>by omega) hdf hp hwg' (.b0 (lX h1 q) ?_) zOM (.inl zOM) (fun a b=>by omega);have:=hsum (.fin 1 q 1);have e2:JE (.fin 1 q 1)=0:=rfl;omega
      | b1 hv h1 hc=>
        obtain⟨v',rfl⟩:∃v',v=v'+1:=⟨v-1,by omega⟩
        obtain⟨g',hgo,hlast,hq⟩:=hadd v' 1 zOM zOM (by simpa using WW);have hwg':WgAt ty Wg (w.setCell (stA Wg) (.int .u64 ((v':Int)*KK+((1:Nat):Int)))) ((v':Int)*KK+((1:Nat):Int)) ((0:Nat):Int):=by have:=WW.setSt ((v':Int)*KK+((1:Nat):Int));simpa using this
        by_cases hz0:v'=0
        . subst hz0;obtain⟨m',hG⟩:=hlast ⟨rfl,rfl⟩;refine C.go E hi h0 er hgo (.inl (.inr (.inl ⟨_,rfl⟩))) hw' (.fin zOM (.d2 hG)) (fun e=>by omega) hdf hp hwg' (.b2 i h0 hlt (.inl (by rw[upd_same];rfl)) fun x a b c=>?_) zOM (.inl zOM) (fun a b=>by omega);rw[upd_ne _ _ b];have hx0:JE (role x)=0:=by
           have hs2:=hsum (.fin 1 0 0);have:JE (.fin 1 0 0)=0:=rfl;have hz0:(sumTo gs.size fun a=>JE (upd role i (.fin 1 0 0) a))=0:=by omega
           have:=Go.ConcN.le_sumTo (f:=fun a=>JE (upd role i (.fin 1 0 0) a)) (i:=x) (j:=gs.size) c;simp only[upd_ne role _ b]at this;omega
          obtain⟨s2,m2,d2,e2⟩:=C.all x a c;have h2:=h1 x a c;rw[e2]at hx0 h2 ⊢;simp only[Fv.stage,JE,cn]at hx0 h2 ⊢;split at hx0<;>omega
        . obtain⟨q,hq⟩:=hq zOM;refine C.go E hi h0 er hgo (.inl (.inr (.inl ⟨_,rfl⟩))) hw' (.fin zOM (.quit hq)) (fun e=>by omega) hdf hp hwg' (.b1 zOM (lX h1 q) ?_) zOM (.inl zOM) (fun a b=>by omega);have:=hsum (.fin 1 q 1);have e2:JE (.fin 1 q 1)=0:=rfl;omega
      | b2 L hL hn h1 ho=>
        exfalso
        by_cases e:i=L
        . subst e;omega
        . have:=ho i h0 e hlt;omega
      | b3 L hL hn h1 ho=>
        exfalso
        by_cases e:i=L
        . subst e;omega
        . have:=ho i h0 e hlt;omega
      | b4 ho=>exfalso;have:=ho i h0 hlt;omega
    . exact idle g' w' es n' hgo Rv (.d1 hG) zOM
  | d2 h=>
    obtain⟨rfl,rfl,rfl,hwt,_,ho⟩:=lone (Nr:=0) (sm':=0) C.mode (.inl rfl);obtain rfl:=hwt (.inl rfl);rcases Gy (FT w) h with⟨_,hld⟩|⟨n',g',w',es,rfl,hgo,Rv,hG⟩
    . obtain⟨g',hgo,m',hG⟩:=hld (by simpa using C.wg);have hev:∀e∈(#[rd (stA Wg)]:Array Event),e=⟨.cell (stA Wg),false,true⟩\/e=⟨.cell (stA Wg),true,true⟩:=fun e he=>by simp[rd]at he;exact .inl he
      exact C.go E hi h0 er hgo (.inl (.inl rfl)) (vF (stA Wg) _ E.shun hev) (.fin zOM (.d3 hG)) (fun e=>by omega) (by rw[Deaf_own,hD];rfl) (C.past.Ob (ad:=stA Wg) (TT T _) (fun z=>z.elim) E.shun E.apart hWs (by rw[hD];omega) hev) C.wg (.b2 i h0 hlt (.inr (by rw[upd_same];rfl)) fun x a b c=>by rw[upd_ne _ _ b];exact ho x a b c) C.few (.inl zOM) (fun a b=>by omega)
    . exact idle g' w' es n' hgo Rv (.d2 hG) zOM
  | d3 h=>
    obtain⟨rfl,rfl,rfl,hwt,_,ho⟩:=lone (Nr:=0) (sm':=0) C.mode (.inr (.inl rfl));obtain rfl:=hwt (.inr rfl);rcases Gy (FT w) h with⟨_,tX⟩|⟨n',g',w',es,rfl,hgo,Rv,hG⟩
    . obtain⟨g',hgo,m',hG⟩:=tX (by simpa using C.wg);have hev:∀e∈(#[wr (stA Wg)]:Array Event),e=⟨.cell (stA Wg),false,true⟩\/e=⟨.cell (stA Wg),true,true⟩:=fun e he=>by simp[wr]at he;exact .inr he
      exact C.go E hi h0 er hgo (.inl (.inr (.inl ⟨_,rfl⟩))) (vF (stA Wg) _ E.shun hev) (.fin zOM (.d4 hG)) (fun e=>by omega) (by rw[Deaf_own,hD];rfl) (C.past.Ob (ad:=stA Wg) (TT T _) (fun z=>z.elim) E.shun E.apart hWs (by rw[hD];omega) hev) (by have:=C.wg.setSt 0;simpa using this) (.b3 i h0 hlt (by rw[upd_same];rfl) fun x a b c=>by rw[upd_ne _ _ b];exact ho x a b c) C.few (.inl zOM) (fun a b=>by omega)
    . exact idle g' w' es n' hgo Rv (.d3 hG) zOM
  | d4 h=>
    obtain⟨rfl,rfl,rfl,_,hwt,ho⟩:=lone (Nr:=0) (sm':=0) C.mode (.inr (.inr rfl));obtain rfl:=hwt rfl;rcases Gy (FT w) h with⟨_,hmw,hrel⟩|⟨n',g',w',es,rfl,hgo,Rv,hG⟩
    . obtain⟨g',hgo,q,hq⟩:=hrel (by simpa using C.wg);obtain⟨hp,hdf⟩:=C.past.sem (Kf:=fun T=>Knows T 0) rfl TT (fun z=>z.elim) E.SB E.apart (show(smA Wg).block<_ from hWs) g.frame.fn g.frame.place;refine C.go E hi h0 er hgo (.inl (.inr (.inr ⟨_,rfl⟩))) (fun op hop b hb hwr x hx=>?_) (.fin zOM (.quit hq)) (fun e=>by omega) (by rw[hdf,hD]) hp (by have:=C.wg.setSm 1;simpa using this) (.b4 fun x a c=>?_) C.few (.inl zOM) (fun a b=>⟨hmw,by rcases hq.status with z | z<;>rw[z]<;>simp⟩)
      . obtain⟨e,he,rfl⟩:=Conc.mem_ofEvents hop;simp only[semEvents,List.mem_toArray,List.mem_cons,List.not_mem_nil,or_false]at he;rcases he with rfl|rfl|rfl|rfl<;>simp[MemAct.ofEvent,MemAct.touch?]at hb
        all_goals
          subst hb;exact E.apart x _ hx E.SB
      . by_cases e:x=i
        . subst e;rw[upd_same];rfl
        . rw[upd_ne _ _ e];exact ho x a e c
    . exact idle g' w' es n' hgo Rv (.d4 hG) zOM
  | quit h=>
    cases m with
    | zero=>rw[h.1]at hrun;cases hrun
    | succ m=>
      rcases h with⟨hf,_⟩|⟨_,g',es,hm,hgo,hq⟩
      . rw[hf]at hrun;cases hrun
      . exact quiet g' es m (hgo w) (.quit hq) zOM fun e he=>⟨touch_mute (hm e he),low_mute (hm e he) _,fun h=>by have:=hm e he;obtain⟨l,a,b⟩:=e;cases l<;>cases a<;>cases b<;>simp_all [MemAct.ofEvent,Event.mute]⟩
end
end
section
inductive QP | pre | loop (v:Nat) | seen (v:Nat) | sem | last | out | hear
inductive KR(P:Program)(ty:TypeId)(Wg n:Nat)(Stop:Goroutine->Prop):QP->Goroutine->Prop
 | idle {p:QP} {g g':Goroutine} (hs:g.status=.running) (h:∀w,WgLive ty Wg w->stepG P true g w=.go g' w #[]) (k:KR P ty Wg n Stop p g'):KR P ty Wg n Stop p g
 | said {p:QP} {g g':Goroutine} {m:Mark} (hm:Says Wg m) (hr:m≠.release (stA Wg)) (hs:g.status=.running) (h:∀w,WgLive ty Wg w->stepG P true g w=.go g' w #[mk m]) (k:KR P ty Wg n Stop p g'):KR P ty Wg n Stop p g
 | aU {g g':Goroutine} (hs:g.status=.running) (h:∀w,WgLive ty Wg w->stepG P true g w=.go g' w #[mk .disable]) (k:KR P ty Wg n Stop (.loop n) g'):KR P ty Wg n Stop .pre g
 | load {v:Nat} {g:Goroutine} {g':Nat->Goroutine} (hs:g.status=.running) (h:∀(w:World) (v':Nat),v'<2147483648->WgAt ty Wg w (v'*KK) 0->stepG P true g w=.go (g' v') w #[rd (stA Wg)])
   (k0:KR P ty Wg n Stop .out (g' 0)) (k1:∀v',v'<=v->v'≠0->v'<2147483648->KR P ty Wg n Stop (.seen v') (g' v')):KR P ty Wg n Stop (.loop v) g
 | cas {v:Nat} {g gh gm:Goroutine} (hs:g.status=.running) (hv:v≠0) (h:∀w,WgAt ty Wg w (v*KK) 0->stepG P true g w=.go gh (w.setCell (stA Wg) (.int .u64 (v*KK+1))) #[rd (stA Wg),wr (stA Wg)])
   (m:∀(w:World) (v':Nat),v'<v->WgAt ty Wg w (v'*KK) 0->stepG P true g w=.go gm w #[rd (stA Wg)]) (kh:KR P ty Wg n Stop .sem gh) (km:∀v',v'<v->KR P ty Wg n Stop (.loop v') gm):KR P ty Wg n Stop (.seen v) g
 | acq {g g':Goroutine} (hs:g.status=.running) (ho:g.offers=none) (hb:∀w,(∃st,WgAt ty Wg w st 0)->stepG P true g w=.go { g with status:=.blocked } w #[])
   (h:∀w,WgAt ty Wg w 0 1->stepG P true g w=.go g' (w.setCell (smA Wg) (.int .u32 0)) (semEvents (smA Wg))) (k:KR P ty Wg n Stop .last g'):KR P ty Wg n Stop .sem g
 | last {g g':Goroutine} (hs:g.status=.running) (h:∀w,WgAt ty Wg w 0 0->stepG P true g w=.go g' w #[rd (stA Wg)]) (k:KR P ty Wg n Stop .out g'):KR P ty Wg n Stop .last g
 | en {g g':Goroutine} (hs:g.status=.running) (h:∀w,WgLive ty Wg w->stepG P true g w=.go g' w #[mk .enable]) (k:KR P ty Wg n Stop .hear g'):KR P ty Wg n Stop .out g
 | heard {g g':Goroutine} (hs:g.status=.running) (h:∀w,WgLive ty Wg w->stepG P true g w=.go g' w #[mk (.acquire (stA Wg))]) (k:Stop g'):KR P ty Wg n Stop .hear g
structure Vy(Wg:Nat)(w w':World):Prop where
 os:w'.os=w.os
 output:w'.output=w.output
 size:w.heap.size<=w'.heap.size
 block:∀b,b≠Wg->b<w.heap.size->w'.heap[b]?=w.heap[b]?
theorem Vy.refl(Wg:Nat)(w:World):Vy Wg w w:=⟨rfl,rfl,Nat.le_refl _,fun _ _ _=>rfl⟩
theorem Vy.trans{Wg:Nat}{a b c:World}(h:Vy Wg a b)(k:Vy Wg b c):Vy Wg a c:=⟨k.os.trans h.os,k.output.trans h.output,Nat.le_trans h.size k.size,fun x hx hl=>(k.block x hx (Nat.lt_of_lt_of_le hl h.size)).trans (h.block x hx hl)⟩
theorem Vy.of{Wg:Nat}{w w':World}(h:aQ Wg w w'):Vy Wg w w':=⟨by
 rcases h with h|⟨o,_,rfl⟩
 . rcases h with rfl | ⟨x,rfl⟩ | ⟨x,rfl⟩<;>rfl
 . rfl,by
 rcases h with h|⟨o,_,rfl⟩
 . rcases h with rfl | ⟨x,rfl⟩ | ⟨x,rfl⟩<;>rfl
 . rfl,h.size,fun b hb hl=>h.block hb hl⟩
theorem Vy.at(Wg:Nat)(w:World)(d:Nat):Vy Wg w (w.at d):=⟨rfl,rfl,Nat.le_refl _,fun _ _ _=>rfl⟩
section
variable {P:Program}{ty:TypeId}{Wg gone d0:Nat}{K:Nat->World->Prop}{Still:Nat->Loc->Prop}{Bd:Nat->Nat}{St:Nat->Seat}{Shun:Loc->Prop}{Loose:Nat->Prop}{role:Nat->Fv}{pz:Bool}{v wt sm:Nat}{T:Trace}{gs:Array Goroutine}{w:World}
theorem MJ.at(E:Sj Wg K Still Shun)(C:MJ P ty Wg gone K Still Bd St Shun Loose d0 pz role v wt sm T gs w)(d:Nat):MJ P ty Wg gone K Still Bd St Shun Loose d0 pz role v wt sm T gs (w.at d):=
 ⟨fun i g s m dd h0 hg e=>let⟨a,b⟩:=C.Ie i g s m dd h0 hg e;⟨a.rely (E.kat i w d) (Mw ty Wg ⟨_,_,C.wg⟩ ⟨_,_,C.wg⟩),b⟩,C.nine,C.chan,C.all,C.zero,C.deaf0,C.above,C.past,C.tight,C.wg,C.mode,C.few,C.rel⟩
theorem JG.open{n:Nat}(h:JG n role false v wt sm):wt=0/\sm=0/\(∀i,i≠0->i<n->(5<=(role i).stage/\(role i).stage<=9)\/(role i).stage=1)/\v=sumTo n fun i=>JE (role i):=by
 cases h with
 | b0 hs hc=>exact⟨rfl,rfl,hs,hc⟩
theorem MJ.Qi(E:Sj Wg K Still Shun)(C:MJ P ty Wg gone K Still Bd St Shun Loose d0 pz role v wt sm T gs w){a a':Goroutine}{w':World}{fn:FuncId}{pos:String}{es:Array Event}{d1 v' Nr sm':Nat}{pz':Bool}(ha:gs[0]?=some a)(hw:JY Wg w w')(hes:∀e∈es,(∀b,(MemAct.ofEvent e).touch?=some b->Shun b.loc/\b.kind≠.plain)/\(MemAct.ofEvent e).low (Wg+1)/\MemAct.ofEvent e≠.mark (.release (stA Wg)))(hd:Deaf (T++MemOp.ofEvents 0 fn pos es) 0=d1)(hwg:WgAt ty Wg w' (v'*KK+Nr) sm')(hm:JG gs.size role pz' v' Nr sm')(hf:v'<2147483648) :
   MJ P ty Wg gone K Still Bd St Shun Loose d1 pz' role v' Nr sm' (T++MemOp.ofEvents 0 fn pos es) ((gs.map (woken P a a' w')).setIfInBounds 0 a') w'/\((gs.map (woken P a a' w')).setIfInBounds 0 a')[0]?=some a':=by
 have hlt:0<gs.size:=(zGE ha).1;have hrx:=Mw ty Wg ⟨_,_,C.wg⟩ ⟨_,_,hwg⟩;have hops:∀op∈MemOp.ofEvents 0 fn pos es,op.g=0:=fun op hop=>by obtain⟨e,_,rfl⟩:=Conc.mem_ofEvents hop;rfl
 have hD:∀x,x≠0->Deaf (T++MemOp.ofEvents 0 fn pos es) x=Deaf T x:=fun x hx=>Deaf_other T (fun z=>hx z.symm) _ hops;have hwo:aQ Wg w w':=.inl hw;have hWs:Wg<w.heap.size:=(zGE C.wg).1;have lt:∀{g:Nat} {o},w.heap[g]?=some o->g<w.heap.size:=fun h=>(zGE h).1;have su:∀op∈MemOp.ofEvents 0 fn pos es,∀b,op.act.touch?=some b->Shun b.loc/\b.kind≠.plain:=fun op hop b hb=>by obtain⟨e,he,rfl⟩:=Conc.mem_ofEvents hop;exact(hes e he).1 b hb
 have hp:Gr Still Shun (fun _=>False) Loose w.heap.size (Knows (T++MemOp.ofEvents 0 fn pos es) 0) (T++MemOp.ofEvents 0 fn pos es):=C.past.hold C.tight hops (fun op hop b hb=>⟨fun g _ hS=>absurd (su op hop b hb).1 (E.apart g _ hS),fun _=>(su op hop b hb).2⟩) (fun z=>z.elim) fun op hop=>by obtain⟨e,he,rfl⟩:=Conc.mem_ofEvents hop;exact MemAct.low_mono hWs (hes e he).2.1
 refine⟨⟨fun x y s m d hx hy e=>?_,fun x hx hlx jo=>?_,?_,fun x hx hlx=>C.all x hx (by simpa using hlx),C.zero,hd,fun j hj=>?_,hp.mono hwo.size,C.tight,hwg,by simpa using hm,hf,fun j b hb hmem=>?_⟩,Array.getElem?_setIfInBounds_self_of_lt (by simpa using hlt)⟩
 rotate_right
 . rcases hp.known j b hb hmem with hk | ⟨_,g,hg,hl,hS⟩ | hk
   . exact .inl hk
   . obtain⟨x,hx,hxa⟩:=touch_of hb;rcases getElem?_append_cases hx with⟨hlt',hx'⟩|⟨_,hxu⟩
     . rcases C.rel j b (by rw[touchAt_of hx'];exact hxa) hmem with hk | ⟨g',k1,k2,k3,k4⟩ | hk | ⟨hk,_,_⟩
       . exact .inl (hk.app _)
       . exact .inr (.inl ⟨g',by rw[g?_old _ hlt'];exact k1,k2,by simpa using k3,k4⟩)
       . refine .inr (.inr (.inl (hk.app fun op hop=>?_)));obtain⟨e,he,rfl⟩:=Conc.mem_ofEvents hop;exact(hes e he).2.2
       . exact absurd hk (E.apart _ _ hS)
     . have:=knows_own hx;rw[hops x hxu]at this;exact .inl this
   . exact .inr (.inr (.inr hk))
 . rw[Array.getElem?_setIfInBounds_ne (fun z=>hx z.symm),Array.getElem?_map]at hy;obtain⟨y0,hy0,rfl⟩:=Option.map_eq_some_iff.1 hy;obtain⟨a1,a2⟩:=C.Ie x y0 s m d hx hy0 e;rw[woken_of_again (again_of_running a1.status w'),hD x hx];exact⟨a1.rely (hwo.keep E x) hrx,a2⟩
 . obtain⟨a1,a2,a3,a4,a5⟩:=C.nine x hx (by simpa using hlx) jo;refine⟨a1,Nat.le_trans a2 hwo.size,a3.app fun op hop b hb _ hS=>E.apart x _ hS (su op hop b hb).1,a4,fun c hc hne=>?_⟩;obtain⟨b1,k,hk⟩:=a5 c hc hne;exact⟨b1,k,by rw[hwo.block b1 (lt hk)];exact hk⟩
 . obtain⟨h1,k,hk⟩:=C.chan;exact⟨h1,k,by rw[hwo.block h1 (lt hk)];exact hk⟩
 . have hj':gs.size<=j:=by simpa using hj
   rw[hD j zOM];exact C.above j hj'
theorem MJ.awake(C:MJ P ty Wg gone K Still Bd St Shun Loose d0 pz role v wt sm T gs w){a:Goroutine}(ha:gs[0]?=some a)(hs:a.status=.running\/a.status=.blocked):∀g∈gs,awake g:=by
 intro g hg;obtain⟨i,hi,rfl⟩:=Array.mem_iff_getElem.1 hg;by_cases h0:i=0
 . subst h0;have:gs[0]=a:=by simpa [Array.getElem?_eq_getElem hi]using ha
   rw[this];exact awake_of (hs.imp id .inl)
 . obtain⟨s,m,d,e⟩:=C.all i h0 hi;exact awake_of ((C.Ie i _ s m d h0 (Array.getElem?_eq_getElem hi) e).1.status.imp id .inr)
theorem uU{n i:Nat}{r':Fv}(hi:i<n)(h:JE r'<=JE (role i)):(sumTo n fun a=>JE (upd role i r' a))<=sumTo n fun a=>JE (role a):=by have:=OE (role:=role) (r':=r') hi;omega
theorem MJ.picked(E:Sj Wg K Still Shun){a:Goroutine}(hrun:a.status=.running):∀(m1 m2:Nat) {role:Nat->Fv} {v wt sm:Nat} {T:Trace} {gs:Array Goroutine} {w:World} {sl:Option (Nat × Nat)},M1 gs.size role=m1->M2 gs.size role=m2->gs[0]?=some a->
   MJ P ty Wg gone K Still Bd St Shun Loose d0 pz role v wt sm T gs w->
   ∃N gs' w' d sl' sl'' T' FK v' Nr sm',runNT P N (crowd gs w sl) T=(.next (crowd gs' w' sl'),T')/\stepT P (crowd gs' w' sl')=runT P (crowd gs' (w'.at d) sl'') 0/\gs'.size=gs.size/\gs'[0]?=some a/\
    MJ P ty Wg gone K Still Bd St Shun Loose d0 pz FK v' Nr sm' T' gs' (w'.at d)/\Vy Wg w (w'.at d)/\(pz=false->v'<=v):=by
 intro m1;induction m1 using Nat.strongRecOn with
 | _ m1 ih1=>
 intro m2;induction m2 using Nat.strongRecOn with
 | _ m2 ih2=>
 intro role v wt sm T gs w sl hm1 hm2 ha C;obtain⟨i,g,d,sl',hi,hg,hst⟩:=crowd_pick (P:=P) (w:=w) (sl:=sl) (C.awake ha (.inl hrun)) ⟨0,a,ha,hrun⟩;rcases Nat.eq_zero_or_pos i with rfl|hpos
 . exact⟨0,gs,w,d,sl,sl',T,role,v,wt,sm,rfl,hst,rfl,ha,C.at E d,.at _ _ _,fun _=>Nat.le_refl _⟩
 . have h0:i≠0:=by omega
   have hlt:i<gs.size:=(zGE hi).1;obtain⟨gs',w',ops,r',v',Nr,sm',hrt,hsz,hw,hops,C',hless,hcn,hz⟩:=(C.at E d).by_step (sl:=sl') E hi h0 hg fun y c hy=>by
    rw[ha]at hy;cases hy
    exact offersAt_of_not_blocked (by rw[hrun];simp) c true
   have ha':gs'[0]?=some a:=by
    rcases hz with⟨h,_⟩|⟨g',h,_⟩
    . rw[h];exact ha
    . rw[h,ha];show some _=_;rw[woken_of_again (again_of_running (.inl hrun) w')]
   have hv:pz=false->v'<=v:=fun hp=>by subst hp;have h1:=C.mode.open.2.2.2;have h2:=C'.mode.open.2.2.2;have h3:=uU (role:=role) (r':=r') hlt hcn;rw[hsz]at h2;omega
   have key:∃N GN w₂ d₂ sl₁ sl₂ T' FK v₂ bU dD,runNT P N (crowd gs' w' sl') (T++ops)=(.next (crowd GN w₂ sl₁),T')/\stepT P (crowd GN w₂ sl₁)=runT P (crowd GN (w₂.at d₂) sl₂) 0/\GN.size=gs'.size/\GN[0]?=some a/\
      MJ P ty Wg gone K Still Bd St Shun Loose d0 pz FK v₂ bU dD T' GN (w₂.at d₂)/\Vy Wg w' (w₂.at d₂)/\(pz=false->v₂<=v'):=by
    rcases hless with hl|⟨hl1,hl2⟩
    . exact ih1 (M1 gs'.size (upd role i r')) (by rw[hsz,← hm1];exact hl) _ rfl rfl ha' C'
    . exact ih2 (M2 gs'.size (upd role i r')) (by rw[hsz,← hm2];exact hl2) (by rw[hsz,hl1,hm1]) rfl ha' C'
   obtain⟨N,GN,w₂,d₂,sl₁,sl₂,T',FK,v₂,bU,dD,q1,q2,q3,q4,q5,q6,q7⟩:=key;exact⟨N+1,GN,w₂,d₂,sl₁,sl₂,T',FK,v₂,bU,dD,by simp only[runNT,hst,hrt];exact q1,q2,q3.trans hsz,q4,q5,((Vy.at Wg w d).trans (.of hw)).trans q6,fun h=>Nat.le_trans (q7 h) (hv h)⟩
end
end
section
section
variable {P:Program}{ty:TypeId}{Wg gone:Nat}{K:Nat->World->Prop}{Still:Nat->Loc->Prop}{Bd:Nat->Nat}{St:Nat->Seat}{Shun:Loc->Prop}{Loose:Nat->Prop}
def Ml(P:Program)(Wg:Nat)(Φ:Trace->Array Goroutine->World->Prop)(Stop:Goroutine->Prop)(gs:Array Goroutine)(w:World)(sl:Option (Nat × Nat))(T:Trace):Prop:=
 ∃N gs' g' w' sl' T',runNT P N (crowd gs w sl) T=(.next (crowd gs' w' sl'),T')/\gs'.size=gs.size/\gs'[0]?=some g'/\Stop g'/\Φ T' gs' w'/\Vy Wg w w'
variable {d0 d1:Nat}{Φ:Trace->Array Goroutine->World->Prop}{Stop:Goroutine->Prop}{role:Nat->Fv}{pz:Bool}{v wt sm:Nat}{T:Trace}{gs:Array Goroutine}{w:World}{sl:Option (Nat × Nat)}
theorem Ml.back{m:Nat}{gs₁ GN:Array Goroutine}{w₁ w₂:World}{sl₁ sl₂:Option (Nat × Nat)}{T₁ ops:Trace}(h:runNT P m (crowd gs w sl) T=(.next (crowd gs₁ w₁ sl₁),T₁))(hst:stepT P (crowd gs₁ w₁ sl₁)=(.next (crowd GN w₂ sl₂),ops))(hs:GN.size=gs.size)(hg:Vy Wg w w₂)(k:Ml P Wg Φ Stop GN w₂ sl₂ (T₁++ops)):Ml P Wg Φ Stop gs w sl T:=by
 obtain⟨N,gs',g',w',sl',T',q1,q2,q3,q4,q5,q6⟩:=k;exact⟨m+(N+1),gs',g',w',sl',T',runNT_then h (by simp only[runNT,hst];exact q1),q2.trans hs,q3,q4,q5,hg.trans q6⟩
theorem ZJ{m:Mark}(hm:Says Wg m)(d:Nat):deafBehind d #[mk m]=d:=by have h1:=hm.aU;have h2:=hm.en;cases m<;>simp_all [deafBehind,mk,MemAct.ofEvent]
theorem rW(hsh:∀a:Addr,a.block=Wg->Shun (.cell a)):∀e∈semEvents (smA Wg),(∀b,(MemAct.ofEvent e).touch?=some b->Shun b.loc/\b.kind≠.plain)/\(MemAct.ofEvent e).low (Wg+1)/\MemAct.ofEvent e≠.mark (.release (stA Wg)):=by
 intro e he;simp only[semEvents,List.mem_toArray,List.mem_cons,List.not_mem_nil,or_false]at he;rcases he with rfl|rfl|rfl|rfl<;>refine⟨fun b hb=>?_,?_⟩<;>first|exact⟨trivial,by simp[MemAct.ofEvent]⟩|exact⟨Nat.lt_succ_self _,by simp[MemAct.ofEvent]⟩|skip
 all_goals simp[MemAct.ofEvent,MemAct.touch?]at hb
 all_goals
  subst hb;exact⟨hsh _ rfl,by simp⟩
theorem Yw(hsh:∀a:Addr,a.block=Wg->Shun (.cell a)){es:Array Event}(hes:∀e∈es,e=rd (stA Wg)\/e=wr (stA Wg)):∀e∈es,(∀b,(MemAct.ofEvent e).touch?=some b->Shun b.loc/\b.kind≠.plain)/\(MemAct.ofEvent e).low (Wg+1)/\MemAct.ofEvent e≠.mark (.release (stA Wg)):=by
 intro e he;rcases hes e he with rfl|rfl<;>refine⟨fun b hb=>?_,Nat.lt_succ_self _,by simp[MemAct.ofEvent,rd,wr]⟩
 all_goals
  simp[MemAct.ofEvent,MemAct.touch?,rd,wr]at hb;subst hb;exact⟨hsh _ rfl,by simp⟩
theorem YB{m:Mark}(h:∀b,(MemAct.ofEvent (mk m)).touch?=some b->Shun b.loc/\b.kind≠.plain)(hl:(MemAct.ofEvent (mk m)).low (Wg+1))(hr:m≠.release (stA Wg)):∀e∈#[mk m],(∀b,(MemAct.ofEvent e).touch?=some b->Shun b.loc/\b.kind≠.plain)/\(MemAct.ofEvent e).low (Wg+1)/\MemAct.ofEvent e≠.mark (.release (stA Wg)):=by intro e he;simp only[List.mem_toArray,List.mem_cons,List.not_mem_nil,or_false]at he;subst he;exact⟨h,hl,fun z=>hr (by simpa [mk,MemAct.ofEvent]using z)⟩
structure Aq(P:Program)(ty:TypeId)(Wg:Nat)(g g':Goroutine):Prop where
 hs:g.status=.running
 ho:g.offers=none
 hb:∀w,(∃st,WgAt ty Wg w st 0)->stepG P true g w=.go { g with status:=.blocked } w #[]
 h:∀w,WgAt ty Wg w 0 1->stepG P true g w=.go g' (w.setCell (smA Wg) (.int .u32 0)) (semEvents (smA Wg))
theorem Aae(E:Sj Wg K Still Shun)(hsh:∀a:Addr,a.block=Wg->Shun (.cell a)){a0 g':Goroutine}(A:Aq P ty Wg a0 g'):∀(m1 m2:Nat) {a:Goroutine} {role:Nat->Fv} {v wt sm:Nat} {T:Trace} {gs:Array Goroutine} {w:World} {sl:Option (Nat × Nat)},M1 gs.size role=m1->M2 gs.size role=m2->gs[0]?=some a->
   (a=a0\/(a={ a0 with status:=.blocked }/\sm≠1))->MJ P ty Wg gone K Still Bd St Shun Loose 1 true role v wt sm T gs w->Ml P Wg (fun T gs w=>∃role,MJ P ty Wg gone K Still Bd St Shun Loose 1 false role 0 0 0 T gs w) (fun g=>g=g') gs w sl T:=by
 intro m1;induction m1 using Nat.strongRecOn with
 | _ m1 ih1=>
 intro m2;induction m2 using Nat.strongRecOn with
 | _ m2 ih2=>
 have hsb:∀{s:GoStatus},({ a0 with status:=s }:Goroutine).offers=none:=fun{s}=>A.ho;have VI:∀{a:Goroutine} {role:Nat->Fv} {v wt sm:Nat} {T:Trace} {gs:Array Goroutine} {w:World} {sl sl':Option (Nat × Nat)} {i d:Nat} {g:Goroutine},M1 gs.size role=m1->M2 gs.size role=m2->gs[0]?=some a->
     (a=a0\/(a={ a0 with status:=.blocked }/\sm≠1))->MJ P ty Wg gone K Still Bd St Shun Loose 1 true role v wt sm T gs w->gs[i]?=some g->i≠0->g.status=.running->stepT P (crowd gs w sl)=runT P (crowd gs (w.at d) sl') i->
     Ml P Wg (fun T gs w=>∃role,MJ P ty Wg gone K Still Bd St Shun Loose 1 false role 0 0 0 T gs w) (fun g=>g=g') gs w sl T:=by
   intro a role v wt sm T gs w sl sl' i d g hm1 hm2 ha hA C hi h0 hrun hst;obtain⟨gs',w',ops,r',v',Nr,sm',hrt,hsz,hw,hops,C',hless,hcn,hz⟩:=(C.at E d).by_step (sl:=sl') E hi h0 hrun fun y c hy=>by
     rw[ha]at hy;cases hy
     have:a.offers=none:=by
       rcases hA with rfl|⟨rfl,_⟩
       . exact A.ho
       . exact hsb
     unfold offersAt;rw[this];cases a.status<;>rfl
   have hag:Goroutine.again w' { a0 with status:=.blocked }=a0:=by have h1:=A.hs;have h2:=A.ho;obtain⟨f1,f2,f3,f4,f5⟩:=a0;simp only at h1 h2;subst h1 h2;rfl
   have ha':∃a',gs'[0]?=some a'/\(a'=a0\/(a'={ a0 with status:=.blocked }/\sm'≠1)):=by
     rcases hz with⟨h,hsm⟩|⟨g₂,h,hwk⟩
     . exact⟨a,by rw[h];exact ha,by rw[hsm];exact hA⟩
     . rw[ha]at h;refine⟨_,h,?_⟩;rcases hA with rfl|⟨rfl,hsm⟩
       . exact .inl (woken_of_again (again_of_running (.inl A.hs) w'))
       . by_cases hwo:(mayWake P g&&g₂.status != .blocked&&g₂.status != .waiting)=true
         . refine .inl ?_;unfold woken;rw[if_pos hwo];exact hag
         . refine .inr ⟨?_,fun hs1=>?_⟩
           . unfold woken;rw[if_neg hwo]
           . have Agk:sm=0:=by have hmo:=C.mode;cases hmo<;>first | rfl | exact absurd rfl hsm
             obtain⟨b1,b2,b3⟩:=hwk hs1 Agk;exact hwo (by simp[b1,b2,b3])
   obtain⟨a',ha',hA'⟩:=ha';refine Ml.back (m:=0) rfl (hst.trans hrt) hsz ((Vy.at Wg w d).trans (.of hw)) ?_;rcases hless with hl|⟨hl1,hl2⟩
   . exact ih1 (M1 gs'.size (upd role i r')) (by rw[hsz,← hm1];exact hl) _ rfl rfl ha' hA' C'
   . exact ih2 (M2 gs'.size (upd role i r')) (by rw[hsz,← hm2];exact hl2) (by rw[hsz,hl1,hm1]) rfl ha' hA' C'
 have busy:∀{i:Nat} {g:Goroutine} {s m d:Nat} {K:World->Prop} {Still:Loc->Prop} {Bd:Nat} {st:Seat} {w:World},Sw P ty Wg K Still Bd st s m d g w->s≠1->g.status=.running:=by
   intro i g s m d K Still Bd st w h hs;cases h with
   | seat hK hG=>exact Goes.running (fun _ _ ⟨_,x⟩=>x.1) w hK hG
   | leave hG=>exact Goes.running (fun _ _ x=>x.1) w (FT w) hG
   | fin _ h=>
     cases h with
     | quit h=>exact absurd rfl hs
     | r0 h=>exact Goes.running (fun _ _ x=>x.1) w (FT w) h
     | k1 h=>exact Goes.running (fun _ _ x=>x.1) w (FT w) h
     | d1 h=>exact Goes.running (fun _ _ x=>x.1) w (FT w) h
     | d2 h=>exact Goes.running (fun _ _ x=>x.1) w (FT w) h
     | d3 h=>exact Goes.running (fun _ _ x=>x.1) w (FT w) h
     | d4 h=>exact Goes.running (fun _ _ x=>x.1) w (FT w) h
 have asleep:∀{role:Nat->Fv} {v wt sm:Nat} {T:Trace} {gs:Array Goroutine} {w:World} {sl:Option (Nat × Nat)},M1 gs.size role=m1->M2 gs.size role=m2->gs[0]?=some { a0 with status:=.blocked }->sm≠1->MJ P ty Wg gone K Still Bd St Shun Loose 1 true role v wt sm T gs w->
     Ml P Wg (fun T gs w=>∃role,MJ P ty Wg gone K Still Bd St Shun Loose 1 false role 0 0 0 T gs w) (fun g=>g=g') gs w sl T:=by
   intro role v wt sm T gs w sl hm1 hm2 ha hsm C;have hex:∃(i:Nat) (g:Goroutine),gs[i]?=some g/\g.status=.running:=by
     have pick:∀L,L≠0->L<gs.size->(role L).stage≠1->∃(i:Nat) (g:Goroutine),gs[i]?=some g/\g.status=.running:=by intro L hL hLn hs;obtain⟨s,m,d,e⟩:=C.all L hL hLn;refine⟨L,gs[L],Array.getElem?_eq_getElem hLn,busy (i:=L) (C.Ie L _ s m d hL (Array.getElem?_eq_getElem hLn) e).1 ?_⟩;rw[e]at hs;exact hs
     have hmo:=C.mode;cases hmo with
     | b1 hv h1 hc=>
       apply Classical.byContradiction;intro hno;have hz:(sumTo gs.size fun i=>JE (role i))=0:=by
         have:∀i,i<gs.size->JE (role i)=0:=by
           intro i hi;by_cases h0:i=0
           . subst h0;exact C.zero
           . by_cases h2:(role i).stage=1
             . obtain⟨s,m,d,e⟩:=C.all i h0 hi;rw[e]at h2 ⊢;simp only[Fv.stage]at h2;subst h2;rfl
             . exact absurd (pick i h0 hi h2) hno
         have h3:=Go.ConcN.sumTo_le (f:=fun i=>JE (role i)) (c:=0) (j:=gs.size) fun i hi=>by rw[this i hi];exact Nat.le_refl 0
         omega
       omega
     | b2 L hL hn h1 ho=>exact pick L hL hn zOM
     | b3 L hL hn h1 ho=>exact pick L hL hn zOM
     | b4 ho=>exact absurd rfl hsm
   obtain⟨i,g,d,sl',hi,hg,hst⟩:=crowd_pick (P:=P) (w:=w) (sl:=sl) (C.awake ha (.inr rfl)) hex;have h0:i≠0:=by rintro rfl;rw[ha]at hi;obtain rfl:=Option.some.inj hi;cases hg
   exact VI hm1 hm2 ha (.inr ⟨rfl,hsm⟩) C hi h0 hg hst
 intro a role v wt sm T gs w sl hm1 hm2 ha hA C;rcases hA with rfl|⟨rfl,hsm⟩
 rotate_left
 . exact asleep hm1 hm2 ha hsm C
 obtain⟨i,gi,d,sl',hi,hg,hst⟩:=crowd_pick (P:=P) (w:=w) (sl:=sl) (C.awake ha (.inl A.hs)) ⟨0,a,ha,A.hs⟩;rcases Decidable.em (i=0)with h0|h0
 rotate_left
 . exact VI hm1 hm2 ha (.inl rfl) C hi h0 hg hst
 subst h0;obtain rfl:gi=a:=by rw[ha]at hi;exact(Option.some.inj hi).symm
 have Cd:=C.at E d;by_cases hs1:sm=1
 . subst hs1;have hmo:=C.mode;have hwg:=C.wg;cases hmo with
   | b4 hall=>
   have Acj:WgAt ty Wg (w.at d) 0 1:=by
     have:WgAt ty Wg w 0 1:=by simpa using hwg
     exact this
   have hgo:=A.h _ Acj;have hrt:=runT_crowd_go (P:=P) (sl:=sl') (i:=0) ha (show stepG P (0==0) gi (w.at d)=_ from hgo);have hWs:Wg<w.heap.size:=(zGE C.wg).1;obtain⟨hp,hdf⟩:=Cd.past.sem (Kf:=fun T=>Knows T 0) rfl (fun t u i=>Knows.app u) (fun z=>z.elim) E.SB E.apart (show(smA Wg).block<_ from hWs) gi.frame.fn gi.frame.place;have hz:(sumTo gs.size fun i=>JE (role i))=0:=by
     have h3:=Go.ConcN.sumTo_le (f:=fun i=>JE (role i)) (c:=0) (j:=gs.size) fun i hi=>by
       by_cases h0:i=0
       . subst h0;rw[C.zero];exact Nat.le_refl 0
       . obtain⟨s,m,dd,e⟩:=C.all i h0 hi;have h1:=hall i h0 hi;rw[e]at h1;simp only[Fv.stage]at h1;subst h1;rw[e];exact Nat.le_refl 0
     omega
   obtain⟨C',ha'⟩:=Cd.Qi E (a':=g') (fn:=gi.frame.fn) (pos:=gi.frame.place) (v':=0) (Nr:=0) (sm':=0) (pz':=false) ha (.inr (.inr ⟨_,rfl⟩)) (rW hsh) (hdf.trans C.deaf0) (by have:=Acj.setSm 0;simpa using this) (.b0 (fun i h0 hi=>.inr (hall i h0 hi)) hz.symm) zOM;exact Ml.back (m:=0) rfl (hst.trans hrt) (by simp) ((Vy.at Wg w d).trans (.of (.inl (.inr (.inr ⟨_,rfl⟩))))) ⟨0,_,g',_,sl',_,rfl,rfl,ha',rfl,⟨role,C'⟩,.refl _ _⟩
 . have hs0:sm=0:=by have hmo:=C.mode;cases hmo<;>first | rfl | exact absurd rfl hs1
   subst hs0;have hgo:=A.hb _ ⟨_,Cd.wg⟩;have hrt:=runT_crowd_go (P:=P) (sl:=sl') (i:=0) ha (show stepG P (0==0) gi (w.at d)=_ from hgo);obtain⟨C',ha'⟩:=Cd.Qi E (a':={ gi with status:=.blocked }) (fn:=gi.frame.fn) (pos:=gi.frame.place) (es:=#[]) (d1:=1) ha (.inl rfl) (by simp) (by rw[Deaf_own];exact C.deaf0) Cd.wg Cd.mode Cd.few;have hsz:((gs.map (woken P gi { gi with status:=.blocked } (w.at d))).setIfInBounds 0 { gi with status:=.blocked }).size=gs.size:=by simp
   exact Ml.back (m:=0) rfl (hst.trans hrt) hsz (.at _ _ _) (asleep (by rw[hsz];exact hm1) (by rw[hsz];exact hm2) ha' zOM C')
theorem jU{fn:FuncId}{pos:String}(C:MJ P ty Wg gone K Still Bd St Shun Loose 0 false role 0 wt sm (T++MemOp.ofEvents 0 fn pos #[mk (.acquire (stA Wg))]) gs w)(hd:Deaf T 0=0):∃q,Om P Shun q (T++MemOp.ofEvents 0 fn pos #[mk (.acquire (stA Wg))]) gs w:=by
 have hops:MemOp.ofEvents 0 fn pos #[mk (.acquire (stA Wg))]=#[{ g:=0,fn:=fn,pos:=pos,act:=.mark (.acquire (stA Wg)) }]:=by simp[ofEvents_eq,mk,MemAct.ofEvent]
 rw[hops]at C ⊢;have hone:∀i,i≠0->i<gs.size->(role i).stage=1:=fun i h0 hi=>by
   obtain⟨_,_,hs,hc⟩:=C.mode.open;rcases hs i h0 hi with h1|h1
   . exfalso
     obtain⟨s,m,d,e⟩:=C.all i h0 hi;have:=Go.ConcN.le_sumTo (f:=fun a=>JE (role a)) hi;rw[e]at h1;simp only[Fv.stage]at h1;have e1:JE (role i)=1:=by rw[e];simp[JE,cn,h1.1]
     omega
   . exact h1
 have hlast:(T++#[{ g:=0,fn:=fn,pos:=pos,act:=.mark (.acquire (stA Wg)) }])[T.size]?=some { g:=0,fn:=fn,pos:=pos,act:=.mark (.acquire (stA Wg)) }:=by rw[Array.getElem?_append_right (Nat.le_refl _)];simp
 generalize hx:({ g:=0,fn:=fn,pos:=pos,act:=.mark (.acquire (stA Wg)) }:MemOp)=x at *;have hxa:x.act=.mark (.acquire (stA Wg)):=by rw[← hx]
 have hxg:x.g=0:=by rw[← hx]
 refine⟨fun i=>(role i).fuel,fun i g hi hg=>?_,C.above,⟨C.past.clean,fun j a ha hm=>?_,C.past.atom,fun _ _ _ _ _ _ z=>z.elim,fun g hg=>hg ▸ C.deaf0,C.past.seen⟩⟩
 . have hlt:i<gs.size:=(zGE hg).1;obtain⟨s,m,d,e⟩:=C.all i zOM hlt;obtain⟨hF,hD⟩:=C.Ie i g s m d zOM hg e;have h1:=hone i zOM hlt;rw[e]at h1 ⊢;simp only[Fv.stage]at h1;subst h1;cases hF with
   | fin _ hF=>
     cases hF with
     | quit h=>rw[hD];exact h
 . rcases C.rel j a ha hm with hk | ⟨g,_,h0,hlt,h7⟩ | ⟨r,g,h1,h2,h3,h4,h5,h6⟩ | hk
   . exact .inl hk
   . have:=hone g h0 hlt;omega
   . left
     have Ae4:=lt_of_act? h3;have hrT:r<T.size:=by
      simp only[Array.size_append,List.size_toArray,List.length_cons,List.length_nil]at Ae4;rcases Nat.lt_or_ge r T.size with h|h
      . exact h
      . exfalso
        have:r=T.size:=by omega
        subst this;unfold Trace.act? at h3;rw[hlast]at h3;rw[Option.map_some,hxa]at h3;cases h3
     have hq:(T++#[x]).act? T.size=some (.mark (.acquire (stA Wg))):=by unfold Trace.act?;rw[hlast,Option.map_some,hxa]
     have hgq:(T++#[x]).g? T.size=some 0:=by unfold Trace.g?;rw[hlast,Option.map_some,hxg]
     have hh:(T++#[x]).heard T.size:=⟨0,hgq,by rw[deaf_old (Nat.le_refl _)];exact hd⟩
     have edge:HappensBefore (T++#[x]) r T.size:=.single (.inr ⟨.marked hrT (.inr h3) hq (fun k hk _=>h6 k hk),h5,hh⟩);exact⟨T.size,x,hlast,hxg,.inr (.trans (.single (.inl ⟨h1,g,h2,h4⟩)) edge)⟩
   . exact .inr (.inr hk)
def Ph:QP->Nat->Bool->Nat->Prop
 | .pre,d,p,_=>d=0/\p=false
 | .loop u,d,p,v=>d=1/\p=false/\v<=u
 | .seen u,d,p,v=>d=1/\p=false/\v<=u
 | .sem,d,p,_=>d=1/\p=true
 | .last,d,p,v=>d=1/\p=false/\v=0
 | .out,d,p,v=>d=1/\p=false/\v=0
 | .hear,d,p,v=>d=0/\p=false/\v=0
theorem Ph.less{q:QP}{d v v':Nat}{p:Bool}(h:Ph q d p v)(hv:p=false->v'<=v):Ph q d p v':=by
 cases q<;>simp only[Ph]at h ⊢
 . exact h
 . exact⟨h.1,h.2.1,Nat.le_trans (hv h.2.1) h.2.2⟩
 . exact⟨h.1,h.2.1,Nat.le_trans (hv h.2.1) h.2.2⟩
 . exact h
 . exact⟨h.1,h.2.1,by have:=hv h.2.1;omega⟩
 . exact⟨h.1,h.2.1,by have:=hv h.2.1;omega⟩
 . exact⟨h.1,h.2.1,by have:=hv h.2.1;omega⟩
theorem Aao(E:Sj Wg K Still Shun)(hsh:∀a:Addr,a.block=Wg->Shun (.cell a)){n:Nat}:∀(q:QP) (g:Goroutine),KR P ty Wg n Stop q g->∀{d0:Nat} {pz:Bool} {role:Nat->Fv} {v wt sm:Nat} {T:Trace} {gs:Array Goroutine} {w:World} {sl:Option (Nat × Nat)},gs.size=n->gs[0]?=some g->Ph q d0 pz v->
  MJ P ty Wg gone K Still Bd St Shun Loose d0 pz role v wt sm T gs w->Ml P Wg (fun T gs w=>WgLive ty Wg w/\∃q,Om P Shun q T gs w) Stop gs w sl T:=by
 intro q g hq;induction hq with
 | @idle p g g' hs h k ih=>
  intro d0 pz role v wt sm T gs w sl hn ha U4 C;obtain⟨N,gs₁,w₁,d,sl₁,sl₂,T₁,Fj,v₁,QW,QU,p1,p2,p3,p4,p5,p6,p7⟩:=MJ.picked (sl:=sl) E hs _ _ rfl rfl ha C;have hst:=h (w₁.at d) ⟨_,_,p5.wg⟩;have hrt:=runT_crowd_go (P:=P) (sl:=sl₂) (i:=0) p4 (show stepG P (0==0) g _=_ from hst);obtain⟨C',ha'⟩:=p5.Qi E (a':=g') (fn:=g.frame.fn) (pos:=g.frame.place) (es:=#[]) (d1:=d0) p4 (.inl rfl) (by simp) (by rw[Deaf_own];exact p5.deaf0) p5.wg p5.mode p5.few;exact Ml.back p1 (p2.trans hrt) (by simpa using p3) p6 (ih (by simpa using p3.trans hn) ha' (U4.less p7) C')
 | @said p g g' m hm hr hs h k ih=>
  intro d0 pz role v wt sm T gs w sl hn ha U4 C;obtain⟨N,gs₁,w₁,d,sl₁,sl₂,T₁,Fj,v₁,QW,QU,p1,p2,p3,p4,p5,p6,p7⟩:=MJ.picked (sl:=sl) E hs _ _ rfl rfl ha C;have hst:=h (w₁.at d) ⟨_,_,p5.wg⟩;have hrt:=runT_crowd_go (P:=P) (sl:=sl₂) (i:=0) p4 (show stepG P (0==0) g _=_ from hst);obtain⟨C',ha'⟩:=p5.Qi E (a':=g') (fn:=g.frame.fn) (pos:=g.frame.place) (es:=#[mk m]) (d1:=d0) p4 (.inl rfl) (YB (fun b hb=>by obtain⟨⟨x,h1,h2⟩,h3⟩:=hm.touch b hb;exact⟨by rw[h1];exact hsh x h2,h3⟩) (hm.low _ (Nat.lt_succ_self _)) hr) (by rw[Deaf_own,ZJ hm];exact p5.deaf0) p5.wg p5.mode p5.few
  exact Ml.back p1 (p2.trans hrt) (by simpa using p3) p6 (ih (by simpa using p3.trans hn) ha' (U4.less p7) C')
 | @aU g g' hs h k ih=>
  intro d0 pz role v wt sm T gs w sl hn ha U4 C;obtain⟨rfl,rfl⟩:=U4;obtain⟨N,gs₁,w₁,d,sl₁,sl₂,T₁,Fj,v₁,QW,QU,p1,p2,p3,p4,p5,p6,p7⟩:=MJ.picked (sl:=sl) E hs _ _ rfl rfl ha C;have hst:=h (w₁.at d) ⟨_,_,p5.wg⟩;have hrt:=runT_crowd_go (P:=P) (sl:=sl₂) (i:=0) p4 (show stepG P (0==0) g _=_ from hst);obtain⟨C',ha'⟩:=p5.Qi E (a':=g') (fn:=g.frame.fn) (pos:=g.frame.place) (es:=#[mk .disable]) (d1:=1) p4 (.inl rfl) (YB (fun b hb=>by simp[mk,MemAct.ofEvent,MemAct.touch?]at hb) trivial (by simp)) (by rw[Deaf_own,p5.deaf0];rfl) p5.wg p5.mode p5.few;have hle:v₁<=n:=by
    have h1:=p5.mode.open.2.2.2;have h2:=Go.ConcN.sumTo_le (f:=fun i=>JE (Fj i)) (c:=1) (j:=gs₁.size) fun i _=>by show JE (Fj i)<=1;unfold JE cn;split<;>first | omega | (split<;>omega)
    omega
  exact Ml.back p1 (p2.trans hrt) (by simpa using p3) p6 (ih (by simpa using p3.trans hn) ha' ⟨rfl,rfl,hle⟩ C')
 | @load u g g' hs h k0 k1 ih0 ih1=>
  intro d0 pz role v wt sm T gs w sl hn ha U4 C;obtain⟨rfl,rfl,hvu⟩:=U4;obtain⟨N,gs₁,w₁,d,sl₁,sl₂,T₁,Fj,v₁,QW,QU,p1,p2,p3,p4,p5,p6,p7⟩:=MJ.picked (sl:=sl) E hs _ _ rfl rfl ha C;obtain⟨rfl,rfl,_,_⟩:=p5.mode.open;have hst:=h (w₁.at d) v₁ p5.few (by have:=p5.wg;simpa using this);have hrt:=runT_crowd_go (P:=P) (sl:=sl₂) (i:=0) p4 (show stepG P (0==0) g _=_ from hst);obtain⟨C',ha'⟩:=p5.Qi E (a':=g' v₁) (fn:=g.frame.fn) (pos:=g.frame.place) (es:=#[rd (stA Wg)]) (d1:=1) p4 (.inl rfl) (Yw hsh (by simp)) (by rw[Deaf_own];exact p5.deaf0) p5.wg p5.mode p5.few;refine Ml.back p1 (p2.trans hrt) (by simpa using p3) p6 ?_;by_cases hv0:v₁=0
  . subst hv0;exact ih0 (by simpa using p3.trans hn) ha' ⟨rfl,rfl,rfl⟩ C'
  . exact ih1 v₁ (Nat.le_trans (p7 rfl) hvu) hv0 p5.few (by simpa using p3.trans hn) ha' ⟨rfl,rfl,Nat.le_refl _⟩ C'
 | @cas u g gh gm hs hv h hm kh km ihh ihm=>
  intro d0 pz role v wt sm T gs w sl hn ha U4 C;obtain⟨rfl,rfl,hvu⟩:=U4;obtain⟨N,gs₁,w₁,d,sl₁,sl₂,T₁,Fj,v₁,QW,QU,p1,p2,p3,p4,p5,p6,p7⟩:=MJ.picked (sl:=sl) E hs _ _ rfl rfl ha C;obtain⟨rfl,rfl,lX,hsum⟩:=p5.mode.open;have hwg:WgAt ty Wg (w₁.at d) (v₁*KK) 0:=by have:=p5.wg;simpa using this
  by_cases heq:v₁=u
  . subst heq;have hst:=h _ hwg;have hrt:=runT_crowd_go (P:=P) (sl:=sl₂) (i:=0) p4 (show stepG P (0==0) g _=_ from hst);obtain⟨C',ha'⟩:=p5.Qi E (a':=gh) (fn:=g.frame.fn) (pos:=g.frame.place) (es:=#[rd (stA Wg),wr (stA Wg)]) (d1:=1) (pz':=true) (v':=v₁) (Nr:=1) (sm':=0) p4 (.inr (.inl ⟨_,rfl⟩)) (Yw hsh (by simp)) (by rw[Deaf_own];exact p5.deaf0) (by have:=hwg.setSt ((v₁:Int)*KK+1);simpa using this) (.b1 zOM lX hsum) p5.few;exact Ml.back p1 (p2.trans hrt) (by simpa using p3) (p6.trans (.of (.inl (.inr (.inl ⟨_,rfl⟩))))) (ihh (by simpa using p3.trans hn) ha' ⟨rfl,rfl⟩ C')
  . have hlt:v₁<u:=by have:=p7 rfl;omega
    have hst:=hm _ v₁ hlt hwg;have hrt:=runT_crowd_go (P:=P) (sl:=sl₂) (i:=0) p4 (show stepG P (0==0) g _=_ from hst);obtain⟨C',ha'⟩:=p5.Qi E (a':=gm) (fn:=g.frame.fn) (pos:=g.frame.place) (es:=#[rd (stA Wg)]) (d1:=1) p4 (.inl rfl) (Yw hsh (by simp)) (by rw[Deaf_own];exact p5.deaf0) p5.wg p5.mode p5.few;exact Ml.back p1 (p2.trans hrt) (by simpa using p3) p6 (ihm v₁ hlt (by simpa using p3.trans hn) ha' ⟨rfl,rfl,Nat.le_refl _⟩ C')
 | @acq g g' hs ho hb h k ih=>
  intro d0 pz role v wt sm T gs w sl hn ha U4 C;obtain⟨rfl,rfl⟩:=U4;obtain⟨N,gs₁,g₁,w₁,sl₁,T₁,p1,p2,p3,rfl,⟨Fj,p5⟩,p6⟩:=Aae (sl:=sl) E hsh ⟨hs,ho,hb,h⟩ _ _ rfl rfl ha (.inl rfl) C;obtain⟨N₂,gs',g₂,w',sl',T',q1,q2,q3,q4,q5,q6⟩:=ih (sl:=sl₁) (p2.trans hn) p3 ⟨rfl,rfl,rfl⟩ p5;exact⟨N+N₂,gs',g₂,w',sl',T',runNT_then p1 q1,q2.trans p2,q3,q4,q5,p6.trans q6⟩
 | @last g g' hs h k ih=>
  intro d0 pz role v wt sm T gs w sl hn ha U4 C;obtain⟨rfl,rfl,rfl⟩:=U4;obtain⟨N,gs₁,w₁,d,sl₁,sl₂,T₁,Fj,v₁,QW,QU,p1,p2,p3,p4,p5,p6,p7⟩:=MJ.picked (sl:=sl) E hs _ _ rfl rfl ha C;obtain⟨rfl,rfl,_,_⟩:=p5.mode.open;obtain rfl:v₁=0:=by have:=p7 rfl;omega
  have hst:=h (w₁.at d) (by have:=p5.wg;simpa using this);have hrt:=runT_crowd_go (P:=P) (sl:=sl₂) (i:=0) p4 (show stepG P (0==0) g _=_ from hst);obtain⟨C',ha'⟩:=p5.Qi E (a':=g') (fn:=g.frame.fn) (pos:=g.frame.place) (es:=#[rd (stA Wg)]) (d1:=1) p4 (.inl rfl) (Yw hsh (by simp)) (by rw[Deaf_own];exact p5.deaf0) p5.wg p5.mode p5.few;exact Ml.back p1 (p2.trans hrt) (by simpa using p3) p6 (ih (by simpa using p3.trans hn) ha' ⟨rfl,rfl,rfl⟩ C')
 | @en g g' hs h k ih=>
  intro d0 pz role v wt sm T gs w sl hn ha U4 C;obtain⟨rfl,rfl,rfl⟩:=U4;obtain⟨N,gs₁,w₁,d,sl₁,sl₂,T₁,Fj,v₁,QW,QU,p1,p2,p3,p4,p5,p6,p7⟩:=MJ.picked (sl:=sl) E hs _ _ rfl rfl ha C;obtain rfl:v₁=0:=by have:=p7 rfl;omega
  have hst:=h (w₁.at d) ⟨_,_,p5.wg⟩;have hrt:=runT_crowd_go (P:=P) (sl:=sl₂) (i:=0) p4 (show stepG P (0==0) g _=_ from hst);obtain⟨C',ha'⟩:=p5.Qi E (a':=g') (fn:=g.frame.fn) (pos:=g.frame.place) (es:=#[mk .enable]) (d1:=0) p4 (.inl rfl) (YB (fun b hb=>by simp[mk,MemAct.ofEvent,MemAct.touch?]at hb) trivial (by simp)) (by rw[Deaf_own,p5.deaf0];rfl) p5.wg p5.mode p5.few;exact Ml.back p1 (p2.trans hrt) (by simpa using p3) p6 (ih (by simpa using p3.trans hn) ha' ⟨rfl,rfl,rfl⟩ C')
 | @heard g g' hs h k=>
  intro d0 pz role v wt sm T gs w sl hn ha U4 C;obtain⟨rfl,rfl,rfl⟩:=U4;obtain⟨N,gs₁,w₁,d,sl₁,sl₂,T₁,Fj,v₁,QW,QU,p1,p2,p3,p4,p5,p6,p7⟩:=MJ.picked (sl:=sl) E hs _ _ rfl rfl ha C;obtain rfl:v₁=0:=by have:=p7 rfl;omega
  have hst:=h (w₁.at d) ⟨_,_,p5.wg⟩;have hrt:=runT_crowd_go (P:=P) (sl:=sl₂) (i:=0) p4 (show stepG P (0==0) g _=_ from hst);obtain⟨C',ha'⟩:=p5.Qi E (a':=g') (fn:=g.frame.fn) (pos:=g.frame.place) (es:=#[mk (.acquire (stA Wg))]) (d1:=0) p4 (.inl rfl) (YB (fun b hb=>by simp[mk,MemAct.ofEvent,MemAct.touch?]at hb) (Nat.lt_succ_self _) (by simp)) (by rw[Deaf_own,p5.deaf0];rfl) p5.wg p5.mode p5.few;exact Ml.back p1 (p2.trans hrt) (by simpa using p3) p6 ⟨0,_,g',_,sl₂,_,rfl,rfl,ha',k,⟨⟨_,_,C'.wg⟩,jU C' p5.deaf0⟩,.refl _ _⟩
end
end
end Go.LK
end
