/-
  Part 20 of the proof that CellAlone returns true for every input and leaves its arguments as they were. No further condition.
-/
import Derived.Test.YtkdhnbcdbnpmhaaQ14
import Derived.Test.YtkdhnbcdbnpmhaaQ16
import Derived.Test.YtkdhnbcdbnpmhaaQ17
import Derived.Test.YtkdhnbcdbnpmhaaQ18
import Derived.Test.YtkdhnbcdbnpmhaaQ19
import Derived.Conc.SmallLaws
import Derived.Test.YtkdhnbcdbnpmhaaProg
import Derived.OwnWalkIn
import Derived.LoopIn
import Derived.TacticsInMore
set_option linter.unusedVariables false
set_option linter.unusedSectionVars false
set_option maxHeartbeats 4000000
set_option maxRecDepth 100000
namespace Go.LK
open Go Go.Conc Go.LT Go.LC Go.Conc.Lib Go.ConcR.Gen Go.RowKit
open Go.ConcN (WgLive sumTo upd sumTo_upd upd_ne upd_same)
open Go.ConcR (KK wgBlock WgAt stA smA rd wr mk)
section
section
variable {X Sg:Type}
variable {P:Program}{L:WgLink}{Fin:Iw}{GR:Ig P Fin}
variable {M:Md X Sg}{ρ:Rn}{ws:List (Ij X)}{W:World}{ex n:Nat}{b:Frame}{a:Act}{ops:Array Oper}{i:Nat}{rest:List Nat}{k:List Item}{cs:List Frame}{o:Oper}
noncomputable def W0 (L:WgLink):Code:=match body_wait L with | .seq c _=>c | _=>.skip
theorem Z7 (L:WgLink):body_wait L=.seq (W0 L) (.block 0 (.loop (L7 L))):=rfl
theorem Abr (H:WgLib P L)(hov:∀ (i:Nat) (v:Ij X),ws[i]?=some v->v.over=true)(hT:JL (Vn P Fin X Sg ρ ws n) .hear (G (b.at (a.put ((ops[i]?).bind (·.dst)) (.tuple #[])) (.inRegion ops rest :: k)) cs) W) :
    JL (Y9 (X:=X) (Sg:=Sg) P Fin GR) (.H7 M ρ ws 0 false n) (G ((base L.wait).at ⟨#[.pointer (some ⟨ρ.Wg,0,none⟩)] ++ Array.replicate 83 undef,[]⟩ [.code (body_wait L)]) (b.at a (.inRegion ops (i :: rest) :: k) :: cs)) W:=by
  lib_facts
  rw [Z7];walk_nrm;refine GY stepG_seq ?_;simp only [W0,body_wait,waitFn,Option.getD_some];refine JL.Iq rfl ?_;refine Hu fun _ hkk=>?_;refine J0.mZ (GR:=GR) rfl (fun w=>stepG_mark0 .disable (by simp) rfl rfl (by k_ne) rfl H.f_disable (x_disable_n L) (x_disable_b L) (x_disable_x L) (x_disable_f L)) ?_;show JL (Y9 (X:=X) (Sg:=Sg) P Fin GR) _ _ _;walk_nrm;refine Hw ?_;cases hkk;refine GY stepG_block ?_;refine GY stepG_loop ?_;exact J0.waits (GR:=GR) hov (waitLoop H hT n _ rfl rfl)
theorem J0.lN (H:WgLib P L)(hty:ρ.ty=L.tWg)(hcap:n+ex+1 < 2147483648){x y:Operand}{ats:Array TypeId}(ho:ops[i]?=some o)(hw:Region.wanted o (yielded ops a.tmps)=true)(hk:b.kind≠.early)(hop:o.op=.call { callee:=.value (.func L.add),args:=#[x,y],argTypes:=ats })(hx:a.eval x=.pointer (some ⟨ρ.Wg,0,none⟩))(hy:a.eval y=.int .i64 1)(hT:JL (Y9 (X:=X) (Sg:=Sg) P Fin GR) (.H7 M ρ ws (ex+1) false n) (G (b.at (a.put ((ops[i]?).bind (·.dst)) (.tuple #[])) (.inRegion ops rest :: k)) cs) W) :
    JL (Y9 (X:=X) (Sg:=Sg) P Fin GR) (.H7 M ρ ws ex false n) (G (b.at a (.inRegion ops (i :: rest) :: k)) cs) W:=by
  refine JL.call (c:=body_add L) ho hw hk hop H.f_add (nm_add L) rfl ?_;have hn:(addFn L).ntmps=117:=rfl;rw [hn];simp only [List.map_toArray,List.map_cons,List.map_nil,hx,hy,List.size_toArray,List.length_cons,List.length_nil,Nat.reduceAdd,Nat.reduceSub];exact add1 H hty hcap hT
theorem J0.dz (H:WgLib P L)(hov:∀ (i:Nat) (v:Ij X),ws[i]?=some v->v.over=true){x:Operand}{ats:Array TypeId}(ho:ops[i]?=some o)(hw:Region.wanted o (yielded ops a.tmps)=true)(hk:b.kind≠.early)(hop:o.op=.call { callee:=.value (.func L.wait),args:=#[x],argTypes:=ats })(hx:a.eval x=.pointer (some ⟨ρ.Wg,0,none⟩))(hT:∀ W',Aba ws W W'->JW (S0 (X:=X) (Sg:=Sg) P Fin GR).base (.Ii (fun b=>ρ.Bo b || b == ρ.Wg) n) (G (b.at (a.put ((ops[i]?).bind (·.dst)) (.tuple #[])) (.inRegion ops rest :: k)) cs) W') :
    JL (Y9 (X:=X) (Sg:=Sg) P Fin GR) (.H7 M ρ ws 0 false n) (G (b.at a (.inRegion ops (i :: rest) :: k)) cs) W:=by
  refine JL.call (c:=body_wait L) ho hw hk hop H.f_wait (nm_wait L) rfl ?_;have hn:(waitFn L).ntmps=84:=rfl;rw [hn];simp only [List.map_toArray,List.map_cons,List.map_nil,hx,List.size_toArray,List.length_cons,List.length_nil,Nat.reduceAdd,Nat.reduceSub];exact Abr H hov (JT.over (GR:=GR) hT)
end
end
end Go.LK
namespace Go.Proofs.Ytkdhnbcdbnpmhaa
open Go Go.Conc Go.LT Go.LC Go.LK Go.RowKit
open Go.ConcN (WgLive)
section
noncomputable def Ur:Code:=match Try.f52.body with | some (.seq _ (.seq _ c))=>c | _=>.skip
noncomputable def rn0:Code:=match Try.f52.body with | some (.seq c _)=>c | _=>.skip
noncomputable def rn1:Code:=match Try.f52.body with | some (.seq _ (.seq c _))=>c | _=>.skip
noncomputable def zT:Code:=match Ur with | .seq c _=>c | _=>.skip
noncomputable def rn5:Code:=match Ur with | .seq _ (.seq c _)=>c | _=>.skip
noncomputable def xg:Code:=match Ur with | .seq _ (.seq _ (.seq c _))=>c | _=>.skip
noncomputable def zh:Code:=match Ur with | .seq _ (.seq _ (.seq _ (.seq (.seq c _) _)))=>c | _=>.skip
noncomputable def Un:Code:=match Ur with | .seq _ (.seq _ (.seq _ (.seq (.seq _ (.block _ (.loop c))) _)))=>c | _=>.skip
noncomputable def QO:Code:=match Ur with | .seq _ (.seq _ (.seq _ (.seq _ c)))=>c | _=>.skip
theorem lF:Try.f52.body=some (.seq rn0 (.seq rn1 (.seq zT (.seq rn5 (.seq xg (.seq (.seq zh (.block 0 (.loop Un))) QO)))))):=rfl
noncomputable def rn8:Code:=match Un with | .seq c _=>c | _=>.skip
noncomputable def rn9:Code:=match Un with | .seq _ (.seq _ (.seq (.block _ (.seq c _)) _))=>c | _=>.skip
noncomputable def kN:Code:=match Un with | .seq _ (.seq _ (.seq (.block _ (.seq _ (.seq c _))) _))=>c | _=>.skip
noncomputable def ni:Code:=match Un with | .seq _ (.seq _ (.seq (.block _ (.seq _ (.seq _ (.seq c _)))) _))=>c | _=>.skip
noncomputable def kY:Code:=match Un with | .seq _ (.seq _ (.seq (.block _ (.seq _ (.seq _ (.seq _ (.seq c _))))) _))=>c | _=>.skip
noncomputable def jZ:Code:=match Un with | .seq _ (.seq _ (.seq (.block _ (.seq _ (.seq _ (.seq _ (.seq _ (.seq c _)))))) _))=>c | _=>.skip
noncomputable def Yg:Code:=match Un with | .seq _ (.seq _ (.seq (.block _ (.seq _ (.seq _ (.seq _ (.seq _ (.seq _ c)))))) _))=>c | _=>.skip
noncomputable def sj:Code:=match Un with | .seq _ (.seq _ (.seq _ c))=>c | _=>.skip
theorem Ym:Un=.seq rn8 (.seq (.cond (.tmp 27) .skip (.exit 0)) (.seq (.block 1 (.seq rn9 (.seq kN (.seq ni (.seq kY (.seq jZ Yg)))))) sj)):=rfl
noncomputable def oH:Array Oper:=match jZ with | .region _ ops _=>ops | _=>#[]
noncomputable def oG:Array Oper:=match Yg with | .region _ ops _=>ops | _=>#[]
theorem kX:∃ id,jZ=.region id oH false:=⟨_,rfl⟩
theorem oF:∃ id,Yg=.region id oG false:=⟨_,rfl⟩
def SB (Wg bw bd bc:Nat):Deferred:={ target:=.fn (.func 76) #[.pointer (some ⟨Wg,0,none⟩),.pointer (some ⟨bw,0,none⟩),.pointer (some ⟨bd,0,none⟩),.pointer (some ⟨bc,0,none⟩)],args:=#[] }
def Sr (bp bd br co go Wg:Nat)(lv I6 Kh wv u25 u26:Value)(tm:Array Value):Prop:=∃ v0 v1 v5 v6 Ab Af Ah Ai Aj Ak Al Am Ao Ap Aq Aw Ay Az AA AB AJ AL AO AP AQ AU AV AX AY AZ A8 A9 Ba Bb Bc Bf Bh Bj Bl Bp Bq,tm=#[v0,v1,.pointer (some ⟨bp,0,none⟩),.pointer (some ⟨bd,0,none⟩),.pointer (some ⟨br,0,none⟩),v5,v6,.chan (some co),.chan (some go),.pointer (some ⟨Wg,0,none⟩),lv,Ab,I6,Kh,Af,Ah,Ai,Aj,Ak,Al,Am,Ao,Ap,Aq,wv,u25,u26,Aw,Ay,Az,AA,AB,AJ,AL,AO,AP,AQ,AU,AV,AX,AY,AZ,A8,A9,Ba,Bb,Bc,Bf,Bh,Bj,Bl,Bp,Bq]
section
variable {X Sg:Type}
variable {Fin:Iw}{GR:Ig Try.prog Fin}
variable {M:Md X Sg}{ρ:Rn}{ws:List (Ij X)}{W:World}{n bp bd br:Nat}{lv I6 Kh wv u25 u26:Value}{ds:List Deferred}{K:List Item}{cs:List Frame}
theorem vX (hcl:¬ ρ.Uh)(hzi:ρ.zi=.int .i64 0){v:Ij X}{r:Nat}{tgt:X × Sg × Bool}{bw bc:Nat}{tm:Array Value}(hs:Sr bp bd br ρ.come ρ.gone ρ.Wg lv (.pointer (some ⟨bc,0,none⟩)) (.pointer (some ⟨bw,0,none⟩)) wv u25 u26 tm)(kE:v.h=n)(hvk:v.k=ws.length)(hov:v.over=false)(hown:∀ b,v.own b->¬ M.Sh b/\b≠ρ.Wg/\ρ.Bo b=false/\(∃ c e f,W.heap[b]?=some (.cells c e f))/\∀ (j:Nat) (u:Ij X),ws[j]?=some u->¬ u.own b)(hin:v.own v.b/\v.own v.pb)(hch:v.t≠ρ.come/\v.t≠ρ.gone/\(∃ k,W.heap[v.t]?=some (.chan 0 #[] false k k false))/\∀ (j:Nat) (u:Ij X),ws[j]?=some u->u.t≠v.t)(hlow:Fin.b0<=v.t)(hJ:∀ w,J2 (Il ρ ws) w W->∀ B,jr M ρ v B w.heap.size->LT.Rows B w->WJ M ρ Try.prog r ⟨v,B,w.heap.size,tgt⟩ (born Try.prog (SB ρ.Wg bw bd bc)) w)(hK:∀ v' W' tm',Sr bp bd br ρ.come ρ.gone ρ.Wg lv (.pointer (some ⟨bc,0,none⟩)) (.pointer (some ⟨bw,0,none⟩)) wv u25 u26 tm'->d9 M ρ ws v tgt r W v' W'->JL (S0 Try.prog Fin GR).L (.H7 M ρ (ws ++ [v']) 0 false (n+1)) (G ((base 52).at ⟨tm',ds⟩ K) cs) W') :
    JL (S0 Try.prog Fin GR).L (.H7 M ρ ws 1 false n) (G ((base 52).at ⟨tm,ds⟩ (.code (.seq jZ Yg) :: K)) cs) W:=by
  obtain ⟨v0,v1,v5,v6,Ab,Af,Ah,Ai,Aj,Ak,Al,Am,Ao,Ap,Aq,Aw,Ay,Az,AA,AB,AJ,AL,AO,AP,AQ,AU,AV,AX,AY,AZ,A8,A9,Ba,Bb,Bc,Bf,Bh,Bj,Bl,Bp,Bq,rfl⟩:=hs;refine GY stepG_seq ?_;obtain ⟨id1,e1⟩:=kX;obtain ⟨id2,e2⟩:=oF;rw [e1];refine JL.region (l:=[0,1]) rfl fun _ hkk=>?_;cases hkk;have s42:(oH[0]?)=some ⟨some 42,.makeFunc (.func 76) #[] #[.tmp 9,.tmp 13,.tmp 3,.tmp 12],_,_,_,_⟩:=rfl;refine JL.KX (.func (.func 76) #[] #[.pointer (some ⟨ρ.Wg,0,none⟩),.pointer (some ⟨bw,0,none⟩),.pointer (some ⟨bd,0,none⟩),.pointer (some ⟨bc,0,none⟩)]) s42 rfl nE (fun _=>by kernel_rfl) ?_;dsimp only;walk_nrm;have sgo:(oH[1]?)=some ⟨none,.go { callee:=.value (.tmp 42),args:=#[],argTypes:=_ },_,_,_,_⟩:=rfl
  obtain ⟨nq,hS⟩:=RN (P:=Try.prog) (main:=true) (K:=fun _=>True) (Still:=fun _=>False) (Bd:=0) (st:=Seat.one ρ.come ρ.zi false (·=G ((base 52).at ⟨#[v0,v1,.pointer (some ⟨bp,0,none⟩),.pointer (some ⟨bd,0,none⟩),.pointer (some ⟨br,0,none⟩),v5,v6,.chan (some ρ.come),.chan (some ρ.gone),.pointer (some ⟨ρ.Wg,0,none⟩),lv,Ab,.pointer (some ⟨bc,0,none⟩),.pointer (some ⟨bw,0,none⟩),Af,Ah,Ai,Aj,Ak,Al,Am,Ao,Ap,Aq,wv,u25,u26,Aw,Ay,Az,AA,AB,AJ,AL,AO,AP,AQ,AU,AV,AX,AY,AZ,.func (.func 76) #[] #[.pointer (some ⟨ρ.Wg,0,none⟩),.pointer (some ⟨bw,0,none⟩),.pointer (some ⟨bd,0,none⟩),.pointer (some ⟨bc,0,none⟩)],.chan (some ρ.come),Ba,Bb,Bc,Bf,Bh,Bj,Bl,Bp,Bq],ds⟩ (.inRegion oG [1] :: K)) cs)) (g:=G ((base 52).at ⟨#[v0,v1,.pointer (some ⟨bp,0,none⟩),.pointer (some ⟨bd,0,none⟩),.pointer (some ⟨br,0,none⟩),v5,v6,.chan (some ρ.come),.chan (some ρ.gone),.pointer (some ⟨ρ.Wg,0,none⟩),lv,Ab,.pointer (some ⟨bc,0,none⟩),.pointer (some ⟨bw,0,none⟩),Af,Ah,Ai,Aj,Ak,Al,Am,Ao,Ap,Aq,wv,u25,u26,Aw,Ay,Az,AA,AB,AJ,AL,AO,AP,AQ,AU,AV,AX,AY,AZ,.func (.func 76) #[] #[.pointer (some ⟨ρ.Wg,0,none⟩),.pointer (some ⟨bw,0,none⟩),.pointer (some ⟨bd,0,none⟩),.pointer (some ⟨bc,0,none⟩)],A9,Ba,Bb,Bc,Bf,Bh,Bj,Bl,Bp,Bq],ds⟩ (.inRegion oH [] :: .code Yg :: K)) cs) fun GQ=>by
    refine GY stepG_region_end ?_;rw [e2];refine JL.region (l:=[0,1]) rfl fun _ hk2=>?_;cases hk2
    simp only [oG,Yg,Un,Ur,Try.f52]
    (refine Hf ?_;walk_nrm)
    refine JQ.sit rfl rfl nE (fun w=>?_) (fun w=>?_) rfl
    . go_simp
      simp [Seat.one,rcase,hzi]
    . simp [go_sem]
  refine J0.hire (GR:=GR) (ex:=0) hcl rfl (fun w=>?_) hS kE hvk hov hown hin hch hJ hlow fun v' W' hG=>?_
  . rw [stepG_spawn (d:=SB ρ.Wg bw bd bc) (w':=w) sgo rfl nE (by unfold execOp;go_simp;rfl) rfl,listed_none (by simp [go_sem])]
    rfl
  . rw [JC];have s44:(oG[1]?).bind (·.dst)=some 44:=by kernel_rfl
    rw [s44];walk_nrm;show JL (S0 Try.prog Fin GR).L _ _ _;refine GY stepG_region_end ?_;exact hK v' W' _ ⟨_,_,_,_,_,_,_,_,_,_,_,_,_,_,_,_,_,_,_,_,_,_,_,_,_,_,_,_,_,_,.func (.func 76) #[] #[.pointer (some ⟨ρ.Wg,0,none⟩),.pointer (some ⟨bw,0,none⟩),.pointer (some ⟨bd,0,none⟩),.pointer (some ⟨bc,0,none⟩)],.chan (some ρ.come),_,_,_,_,_,_,_,_,_,rfl⟩ hG
end
end
end Go.Proofs.Ytkdhnbcdbnpmhaa
namespace Go.LT
open Go Go.Conc
section
variable {P:Program}{main:Bool}{Γ:Type}{S:Sn P main Γ}{γ:Γ}{W:World}
theorem JL.defers {f g : FuncId}{fn : Func}{b : Code}(hg : P.funcs[g]? = some fn)(hn : (fn.name == "runtime.NumGoroutine") = false)(hb : fn.body = some b){tm : Array Value}{Y : List Item}{args captured : Array Value}{ds : List Deferred}{mode : FrameMode}(hm : mode ≠ .run){κ : CallKind}{cs : List Frame}(h:JL S γ (G (Frame.enter P g (args ++ captured) .deferred) (Jz f tm Y ds mode κ :: cs)) W):JL S γ (G (Jz f tm Y ({ target:=.fn (.func g) captured,args } :: ds) mode κ) cs) W:=
  .ctl rfl (fun w=>by
    have hc:(invoke (.fn (.func g) captured) args).runT P w #[]=(.ok (.enter g (args ++ captured)) w,#[]):=Qn hg hn hb _ _ _;cases mode with
    | run=>exact absurd rfl hm
    | _=>simp [G,Jz,stepG,unwind,callDeferred,hc,GStep.after,seen,-Sem.runT_eq]) h
theorem JL.uO {f:FuncId}{fn:Func}{tm:Array Value}{Y:List Item}{c:Frame}{cs:List Frame}(hf:P.funcs[f]?=some fn)(hr:fn.results=#[])(h:JL S γ (G (behind c) cs) W):JL S γ (G (Jz f tm Y [] .returning .deferred) (c :: cs)) W:=
  .ctl rfl (fun w=>by
    have h1:(results fn tm).runT P w #[]=(.ok (.tuple #[]) w,#[]):=by rw [Sem.runT_eq,results_none hr,events_results_none hr]
    simp only [G,Jz,stepG,unwind,hf,h1];rfl) h
end
end Go.LT
namespace Go.LK
open Go Go.Conc Go.LT
theorem YF {P:Program}{κ:CallKind}(W:World):JL (Zy P 0) () (G (Jz P.funcs.size #[] [] [] (.panicking [goexitEntry]) κ) []) W:=by
  refine JL.ctl (g':={ frame:=Jz P.funcs.size #[] [] [] (.panicking [goexitEntry]) κ,callers:=[],status:=.finished,dying:=none }) rfl (fun w=>?_) fun w _=>⟨0,rfl,rfl⟩
  simp [G,Jz,stepG,unwind,Frame.catches,goexitEntry]
end Go.LK
namespace Go.Proofs.Ytkdhnbcdbnpmhaa
open Go Go.Conc Go.LT Go.LC Go.LK Go.RowKit
open Go.Conc.Lib Go.ConcR.Gen
open Go.ConcN (WgLive)
noncomputable def ru0:Code:=match Try.f76.body with | some (.seq c _)=>c | _=>.skip
noncomputable def ru1:Code:=match Try.f76.body with | some (.seq _ c)=>c | _=>.skip
theorem nZ:Try.f76.body=some (.seq ru0 ru1):=rfl
section
variable {Cs Sg:Type}{D:Dr G5 Cs Sg}{m:Mem Sg}{ρ:Rn}{b k:Nat}{W:World}{σ:Sg}
variable {dv cv:Value}
theorem Xk.alike {x:Wx (Wk G5 Cs) Sg ρ}{own:Nat->Prop}{z:Wk G5 Cs}(h:Xk D m b k x own z σ W){W':World}(hh:W'.heap=W.heap):Xk D m b k x own z σ W':=
  { h with row:=by have:=h.row;unfold IQ at this ⊢;rw [hh];exact this
           inv:=m.eq σ W W' (fun g _=>.of (by rw [hh])) h.inv
           size:=by rw [hh];exact h.size
           o3:=fun g hg=>by rw [hh];exact h.o3 g hg }
theorem aW {x:Wx (Wk G5 Cs) Sg ρ}{own:Nat->Prop}{z:Wk G5 Cs}{Ry:FuncId}{recv:Value}(hD:RD (MP D m ρ b k) dv Ry recv)(hdv:∃ t v,dv=.iface t v)(hns:¬ ρ.shut)(h:Xk D m b k x own z σ W)(hcur:z.cur=none)(hbg:z.bg=0)(Ot:x.1.1.tgt=({ z with over:=z.todo.isEmpty },σ,z.todo.isEmpty))(hcs:∀ σ W,m.Inv σ W->Nf W cv z.todo)(hty:ρ.ty=link.tWg){bw bd bc:Nat}(h1:W.cell? ⟨bw,0,none⟩=some (.pointer (some ⟨b,0,none⟩)))(h2:W.cell? ⟨bd,0,none⟩=some dv)(h3:W.cell? ⟨bc,0,none⟩=some cv) :
    JW (SW (H9 D m) ρ Try.prog).base x (born Try.prog (SB ρ.Wg bw bd bc)) W:=by
  obtain ⟨p,cap,hcv,hcl,_⟩:=hcs σ W h.inv;obtain ⟨dt,dw,rfl⟩:=hdv;show JW (SW (H9 D m) ρ Try.prog).base x (G (Jz Try.prog.funcs.size #[] [] [SB ρ.Wg bw bd bc] (.panicking [goexitEntry]) (default:Frame).kind) []) W;refine JW.defers (S:=(SW (H9 D m) ρ Try.prog).base) Try.func76 (by kernel_rfl) rfl (by simp) ?_;rw [enter_atD _ Try.func76 nZ];have ht:#[] ++ #[.pointer (some ⟨ρ.Wg,0,none⟩),.pointer (some ⟨bw,0,none⟩),.pointer (some ⟨bd,0,none⟩),.pointer (some ⟨bc,0,none⟩)] ++ Array.replicate (Try.f76.ntmps - (#[] ++ #[.pointer (some ⟨ρ.Wg,0,none⟩),.pointer (some ⟨bw,0,none⟩),.pointer (some ⟨bd,0,none⟩),.pointer (some ⟨bc,0,none⟩)]:Array Value).size) undef=#[.pointer (some ⟨ρ.Wg,0,none⟩),.pointer (some ⟨bw,0,none⟩),.pointer (some ⟨bd,0,none⟩),.pointer (some ⟨bc,0,none⟩),undef,undef,undef,undef]:=by
    have:Try.f76.ntmps=8:=by kernel_rfl
    rw [this];walk_nrm
  rw [ht];show JL (SW (H9 D m) ρ Try.prog).L x _ W;generalize hroot:(Jz Try.prog.funcs.size #[] [] [] (.panicking [goexitEntry]) (default:Frame).kind:Frame)=root;refine GY stepG_seq ?_;simp only [ru0,Try.f76];refine Hu fun _ hkk=>?_;refine JL.Yd rfl rfl nE rfl rfl ?_;walk_nrm;refine Hw ?_;cases hkk;simp only [ru1,Try.f76];refine Hu fun _ hkk=>?_;have HH:=Lib.hid (And.intro hD (And.intro h (And.intro Ot (And.intro hcs hty))));clear hD h Ot hcs;refine HY.Jm (S:=SW (H9 D m) ρ Try.prog) (b:=baseD 76) 0 3 [] (by simp) (by kernel_rfl) nE (rest:=[3]) rfl (by kernel_rfl) fun GQ ha=>?_;have hcell:∀ a,GQ.cell? a=W.cell? a:=fun a=>by obtain ⟨τ,d,rfl⟩:=ha;rfl
  rw [← hcell] at h1 h2 h3;subst hcv;clear hcell;dsimp only [List.drop,List.take];gi_wp2;refine ⟨rfl,?_⟩;obtain ⟨hD,h,Ot,hcs,hty⟩:=HH.out;clear HH;show JL (SW (H9 D m) ρ Try.prog).L x _ GQ;try dsimp only
  refine JL.enter rfl rfl nE rfl Try.func78 (by kernel_rfl) (by kernel_rfl) ?_;walk_nrm;cases hkk;have hA1:Xk D m b k x own z σ GQ:=h.alike (Io ha);refine j5 hD ⟨dt,dw,rfl⟩ hns hA1 hcur hbg Ot hcs fun W'=>?_;rw [Frame.finish_at];walk_nrm;refine GY stepG_region_end ?_;refine GY stepG_end ?_;refine JL.defers Try.func77 (by kernel_rfl) rfl (by simp) ?_;rw [enter_atD _ Try.func77 rfl];rw [hty];have ht2:#[.pointer (some ⟨ρ.Wg,0,none⟩)] ++ #[] ++ Array.replicate (Try.f77.ntmps - (#[.pointer (some ⟨ρ.Wg,0,none⟩)] ++ #[]:Array Value).size) undef=#[.pointer (some ⟨ρ.Wg,0,none⟩),undef,undef,undef]:=by
    have:Try.f77.ntmps=4:=by kernel_rfl
    rw [this];walk_nrm
  rw [ht2];subst hroot;refine yE (L:=link) jC rfl (fun W=>?_) W';exact JL.uO Try.func76 rfl (YF W)
end
end Go.Proofs.Ytkdhnbcdbnpmhaa
namespace Go.Proofs.Ytkdhnbcdbnpmhaa
open Go Go.Conc Go.LT Go.LC Go.LK Go.RowKit
open Go.ConcN (WgLive)
section
section
variable {X Sg:Type}
variable {Fin:Iw}{GR:Ig Try.prog Fin}
variable {M:Md X Sg}{ρ:Rn}{ws:List (Ij X)}{W:World}{n bp bd br:Nat}{lv I6 Kh wv u25 u26:Value}{ds:List Deferred}{K:List Item}{cs:List Frame}
theorem V3:(Try.prog.info? 3).map (fun i=>(i.zero,i.size,i.bytes))=some (some (.int .i64 0),1,8):=by kernel_rfl
theorem wV {i pg po pn JG:Nat}{ca:Option Addr}{cn cc:Nat}{tm:Array Value}(hs:Sr bp bd br ρ.come ρ.gone ρ.Wg lv I6 Kh (.slice (some ⟨pg,po,none⟩) pn JG) u25 (.int .i64 i) tm)(hi:i < pn)(hpn:pn<=1000000)(hc:W.cell? ⟨pg,po+i,none⟩=some (.slice ca cn cc))(hK:∀ W' tm',Sr bp bd br ρ.come ρ.gone ρ.Wg lv (.pointer (some ⟨W.heap.size,0,none⟩)) Kh (.slice (some ⟨pg,po,none⟩) pn JG) u25 (.int .i64 i) tm'->tm'[11]?=some (.int .i64 i)->W'.heap=W.heap.push (.cells #[.slice ca cn cc] 22 (0,0))->JL (S0 Try.prog Fin GR).L (.H7 M ρ ws 0 false n) (G ((base 52).at ⟨tm',ds⟩ K) cs) W') :
    JL (S0 Try.prog Fin GR).L (.H7 M ρ ws 0 false n) (G ((base 52).at ⟨tm,ds⟩ (.code rn9 :: K)) cs) W:=by
  obtain ⟨v0,v1,v5,v6,Ab,Af,Ah,Ai,Aj,Ak,Al,Am,Ao,Ap,Aq,Aw,Ay,Az,AA,AB,AJ,AL,AO,AP,AQ,AU,AV,AX,AY,AZ,A8,A9,Ba,Bb,Bc,Bf,Bh,Bj,Bl,Bp,Bq,rfl⟩:=hs;refine HY.Ht (S:=S0 Try.prog Fin GR) (b:=base 52) [] (by simp) (by kernel_rfl) nE (by kernel_rfl) fun GQ ha=>?_;have hh:GQ.heap=W.heap:=by obtain ⟨τ,d,rfl⟩:=ha;rfl
  have hc1:GQ.cell? ⟨pg,po+i,none⟩=some (.slice ca cn cc):=by simp only [World.cell?,hh] at hc ⊢;exact hc
  have HH:=Lib.hid (And.intro hK hh);clear hK hc hh;dsimp only;simp only [rn9,Un,Ur,Try.f52];gi_wp2;obtain ⟨hK,hh⟩:=HH.out;clear HH;refine hK _ _ ?_ ?_ ?_
  . rw [← hh];exact ⟨_,_,_,_,_,_,_,_,_,_,_,_,_,_,_,_,_,_,_,_,_,_,_,_,_,_,_,_,_,_,_,_,_,_,_,_,_,_,_,_,_,rfl⟩
  . rfl
  . rw [← hh];rfl
theorem Qq (w:World):(Instr.makeChan 145 (.int .i64 0)).run Try.prog w=.ok (.chan (some w.heap.size)) (w.alloc (.chan 0 #[] false 0 0 false)):=by obtain ⟨i,hi,h0,h1,h2⟩:=info_parts V3;exact run_makeChan (P:=Try.prog) (t:=145) (e:=3) (dir:=.both) (i:=i) (w:=w) (by kernel_rfl) hi .i64 0 (by decide) (by simp)
theorem uf {i:Nat}{tm:Array Value}(hs:Sr bp bd br ρ.come ρ.gone ρ.Wg lv I6 Kh wv u25 u26 tm)(h11:tm[11]?=some (.int .i64 i))(hK:∀ W' tm',Sr bp bd br ρ.come ρ.gone ρ.Wg lv I6 (.pointer (some ⟨W.heap.size+2,0,none⟩)) wv u25 u26 tm'->W'.heap=((W.heap.push (.chan 0 #[] false 0 0 false)).push (.cells #[.int .i64 i,.bool true,.chan (some W.heap.size),.chan (some ρ.come),.chan (some ρ.gone),.bool false,.int .i64 0,.int .i64 0,.int .i64 0,.slice none 0 0,.bool false,.bool false] 157 (0,0))).push (.cells #[.pointer (some ⟨W.heap.size+1,0,none⟩)] 109 (0,0))->JL (S0 Try.prog Fin GR).L (.H7 M ρ ws 0 false n) (G ((base 52).at ⟨tm',ds⟩ K) cs) W') :
    JL (S0 Try.prog Fin GR).L (.H7 M ρ ws 0 false n) (G ((base 52).at ⟨tm,ds⟩ (.code kN :: K)) cs) W:=by
  obtain ⟨v0,v1,v5,v6,Ab,Af,Ah,Ai,Aj,Ak,Al,Am,Ao,Ap,Aq,Aw,Ay,Az,AA,AB,AJ,AL,AO,AP,AQ,AU,AV,AX,AY,AZ,A8,A9,Ba,Bb,Bc,Bf,Bh,Bj,Bl,Bp,Bq,rfl⟩:=hs;have Afd:some Ab=some (.int .i64 (i:Int)):=h11;cases Afd
  clear h11;have hmk:∀ w:World,(Instr.makeChan 145 (.int .i64 0)).run Try.prog w=.ok (.chan (some w.heap.size)) (w.alloc (.chan 0 #[] false 0 0 false)):=Qq;refine HY.Ht (S:=S0 Try.prog Fin GR) (b:=base 52) [] (by simp) (by kernel_rfl) nE (by kernel_rfl) fun GQ ha=>?_;have hh:GQ.heap=W.heap:=by obtain ⟨τ,d,rfl⟩:=ha;rfl
  have HH:=Lib.hid (And.intro hK hh);clear hK hh;dsimp only;simp only [kN,Un,Ur,Try.f52];gi_wp2;obtain ⟨hK,hh⟩:=HH.out;clear HH;refine hK _ _ ?_ ?_
  . rw [← hh];exact ⟨_,_,_,_,_,_,_,_,_,_,_,_,_,_,_,_,_,_,_,_,_,_,_,_,_,_,_,_,_,_,_,_,_,_,_,_,_,_,_,_,_,rfl⟩
  . rw [← hh];rfl
theorem oC:(Try.prog.info? 109).map (fun i=>(i.zero,i.size,i.bytes))=some (some (.pointer none),1,8):=by kernel_rfl
theorem sZ {bw b k:Nat}{xs:List Value}{tm:Array Value}(hs:Sr bp bd br ρ.come ρ.gone ρ.Wg lv I6 (.pointer (some ⟨bw,0,none⟩)) wv u25 u26 tm)(hb:W.cell? ⟨bw,0,none⟩=some (.pointer (some ⟨b,0,none⟩)))(hown:BA.IE W 0 1 lv k xs)(hk:k<=1000000)(hK:∀ L6 W' tm',Sr bp bd br ρ.come ρ.gone ρ.Wg L6 I6 (.pointer (some ⟨bw,0,none⟩)) wv u25 u26 tm'->BA.IE W' 0 1 L6 (k+1) (xs ++ [.pointer (some ⟨b,0,none⟩)])->(∀ g,g < W.heap.size->lv.ownBlock≠some g->W'.heap[g]?=W.heap[g]?)->(L6.ownBlock=lv.ownBlock\/((∀ g,L6.ownBlock=some g->W.heap.size<=g)/\∀ g,g < W.heap.size->W'.heap[g]?=W.heap[g]?))->W.heap.size<=W'.heap.size->JL (S0 Try.prog Fin GR).L (.H7 M ρ ws 0 false n) (G ((base 52).at ⟨tm',ds⟩ K) cs) W') :
    JL (S0 Try.prog Fin GR).L (.H7 M ρ ws 0 false n) (G ((base 52).at ⟨tm,ds⟩ (.code ni :: K)) cs) W:=by
  obtain ⟨v0,v1,v5,v6,Ab,Af,Ah,Ai,Aj,Ak,Al,Am,Ao,Ap,Aq,Aw,Ay,Az,AA,AB,AJ,AL,AO,AP,AQ,AU,AV,AX,AY,AZ,A8,A9,Ba,Bb,Bc,Bf,Bh,Bj,Bl,Bp,Bq,rfl⟩:=hs;refine HY.Ht (S:=S0 Try.prog Fin GR) (b:=base 52) [] (by simp) (by kernel_rfl) nE (by kernel_rfl) fun GQ ha=>?_;have hh:GQ.heap=W.heap:=by obtain ⟨τ,d,rfl⟩:=ha;rfl
  have hb1:GQ.cell? ⟨bw,0,none⟩=some (.pointer (some ⟨b,0,none⟩)):=by simp only [World.cell?,hh] at hb ⊢;exact hb
  have hown1:BA.IE GQ 0 1 lv k xs:=Lf hown fun g _=>.of (by rw [hh]);obtain ⟨i0,hi,hz0,hz1,hz2⟩:=info_parts oC;have hlt:∀ g,lv.ownBlock=some g->g < GQ.heap.size:=fun g hg=>by
    obtain ⟨te,_,⟨rfl,_⟩|⟨g',cap,cur,rfl,_,h1,_⟩⟩:=hown1
    . cases hg
    . cases hg;exact (Array.getElem?_eq_some_iff.1 h1).1
  have hown2:BA.IE (GQ.alloc (.cells #[.pointer (some ⟨b,0,none⟩)] 109)) 0 1 lv k xs:=Lf hown1 fun g hg=>.of (Below.heap_alloc _ _ _ (hlt g hg));have HH:=Lib.hid (And.intro hK (And.intro hh (And.intro hown hown1)));clear hK hb hh hown hown1;dsimp only;simp only [ni,Un,Ur,Try.f52];gi_wp2_with (gi_at_builtin;refine Jv _ rfl _ _ 153 rfl 0 109 i0 (.pointer none) 1 8 Try.underlying153 hi hz0 hz1 hz2 rfl (by decide) lv k xs rfl hown2 ⟨GQ.heap.size,0,none⟩ 1 1 [.pointer (some ⟨b,0,none⟩)] rfl rfl (cell_one_new _ _ _) (by simp [Value.oneCell']) (by unfold maxLen;omega) (by omega) (Nat.zero_le _) ?_;intro L6 w1 r1 r2 r3)
  obtain ⟨hK,hh,hown,hown1⟩:=HH.out;clear HH;have hsz:(GQ.alloc (.cells #[.pointer (some ⟨b,0,none⟩)] 109)).heap.size=W.heap.size+1:=by simp [hh]
  have hal:∀ g,g < W.heap.size->(GQ.alloc (.cells #[.pointer (some ⟨b,0,none⟩)] 109)).heap[g]?=W.heap[g]?:=fun g hg=>by rw [Below.heap_alloc _ _ _ (by rw [hh];exact hg),hh]
  refine hK L6 w1 _ ⟨_,_,_,_,_,_,_,_,_,_,_,_,_,_,_,_,_,_,_,_,_,_,_,_,_,_,_,_,_,_,_,_,_,_,_,_,_,_,_,_,_,rfl⟩ r1 (fun g hg hne=>?_) ?_ ?_
  . rw [r2.block g (by rw [hsz];omega) (fun e=>hne e.symm)]
    exact hal g hg
  . rcases r3 with h | ⟨h1,h2⟩
    . exact .inl h
    . exact .inr ⟨fun g hg=>by have:=h1 g hg;rw [hsz] at this;omega,fun g hg=>by rw [h2.block g (by rw [hsz];omega) (by simp)];exact hal g hg⟩
  . have:=r2.size;rw [hsz] at this;omega
end
end
section
theorem Rz {o:Obj}{c:Array Value}{e:TypeId}{f:Nat × Nat}(h:dep false o=.cells c e f):o=.cells c e f:=by cases o <;> simp_all [dep]
theorem OM {B:Hid}{w W:World}{b:Nat}{c:Array Value}{e:TypeId}{f:Nat × Nat}(hs:J2 B w W)(h1:B b=false)(h2:B.MH b=false)(h:W.heap[b]?=some (.cells c e f)):w.heap[b]?=some (.cells c e f):=by
  rw [IV hs,Ib h1,h2] at h;cases hw:w.heap[b]? with
  | none=>rw [hw] at h;cases h
  | some o=>
    rw [hw] at h;exact congrArg some (Rz (Option.some.inj h))
theorem Ol {B:Nat->Bool}{w:World}{b:Nat}{c:Array Value}{e:TypeId}{f:Nat × Nat}(h1:B b=false)(h:w.heap[b]?=some (.cells c e f)):(GN { hol:=B } w).heap[b]?=some (.cells c e f):=by rw [Ib (B:={ hol:=B }) h1,h];rfl
section
variable {Cs Sg:Type}{D:Dr G5 Cs Sg}{m:Mem Sg}{ρ:Rn}{b k:Nat}{W:World}{σ:Sg}
variable {dv cv:Value}{ws:List (Ij (Wk G5 Cs))}
theorem dU {Ry:FuncId}{recv:Value}{h t bw bd bc r:Nat}{z:Wk G5 Cs}{wy:World}(hD:RD (MP D m ρ b k) dv Ry recv)(hdv:∃ t v,dv=.iface t v)(hns:¬ ρ.shut)(hzi:ρ.zi=.int .i64 0)(hzg:ρ.zg=.agg #[])(hty:ρ.ty=link.tWg)(hcs:∀ σ W,m.Inv σ W->Nf W cv z.todo)(hz:z={ k:=k,todo:=z.todo })(hr:r < 2 ^ 62)(hrow:IQ W b k t ρ.come ρ.gone false 0 0 0 (.slice none 0 0) false false)(hbw:W.heap[bw]?=some (.cells #[.pointer (some ⟨b,0,none⟩)] 109 (0,0)))(hbc:W.heap[bc]?=some (.cells #[cv] 22 (0,0)))(Uk:∀ g,g=b\/g=bw\/g=bc->(Il ρ ws) g=false/\(Il ρ ws).MH g=false/\¬ m.Sh g)(rF:∀ g,m.Sh g->(Il ρ ws) g=false/\(Il ρ ws).MH g=false)(hI:m.Inv σ W)(hbd:∀ W,m.Inv σ W->W.cell? ⟨bd,0,none⟩=some dv) :
    ∀ w,J2 (Il ρ ws) w W->∀ B,jr (H9 D m) ρ ⟨h,k,b,t,b,fun g=>g=b\/g=bw\/g=bc,z,wy,false,r⟩ B w.heap.size->LT.Rows B w->
      WJ (H9 D m) ρ Try.prog r ⟨⟨h,k,b,t,b,fun g=>g=b\/g=bw\/g=bc,z,wy,false,r⟩,B,w.heap.size,({ z with over:=z.todo.isEmpty },σ,z.todo.isEmpty)⟩ (born Try.prog (SB ρ.Wg bw bd bc)) w:=by
  intro w hs B Px hR;have hrow':=OM hs (Uk b (.inl rfl)).1 (Uk b (.inl rfl)).2.1 hrow;have Aaj:=OM hs (Uk bw (.inr (.inl rfl))).1 (Uk bw (.inr (.inl rfl))).2.1 hbw;have hbc':=OM hs (Uk bc (.inr (.inr rfl))).1 (Uk bc (.inr (.inr rfl))).2.1 hbc;have yg:∀ g,g=b\/g=bw\/g=bc->B g=false:=fun g hg=>Px.own g hg;have hI2:m.Inv σ (GN { hol:=B } w):=by
    refine m.eq σ W _ (fun g hg=>?_) hI;have h1:=rF g hg;have a1:=NY.view (w:=w) h1.1 h1.2;have a2:NY w (GN { hol:=B } w) g:=NY.view (B:={ hol:=B }) (Px.sh g hg) rfl;have a3:NY w W g:=by unfold NY at a1 ⊢;rw [IV hs];exact a1
    exact a3.symm.trans a2
  have hrows:∀ g,g=b\/g=bw\/g=bc->∃ c e f,w.heap[g]?=some (Obj.cells c e f):=fun g hg=>by
    rcases hg with rfl|rfl|rfl
    . exact ⟨_,_,_,hrow'⟩
    . exact ⟨_,_,_,Aaj⟩
    . exact ⟨_,_,_,hbc'⟩
  refine aW (x:=⟨(⟨⟨h,k,b,t,b,fun g=>g=b\/g=bw\/g=bc,z,wy,false,r⟩,B,w.heap.size,({ z with over:=z.todo.isEmpty },σ,z.todo.isEmpty)⟩,r),Px.wg⟩) (own:=fun g=>g=b\/g=bw\/g=bc) (z:=z) (σ:=σ) (W:=GN { hol:=B } w) (b:=b) (k:=k) (bw:=bw) (bd:=bd) (bc:=bc) hD hdv hns ?_ (by rw [hz]) (by rw [hz]) rfl hcs hty ?_ (hbd _ hI2) ?_ w ⟨.refl _,hR⟩
  . exact {
            zi:=hzi,zg:=hzg,vb:=rfl,vk:=rfl
            row:=by
              have e1:z.st=0:=by rw [hz]
              have e2:z.bg=0:=by rw [hz]
              have e3:z.ow=0:=by rw [hz]
              rw [e1,e2,e3];exact Ol (yg b (.inl rfl)) hrow'
            zk:=by rw [hz],zo:=by rw [hz],zf:=by rw [hz],sN:=by rw [hz]
            inv:=hI2,sh:=Px.sh,low:=Px.low,size:=by rw [Je];exact Nat.le_refl _
            Yu:=fun g hg=>by obtain ⟨c,e,f,hc⟩:=hrows g hg;exact (Array.getElem?_eq_some_iff.1 hc).1
            cb:=.inl rfl,o1:=fun g hg=>hg,o2:=fun g hg=>.inl hg
            o3:=fun g hg=>⟨yg g hg,(Uk g hg).2.2,by obtain ⟨c,e,f,hc⟩:=hrows g hg;exact ⟨c,e,f,Ol (yg g hg) hc⟩⟩
            NU:=.inl rfl
            cap:=by
              have e3:z.ow=0:=by rw [hz]
              rw [e3];show 0+r < _;omega }
  . have:=Ol (yg bw (.inr (.inl rfl))) Aaj;simp [World.cell?,this]
  . have:=Ol (yg bc (.inr (.inr rfl))) hbc';simp [World.cell?,this]
end
end
section
section
variable {X Sg:Type}
variable {Fin:Iw}{GR:Ig Try.prog Fin}
variable {M:Md X Sg}{ρ:Rn}{ws:List (Ij X)}{W:World}{n bp bd br:Nat}{lv I6 Kh wv u25 u26:Value}{ds:List Deferred}{K:List Item}{cs:List Frame}
theorem vG (hty:ρ.ty=link.tWg)(hcap:n+0+1 < 2147483648){tm:Array Value}(hs:Sr bp bd br ρ.come ρ.gone ρ.Wg lv I6 Kh wv u25 u26 tm)(hK:∀ tm',Sr bp bd br ρ.come ρ.gone ρ.Wg lv I6 Kh wv u25 u26 tm'->JL (S0 Try.prog Fin GR).L (.H7 M ρ ws 1 false n) (G ((base 52).at ⟨tm',ds⟩ K) cs) W) :
    JL (S0 Try.prog Fin GR).L (.H7 M ρ ws 0 false n) (G ((base 52).at ⟨tm,ds⟩ (.code kY :: K)) cs) W:=by
  obtain ⟨v0,v1,v5,v6,Ab,Af,Ah,Ai,Aj,Ak,Al,Am,Ao,Ap,Aq,Aw,Ay,Az,AA,AB,AJ,AL,AO,AP,AQ,AU,AV,AX,AY,AZ,A8,A9,Ba,Bb,Bc,Bf,Bh,Bj,Bl,Bp,Bq,rfl⟩:=hs;dsimp only;simp only [kY,Un,Ur,Try.f52];refine Hu fun _ hkk=>?_;show JL (Y9 (X:=X) (Sg:=Sg) Try.prog Fin GR) _ _ _;refine J0.lN (L:=link) jC hty hcap rfl rfl nE rfl rfl rfl ?_;walk_nrm;refine Hw ?_;cases hkk;exact hK _ ⟨_,_,_,_,_,_,_,_,_,_,_,_,_,_,_,_,_,_,_,_,_,_,_,_,_,_,_,_,_,_,_,_,_,_,_,_,_,_,_,_,_,rfl⟩
theorem pU {i pn:Nat}(hi:i<=1000000)(hn:pn<=1000000){tm:Array Value}(hs:Sr bp bd br ρ.come ρ.gone ρ.Wg lv I6 Kh wv (.int .i64 pn) (.int .i64 i) tm)(hK:∀ W' tm',Sr bp bd br ρ.come ρ.gone ρ.Wg lv I6 Kh wv (.int .i64 pn) (.int .i64 i) tm'->tm'[27]?=some (.bool (decide (i < pn)))->W'.heap=W.heap->JL (S0 Try.prog Fin GR).L (.H7 M ρ ws 0 false n) (G ((base 52).at ⟨tm',ds⟩ K) cs) W') :
    JL (S0 Try.prog Fin GR).L (.H7 M ρ ws 0 false n) (G ((base 52).at ⟨tm,ds⟩ (.code rn8 :: K)) cs) W:=by
  obtain ⟨v0,v1,v5,v6,Ab,Af,Ah,Ai,Aj,Ak,Al,Am,Ao,Ap,Aq,Aw,Ay,Az,AA,AB,AJ,AL,AO,AP,AQ,AU,AV,AX,AY,AZ,A8,A9,Ba,Bb,Bc,Bf,Bh,Bj,Bl,Bp,Bq,rfl⟩:=hs;refine HY.Ht (S:=S0 Try.prog Fin GR) (b:=base 52) [] (by simp) (by kernel_rfl) nE (by kernel_rfl) fun GQ ha=>?_;have hh:GQ.heap=W.heap:=by obtain ⟨τ,d,rfl⟩:=ha;rfl
  have HH:=Lib.hid (And.intro hK hh);clear hK hh;dsimp only;simp only [rn8,Un,Try.f52,Ur];gi_wp2;obtain ⟨hK,hh⟩:=HH.out;exact hK GQ _ ⟨_,_,_,_,_,_,_,_,_,_,_,_,_,_,_,_,_,_,_,_,_,_,_,_,_,_,_,_,_,_,_,_,_,_,_,_,_,_,_,_,_,rfl⟩ (by simp) hh
theorem vY {i:Nat}(hi:i < 1000000){tm:Array Value}(hs:Sr bp bd br ρ.come ρ.gone ρ.Wg lv I6 Kh wv u25 (.int .i64 i) tm)(hK:∀ W' tm',Sr bp bd br ρ.come ρ.gone ρ.Wg lv I6 Kh wv u25 (.int .i64 ((i+1:Nat):Int)) tm'->W'.heap=W.heap->JL (S0 Try.prog Fin GR).L (.H7 M ρ ws 0 false n) (G ((base 52).at ⟨tm',ds⟩ K) cs) W') :
    JL (S0 Try.prog Fin GR).L (.H7 M ρ ws 0 false n) (G ((base 52).at ⟨tm,ds⟩ (.code sj :: K)) cs) W:=by
  obtain ⟨v0,v1,v5,v6,Ab,Af,Ah,Ai,Aj,Ak,Al,Am,Ao,Ap,Aq,Aw,Ay,Az,AA,AB,AJ,AL,AO,AP,AQ,AU,AV,AX,AY,AZ,A8,A9,Ba,Bb,Bc,Bf,Bh,Bj,Bl,Bp,Bq,rfl⟩:=hs;refine HY.Ht (S:=S0 Try.prog Fin GR) (b:=base 52) [] (by simp) (by kernel_rfl) nE (by kernel_rfl) fun GQ ha=>?_;have hh:GQ.heap=W.heap:=by obtain ⟨τ,d,rfl⟩:=ha;rfl
  have hw:RowKit.wrap64 ((i:Int)+1)=((i+1:Nat):Int):=Nq (by omega);have hl1:(-9223372036854775808:Int)<=(i:Int)+1:=by omega
  have hl2:(i:Int)+1<=9223372036854775807:=by omega
  have HH:=Lib.hid (And.intro hK (And.intro hh hw));clear hK hh hw;dsimp only;simp only [sj,Un,Ur,Try.f52];gi_wp2;obtain ⟨hK,hh,hw⟩:=HH.out;exact hK GQ _ ⟨_,_,_,_,_,_,_,_,_,_,_,_,_,_,_,_,_,_,_,_,_,_,_,_,_,_,_,_,_,_,_,_,_,_,_,_,_,_,_,_,_,rfl⟩ hh
end
end
section
section
variable {Cs Sg:Type}
structure HI (m:Mem Sg)(ρ:Rn)(plans:List (List G5))(R:Nat)(ws:List (Ij (Wk G5 Cs)))(σ:Sg)(lv:Value)(Kp:Nat->Prop)(W0 W:World):Prop where
  inv:m.Inv σ W
  xs:∀ (j:Nat) (u:Ij (Wk G5 Cs)),ws[j]?=some u->∃ pl,plans[j]?=some pl/\u.x=Wk.new j pl/\u.over=pl.isEmpty/\u.r=R/\u.k=j
  VT:BA.IE W 0 1 lv ws.length (ws.map fun u=>.pointer (some ⟨u.b,0,none⟩))
  dh:∀ g,lv.ownBlock=some g->g≠ρ.Wg/\ρ.Bo g=false/\¬ m.Sh g/\∀ (j:Nat) (u:Ij (Wk G5 Cs)),ws[j]?=some u->¬ u.own g
  lt:∀ (j:Nat) (u:Ij (Wk G5 Cs)),ws[j]?=some u->u.t < W.heap.size/\∀ g,u.own g->g < W.heap.size/\¬ m.Sh g
  wg:ρ.Wg < W.heap.size
  come:ρ.come < W.heap.size
  gone:ρ.gone < W.heap.size
  bo:∀ g,ρ.Bo g=true->g < W.heap.size
  sh:∀ g,m.Sh g->g≠ρ.Wg/\ρ.Bo g=false
  kp:∀ g,Kp g->W.heap[g]?=W0.heap[g]?/\(∃ c e f,W0.heap[g]?=some (.cells c e f))/\g≠ρ.Wg/\ρ.Bo g=false/\¬ m.Sh g/\lv.ownBlock≠some g/\∀ (j:Nat) (u:Ij (Wk G5 Cs)),ws[j]?=some u->¬ u.own g
structure Oa (m:Mem Sg)(pg po:Nat)(Mh:List Value)(plans:List (List G5)):Prop where
  len:Mh.length=plans.length
  few:plans.length<=1000
  cell:∀ σ W,m.Inv σ W->∀ (i:Nat) (cv:Value),Mh[i]?=some cv->W.cell? ⟨pg,po+i,none⟩=some cv
  calls:∀ (i:Nat) (cv:Value) (pl:List G5),Mh[i]?=some cv->plans[i]?=some pl->∀ σ W,m.Inv σ W->Nf W cv pl
variable {D:Dr G5 Cs Sg}{m:Mem Sg}
variable {Fin:Iw}{GR:Ig Try.prog Fin}
variable {ρ:Rn}{ws:List (Ij (Wk G5 Cs))}{W:World}{n bp bd br:Nat}{dv lv I6 Kh wv u25 u26:Value}{ds:List Deferred}{K:List Item}{cs:List Frame}{σ:Sg}
theorem Uu {g:Nat}(h1:g≠ρ.Wg)(h2:ρ.Bo g=false)(h3:∀ (j:Nat) (u:Ij (Wk G5 Cs)),ws[j]?=some u->¬ u.own g):(Il ρ ws) g=false/\(Il ρ ws).MH g=false:=⟨K3 h1 h2,MO h3⟩
theorem aQ {Kp:Nat->Prop}{W0:World}{plans:List (List G5)}{R i pg po JG:Nat}{Mh:List Value}{pl:List G5}{Ry:FuncId}{recv:Value}(hD:∀ b k,RD (MP D m ρ b k) dv Ry recv)(hdv:∃ t v,dv=.iface t v)(hns:¬ ρ.shut)(hcl:¬ ρ.Uh)(hzi:ρ.zi=.int .i64 0)(hzg:ρ.zg=.agg #[])(hty:ρ.ty=link.tWg)(hbd:∀ σ W,m.Inv σ W->W.cell? ⟨bd,0,none⟩=some dv)(hR:R < 2 ^ 62)(hcap:n < 1000000)(hP:Oa m pg po Mh plans)(h:HI m ρ plans R ws σ lv Kp W0 W)(hi:ws.length=i)(hpl:plans[i]?=some pl){tm:Array Value}(hs:Sr bp bd br ρ.come ρ.gone ρ.Wg lv I6 Kh (.slice (some ⟨pg,po,none⟩) plans.length JG) u25 (.int .i64 i) tm)(hK:∀ ws' L6 W' a12 gq tm',Sr bp bd br ρ.come ρ.gone ρ.Wg L6 a12 gq (.slice (some ⟨pg,po,none⟩) plans.length JG) u25 (.int .i64 i) tm'->HI m ρ plans R ws' σ L6 Kp W0 W'->ws'.length=i+1->JL (S0 Try.prog Fin GR).L (.H7 (H9 D m) ρ ws' 0 false (n+1)) (G ((base 52).at ⟨tm',ds⟩ K) cs) W') :
    JL (S0 Try.prog Fin GR).L (.H7 (H9 D m) ρ ws 0 false n) (G ((base 52).at ⟨tm,ds⟩ (.code (.seq rn9 (.seq kN (.seq ni (.seq kY (.seq jZ Yg))))) :: K)) cs) W:=by
  refine J0.low (GR:=GR) fun _ hlow=>?_;show JL (S0 Try.prog Fin GR).L _ _ W;have hilt:i < plans.length:=(List.getElem?_eq_some_iff.1 hpl).1;obtain ⟨cv,hcv⟩:∃ cv,Mh[i]?=some cv:=⟨_,List.getElem?_eq_getElem (by rw [hP.len];exact hilt)⟩
  have Qf:=hP.few;have hcA:=hP.calls i cv pl hcv hpl;obtain ⟨ca,cc,Abt,_⟩:=hcA σ W h.inv;have hcell:=hP.cell σ W h.inv i cv hcv;have hlb:∀ g,lv.ownBlock=some g->g < W.heap.size:=fun g hg=>by obtain ⟨c,e,f,hc⟩:=OV h.VT hg;exact (Array.getElem?_eq_some_iff.1 hc).1
  have PK:∀ g,m.Sh g->g < W.heap.size:=fun g hg=>by obtain ⟨c,e,f,hc⟩:=m.rows σ W g hg h.inv;exact (Array.getElem?_eq_some_iff.1 hc).1
  rw [Abt] at hcell;refine GY stepG_seq ?_;refine wV hs hilt (by omega) hcell fun W1 WX hs1 h11 hW1=>?_;have hz1:W1.heap.size=W.heap.size+1:=by rw [hW1];simp
  refine GY stepG_seq ?_;refine uf hs1 h11 fun W2 wF hs2 hW2=>?_;have hz2:W2.heap.size=W.heap.size+4:=by rw [hW2];simp [hz1]
  have Xy:∀ g,g < W.heap.size->W2.heap[g]?=W.heap[g]?:=fun g hg=>by rw [hW2,hW1];simp only [Array.getElem?_push,Array.size_push];rw [if_neg (by omega),if_neg (by omega),if_neg (by omega),if_neg (by omega)]
  generalize hN:W.heap.size=N at *;rw [hz1] at hs2 hW2;have q0:W2.heap[N]?=some (.cells #[.slice ca pl.length cc] 22 (0,0)):=by rw [hW2,hW1];simp only [Array.getElem?_push,Array.size_push,hN];rw [if_neg (by omega),if_neg (by omega),if_neg (by omega)];rfl
  have q1:W2.heap[N+1]?=some (.chan 0 #[] false 0 0 false):=by
    rw [hW2];simp only [Array.getElem?_push,Array.size_push,hz1]
    simp
  have q2:W2.heap[N+1+1]?=some (.cells #[.int .i64 i,.bool true,.chan (some (N+1)),.chan (some ρ.come),.chan (some ρ.gone),.bool false,.int .i64 0,.int .i64 0,.int .i64 0,.slice none 0 0,.bool false,.bool false] 157 (0,0)):=by
    rw [hW2];simp only [Array.getElem?_push,Array.size_push,hz1]
    simp
  have q3:W2.heap[N+1+2]?=some (.cells #[.pointer (some ⟨N+1+1,0,none⟩)] 109 (0,0)):=by
    rw [hW2];simp only [Array.getElem?_push,Array.size_push,hz1]
    simp
  clear hW1 hW2;refine GY stepG_seq ?_;refine sZ hs2 (b:=N+1+1) (k:=i) (xs:=ws.map fun u=>.pointer (some ⟨u.b,0,none⟩)) (by simp [World.cell?,q3]) (by rw [← hi];exact Lf h.VT fun g hg=>.of (Xy g (hlb g hg))) (by omega) fun L6 W3 tm3 hs3 hown3 Aex hlv3 hz3=>?_;refine GY stepG_seq ?_;refine vG hty (by omega) hs3 fun tm4 hs4=>?_;have hk3:∀ g,g < N+4->lv.ownBlock≠some g->W3.heap[g]?=W2.heap[g]?:=fun g hg hne=>Aex g (by omega) hne;have hnew:∀ g,N<=g->lv.ownBlock≠some g:=fun g hg e=>by have:=hlb g e;omega
  have r0:=(hk3 N (by omega) (hnew N (by omega))).trans q0;have r1:=(hk3 (N+1) (by omega) (hnew _ (by omega))).trans q1;have r2:=(hk3 (N+1+1) (by omega) (hnew _ (by omega))).trans q2;have r3:=(hk3 (N+1+2) (by omega) (hnew _ (by omega))).trans q3;have hI3:m.Inv σ W3:=m.eq σ W W3 (fun g hg=>.of (by have h1:=PK g hg;rw [hk3 g (by omega) (fun e=>(h.dh g e).2.2.1 hg),Xy g h1])) h.inv
  have hbo:∀ g,N<=g->ρ.Bo g=false:=fun g hg=>by
    cases e:ρ.Bo g with
    | false=>rfl
    | true=>have:=h.bo g e;omega
  have hwg:=h.wg;have hco:=h.come;have hgo:=h.gone;rw [hN] at hwg hco hgo;have aX:∀ (j:Nat) (u:Ij (Wk G5 Cs)),ws[j]?=some u->u.t < N/\∀ g,u.own g->g < N/\¬ m.Sh g:=fun j u hu=>by have:=h.lt j u hu;rw [hN] at this;exact this
  have Uk:∀ g,g=N+1+1\/g=N+1+2\/g=N->(Il ρ ws) g=false/\(Il ρ ws).MH g=false/\¬ m.Sh g:=fun g hg=>by
    have h1:=Uu (ρ:=ρ) (ws:=ws) (g:=g) (by omega) (hbo g (by omega)) fun j u hu ho=>by have:=((aX j u hu).2 g ho).1;omega
    exact ⟨h1.1,h1.2,fun hs=>by have:=PK g hs;omega⟩
  have rF:∀ g,m.Sh g->(Il ρ ws) g=false/\(Il ρ ws).MH g=false:=fun g hg=>Uu (h.sh g hg).1 (h.sh g hg).2 fun j u hu ho=>((aX j u hu).2 g ho).2 hg;refine vX hcl hzi (v:=⟨n,i,N+1+1,N+1,N+1+1,fun g=>g=N+1+1\/g=N+1+2\/g=N,{ k:=i,todo:=pl },W3,false,R⟩) (r:=R) (tgt:=({ k:=i,todo:=pl,over:=pl.isEmpty },σ,pl.isEmpty)) (bw:=N+1+2) (bc:=N) hs4 rfl hi.symm rfl (fun g hg=>⟨(Uk g hg).2.2,by show g≠ρ.Wg;rcases hg with rfl | rfl | rfl <;> omega,hbo g (by rcases hg with rfl | rfl | rfl <;> omega),?_,fun j u hu ho=>?_⟩) ⟨.inl rfl,.inl rfl⟩ ⟨by show N+1≠_;omega,by show N+1≠_;omega,⟨0,r1⟩,fun j u hu=>by have:=(aX j u hu).1;show u.t≠N+1;omega⟩ (by show Fin.b0<=N+1;omega)
    (dU (z:={ k:=i,todo:=pl }) (hD _ _) hdv hns hzi hzg hty hcA rfl hR r2 r3 (by rw [Abt];exact r0) Uk rF hI3 (hbd σ)) fun v' W' tm' hs' hG=>?_
  . rcases hg with rfl | rfl | rfl
    . exact ⟨_,_,_,r2⟩
    . exact ⟨_,_,_,r3⟩
    . exact ⟨_,_,_,r0⟩
  . have:=((aX j u hu).2 g ho).1;rcases hg with rfl|rfl|rfl <;> omega
  . refine J0.know (GR:=GR) fun hKn=>?_;have hsz:=hG.size;have qP:∀ g,L6.ownBlock=some g->(lv.ownBlock=some g/\g < N)\/N+4<=g:=fun g hg=>by
      rcases hlv3 with e|⟨e,_⟩
      . rw [e] at hg;exact .inl ⟨hg,hlb g hg⟩
      . have:=e g hg;omega
    have yS:∀ g,L6.ownBlock=some g->g < W3.heap.size:=fun g hg=>by obtain ⟨c,e,f,hc⟩:=OV hown3 hg;exact (Array.getElem?_eq_some_iff.1 hc).1
    have Te:∀ g,L6.ownBlock=some g->g≠ρ.Wg/\ρ.Bo g=false/\¬ m.Sh g/\(∀ (j:Nat) (u:Ij (Wk G5 Cs)),ws[j]?=some u->¬ u.own g):=fun g hg=>by
      rcases qP g hg with ⟨e,_⟩|e
      . exact h.dh g e
      . exact ⟨by omega,hbo g (by omega),fun hs=>(by have:=PK g hs;omega),fun j u hu ho=>(by have:=((aX j u hu).2 g ho).1;omega)⟩
    have Abj:∀ g,L6.ownBlock=some g->¬ (g=N+1+1\/g=N+1+2\/g=N):=fun g hg hv=>by rcases qP g hg with ⟨_,e⟩|e <;> rcases hv with rfl|rfl|rfl <;> omega
    have happ:∀ (j:Nat) (u:Ij (Wk G5 Cs)),(ws ++ [v'])[j]?=some u->ws[j]?=some u\/(j=i/\u=v'):=fun j u hu=>by
      rcases RS hu with ⟨_,hu⟩|⟨hj,rfl⟩
      . exact .inl hu
      . exact .inr ⟨hj.trans hi,rfl⟩
    refine hK (ws ++ [v']) L6 W' _ _ tm' hs' ?_ (by simp [hi]);exact {
            inv:=hG.inv
            xs:=fun j u hu=>by
              rcases happ j u hu with hu|⟨rfl,rfl⟩
              . exact h.xs j u hu
              . exact ⟨pl,hpl,hG.x,hG.over,hG.r,hG.k⟩
            VT:=by
              have e1:(ws ++ [v']).length=i+1:=by simp [hi]
              have e2:(ws ++ [v']).map (fun u=>Value.pointer (some ⟨u.b,0,none⟩))=ws.map (fun u=>Value.pointer (some ⟨u.b,0,none⟩)) ++ [.pointer (some ⟨N+1+1,0,none⟩)]:=by have:=hG.b;simp [this]
              rw [e1,e2];exact Lf hown3 fun g hg=>.of (hG.block g (OV hown3 hg) (K3 (Te g hg).1 (Te g hg).2.1) (Abj g hg) (Te g hg).2.2.1)
            dh:=fun g hg=>⟨(Te g hg).1,(Te g hg).2.1,(Te g hg).2.2.1,fun j u hu ho=>by
              rcases happ j u hu with hu|⟨rfl,rfl⟩
              . exact (Te g hg).2.2.2 j u hu ho
              . rcases hG.own g ho with ho | ho
                . exact Abj g hg ho
                . have:=yS g hg;omega⟩
            lt:=fun j u hu=>by
              rcases happ j u hu with hu'|⟨rfl,rfl⟩
              . have h1:=aX j u hu';exact ⟨by omega,fun g hg=>⟨by have:=(h1.2 g hg).1;omega,(h1.2 g hg).2⟩⟩
              . refine ⟨by have:=hG.t;rw [this];show N+1 < _;omega,fun g hg=>?_⟩
                obtain ⟨a1,_,_,c,e,f,hc⟩:=hKn.own _ u hu g hg;exact ⟨(Array.getElem?_eq_some_iff.1 hc).1,a1⟩
            wg:=by omega,come:=by omega,gone:=by omega
            bo:=fun g hg=>by have:=h.bo g hg;omega
            sh:=h.sh
            kp:=fun g hg=>by
              obtain ⟨k1,⟨c,e,f,k2⟩,k3,k4,k5,k6,k7⟩:=h.kp g hg;have hlt:g < N:=by rw [← hN];rw [← k1] at k2;exact (Array.getElem?_eq_some_iff.1 k2).1
              have e3:W3.heap[g]?=W0.heap[g]?:=by rw [hk3 g (by omega) k6,Xy g hlt,k1]
              refine ⟨?_,⟨c,e,f,k2⟩,k3,k4,k5,fun h2=>?_,fun j u hu ho=>?_⟩
              . rw [hG.block g ⟨c,e,f,by rw [e3];exact k2⟩ (K3 k3 k4) (by show ¬ (g=N+1+1\/g=N+1+2\/g=N);omega) k5,e3]
              . rcases qP g h2 with ⟨h3,_⟩ | h3
                . exact k6 h3
                . omega
              . rcases happ j u hu with hu | ⟨rfl,rfl⟩
                . exact k7 j u hu ho
                . rcases hG.own g ho with ho | ho
                  . have ho':g=N+1+1\/g=N+1+2\/g=N:=ho;omega
                  . omega }
end
end
section
section
variable {Cs Sg:Type}{D:Dr G5 Cs Sg}{m:Mem Sg}
variable {Fin:Iw}{GR:Ig Try.prog Fin}
variable {ρ:Rn}{ws:List (Ij (Wk G5 Cs))}{W:World}{n bp bd br:Nat}{dv lv I6 Kh wv u25 u26:Value}{ds:List Deferred}{K:List Item}{cs:List Frame}{σ:Sg}
theorem HI.alike {plans:List (List G5)}{R:Nat}{W':World}{Kp:Nat->Prop}{W0:World}(h:HI m ρ plans R ws σ lv Kp W0 W)(hh:W'.heap=W.heap):HI m ρ plans R ws σ lv Kp W0 W':=
  { h with inv:=m.eq σ W W' (fun g _=>.of (by rw [hh])) h.inv
           VT:=Lf h.VT fun g _=>.of (by rw [hh])
           lt:=by rw [hh];exact h.lt
           wg:=by rw [hh];exact h.wg
           come:=by rw [hh];exact h.come
           gone:=by rw [hh];exact h.gone
           bo:=by rw [hh];exact h.bo
           kp:=by rw [hh];exact h.kp }
theorem aG {Kp:Nat->Prop}{W0:World}{plans:List (List G5)}{R pg po JG n0:Nat}{Mh:List Value}{Ry:FuncId}{recv:Value}(hD:∀ b k,RD (MP D m ρ b k) dv Ry recv)(hdv:∃ t v,dv=.iface t v)(hns:¬ ρ.shut)(hcl:¬ ρ.Uh)(hzi:ρ.zi=.int .i64 0)(hzg:ρ.zg=.agg #[])(hty:ρ.ty=link.tWg)(hbd:∀ σ W,m.Inv σ W->W.cell? ⟨bd,0,none⟩=some dv)(hR:R < 2 ^ 62)(hcap:n0+plans.length < 1000000)(hP:Oa m pg po Mh plans)(hK:∀ ws' L6 W' a12 gq a26 tm',Sr bp bd br ρ.come ρ.gone ρ.Wg L6 a12 gq (.slice (some ⟨pg,po,none⟩) plans.length JG) (.int .i64 plans.length) a26 tm'->HI m ρ plans R ws' σ L6 Kp W0 W'->ws'.length=plans.length->JL (S0 Try.prog Fin GR).L (.H7 (H9 D m) ρ ws' 0 false (n0+plans.length)) (G ((base 52).at ⟨tm',ds⟩ K) cs) W') :
    ∀ (l:List (List G5)) (ws:List (Ij (Wk G5 Cs))) (lv I6 Kh:Value) (W:World) (i:Nat) (tm:Array Value),plans.drop i=l->i<=plans.length->HI m ρ plans R ws σ lv Kp W0 W->ws.length=i->Sr bp bd br ρ.come ρ.gone ρ.Wg lv I6 Kh (.slice (some ⟨pg,po,none⟩) plans.length JG) (.int .i64 plans.length) (.int .i64 i) tm->
    JL (S0 Try.prog Fin GR).L (.H7 (H9 D m) ρ ws 0 false (n0+i)) (G ((base 52).at ⟨tm,ds⟩ (.code Un :: .inLoop Un :: .inBlock 0 :: K)) cs) W:=by
  have Qf:=hP.few;intro l;induction l with
  | nil=>
    intro ws lv I6 Kh W i tm hl hil h hwl hs;have hge:plans.length<=i:=List.drop_eq_nil_iff.1 hl;obtain rfl:i=plans.length:=by omega
    rw [Ym];refine GY stepG_seq ?_;refine pU (by omega) (by omega) hs fun W1 WX hs1 h27 hw1=>?_;rw [decide_eq_false (by omega)] at h27;refine GY stepG_seq ?_;refine JL.Ho (Hq h27) ?_;refine JL.exit rfl ?_;exact hK ws lv W1 _ _ _ WX hs1 (h.alike hw1) hwl
  | cons pl l ih=>
    intro ws lv I6 Kh W i tm hl hil h hwl hs;have hlt:i < plans.length:=by
      rcases Nat.lt_or_ge i plans.length with h|h
      . exact h
      . rw [List.drop_eq_nil_of_le h] at hl;cases hl
    have hpl:plans[i]?=some pl:=by
      have:=congrArg (·[0]?) hl
      simpa using this
    have hl':plans.drop (i+1)=l:=by
      have:=congrArg List.tail hl
      simpa using this
    rw [Ym];refine GY stepG_seq ?_;refine pU (by omega) (by omega) hs fun W1 WX hs1 h27 hw1=>?_;rw [decide_eq_true hlt] at h27;refine GY stepG_seq ?_;refine JL.Iq (Hq h27) ?_;refine GY stepG_skip ?_;refine GY stepG_seq ?_;refine GY stepG_block ?_;refine aQ hD hdv hns hcl hzi hzg hty hbd hR (by omega) hP (h.alike hw1) hwl hpl hs1 fun ws' L6 W' a12 gq tm' hs' h' qN=>?_;refine GY stepG_inBlock ?_;refine vY (by omega) hs' fun W2 wF hs2 hw2=>?_;refine GY stepG_inLoop ?_;rw [← Ym];exact ih ws' L6 a12 gq W2 (i+1) wF hl' hlt (h'.alike hw2) qN hs2
end
end
end Go.Proofs.Ytkdhnbcdbnpmhaa
namespace Go.Proofs.Ytkdhnbcdbnpmhaa
open Go Go.RowKit BA
theorem dQ {pg po JG:Nat}{Mh:List Value}{ta ha:Option Addr}{tn tc hn hc:Nat}{u:Int}(w:World)(hcell:∀ i,i < Mh.length->∃ a n c,n<=64/\w.cell? ⟨pg,po+i,none⟩=some (.slice a n c))(h0:0 < Mh.length)(h8:Mh.length<=8)(hu:0<=u)(hu2:u<=20000) :
    CallsIn (Fence.list [52,74] none) 0 Try.prog 74 #[.agg #[.slice (some ⟨pg,po,none⟩) Mh.length JG,.slice ta tn tc,.slice ha hn hc,.int .i64 u]] w fun e w'=>e=.returned (.int .i64 0)/\Below w.heap.size w w':=by
  have HC:=Lib.hid hcell;clear hcell;gi_enter Try.func74,Try.ntmps74
  obtain ⟨n,hn⟩:∃ n,Mh.length=n:=⟨_,rfl⟩
  rw [hn] at h0 h8 ⊢;have HN:=Lib.hid hn;clear hn;have g1:((n:Int) == 0)=false:=by simp;omega
  have g2:decide (8 < (n:Int))=false:=by simp;omega
  have g3:decide (u < 0)=false:=by simp;omega
  have g4:decide (20000 < u)=false:=by simp;omega
  gi_wp2;generalize hW:World.alloc w _=W1;have nT:∀ i,i < Mh.length->∃ a n c,n<=64/\W1.cell? ⟨pg,po+i,none⟩=some (.slice a n c):=fun i hi=>by obtain ⟨a,q,c,hq,hcx⟩:=HC.out i hi;exact ⟨a,q,c,hq,by rw [← hW];exact Lib.cell?_alloc_some _ hcx⟩
  have HB:Below w.heap.size w W1:=by rw [← hW];exact (Below.refl _ w).alloc (Nat.le_refl _) _
  have HC2:=Lib.hid nT;have HB2:=Lib.hid HB;clear nT HB HC hW;gi_loop [28] (fun i=>∃ k:Nat,k<=n/\i=.int .i64 k) (fun i=>n - (intOf i).toNat)
  case atStart=>exact ⟨0,by omega,rfl⟩
  case round=>
    obtain ⟨k,hk,rfl⟩:=hrel;by_cases hlt:k < n
    . obtain ⟨a,q,c,hq,hcx⟩:=HC2.out k (by rw [HN.out];exact hlt)
      gi_wp2;go_round
      case rel=>exact ⟨k+1,by omega,by go_num⟩
      case measure=>simp [intOf];omega
    . obtain rfl:k=n:=by omega
      gi_wp2;go_ret
      exact ⟨rfl,HB2.out⟩
end Go.Proofs.Ytkdhnbcdbnpmhaa
namespace Go.Proofs.Ytkdhnbcdbnpmhaa
open Go Go.Conc Go.LT Go.LC Go.LK Go.RowKit
open Go.ConcN (WgLive)
section
theorem ZM (w:World)(a b:Obj):((w.alloc a).alloc b).heap[w.heap.size+1]?=some b:=by
  have:=heap_alloc_new (w.alloc a) b
  simpa using this
theorem aJ (w:World)(a b c:Obj):(((w.alloc a).alloc b).alloc c).heap[w.heap.size+2]?=some c:=by
  have:=heap_alloc_new ((w.alloc a).alloc b) c
  simpa using this
theorem jA:∀ g∈[74],@Lets (Host.only 52) Try.prog g:=fun g hg=>by obtain rfl:=List.mem_singleton.1 hg;exact ⟨by kernel_rfl,.inl ⟨_,_,Try.func74,by kernel_rfl,rfl,by kernel_rfl⟩⟩
section
variable {X Sg:Type}
variable {Fin:Iw}{GR:Ig Try.prog Fin}
variable {B:Nat->Bool}{W:World}{n:Nat}{c:Frame}{cs:List Frame}
theorem eB {pg po JG:Nat}{Mh:List Value}{xa ya:Option Addr}{xn xc yn yc:Nat}{u:Int}{dt:TypeId}{dw:Value}(hcell:∀ i,i < Mh.length->∃ a n c,n<=64/\W.cell? ⟨pg,po+i,none⟩=some (.slice a n c))(h0:0 < Mh.length)(h8:Mh.length<=8)(hu:0<=u)(hu2:u<=20000)(hK:∀ W' tm',tm'=#[.agg #[.slice (some ⟨pg,po,none⟩) Mh.length JG,.slice xa xn xc,.slice ya yn yc,.int .i64 u],.iface dt dw,.pointer (some ⟨W.heap.size,0,none⟩),.pointer (some ⟨W.heap.size+1,0,none⟩),.pointer (some ⟨W.heap.size+2,0,none⟩),.int .i64 0,.int .i64 0,undef,undef,undef,undef,undef,undef,undef,undef,.agg #[.slice (some ⟨pg,po,none⟩) Mh.length JG,.slice xa xn xc,.slice ya yn yc,.int .i64 u],.int .i64 0,.int .i64 0,.bool false,undef,undef,undef,undef,undef,undef,undef,undef,undef,undef,undef,undef,undef,undef,undef,undef,undef,undef,undef,undef,undef,undef,undef,undef,undef,undef,undef,undef,undef,undef,undef,undef,undef,undef]->(∀ g,g < W.heap.size->W'.heap[g]?=W.heap[g]?)->W.heap.size+3<=W'.heap.size->
      W'.heap[W.heap.size]?=some (.cells #[.slice (some ⟨pg,po,none⟩) Mh.length JG,.slice xa xn xc,.slice ya yn yc,.int .i64 u] 59 (0,0))->W'.heap[W.heap.size+1]?=some (.cells #[.iface dt dw] 106 (0,0))->
      W'.heap[W.heap.size+2]?=some (.cells #[.slice none 0 0,.slice none 0 0,.int .i64 0,.bool false] 63 (0,0))->
      JL (S0 (X:=X) (Sg:=Sg) Try.prog Fin GR).L (.Ii B n) (G ((base 52).at ⟨tm',[]⟩ [.code (.seq zT (.seq rn5 (.seq xg (.seq (.seq zh (.block 0 (.loop Un))) QO))))]) (c :: cs)) W') :
    JW (S0 (X:=X) (Sg:=Sg) Try.prog Fin GR).base (.Ii B n) (G (Frame.enter Try.prog 52 #[.agg #[.slice (some ⟨pg,po,none⟩) Mh.length JG,.slice xa xn xc,.slice ya yn yc,.int .i64 u],.iface dt dw] .normal) (c :: cs)) W:=by
  have ht:#[.agg #[.slice (some ⟨pg,po,none⟩) Mh.length JG,.slice xa xn xc,.slice ya yn yc,.int .i64 u],.iface dt dw] ++ Array.replicate (Try.f52.ntmps - (#[.agg #[.slice (some ⟨pg,po,none⟩) Mh.length JG,.slice xa xn xc,.slice ya yn yc,.int .i64 u],.iface dt dw]:Array Value).size) undef=#[.agg #[.slice (some ⟨pg,po,none⟩) Mh.length JG,.slice xa xn xc,.slice ya yn yc,.int .i64 u],.iface dt dw,undef,undef,undef,undef,undef,undef,undef,undef,undef,undef,undef,undef,undef,undef,undef,undef,undef,undef,undef,undef,undef,undef,undef,undef,undef,undef,undef,undef,undef,undef,undef,undef,undef,undef,undef,undef,undef,undef,undef,undef,undef,undef,undef,undef,undef,undef,undef,undef,undef,undef,undef]:=by
    have:Try.f52.ntmps=53:=by kernel_rfl
    rw [this];walk_nrm
  rw [enter_at _ Try.func52 lF,ht];show JL (S0 (X:=X) (Sg:=Sg) Try.prog Fin GR).L (.Ii B n) _ W;refine GY stepG_seq ?_;refine HY.Ht (S:=S0 (X:=X) (Sg:=Sg) Try.prog Fin GR) (b:=base 52) [] (by simp) (by kernel_rfl) nE (by kernel_rfl) fun GQ ha=>?_;have hh:GQ.heap=W.heap:=by obtain ⟨τ,d,rfl⟩:=ha;rfl
  have HH:=Lib.hid (And.intro hK (And.intro hh hcell));clear hK hh hcell;simp only [rn0,Try.f52];gi_wp2;obtain ⟨hK,hh,hcell⟩:=HH.out;clear HH;generalize hW2:World.alloc _ _=W2;have q:∀ g,g < W.heap.size->W2.heap[g]?=W.heap[g]?:=fun g hg=>by rw [← hW2,← hh];rw [Below.heap_alloc _ _ _ (by simp;rw [hh];omega),Below.heap_alloc _ _ _ (by simp;rw [hh];omega),Below.heap_alloc _ _ _ (by rw [hh];omega)]
  have hz:W2.heap.size=W.heap.size+3:=by rw [← hW2];simp [hh]
  have q0:W2.heap[W.heap.size]?=some (.cells #[.slice (some ⟨pg,po,none⟩) Mh.length JG,.slice xa xn xc,.slice ya yn yc,.int .i64 u] 59 (0,0)):=by rw [← hW2,← hh];rw [Below.heap_alloc _ _ _ (by simp;omega),Below.heap_alloc _ _ _ (by simp)];exact heap_alloc_new _ _
  have q1:W2.heap[W.heap.size+1]?=some (.cells #[.iface dt dw] 106 (0,0)):=by rw [← hW2,← hh];rw [Below.heap_alloc _ _ _ (by simp)];exact ZM _ _ _
  have q2:W2.heap[W.heap.size+2]?=some (.cells #[.slice none 0 0,.slice none 0 0,.int .i64 0,.bool false] 63 (0,0)):=by rw [← hW2,← hh];exact aJ _ _ _ _
  clear hW2;rw [hh];show JL (S0 (X:=X) (Sg:=Sg) Try.prog Fin GR).L (.Ii B n) _ W2;try dsimp only
  refine GY stepG_seq ?_;refine HY.Ht (S:=S0 (X:=X) (Sg:=Sg) Try.prog Fin GR) (b:=base 52) [74] jA (by kernel_rfl) nE (by kernel_rfl) fun Hl Ky=>?_;have hh3:Hl.heap=W2.heap:=by obtain ⟨τ,d,rfl⟩:=Ky;rfl
  have gK:∀ i,i < Mh.length->∃ a n c,n<=64/\Hl.cell? ⟨pg,po+i,none⟩=some (.slice a n c):=fun i hi=>by
    obtain ⟨a,q',c,hq,hx⟩:=hcell i hi;refine ⟨a,q',c,hq,?_⟩;have hlt:pg < W.heap.size:=by
      simp only [World.cell?] at hx;cases ho:W.heap[pg]? with
      | none=>rw [ho] at hx;cases hx
      | some o=>exact (Array.getElem?_eq_some_iff.1 ho).1
    simp only [World.cell?,hh3,q pg hlt] at hx ⊢;exact hx
  have c0:Hl.cell? ⟨W.heap.size,0,none⟩=some (.slice (some ⟨pg,po,none⟩) Mh.length JG):=by simp [World.cell?,hh3,q0]
  have c1:Hl.cell? ⟨W.heap.size,1,none⟩=some (.slice xa xn xc):=by simp [World.cell?,hh3,q0]
  have c2:Hl.cell? ⟨W.heap.size,2,none⟩=some (.slice ya yn yc):=by simp [World.cell?,hh3,q0]
  have c3:Hl.cell? ⟨W.heap.size,3,none⟩=some (.int .i64 u):=by simp [World.cell?,hh3,q0]
  have HH:=Lib.hid (And.intro hK (And.intro hh3 (And.intro q (And.intro hz (And.intro q0 (And.intro q1 q2))))));clear hK hh hh3 hcell q hz q0 q1 q2;have HC:=Lib.hid gK;clear gK;simp only [rn1,Try.f52];gi_wp2_with (gi_at_call 74;refine (dQ _ HC.out h0 h8 hu hu2).mono ?_;rintro e w1 ⟨rfl,hB⟩)
  obtain ⟨hK,hh3,q,hz,q0,q1,q2⟩:=HH.out;clear HH;have hB':∀ g,g < W.heap.size+3->w1.heap[g]?=W2.heap[g]?:=fun g hg=>by rw [hB.block g (by rw [hh3,hz];exact hg),hh3]
  refine hK w1 _ rfl (fun g hg=>by rw [hB' g (by omega),q g hg]) (by have:=hB.size;rw [hh3,hz] at this;exact this) (by rw [hB' _ (by omega)];exact q0) (by rw [hB' _ (by omega)];exact q1) (by rw [hB' _ (by omega)];exact q2)
end
end
end Go.Proofs.Ytkdhnbcdbnpmhaa
