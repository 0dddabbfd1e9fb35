/-
  Part 12 of the proof that CellAlone returns true for every input and leaves its arguments as they were. No further condition.
-/
import Derived.Test.YtkdhnbcdbnpmhaaQ11
import Derived.Conc.WgLib
import Derived.Conc.TokenWalk
import Derived.Conc.WgArith
import Derived.Conc.WgGenW
import Derived.Test.YtkdhnbcdbnpmhaaProg
import Derived.BigRegionIn
set_option linter.unusedVariables false
set_option linter.unusedSectionVars false
namespace Go.LT
open Go Go.Conc
section
structure Sn (P:Program)(main:Bool)(Γ:Type) where
  B:Γ->Hid
  J:Γ->Goroutine->World->Prop
  live:Γ->World->Prop
  idle:∀ γ g g' W,g.status=.running->(∀ w,live γ w->stepG P main g w=.go g' w #[])->JV B J γ g' W->JV B J γ g W
def Sn.sy {P:Program}{main:Bool}{Γ:Type}(S:Sn P main Γ):Sy P main Γ where
  B:=S.B
  J:=S.J
  silent:=fun γ g g' W hs h hJ=>S.idle γ g g' W hs (fun w _=>h w) hJ
section
variable {P:Program}{main:Bool}{Γ:Type}{S:Sn P main Γ}{γ:Γ}{W:World}{b:Frame}{a:Act}{k:List Item}{cs:List Frame}
abbrev JL (S:Sn P main Γ)(γ:Γ)(g:Goroutine)(W:World):Prop:=JV S.B S.J γ g W
theorem JL.ctl {g g':Goroutine}(hs:g.status=.running)(h:∀ w,stepG P main g w=.go g' w #[])(hJ:JL S γ g' W):JL S γ g W:=S.idle γ g g' W hs (fun w _=>h w) hJ
theorem JL.Afe {g g':Goroutine}(hs:g.status=.running)(h:∀ w,S.live γ w->stepG P main g w=.go g' w #[])(hJ:JL S γ g' W):JL S γ g W:=S.idle γ g g' W hs h hJ
theorem JL.value (v:Value){ops:Array Oper}{i:Nat}{rest:List Nat}{o:Oper}(ho:ops[i]?=some o)(hw:Region.wanted o (yielded ops a.tmps)=true)(hk:b.kind≠.early)(hr:∀ w,S.live γ w->(execOp a.eval o).run P w=.ok (.value v) w)(he:∀ w,S.live γ w->∀ e∈(execOp a.eval o).events P w #[],False)(h:JL S γ (G (b.at (a.put o.dst v) (.inRegion ops rest :: k)) cs) W):JL S γ (G (b.at a (.inRegion ops (i :: rest) :: k)) cs) W:=
  .Afe rfl (fun w hl=>by rw [stepG_value ho hw hk (hr w hl),listed_none (Array.eq_empty_iff_forall_not_mem.2 fun e he'=>he w hl e he')]) h
theorem JL.call {ops:Array Oper}{i:Nat}{rest:List Nat}{o:Oper}{f:FuncId}{fn:Func}{c:Code}{args:Array Operand}{ats:Array TypeId}(ho:ops[i]?=some o)(hw:Region.wanted o (yielded ops a.tmps)=true)(hk:b.kind≠.early)(hop:o.op=.call { callee:=.value (.func f),args,argTypes:=ats })(hf : P.funcs[f]? = some fn)(hname : (fn.name == "runtime.NumGoroutine") = false)(hb : fn.body = some c)(h:JL S γ (G ((base f).at { tmps:=args.map a.eval ++ Array.replicate (fn.ntmps - (args.map a.eval).size) undef,defers:=[] } [.code c]) (b.at a (.inRegion ops (i :: rest) :: k) :: cs)) W) :
    JL S γ (G (b.at a (.inRegion ops (i :: rest) :: k)) cs) W:=
  .ctl rfl (fun w=>by
    have hb':fn.body.isNone=false:=by rw [hb];rfl
    rw [stepG_enter ho hw hk (run_call_body hop hf hname hb'),enter_at _ hf hb];have:listed P b.fn a o w=#[]:=by unfold listed;rw [events_call_body hop hf hname hb'];exact seen_none P _
    rw [this]) h
theorem JL.pure (v:Value){ops:Array Oper}{i:Nat}{rest:List Nat}{o:Oper}{f:FuncId}{fn:Func}{az:Array Operand}{ats:Array TypeId}(ho:ops[i]?=some o)(hw:Region.wanted o (yielded ops a.tmps)=true)(hk:b.kind≠.early)(hop:o.op=.call { callee:=.value (.func f),args:=az,argTypes:=ats })(hf : P.funcs[f]? = some fn)(hname : (fn.name == "runtime.NumGoroutine") = false)(hb : fn.body.isNone = true)(hn : Extern.findNext fn = none)(he : Extern.find fn = some (fun _ => pure v))(h:JL S γ (G (b.at (a.put o.dst v) (.inRegion ops rest :: k)) cs) W):JL S γ (G (b.at a (.inRegion ops (i :: rest) :: k)) cs) W:=
  .ctl rfl (fun w=>stepG_entry_pure v ho hw hk hop hf hname hb hn he) h
section
variable {fn:Func}{todo:List Item}{b₀:Frame}{a₀:Act}{ops:Array Oper}{i:Nat}{rest:List Nat}
theorem JL.leave1 {t:Tmp}(hn:b.kind=.normal)(hd:a.defers=[])(hf:P.funcs[b.fn]?=some fn)(hr:fn.results=#[.tmp t])(h:JL S γ (G (b₀.at (a₀.put ((ops[i]?).bind (·.dst)) (a.tmps.getD t undef)) (.inRegion ops rest :: k)) cs) W):JL S γ (G { b.at a todo with mode:=.returning } (b₀.at a₀ (.inRegion ops (i :: rest) :: k) :: cs)) W:=
  .ctl rfl (fun w=>by rw [stepG_leave hn hd hf (results_tmp hr _ P w) (events_results_tmp hr _ _),Frame.finish_at]) h
theorem JL.leave0 (hn:b.kind=.normal)(hd:a.defers=[])(hf:P.funcs[b.fn]?=some fn)(hr:fn.results=#[])(h:JL S γ (G (b₀.at (a₀.put ((ops[i]?).bind (·.dst)) (.tuple #[])) (.inRegion ops rest :: k)) cs) W):JL S γ (G { b.at a todo with mode:=.returning } (b₀.at a₀ (.inRegion ops (i :: rest) :: k) :: cs)) W:=
  .ctl rfl (fun w=>by rw [stepG_leave hn hd hf (results_none hr _ P w) (events_results_none hr _ _),Frame.finish_at]) h
theorem JL.leaveD {c:Frame}(hn:b.kind=.deferred)(hd:a.defers=[])(hf:P.funcs[b.fn]?=some fn)(hr:fn.results=#[])(hc:c.mode=.returning)(h:JL S γ (G c cs) W):JL S γ (G { b.at a todo with mode:=.returning } (c :: cs)) W:=
  .ctl rfl (fun w=>stepG_leave_deferred hn hd hf (results_none hr _ P w) (events_results_none hr _ _) hc) h
end
inductive Zt (k:List Item):List Item->Prop
  | mk:Zt k k
theorem JL.region {id:Nat}{ops:Array Oper}{l:List Nat}(hl:List.range ops.size=l)(h:∀ k',Zt k k'->JL S γ (G (b.at a (.inRegion ops l :: k')) cs) W):JL S γ (G (b.at a (.code (.region id ops false) :: k)) cs) W:=
  .ctl rfl (fun w=>stepG_region) (by rw [hl];exact h k .mk)
theorem JL.Iq {c:Operand}{x y:Code}(hc:a.eval c=.bool true)(h:JL S γ (G (b.at a (.code x :: k)) cs) W):JL S γ (G (b.at a (.code (.cond c x y) :: k)) cs) W:=
  .ctl rfl (fun w=>by rw [stepG_cond hc];rfl) h
theorem JL.Ho {c:Operand}{x y:Code}(hc:a.eval c=.bool false)(h:JL S γ (G (b.at a (.code y :: k)) cs) W):JL S γ (G (b.at a (.code (.cond c x y) :: k)) cs) W:=
  .ctl rfl (fun w=>by rw [stepG_cond hc];rfl) h
theorem JL.exit {id:Nat}{k':List Item}(he:exitTo id k=some k')(h:JL S γ (G (b.at a k') cs) W):JL S γ (G (b.at a (.code (.exit id) :: k)) cs) W:=
  .ctl rfl (fun w=>stepG_exit he) h
end
theorem iO {f:FuncId}:(base f).kind≠.early:=Go.ConcR.Gen.base_kind f
theorem fO {f:FuncId}:(baseD f).kind≠.early:=Go.ConcR.Gen.baseD_kind f
class NEa (b:Frame):Prop where
  h:b.kind≠.early
instance {f:FuncId}:NEa (base f):=⟨iO⟩
instance {f:FuncId}:NEa (baseD f):=⟨fO⟩
theorem nE {b:Frame}[h:NEa b]:b.kind≠.early:=h.h
section
variable {P:Program}{main:Bool}{Γ:Type}{S:Sn P main Γ}{γ:Γ}{W:World}{b:Frame}{a:Act}{k:List Item}{cs:List Frame}
theorem GY {f:Frame}{g':Goroutine}(h:∀ {w},stepG P main (G f cs) w=.go g' w #[])(hJ:JL S γ g' W):JL S γ (G f cs) W:=.ctl rfl (fun _=>h) hJ
theorem Hf {v:Value}{ops:Array Oper}{i:Nat}{rest:List Nat}{o:Oper}(h:JL S γ (G (b.at (a.put o.dst v) (.inRegion ops rest :: k)) cs) W)(ho:ops[i]?=some o:=by exact rfl)(hw:Region.wanted o (yielded ops a.tmps)=true:=by exact rfl)(hk:b.kind≠.early:=by first | exact iO | exact fO | decide | assumption)(hr:∀ w,S.live γ w->(execOp a.eval o).run P w=.ok (.value v) w:=by intro _ _;go_simp;(try w_num);rfl)(he:∀ w,S.live γ w->∀ e∈(execOp a.eval o).events P w #[],False:=by intro _ _ e he;simp [go_sem, *] at he):JL S γ (G (b.at a (.inRegion ops (i :: rest) :: k)) cs) W:=JL.value v ho hw hk hr he h
theorem Hw {ops:Array Oper}(hJ:JL S γ (G (b.at a k) cs) W):JL S γ (G (b.at a (.inRegion ops [] :: k)) cs) W:=.ctl rfl (fun _=>stepG_region_end) hJ
theorem Hu {id:Nat}{ops:Array Oper}{l:List Nat}(h:∀ k',Zt k k'->JL S γ (G (b.at a (.inRegion ops l :: k')) cs) W)(hl:List.range ops.size=l:=by first | (simp only [List.size_toArray,List.length_cons,List.length_nil,Nat.reduceAdd,Nat.zero_add,List.range,List.range.loop];done) | (simp only [List.size_toArray,List.length_cons,List.length_nil,Nat.reduceAdd,Nat.zero_add,List.range,List.range.loop];rfl)):JL S γ (G (b.at a (.code (.region id ops false) :: k)) cs) W:=JL.region hl h
end
end
section
section
variable {P:Program}{main:Bool}{K:World->Prop}{Still:Loc->Prop}{Bd:Nat}{st:Seat}
def SQ (P:Program)(main:Bool)(K:World->Prop)(Still:Loc->Prop)(Bd:Nat)(st:Seat):Sn P main Unit where
  B:=fun _=>TT
  J:=fun _ g _=>∃ n,∀ w,Goes P main (RK K) (DS Still Bd) (fun g _=>∃ g₂,AtIn P main K Still Bd st g g₂) n g w
  live:=fun _=>K
  idle:=fun γ g g' W hs h hJ w hw=>by obtain ⟨n,hg⟩:=hJ w hw;exact ⟨n+1,fun w=>Goes.step hs fun w₁ h₁=>by rw [h w₁ h₁];exact ⟨⟨rfl,by simp⟩,hg _⟩⟩
theorem JQ.step {g g':Goroutine}{W:World}(hs:g.status=.running)(h:∀ w,K w->∃ es,stepG P main g w=.go g' w es/\∀ e∈es,EvC Still Bd e)(hJ:JL (SQ P main K Still Bd st) () g' W):JL (SQ P main K Still Bd st) () g W:=fun w hw=>by obtain ⟨n,hg⟩:=hJ w hw;refine ⟨n+1,fun w=>Goes.step hs fun w₁ h₁=>?_⟩;obtain ⟨es,e,he⟩:=h w₁ h₁;rw [e];exact ⟨⟨rfl,he⟩,hg _⟩
section
variable {b:Frame}{a:Act}{k:List Item}{cs:List Frame}{ops:Array Oper}{i:Nat}{rest:List Nat}{o:Oper}{W:World}
theorem JQ.load (v:Value)(ho:ops[i]?=some o)(hw:Region.wanted o (yielded ops a.tmps)=true)(hk:b.kind≠.early)(hr:∀ w,K w->(execOp a.eval o).run P w=.ok (.value v) w)(he:∀ w,K w->∀ e∈(execOp a.eval o).events P w #[],EvC Still Bd e)(h:JL (SQ P main K Still Bd st) () (G (b.at (a.put o.dst v) (.inRegion ops rest :: k)) cs) W):JL (SQ P main K Still Bd st) () (G (b.at a (.inRegion ops (i :: rest) :: k)) cs) W:=
  JQ.step rfl (fun w hK=>⟨_,stepG_value ho hw hk (hr w hK),fun e h=>he w hK e (mem_listed h)⟩) h
theorem JQ.sit (ho:ops[i]?=some o)(hw:Region.wanted o (yielded ops a.tmps)=true)(hk:b.kind≠.early)(hr:∀ w,(execOp a.eval o).run P w=.ok (.comm st.cases true st.shape) w)(he:∀ w,(execOp a.eval o).events P w #[]=#[])(h:st.home (G (b.at a (.inRegion ops (i :: rest) :: k)) cs)):JL (SQ P main K Still Bd st) () (G (b.at a (.inRegion ops (i :: rest) :: k)) cs) W:=
  fun w _=>⟨0,fun w=>Goes.stop fun w₁ _=>⟨_,atIn_of ho hw hk hr he h⟩⟩
end
theorem RN {g:Goroutine}(h:∀ W,JL (SQ P main K Still Bd st) () g W):∃ n,Sits P main K Still Bd st n g:=by obtain ⟨n,hg⟩:=h (GN TT default) default ⟨.refl _,Mg _⟩;exact ⟨n+1,.inl ⟨n,default,rfl,hg default⟩⟩
end
end
end Go.LT
namespace Go.LK
open Go Go.Conc Go.LT Go.LC
open Go.ConcN (WgLive sumTo upd sumTo_upd upd_ne upd_same)
open Go.ConcR (KK wgBlock WgAt stA smA rd wr mk)
section
theorem iI {P:Program}{main:Bool}{R:World->World->Prop}{D:World->World->Array Event->Prop}{Stop:Goroutine->World->Prop}(refl:∀ w,R w w){g:Goroutine}{w:World}(h:LT.Way P main R D (LT.Way P main R D Stop) g w):LT.Way P main R D Stop g w:=by
  induction h with
  | stop h=>exact h _ (refl _)
  | step hs h _ ih=>exact .step hs h ih
section
variable {X Sg:Type}
def Wx (X Sg:Type)(ρ:Rn):Type:={ x:Gw X Sg × Nat // x.1.B ρ.Wg=true }
variable (M:Md X Sg)(ρ:Rn)(P:Program)
def SW:HY P false (Wx X Sg ρ) where
  B:=fun x=>{ hol:=x.1.1.B }
  R:=fun _=>Jc ρ.ty ρ.Wg
  D:=fun x=>DK { hol:=x.1.1.B }
  J:=fun x g w=>WJ M ρ P x.1.2 x.1.1 g w
  refl:=fun _ w=>Jc.refl w
  trans:=fun _ _ _ _ h k=>h.trans k
  turns:=fun x w w₁ h=>Jc.turns x.2 h
  kept:=fun x w w' es _ hk he=>⟨hk,he⟩
  way:=fun x g w hW=>by rw [Ze];refine iI (fun w=>Jc.refl w) (hW.mono fun g w h=>?_);rw [Ze] at h;exact h
variable {M ρ P}{W:World}{g g₂:Goroutine}
structure YU (v v':Ij X)(x:X)(ov:Bool)(r:Nat)(own:Nat->Prop)(pb:Nat):Prop where
  h:v'.h=v.h
  k:v'.k=v.k
  b:v'.b=v.b
  t:v'.t=v.t
  x:v'.x=x
  over:v'.over=ov
  r:v'.r=r
  own:v'.own=own
  pb:v'.pb=pb
structure qj (M:Md X Sg)(own:Nat->Prop)(W W':World):Prop where
  own:∀ b,own b->W'.heap[b]?=W.heap[b]?
  size:W.heap.size<=W'.heap.size
theorem Ra {B:Nat->Bool}{w W:World}{b:Nat}(hs:J2 { hol:=B } w W)(h:B b=false):W.heap[b]?=(w.heap[b]?).map depend:=by
  rw [IV hs,Ib (B:={ hol:=B }) h]
  simp
theorem SW.sit {x:Wx X Sg ρ}{own:Nat->Prop}{pb:Nat}(hrun:g.status=.running)(hstep:∀ w,stepG P false g w=.comm g₂ (Kj ρ x.1.1.v.k) true .select w #[])(hInv:M.Inv x.1.1.tgt.2.1 W)(bn:∀ b,M.Sh b->x.1.1.B b=false)(eG:M.Rec x.1.1.v.k x.1.1.tgt.1 x.1.1.v.b own W)(hpb:own pb)(ho1:∀ b,x.1.1.v.own b->own b)(ho2:∀ b,own b->x.1.1.v.own b\/x.1.1.n0<=b)(ho3:∀ b,own b->x.1.1.B b=false/\¬ M.Sh b/\∃ c e f,W.heap[b]?=some (.cells c e f))(hb:x.1.1.v.own x.1.1.v.b)(hover:x.1.1.tgt.2.2=true->∃ m,∀ w',WgLive ρ.ty ρ.Wg w'->Fs P ρ.ty ρ.Wg 7 m 0 (g₂.finishComm P (Kj ρ x.1.1.v.k) .select (0:Nat) undef false) w')(hsit:x.1.1.tgt.2.2=false->(W.cell? ⟨x.1.1.v.b,2,none⟩=some (.chan (some x.1.1.v.t))/\W.cell? ⟨x.1.1.v.b,4,none⟩=some (.chan (some ρ.gone))/\W.cell? ⟨pb,0,none⟩=some (.pointer (some ⟨x.1.1.v.b,0,none⟩)))/\
      ∃ gs,(∀ v',YU x.1.1.v v' x.1.1.tgt.1 false x.1.2 own pb->∀ home:Goroutine->Prop,home gs->∃ n,Sits P false (Kv ρ v') (xS v') (bX v') { cases:=JD ρ x.1.1.v.t,shape:=.select,home:=home } n (g₂.finishComm P (Kj ρ x.1.1.v.k) .select (0:Nat) undef false))/\
        (ρ.shut->Zm ρ P x.1.1.v.t gs)/\
        ∀ r',x.1.2=r'+1->∀ v',YU x.1.1.v v' x.1.1.tgt.1 false x.1.2 own pb->∀ (s:Nat) (σ:Sg) (W':World) (y:Wx X Sg ρ),y.1.1.v=v'->y.1.1.tgt=M.hold x.1.1.tgt.1 s σ->y.1.2=r'->jr M ρ v' y.1.1.B y.1.1.n0->y.1.1.n0=W'.heap.size->qj M own W W'->M.Inv σ W'->
          JW (SW M ρ P).base y (gs.finishComm P (JD ρ x.1.1.v.t) .select (0:Nat) (.int .i64 s) true) W') :
    JW (SW M ρ P).base x g W:=by
  intro w hw;show WJ M ρ P x.1.2 x.1.1 g w;rw [Ze];refine .stop fun w₁ h₁=>?_;have Nc:J2 { hol:=x.1.1.B } w₁ W:=(SW M ρ P).turn (γ:=x) hw h₁;have view:∀ b,x.1.1.B b=false->NY W w₁ b:=fun b hB=>by
    unfold NY;rw [Ra Nc hB];cases w₁.heap[b]? with
    | none=>rfl
    | some o=>simp [Rq]
  have iM:∀ a:Addr,x.1.1.B a.block=false->w₁.cell? a=W.cell? a:=fun a hB=>by have:=Ie (B:={ hol:=x.1.1.B }) (w:=w₁) (a:=a) hB;rw [← this];simp [World.cell?,IV Nc]
  let v':Ij X:={ x.1.1.v with own:=own,pb:=pb,x:=x.1.1.tgt.1,wy:=w₁,over:=x.1.1.tgt.2.2,r:=x.1.2 }
  refine ⟨hrun,g₂,v',fun w₂ _=>hstep w₂,rfl,rfl,rfl,rfl,rfl,rfl,rfl,rfl,M.inv_eq _ _ _ (fun b hb'=>view b (bn b hb')) hInv,M.rec_eq _ _ _ _ _ _ (fun b hb'=>view b (ho3 b hb').1) eG,hpb,ho1,ho2,fun b hb'=>⟨(ho3 b hb').2.1,?_⟩,?_⟩
  . obtain ⟨c,e,f,hc⟩:=(ho3 b hb').2.2;exact ⟨c,e,f,(view b (ho3 b hb').1).cells hc⟩
  . cases hov:x.1.1.tgt.2.2 with
    | true=>simp only [if_true];exact hover hov
    | false=>
      simp only [Bool.false_eq_true,if_false];obtain ⟨⟨k1,k2,k3⟩,gs,hS,Adh,hH⟩:=hsit hov;have hv':YU x.1.1.v v' x.1.1.tgt.1 false x.1.2 own pb:=⟨rfl,rfl,rfl,rfl,rfl,hov,rfl,rfl,rfl⟩
      refine ⟨⟨?_,?_,?_⟩,hS v' hv' _ ⟨?_,Adh⟩⟩
      . rw [← k1];exact iM _ (ho3 _ (ho1 _ hb)).1
      . rw [← k2];exact iM _ (ho3 _ (ho1 _ hb)).1
      . rw [← k3];exact iM _ (ho3 _ hpb).1
      . intro s σ w' B Px hRB hown hsz hI;cases hr:x.1.2 with
        | zero=>trivial
        | succ r'=>
          have hB:B ρ.Wg=true:=Px.wg;have hs':J2 { hol:=B } w' (GN { hol:=B } w'):=⟨.refl _,hRB⟩
          refine hH r' hr v' hv' s σ (GN { hol:=B } w') ⟨(⟨v',B,w'.heap.size,M.hold v'.x s σ⟩,r'),hB⟩ rfl rfl rfl Px (by simp) ⟨fun b hb'=>?_,?_⟩ ?_ w' hs'
          . have e1:=Ra hs' (Px.own b hb');have e2:=Ra Nc (ho3 b hb').1;rw [e1,e2];exact hown b hb'
          . rw [Je,J6 Nc];exact hsz
          . refine M.inv_eq _ _ _ (fun b hb'=>?_) hI;have:=NY.view (w:=w') (B:={ hol:=B }) (Px.sh b hb') rfl;exact this
end
end
end Go.LK
namespace Go.LK
open Go Go.Conc Go.LT Go.LC
section
structure An where
  ok:Bool:=false
  n:Int:=0
  m:Int:=0
  err:Int:=0
  ints:List Int:=[]
structure QI where
  a:An
  bg:Nat
  st:Nat
  ow:Nat
structure Dr (Cl Cs Sg:Type) where
  init:Nat->Cl->Sg->Cs ⊕ (An × Bool)
  next:Nat->Cs->Sg->Sg × (Cs ⊕ (An × Bool))
structure Wk (Cl Cs:Type) where
  k:Nat
  todo:List Cl
  cur:Option Cs:=none
  st:Nat:=0
  bg:Nat:=0
  ow:Nat:=0
  out:List QI:=[]
  fell:Bool:=false
  over:Bool:=false
section
variable {Cl Cs Sg:Type}
def Wk.fin (x:Wk Cl Cs)(e:An × Bool):Wk Cl Cs:=
  { x with cur:=none,bg:=0,out:=x.out ++ [⟨e.1,x.bg,x.st,x.ow⟩],fell:=x.fell || e.2,over:=e.2 || x.todo.isEmpty }
def Wk.land (x:Wk Cl Cs)(r:Sg × (Cs ⊕ (An × Bool))):Wk Cl Cs × Sg × Bool:=
  match r.2 with
  | .inl cs=>({ x with cur:=some cs },r.1,false)
  | .inr e=>(x.fin e,r.1,(x.fin e).over)
def Dr.hold (D:Dr Cl Cs Sg)(x:Wk Cl Cs)(s:Nat)(σ:Sg):Wk Cl Cs × Sg × Bool:=
  match x.cur with
  | some cs=>({ x with st:=s,ow:=x.ow+1 }:Wk Cl Cs).land (D.next x.k cs σ)
  | none=>
    match x.todo with
    | []=>(x,σ,true)
    | c :: l=>
      match D.init x.k c σ with
      | .inl cs=>({ x with todo:=l,st:=s,bg:=s,ow:=1 }:Wk Cl Cs).land (D.next x.k cs σ)
      | .inr e=>({ x with todo:=l,st:=s,bg:=s,ow:=1 }:Wk Cl Cs).land (σ,.inr e)
def Wk.new (k:Nat)(l:List Cl):Wk Cl Cs:={ k,todo:=l,over:=l.isEmpty }
theorem Wk.V5 (x:Wk Cl Cs)(σ:Sg)(cs:Cs):x.land (σ,.inl cs)=({ x with cur:=some cs },σ,false):=rfl
theorem Wk.Xh (x:Wk Cl Cs)(σ:Sg)(e:An × Bool):x.land (σ,.inr e)=(x.fin e,σ,(x.fin e).over):=rfl
theorem Wk.fC (x:Wk Cl Cs)(c:Option Cs)(r:Sg × (Cs ⊕ (An × Bool))):({ x with cur:=c }:Wk Cl Cs).land r=x.land r:=by obtain ⟨σ,r⟩:=r;cases r <;> rfl
theorem Dr.iV (D:Dr Cl Cs Sg)(x:Wk Cl Cs)(cs:Cs)(s:Nat)(σ:Sg):D.hold { x with cur:=some cs } s σ=({ x with st:=s,ow:=x.ow+1 }:Wk Cl Cs).land (D.next x.k cs σ):=Wk.fC ({ x with st:=s,ow:=x.ow+1 }:Wk Cl Cs) (some cs) (D.next x.k cs σ)
end
end
end Go.LK
namespace Go.LT
open Go Go.Conc
section
variable [Host]
variable {P:Program}{main:Bool}{Γ:Type}{S:HY P main Γ}{γ:Γ}{W:World}
def Behind (S:HY P main Γ)(γ:Γ)(mk:Array Value->Goroutine)(e:Exit)(a:Act)(W:World):Prop:=e=.normal/\JW S.base γ (mk a.tmps) W
theorem HY.qI {f:FuncId}{κ:CallKind}{k:List Item}{cs:List Frame}{ds:List Deferred}{tm:Array Value}{ops:Array Oper}(j:Nat)(l:List Oper)(L:List FuncId)(hL:∀ f∈L,Lets P f)(hf:f∈L)(TP:κ≠.early){is rest:List Nat}(his:is=List.range' j l.length ++ rest)(hl:∀ i o,l[i]?=some o->ops[j+i]?=some o)(hok:l.all (M4 P)=true)(h:∀ GQ,Alike W GQ->wpListIn (Fence.list L none) 0 P ops (Behind S γ fun tm=>G (Jz f tm (.inRegion ops rest :: k) ds .run κ) cs) l ⟨tm,[]⟩ GQ):JW S.base γ (G (Jz f tm (.inRegion ops is :: k) ds .run κ) cs) W:=by
  subst his;intro w hw;have hio:I5 P (.inRegion ops (List.range' j l.length))=true:=by show ((List.range' j l.length).all fun i=>(ops[i]?).all (M4 P))=true;rw [List.all_eq_true] at hok ⊢;intro i hi;obtain ⟨m,hm,rfl⟩:=List.mem_range'.1 hi;have hlo:l[m]?=some l[m]:=List.getElem?_eq_getElem hm;have:=hl m _ hlo;simp only [Nat.one_mul,this,Option.all_some];exact hok _ (List.getElem_mem hm)
  refine S.way _ _ _ ((Vw (R:=S.R γ) (D:=S.D γ) (F:=(·∈L)) (Fn:=Fence.list L none) (n:=0) (tm:=tm) (Q:=Behind S γ fun tm=>G (Jz f tm (.inRegion ops rest :: k) ds .run κ) cs) (S.turns γ) (S.kept γ) hL (fun _ h=>h) rfl rfl rfl hf TP hio (l':=rest) (k:=k) (ds:=ds) (cs:=cs) hw.2 (fun e a w q=>.inl q.1) fun τ=>?_).mono fun g w' hst=>?_)
  . obtain ⟨⟨XG,d',rfl⟩,_⟩:=hw;rw [O1 l j hl];exact h _ ⟨τ,0,rfl⟩
  . obtain ⟨e,tm',τ,d,hR,⟨rfl,hq⟩,hg⟩:=hst;have hs:J2 (S.B γ) w' (sh (GN (S.B γ) w') τ d):=⟨⟨τ,d,rfl⟩,hR⟩
    exact hg ▸ hq w' hs
end
end Go.LT
namespace Go.LT
open Go Go.Conc
abbrev Host.only (f:FuncId):Host:=⟨(· == f)⟩
section
variable {P:Program}{main:Bool}{Γ:Type}{S:HY P main Γ}{γ:Γ}{W:World}
theorem QL {f:FuncId}{L:List FuncId}(hi:P.inits.idxOf? f=none)(hL:∀ g∈L,@Lets (Host.only f) P g):∀ g∈f :: L,@Lets (Host.only f) P g:=fun g hg=>by
  rcases List.mem_cons.1 hg with rfl|h
  . exact ⟨hi,.inr (.inr (by show (g == g)=true;simp))⟩
  . exact hL g h
theorem HY.oz {f:FuncId}{κ:CallKind}{k:List Item}{cs:List Frame}{ds:List Deferred}{tm:Array Value}{ops:Array Oper}(j:Nat)(l:List Oper)(L:List FuncId)(hL:∀ g∈L,@Lets (Host.only f) P g)(hi:P.inits.idxOf? f=none)(TP:κ≠.early){is rest:List Nat}(his:is=List.range' j l.length ++ rest)(hl:∀ i o,l[i]?=some o->ops[j+i]?=some o)(hok:l.all (@M4 (Host.only f) P)=true)(h:∀ GQ,Alike W GQ->wpListIn (Fence.list (f :: L) none) 0 P ops (Behind S γ fun tm=>G (Jz f tm (.inRegion ops rest :: k) ds .run κ) cs) l ⟨tm,[]⟩ GQ):JW S.base γ (G (Jz f tm (.inRegion ops is :: k) ds .run κ) cs) W:=
  @HY.qI (Host.only f) P main Γ S γ W f κ k cs ds tm ops j l (f :: L) (QL hi hL) List.mem_cons_self TP is rest his hl hok h
end
end Go.LT
namespace Go.LT
open Go Go.Conc
section
variable {P:Program}{main:Bool}{Γ:Type}{S:Sn P main Γ}{γ:Γ}{W:World}{b:Frame}{a:Act}{k:List Item}{cs:List Frame}
theorem JL.jV {ops:Array Oper}{i:Nat}{rest:List Nat}{o:Oper}{f:FuncId}{fn:Func}{x:Operand}{args:Array Operand}{ats:Array TypeId}{caps:Array Value}(ho:ops[i]?=some o)(hw:Region.wanted o (yielded ops a.tmps)=true)(hk:b.kind≠.early)(hop:o.op=.call { callee:=.value x,args,argTypes:=ats })(hx : a.eval x = .func (.func f) #[] caps)(hf : P.funcs[f]? = some fn)(hname : (fn.name == "runtime.NumGoroutine") = false)(hb : fn.body.isNone = false)(h:JL S γ (G (Frame.enter P f (args.map a.eval ++ caps) .normal) (b.at a (.inRegion ops (i :: rest) :: k) :: cs)) W) :
    JL S γ (G (b.at a (.inRegion ops (i :: rest) :: k)) cs) W:=by
  have h1 : ¬ fn.name = "runtime.NumGoroutine" := by simpa using hname
  have h2:¬ fn.body=none:=by cases hx:fn.body <;> simp_all
  have hr:∀ w,(execOp a.eval o).run P w=.ok (.enter f (args.map a.eval ++ caps)) w:=fun w=>by unfold execOp;simp [hop,resolve,Deferred.ofValue,invoke,callFunc,hf,h1,h2,hx]
  have he:∀ w es,(execOp a.eval o).events P w es=es:=fun w es=>by unfold execOp;simp [hop,resolve,Deferred.ofValue,invoke,callFunc,hf,h1,h2,hx]
  refine .ctl rfl (fun w=>?_) h;rw [stepG_enter ho hw hk (hr w)];have:listed P b.fn a o w=#[]:=by unfold listed;rw [he];exact seen_none P _
  rw [this]
end
end Go.LT
namespace Go.LK
open Go Go.Conc Go.LT Go.LC
open Go.ConcN (WgLive)
section
section
variable {P:Program}{ρ:Rn}{W:World}
abbrev GA (ρ:Rn)(P:Program)(m:Nat)(g:Goroutine)(w:World):Prop:=Goes P false (RX ρ.ty ρ.Wg) DA (Qx P ρ.ty ρ.Wg) m g w
def pQ (ρ:Rn)(P:Program)(m:Nat)(g:Goroutine):Prop:=∀ w,WgLive ρ.ty ρ.Wg w->GA ρ P m g w
theorem pQ.ctl {m:Nat}{g g':Goroutine}(hs:g.status=.running)(h:∀ w,WgLive ρ.ty ρ.Wg w->stepG P false g w=.go g' w #[])(hJ:pQ ρ P m g'):pQ ρ P (m+1) g:=fun w hl=>
  Goes.step hs fun w₁ h₁=>by rw [h w₁ (h₁.live hl)];exact ⟨⟨rfl,.inl rfl⟩,hJ _ (h₁.live hl)⟩
def SA (ρ:Rn)(P:Program):Sn P false Unit where
  B:=fun _=>TT
  J:=fun _ g _=>∃ m,pQ ρ P m g
  live:=fun _=>WgLive ρ.ty ρ.Wg
  idle:=fun γ g g' W hs h hJ w hw=>by obtain ⟨m,hg⟩:=hJ w hw;exact ⟨m+1,hg.ctl hs h⟩
theorem SA.of {g:Goroutine}(h:∀ W,JL (SA ρ P) () g W):∃ m,pQ ρ P m g:=h (GN TT default) default ⟨.refl _,Mg _⟩
theorem SA.to {g:Goroutine}(h:∃ m,pQ ρ P m g):JL (SA ρ P) () g W:=fun _ _=>h
structure LvE (ty:TypeId)(ch:List PanicEntry):Prop where
  ex:∃ older,ch=⟨.iface ty (.agg #[]),false,false⟩ :: older
def kI (ρ:Rn)(P:Program)(ty:TypeId)(c:Frame)(cs:List Frame):Prop:=∀ ch,LvE ty ch->∃ m,pQ ρ P m (G (c.raise ch) cs)
theorem kI.pop {ty:TypeId}{f:FuncId}{fn:Func}{tm:Array Value}{k:List Item}{c:Frame}{cs:List Frame}(hf:P.funcs[f]?=some fn)(h:kI ρ P ty c cs):kI ρ P ty ((base f).at ⟨tm,[]⟩ k) (c :: cs):=fun ch hch=>by obtain ⟨m,hm⟩:=h ch hch;refine ⟨m+1,pQ.ctl (g':=G (c.raise ch) cs) rfl (fun w _=>?_) hm⟩;show stepG P false (G (Jz f tm k [] (.panicking ch) .normal) (c :: cs)) w=_;simp [G,Jz,stepG,unwind,Frame.catches,hf]
theorem JL.KX {main:Bool}{Γ:Type}{S:Sn P main Γ}{γ:Γ}{b:Frame}{a:Act}{k:List Item}{cs:List Frame}{ops:Array Oper}{i:Nat}{rest:List Nat}{o:Oper}(v:Value)(ho:ops[i]?=some o)(hw:Region.wanted o (yielded ops a.tmps)=true)(hk:b.kind≠.early)(hr:∀ w,(execOp a.eval o).runT P w #[]=(.ok (.value v) w,#[]))(h:JL S γ (G (b.at (a.put o.dst v) (.inRegion ops rest :: k)) cs) W):JL S γ (G (b.at a (.inRegion ops (i :: rest) :: k)) cs) W:=
  JL.value v ho hw hk (fun w _=>by rw [← Sem.runT_fst (es:=#[]),hr]) (fun w _ e he=>by
    have:(execOp a.eval o).events P w #[]=#[]:=by show ((execOp a.eval o).runT P w #[]).2=#[];rw [hr]
    rw [this] at he;simp at he) h
theorem Xc {main:Bool}{b:Frame}{a:Act}{k:List Item}{cs:List Frame}{w:World}{ops:Array Oper}{i:Nat}{rest:List Nat}{o:Oper}{v:Value}(ho:ops[i]?=some o)(hw:Region.wanted o (yielded ops a.tmps)=true)(hk:b.kind≠.early)(hr:(execOp a.eval o).run P w=.halt (.panic v) w):stepG P main (G (b.at a (.inRegion ops (i :: rest) :: k)) cs) w=.go (G ((b.at a (.inRegion ops (i :: rest) :: k)).raise [⟨v,false,false⟩]) cs) w (listed P b.fn a o w):=by
  have hk':(b.kind == CallKind.early)=false:=by simpa using hk
  rw [stepG_oper ho hw];simp [stepG.apply,hr,G,Frame.at,hk',GStep.after,listed]
end
end
end Go.LK
namespace Go.LK
open Go Go.Conc Go.LT Go.LC
structure Mem (Sg:Type) where
  Sh:Nat->Prop
  Inv:Sg->World->Prop
  rows:∀ s w b,Sh b->Inv s w->∃ c e f,w.heap[b]?=some (.cells c e f)
  eq:∀ s w w',(∀ b,Sh b->NY w w' b)->Inv s w->Inv s w'
structure Js {P:Program}{main:Bool}{Γ:Type}(S:HY P main Γ){Cl Cs Sg:Type}(D:Dr Cl Cs Sg)(m:Mem Sg)(Xr:FuncId) where
  St:Type
  γ:St->Γ
  wv:Value
  num:Nat
  At:St->Sg->World->Prop
  core:St->Nat->Prop
  own:St->Nat->Prop
  kept:St->Nat->Prop
  n0:St->Nat
  fuel:St->Nat
  Le:St->St->Prop
  R4:St->Sg->Cl->Prop
  Step:St->Sg->Cs->Prop
  gF:St->Sg × (Cs ⊕ (An × Bool))->Prop
  End:St->Sg->An × Bool->Prop
  Leaves:Frame->List Frame->Prop
  add:St->Nat->St
  refl:∀ s,Le s s
  trans:∀ s s' s'',Le s s'->Le s' s''->Le s s''
  Vm:∀ {s σ c cs},R4 s σ c->D.init num c σ=.inl cs->Step s σ cs
  ends:∀ {s σ c e},R4 s σ c->D.init num c σ=.inr e->End s σ e
  more:∀ {s σ cs},gF s (σ,.inl cs)->Step s σ cs
  done:∀ {s σ e},gF s (σ,.inr e)->End s σ e
  inv:∀ {s σ W},At s σ W->m.Inv σ W
  size:∀ {s σ W},At s σ W->n0 s<=W.heap.size
  row:∀ {s σ W b},At s σ W->own s b->¬ m.Sh b/\∃ c e f,W.heap[b]?=some (.cells c e f)
  Pq:∀ {s σ W b},At s σ W->core s b->own s b
  JX:∀ {s σ W b},At s σ W->kept s b->own s b
  put:∀ {s σ W σ' W'},At s σ W->m.Inv σ' W'->(∀ b,core s b->W'.heap[b]?=W.heap[b]?)->(∀ b,own s b->∃ c e f,W'.heap[b]?=some (.cells c e f))->W.heap.size<=W'.heap.size->At s σ' W'
  YW:∀ {s σ W N},At s σ W->n0 s<=N->¬ m.Sh N->(∃ c e f,W.heap[N]?=some (.cells c e f))->At (add s N) σ W/\Le s (add s N)/\γ (add s N)=γ s/\fuel (add s N)=fuel s/\(∀ b,core (add s N) b↔core s b)/\(∀ b,own (add s N) b↔own s b\/b=N)/\(∀ b,kept (add s N) b↔kept s b\/b=N)
  Yw:∀ {s N σ c},R4 s σ c->R4 (add s N) σ c
  VL:∀ {s N σ cs},Step s σ cs->Step (add s N) σ cs
  Yo:∀ {s N r},gF s r->gF (add s N) r
  XR:∀ {s N σ e},End s σ e->End (add s N) σ e
  pop:∀ {f:FuncId} {fn:Func} {tm:Array Value} {k:List Item} {c:Frame} {cs:List Frame},P.funcs[f]?=some fn->Leaves c cs->Leaves ((base f).at ⟨tm,[]⟩ k) (c :: cs)
  step:∀ {s σ W cs} {c:Frame} {k:List Frame},At s σ W->Step s σ cs->Leaves c k->
    (∀ s' σ' W',At s' σ' W'->Le s s'->core s'=core s->own s'=own s->kept s'=kept s->(∀ b,kept s b->W'.heap[b]?=W.heap[b]?)->W.heap.size<=W'.heap.size->fuel s' < fuel s->gF s' (D.next num cs σ')->JW S.base (γ s') (G (c.finish (.tuple #[])) k) W')->
    JW S.base (γ s) (G (Frame.enter P Xr #[wv] .normal) (c :: k)) W
end Go.LK
namespace Go.LT
open Go Go.Conc
def HY.L {P:Program}{main:Bool}{Γ:Type}(S:HY P main Γ):Sn P main Γ where
  B:=S.B
  J:=S.J
  live:=fun _ _=>True
  idle:=fun γ g g' W hs h hJ=>S.base.silent γ g g' W hs (fun w=>h w trivial) hJ
section
variable {P:Program}{main:Bool}{Γ:Type}{S:HY P main Γ}{γ:Γ}{W:World}
def Abm (S:HY P main Γ)(γ:Γ)(mk:Array Value->Goroutine)(mr:Array Value->List Item->Goroutine):Exit->Act->World->Prop
  | .normal,a,W=>JW S.base γ (mk a.tmps) W
  | .ret,a,W=>∀ Y,JW S.base γ (mr a.tmps Y) W
  | _,_,_=>False
theorem HY.Adv {f:FuncId}{κ:CallKind}{k:List Item}{cs:List Frame}{ds:List Deferred}{tm:Array Value}{c:Code}(L:List FuncId)(hL:∀ g∈L,@Lets (Host.only f) P g)(hi:P.inits.idxOf? f=none)(TP:κ≠.early)(hok:@JE (Host.only f) P c=true)(h:∀ GQ,Alike W GQ->c.wpIn (Fence.list (f :: L) none) 0 P (Abm S γ (fun tm=>G (Jz f tm k ds .run κ) cs) (fun tm Y=>G (Jz f tm Y ds .returning κ) cs)) ⟨tm,[]⟩ GQ):JW S.base γ (G (Jz f tm (.code c :: k) ds .run κ) cs) W:=by
  refine @Runs.lone (Host.only f) P main Γ S (f :: L) γ W ⟨tm,ds⟩ (fun e a γ' W'=>γ'=γ/\a.defers=ds/\Abm S γ (fun tm=>G (Jz f tm k ds .run κ) cs) (fun tm Y=>G (Jz f tm Y ds .returning κ) cs) e a W') (QL hi hL) c hok (fun GQ ha=>?_) f κ k cs List.mem_cons_self TP fun e a' γ' W' q=>?_
  . refine Code.wpIn_mono (fun e a W' hb=>?_) (h GQ ha);cases e with
    | normal=>exact ⟨rfl,rfl,hb⟩
    | ret=>exact ⟨rfl,rfl,hb⟩
    | _=>exact hb.elim
  . obtain ⟨rfl,h1,h2⟩:=q;cases e with
    | normal=>
      show JW S.base γ' (G (Jz f a'.tmps k a'.defers .run κ) cs) W';rw [h1];exact h2
    | ret=>
      intro Y;show JW S.base γ' (G (Jz f a'.tmps Y a'.defers .returning κ) cs) W';rw [h1];exact h2 Y
    | _=>exact h2.elim
def TB (S:HY P main Γ)(γ:Γ)(b:Frame)(ds:List Deferred)(k:List Item)(cs:List Frame):Exit->Act->World->Prop
  | .normal,a,W=>JL S.L γ (G (b.at ⟨a.tmps,ds⟩ k) cs) W
  | .ret,a,W=>∀ Y,JL S.L γ (G { b.at ⟨a.tmps,ds⟩ Y with mode:=.returning } cs) W
  | _,_,_=>False
theorem HY.Ht {b:Frame}{k:List Item}{cs:List Frame}{ds:List Deferred}{tm:Array Value}{c:Code}(L:List FuncId)(hL:∀ g∈L,@Lets (Host.only b.fn) P g)(hi:P.inits.idxOf? b.fn=none)(TP:b.kind≠.early)(hok:@JE (Host.only b.fn) P c=true)(h:∀ GQ,Alike W GQ->c.wpIn (Fence.list (b.fn :: L) none) 0 P (TB S γ b ds k cs) ⟨tm,[]⟩ GQ):JL S.L γ (G (b.at ⟨tm,ds⟩ (.code c :: k)) cs) W:=by
  show JW S.base γ (G (Jz b.fn tm (.code c :: k) ds .run b.kind) cs) W;refine HY.Adv L hL hi TP hok fun GQ ha=>Code.wpIn_mono (fun e a W' hb=>?_) (h GQ ha);cases e with
  | normal=>exact hb
  | ret=>exact hb
  | _=>exact hb.elim
theorem HY.Aat {b:Frame}{k:List Item}{cs:List Frame}{ds:List Deferred}{tm:Array Value}{ops:Array Oper}(j:Nat)(l:List Oper)(L:List FuncId)(hL:∀ g∈L,@Lets (Host.only b.fn) P g)(hi:P.inits.idxOf? b.fn=none)(TP:b.kind≠.early){is rest:List Nat}(his:is=List.range' j l.length ++ rest)(hl:∀ i o,l[i]?=some o->ops[j+i]?=some o)(hok:l.all (@M4 (Host.only b.fn) P)=true)(h:∀ GQ,Alike W GQ->wpListIn (Fence.list (b.fn :: L) none) 0 P ops (Behind S γ fun tm=>G (b.at ⟨tm,ds⟩ (.inRegion ops rest :: k)) cs) l ⟨tm,[]⟩ GQ):JL S.L γ (G (b.at ⟨tm,ds⟩ (.inRegion ops is :: k)) cs) W:=by
  show JW S.base γ (G (Jz b.fn tm (.inRegion ops is :: k) ds .run b.kind) cs) W;exact HY.oz j l L hL hi TP his hl hok h
theorem HY.JR {b:Frame}{k:List Item}{cs:List Frame}{ds:List Deferred}{tm:Array Value}{ops:Array Oper}(j:Nat)(L:List FuncId)(hL:∀ g∈L,@Lets (Host.only b.fn) P g)(hi:P.inits.idxOf? b.fn=none)(TP:b.kind≠.early){is:List Nat}(his:is=List.range' j (ops.toList.drop j).length)(hok:(ops.toList.drop j).all (@M4 (Host.only b.fn) P)=true)(h:∀ GQ,Alike W GQ->wpListIn (Fence.list (b.fn :: L) none) 0 P ops (Behind S γ fun tm=>G (b.at ⟨tm,ds⟩ (.inRegion ops [] :: k)) cs) (ops.toList.drop j) ⟨tm,[]⟩ GQ):JL S.L γ (G (b.at ⟨tm,ds⟩ (.inRegion ops is :: k)) cs) W:=
  HY.Aat j (ops.toList.drop j) L hL hi TP (rest:=[]) (by rw [his,List.append_nil]) (fun i o ho=>by rw [List.getElem?_drop] at ho;rw [← Array.getElem?_toList];exact ho) hok h
theorem aZ {B:Hid}{w W:World}{ad:Addr}{v:Value}(h:J2 B w W)(hc:W.cell? ad=some v):B ad.block=false/\w.cell? ad=some v:=by
  obtain ⟨⟨τ,d,rfl⟩,hR⟩:=h;have hc':(GN B w).cell? ad=some v:=hc;cases hB:B ad.block with
  | true=>rw [LG hR hB] at hc';cases hc'
  | false=>exact ⟨rfl,by rw [← Ie hB];exact hc'⟩
theorem HY.read {b:Frame}{a:Act}{k:List Item}{cs:List Frame}{ops:Array Oper}{i:Nat}{rest:List Nat}{o:Oper}{ad:Addr}(v:Value)(ho:ops[i]?=some o)(hw:Region.wanted o (yielded ops a.tmps)=true)(hk:b.kind≠.early)(hc:W.cell? ad=some v)(hr:∀ w,w.cell? ad=some v->(execOp a.eval o).run P w=.ok (.value v) w)(he:∀ w,w.cell? ad=some v->∀ e∈(execOp a.eval o).events P w #[],e=⟨.cell ad,false,false⟩)(hJ:JL S.L γ (G (b.at (a.put o.dst v) (.inRegion ops rest :: k)) cs) W):JL S.L γ (G (b.at a (.inRegion ops (i :: rest) :: k)) cs) W:=
  S.step rfl fun w hs=>by obtain ⟨hB,hc'⟩:=aZ hs hc;exact ⟨_,w,_,stepG_value ho hw hk (hr w hc'),Kept.refl _ _,fun e h=>by rw [he w hc' e (mem_listed h)];exact ⟨hB,R6 hc',fun h=>by cases h⟩,W,hs,hJ⟩
theorem JL.back {S:Sn P main Γ}{b:Frame}{tm:Array Value}{Y:List Item}{c:Frame}{cs:List Frame}{fn:Func}{v:Value}(hn:b.kind=.normal)(hf:P.funcs[b.fn]?=some fn)(hr:∀ w,(results fn tm).runT P w #[]=(.ok v w,#[]))(h:JL S γ (G (c.finish v) cs) W) :
    JL S γ (G { b.at ⟨tm,[]⟩ Y with mode:=.returning } (c :: cs)) W:=
  .ctl rfl (fun w=>stepG_leave hn rfl hf (by rw [← Sem.runT_fst (es:=#[]),hr]) (by show ((results fn tm).runT P w #[]).2=#[];rw [hr])) h
end
end Go.LT
namespace Go.LK
open Go Go.Conc Go.LT Go.LC
section
variable {P:Program}{main:Bool}{Γ:Type}{S:HY P main Γ}{Cl Cs Sg:Type}{D:Dr Cl Cs Sg}{m:Mem Sg}{Xr:FuncId}
structure Js.On (I:Js S D m Xr)(s:I.St)(W:World)(s':I.St)(W':World):Prop where
  le:I.Le s s'
  core:∀ b,I.core s' b↔I.core s b
  kept:∀ b,I.kept s b->I.kept s' b/\W'.heap[b]?=W.heap[b]?
  size:W.heap.size<=W'.heap.size
  fuel:I.fuel s'<=I.fuel s
theorem Js.On.refl (I:Js S D m Xr)(s:I.St)(W:World):I.On s W s W:=⟨I.refl s,fun _=>.rfl,fun b h=>⟨h,rfl⟩,Nat.le_refl _,Nat.le_refl _⟩
theorem Js.On.trans {I:Js S D m Xr}{s s' s'':I.St}{W W' W'':World}(h:I.On s W s' W')(k:I.On s' W' s'' W''):I.On s W s'' W'':=
  ⟨I.trans _ _ _ h.le k.le,fun b=>(k.core b).trans (h.core b),fun b hb=>⟨(k.kept b (h.kept b hb).1).1,(k.kept b (h.kept b hb).1).2.trans (h.kept b hb).2⟩,Nat.le_trans h.size k.size,Nat.le_trans k.fuel h.fuel⟩
theorem Js.line (I:Js S D m Xr){s:I.St}{σ:Sg}{W:World}{cs:Cs}{c:Frame}{k:List Frame}(hA:I.At s σ W)(hS:I.Step s σ cs)(hL:I.Leaves c k)(hJ:∀ s' σ' W',I.At s' σ' W'->I.On s W s' W'->I.fuel s' < I.fuel s->(∀ b,I.own s' b↔I.own s b)->I.gF s' (D.next I.num cs σ')->JW S.base (I.γ s') (G (c.finish (.tuple #[])) k) W') :
    JW S.base (I.γ s) (G (Frame.enter P Xr #[I.wv] .normal) (c :: k)) W:=
  I.step hA hS hL fun s' σ' W' a1 a2 a3 a4 a5 a6 a7 a8 a9=>hJ s' σ' W' a1 ⟨a2,fun b=>by rw [a3],fun b hb=>⟨by rw [a5];exact hb,a6 b hb⟩,a7,Nat.le_of_lt a8⟩ a8 (fun b=>by rw [a4]) a9
theorem Js.lay (I:Js S D m Xr){s:I.St}{σ:Sg}{W W':World}{N:Nat}(hA:I.At s σ W)(hN:N=W.heap.size)(hr:∃ c e f,W'.heap[N]?=some (Obj.cells c e f))(ho:∀ b,b < W.heap.size->W'.heap[b]?=W.heap[b]?)(hs:W.heap.size<=W'.heap.size) :
    ∃ s',I.At s' σ W'/\I.On s W s' W'/\I.γ s'=I.γ s/\(∀ b,I.own s' b↔I.own s b\/b=N)/\(∀ b,I.kept s' b↔I.kept s b\/b=N)/\(∀ c,I.R4 s σ c->I.R4 s' σ c)/\(∀ cs,I.Step s σ cs->I.Step s' σ cs)/\(∀ r,I.gF s r->I.gF s' r)/\(∀ e,I.End s σ e->I.End s' σ e):=by
  have hlt:∀ {b:Nat} {o:Obj},W.heap[b]?=some o->b < W.heap.size:=fun h=>(Array.getElem?_eq_some_iff.1 h).1;have hrow:∀ b,m.Sh b->b < W.heap.size:=fun b hb=>by obtain ⟨c,e,f,h⟩:=m.rows σ W b hb (I.inv hA);exact hlt h
  have hI:m.Inv σ W':=m.eq σ W W' (fun b hb=>.of (ho b (hrow b hb))) (I.inv hA);have hown:∀ b,I.own s b->b < W.heap.size:=fun b hb=>by obtain ⟨_,c,e,f,h⟩:=I.row hA hb;exact hlt h
  have hA':I.At s σ W':=I.put hA hI (fun b hb=>ho b (hown b (I.Pq hA hb))) (fun b hb=>by rw [ho b (hown b hb)];exact (I.row hA hb).2) hs;obtain ⟨a1,a2,a3,a4,a5,a6,a7⟩:=I.YW hA' (by rw [hN];exact I.size hA) (fun h=>by have:=hrow N h;omega) hr;exact ⟨_,a1,⟨a2,a5,fun b hb=>⟨(a7 b).2 (.inl hb),ho b (hown b (I.JX hA hb))⟩,hs,Nat.le_of_eq a4⟩,a3,a6,a7,fun _=>I.Yw,fun _=>I.VL,fun _=>I.Yo,fun _=>I.XR⟩
theorem Js.turn (I:Js S D m Xr){s:I.St}{σ σ':Sg}{W W':World}(hA:I.At s σ W)(hI:m.Inv σ' W')(ho:∀ b,¬ m.Sh b->W'.heap[b]?=W.heap[b]?)(hs:W'.heap.size=W.heap.size):I.At s σ' W'/\I.On s W s W':=
  ⟨I.put hA hI (fun b hb=>ho b (I.row hA (I.Pq hA hb)).1) (fun b hb=>by rw [ho b (I.row hA hb).1];exact (I.row hA hb).2) (Nat.le_of_eq hs.symm),
   I.refl s,fun _=>.rfl,fun b hb=>⟨hb,ho b (I.row hA (I.JX hA hb)).1⟩,Nat.le_of_eq hs.symm,Nat.le_refl _⟩
theorem Js.alike (I:Js S D m Xr){s:I.St}{σ:Sg}{W W':World}(hA:I.At s σ W)(ha:LT.Alike W W'):I.At s σ W'/\I.On s W s W':=by obtain ⟨τ,d,rfl⟩:=ha;exact I.turn hA (m.eq σ W _ (fun b _=>.of rfl) (I.inv hA)) (fun b _=>rfl) rfl
end
end Go.LK
namespace Go.LK
open Go Go.Conc Go.LT Go.LC
structure G5 where
  kind:Int
  a:Int
  b:Int
  c:Int
inductive GU | one (c:G5)
  | look (most:Bool) (i v:Int)
  | cas (most:Bool) (i v x:Int)
def inn (n:Nat)(i:Int):Bool:=decide (0<=i) && decide (i < n)
def PD (most:Bool)(x v:Int):Bool:=if most then decide (v<=x) else decide (x<=v)
def II (c:G5)(σ:List Int):List Int × An:=
  let i:=c.a.toNat
  let x:=σ.getD i 0
  if c.kind=1 then (σ,{ n:=x })
  else if c.kind=2 then (σ.set i c.b,{})
  else if c.kind=3 then (σ.set i (RowKit.wrap64 (x+c.b)),{ n:=RowKit.wrap64 (x+c.b) })
  else if c.kind=4 then (σ.set i c.b,{ n:=x })
  else if x=c.b then (σ.set i c.c,{ ok:=true }) else (σ,{})
def He:Dr G5 GU (List Int) where
  init:=fun _ c _=>
    if 1<=c.kind/\c.kind<=5 then .inl (.one c)
    else if c.kind=6 then .inl (.look true c.a c.b)
    else if c.kind=7 then .inl (.look false c.a c.b)
    else .inr ({ err:=40 },false)
  next:=fun _ cs σ=>
    match cs with
    | .one c=>if inn σ.length c.a=false then (σ,.inr ({ err:=41 },false)) else ((II c σ).1,.inr ((II c σ).2,false))
    | .look most i v=>
      if inn σ.length i=false then (σ,.inr ({ err:=41 },false))
      else if PD most (σ.getD i.toNat 0) v then (σ,.inr ({ n:=σ.getD i.toNat 0 },false)) else (σ,.inl (.cas most i v (σ.getD i.toNat 0)))
    | .cas most i v x=>if σ.getD i.toNat 0=x then (σ.set i.toNat v,.inr ({ n:=v },false)) else (σ,.inl (.look most i v))
structure Ir (m:Mem (List Int))(c cb n:Nat):Prop where
  len:n<=256
  sh:m.Sh cb
  get:∀ σ W,m.Inv σ W->σ.length=n/\W.cell? ⟨c,0,none⟩=some (.slice (some ⟨cb,0,none⟩) n n)/\∃ ty,W.heap[cb]?=some (.cells (σ.map (Value.int .i64)).toArray ty (0,0))
  set:∀ σ W i v,m.Inv σ W->i < n->m.Inv (σ.set i v) (W.setCell ⟨cb,i,none⟩ (.int .i64 v))
theorem Ir.cell {m:Mem (List Int)}{c cb n:Nat}(h:Ir m c cb n){σ:List Int}{W:World}(hI:m.Inv σ W){i:Nat}(hi:i < n):W.cell? ⟨cb,i,none⟩=some (.int .i64 (σ.getD i 0)):=by obtain ⟨h1,_,ty,h2⟩:=h.get σ W hI;simp [World.cell?,h2,h1,hi]
theorem Ir.frozen {m:Mem (List Int)}{c cb n:Nat}(h:Ir m c cb n){σ:List Int}{W:World}(hI:m.Inv σ W)(i:Nat):W.frozen? ⟨cb,i,none⟩=false:=by obtain ⟨_,_,ty,h2⟩:=h.get σ W hI;simp [World.frozen?,h2]
theorem Mem.alike {Sg:Type}(m:Mem Sg){σ:Sg}{W W':World}(h:m.Inv σ W)(ha:LT.Alike W W'):m.Inv σ W':=m.eq σ W W' (fun b _=>.of (by obtain ⟨τ,d,rfl⟩:=ha;rfl)) h
end Go.LK
namespace Go.Proofs.Ytkdhnbcdbnpmhaa
open Go Go.Conc Go.LT Go.LC Go.LK
section
instance hosts:Host:=⟨fun f=>[52,76,78,103,86,87,104,118,63,79].contains f⟩
theorem dH:∀ f∈[86],Lets Try.prog f:=by intro f hf;simp only [List.mem_singleton] at hf;subst hf;exact ⟨by kernel_rfl,.inr (.inr (by decide))⟩
def IQ (W:World)(b k t co go:Nat)(gr:Bool)(st bg ow:Int)(ans:Value)(dn fl:Bool):Prop:=
  W.heap[b]?=some (.cells #[.int .i64 k,.bool true,.chan (some t),.chan (some co),.chan (some go),.bool gr,.int .i64 st,.int .i64 bg,.int .i64 ow,ans,.bool dn,.bool fl] 157 (0,0))
noncomputable def Vl:Code:=match Try.f86.body with | some (.seq c _)=>c | _=>.skip
theorem mP {W:World}{b k t co go:Nat}{gr:Bool}{st bg ow:Int}{ans:Value}{dn fl:Bool}(h:IQ W b k t co go gr st bg ow ans dn fl){Q:Exit->Act->World->Prop}(hQ:Q .normal ⟨#[.pointer (some ⟨b,0,none⟩),undef,.pointer (some ⟨b,0,none⟩),.pointer (some ⟨b,0,none⟩),.pointer (some ⟨b,3,none⟩),.chan (some co),.pointer (some ⟨b,0,none⟩),.pointer (some ⟨b,0,none⟩),.pointer (some ⟨b,0,none⟩),.int .i64 k,.pointer (some ⟨b,0,none⟩),.pointer (some ⟨b,0,none⟩),.pointer (some ⟨b,4,none⟩),.chan (some go),undef,undef,undef,undef,undef,undef],[]⟩ W) :
    Vl.wpIn (Fence.list [86] none) 0 Try.prog Q ⟨#[.pointer (some ⟨b,0,none⟩),undef,undef,undef,undef,undef,undef,undef,undef,undef,undef,undef,undef,undef,undef,undef,undef,undef,undef,undef],[]⟩ W:=by
  unfold IQ at h;simp only [Vl,Try.f86];have c0:W.cell? ⟨b,0,none⟩=some (.int .i64 k):=by simp [World.cell?,h]
  have c3:W.cell? ⟨b,3,none⟩=some (.chan (some co)):=by simp [World.cell?,h]
  have c4:W.cell? ⟨b,4,none⟩=some (.chan (some go)):=by simp [World.cell?,h]
  gi_wp2;exact hQ
noncomputable def LV:Code:=match Try.f86.body with | some (.seq _ c)=>c | _=>.skip
def O7 (b k co go:Nat):Array Value:=#[.pointer (some ⟨b,0,none⟩),undef,.pointer (some ⟨b,0,none⟩),.pointer (some ⟨b,0,none⟩),.pointer (some ⟨b,3,none⟩),.chan (some co),.pointer (some ⟨b,0,none⟩),.pointer (some ⟨b,0,none⟩),.pointer (some ⟨b,0,none⟩),.int .i64 k,.pointer (some ⟨b,0,none⟩),.pointer (some ⟨b,0,none⟩),.pointer (some ⟨b,4,none⟩),.chan (some go),undef,undef,undef,undef,undef,undef]
theorem iZ:Try.f86.body=some (.seq Vl LV):=rfl
section
variable {X Sg:Type}{M:Md X Sg}{ρ:Rn}{W:World}{c:Frame}{cs:List Frame}
theorem IQ.alike {W GQ:World}{b k t co go:Nat}{gr:Bool}{st bg ow:Int}{ans:Value}{dn fl:Bool}(h:IQ W b k t co go gr st bg ow ans dn fl)(ha:LT.Alike W GQ):IQ GQ b k t co go gr st bg ow ans dn fl:=by obtain ⟨τ,d,rfl⟩:=ha;exact h
theorem Ti {x:Wx X Sg ρ}{b k t co go:Nat}{gr:Bool}{st bg ow:Int}{ans:Value}{dn fl:Bool}(h:IQ W b k t co go gr st bg ow ans dn fl)(hJ:∀ GQ,LT.Alike W GQ->JW (SW M ρ Try.prog).base x (G (Jz 86 (O7 b k co go) [.code LV] [] .run .normal) (c :: cs)) GQ) :
    JW (SW M ρ Try.prog).base x (G (Frame.enter Try.prog 86 #[.pointer (some ⟨b,0,none⟩)] .normal) (c :: cs)) W:=by
  have ht:#[.pointer (some ⟨b,0,none⟩)] ++ Array.replicate (Try.f86.ntmps - #[Value.pointer (some ⟨b,0,none⟩)].size) undef=#[.pointer (some ⟨b,0,none⟩),undef,undef,undef,undef,undef,undef,undef,undef,undef,undef,undef,undef,undef,undef,undef,undef,undef,undef,undef]:=by
    have:Try.f86.ntmps=20:=by kernel_rfl
    rw [this];walk_nrm
  rw [enter_at _ Try.func86 iZ,ht];refine JW.silent rfl (fun w=>stepG_seq) ?_;refine Runs.lone (S:=SW M ρ Try.prog) dH (c:=Vl) (by kernel_rfl) (Q:=fun e a γ W'=>e=.normal/\a.tmps=O7 b k co go/\a.defers=[]/\γ=x/\LT.Alike W W') (a:=⟨_,[]⟩) (fun GQ ha=>?_) 86 .normal [.code LV] (c :: cs) (by simp) (by simp) fun e a' γ' W' q=>?_
  . exact mP (h.alike ha) ⟨rfl,rfl,rfl,rfl,ha⟩
  . obtain ⟨rfl,h1,h2,rfl,ha⟩:=q;show JW _ _ (G (Jz _ a'.tmps _ a'.defers .run .normal) _) _;rw [h1,h2];exact hJ _ ha
def jU (M:Md X Sg)(ρ:Rn)(P:Program):Sn P false (Wx X Sg ρ) where
  B:=(SW M ρ P).B
  J:=(SW M ρ P).J
  live:=fun _ _=>True
  idle:=fun γ g g' W hs h hJ=>(SW M ρ P).base.silent γ g g' W hs (fun w=>h w trivial) hJ
noncomputable def Nk:Code:=match LV with | .seq _ c=>c | _=>.skip
noncomputable def MV:Array Oper:=match LV with | .seq (.region _ ops _) _=>ops | _=>#[]
theorem fU:∃ id,LV=.seq (.region id MV false) Nk:=⟨_,rfl⟩
theorem SI {x:Wx X Sg ρ}{tm:Array Value}(hJ:JW (SW M ρ Try.prog).base x (G ((base 86).at ⟨tm,[]⟩ [.inRegion MV [0,1,2,3],.code Nk]) (c :: cs)) W) :
    JW (SW M ρ Try.prog).base x (G (Jz 86 tm [.code LV] [] .run .normal) (c :: cs)) W:=by
  show JL (jU M ρ Try.prog) x (G ((base 86).at ⟨tm,[]⟩ [.code LV]) (c :: cs)) W;obtain ⟨id,e⟩:=fU;rw [e];refine GY stepG_seq ?_;refine JL.region (l:=[0,1,2,3]) rfl fun _ hk=>?_;cases hk
  exact hJ
theorem YV {b k co go:Nat}(w:World):stepG Try.prog false (G ((base 86).at ⟨O7 b k co go,[]⟩ [.inRegion MV [0,1,2,3],.code Nk]) (c :: cs)) w =
    .comm (G ((base 86).at ⟨O7 b k co go,[]⟩ [.inRegion MV [0,1,2,3],.code Nk]) (c :: cs)) #[scase co (.int .i64 k) (.int .i64 0),rcase go (.agg #[])] true .select w #[]:=by
  simp only [MV,LV,O7,Try.f86];rw [stepG_comm (cases:=#[scase co (.int .i64 k) (.int .i64 0),rcase go (.agg #[])]) (blocking:=true) (shape:=.select) (w':=w) rfl rfl (by decide) ?_,listed_none ?_]
  . simp [go_sem]
  . go_simp
    exact ⟨rfl,rfl⟩
theorem JC (P:Program)(b:Frame)(a:Act)(ops:Array Oper)(i:Nat)(rest:List Nat)(k:List Item)(cs:List Frame)(cases:Array CommCase)(sh:CommShape)(j:Int)(v:Value)(ok:Bool) :
    (G (b.at a (.inRegion ops (i :: rest) :: k)) cs).finishComm P cases sh j v ok=G (b.at (a.put ((ops[i]?).bind (·.dst)) (commResult cases sh j v ok)) (.inRegion ops rest :: k)) cs:=by
  unfold Goroutine.finishComm;have:=Frame.finish_at b a ops i rest k (commResult cases sh j v ok);simp only [G];rw [this]
theorem JL.Za {P:Program}{main:Bool}{Γ:Type}{S:Sn P main Γ}{γ:Γ}{fn:Func}{b:Frame}{a:Act}{todo:List Item}(hn:b.kind=.normal)(hd:a.defers=[])(hf:P.funcs[b.fn]?=some fn)(hr:fn.results=#[])(h:JL S γ (G (c.finish (.tuple #[])) cs) W) :
    JL S γ (G { b.at a todo with mode:=.returning } (c :: cs)) W:=
  .ctl rfl (fun w=>stepG_leave hn hd hf (results_none hr _ P w) (events_results_none hr _ _)) h
theorem Rm {K:World->Prop}{Still:Loc->Prop}{Bd:Nat}{st:Seat}{b k co go:Nat}{zi zg:Value}(h:JL (SQ Try.prog false K Still Bd st) () (G (c.finish (.tuple #[])) cs) W) :
    JL (SQ Try.prog false K Still Bd st) () ((G ((base 86).at ⟨O7 b k co go,[]⟩ [.inRegion MV [0,1,2,3],.code Nk]) (c :: cs)).finishComm Try.prog #[scase co (.int .i64 k) zi,rcase go zg] .select (0:Nat) undef false) W:=by
  rw [JC];simp only [MV,LV,Nk,O7,Try.f86];have hc:commResult #[scase co (.int .i64 k) zi,rcase go zg] .select ((0:Nat):Int) undef false=.tuple #[.int .i64 0,.bool false,zg]:=by simp [commResult,scase,rcase,goInt]
  rw [hc];walk_nrm;iterate 3 (refine Hf ?_;walk_nrm)
  refine GY stepG_region_end ?_;refine GY stepG_block ?_;refine JL.Iq rfl ?_;refine GY stepG_skip ?_;refine GY stepG_inBlock ?_;refine GY stepG_end ?_;exact JL.Za rfl rfl Try.func86 rfl h
end
end
section
noncomputable def Vt:Code:=match Try.f87.body with | some (.seq c _)=>c | _=>.skip
noncomputable def Mw:Code:=match Try.f87.body with | some (.seq _ c)=>c | _=>.skip
noncomputable def OW:Code:=match Mw with | .seq _ c=>c | _=>.skip
noncomputable def Q7:Array Oper:=match Mw with | .seq (.region _ ops _) _=>ops | _=>#[]
theorem Sc:Try.f87.body=some (.seq Vt Mw):=rfl
def Xi (b t go:Nat):Array Value:=#[.pointer (some ⟨b,0,none⟩),undef,.pointer (some ⟨b,0,none⟩),.pointer (some ⟨b,0,none⟩),.pointer (some ⟨b,2,none⟩),.chan (some t),.pointer (some ⟨b,0,none⟩),.pointer (some ⟨b,0,none⟩),.pointer (some ⟨b,4,none⟩),.chan (some go),undef,undef,undef,undef,undef,undef,undef,undef,undef,undef,undef,undef,undef]
section
variable {X Sg:Type}{M:Md X Sg}{ρ:Rn}{W:World}{c:Frame}{cs:List Frame}
theorem WH {v:Ij X}{home:Goroutine->Prop}(hzi:ρ.zi=.int .i64 0)(hzg:ρ.zg=.agg #[])(hh:home (G ((base 87).at ⟨Xi v.b v.t ρ.gone,[]⟩ [.inRegion Q7 [0,1,2,3],.code OW]) (c :: cs))) :
    JL (SQ Try.prog false (Kv ρ v) (xS v) (bX v) { cases:=JD ρ v.t,shape:=.select,home:=home }) () (G ((base 87).at ⟨#[.pointer (some ⟨v.b,0,none⟩),undef,undef,undef,undef,undef,undef,undef,undef,undef,undef,undef,undef,undef,undef,undef,undef,undef,undef,undef,undef,undef,undef],[]⟩ [.code (.seq Vt Mw)]) (c :: cs)) W:=by
  have hb:v.b < bX v:=by unfold bX;omega
  refine GY stepG_seq ?_;simp only [Vt,Try.f87];refine GY stepG_seq ?_;refine Hu fun _ hkk=>?_;iterate 3 (refine Hf ?_;walk_nrm)
  refine JQ.load (.chan (some v.t)) rfl rfl nE (fun w hK=>by have h2:=hK.1;go_simp) (fun w hK e he=>by have h2:=hK.1;simp [go_sem,h2] at he;subst he;exact ⟨_,rfl,.inl rfl,hb⟩) ?_
  walk_nrm;refine Hw ?_;cases hkk;refine Hu fun _ hkk=>?_;iterate 3 (refine Hf ?_;walk_nrm)
  refine JQ.load (.chan (some ρ.gone)) rfl rfl nE (fun w hK=>by have h2:=hK.2.1;go_simp) (fun w hK e he=>by have h2:=hK.2.1;simp [go_sem,h2] at he;subst he;exact ⟨_,rfl,.inr (.inl rfl),hb⟩) ?_
  walk_nrm;refine Hw ?_;cases hkk;have e:∃ id,Mw=.seq (.region id Q7 false) OW:=⟨_,rfl⟩
  obtain ⟨id,e⟩:=e;rw [e];refine GY stepG_seq ?_;refine JL.region (l:=[0,1,2,3]) rfl fun _ hk=>?_;cases hk
  refine JQ.sit (o := ⟨some 10, .select #[⟨.tmp 5, none, 3⟩, ⟨.tmp 9, none, 76⟩] true, 0, "crew.go:67", #[], none⟩) rfl rfl nE (fun w => ?_) (fun w => ?_) hh
  . simp only [JD,hzi,hzg];go_simp
    exact ⟨rfl,rfl⟩
  . simp [go_sem]
theorem j6:∀ f∈[87],Lets Try.prog f:=by intro f hf;simp only [List.mem_singleton] at hf;subst hf;exact ⟨by kernel_rfl,.inr (.inr (by decide))⟩
noncomputable def VP:Code:=match OW with | .block _ (.cond _ c _)=>c | _=>.skip
def Yj (b t go:Nat)(s:Int)(zg:Value):Array Value:=#[.pointer (some ⟨b,0,none⟩),undef,.pointer (some ⟨b,0,none⟩),.pointer (some ⟨b,0,none⟩),.pointer (some ⟨b,2,none⟩),.chan (some t),.pointer (some ⟨b,0,none⟩),.pointer (some ⟨b,0,none⟩),.pointer (some ⟨b,4,none⟩),.chan (some go),.tuple #[.int .i64 0,.bool true,.int .i64 s,zg],.int .i64 0,.bool true,.bool false,undef,undef,undef,undef,undef,undef,undef,undef,undef]
theorem IQ.frozen {W:World}{b k t co go o:Nat}{gr:Bool}{st bg ow:Int}{ans:Value}{dn fl:Bool}(h:IQ W b k t co go gr st bg ow ans dn fl):W.frozen? ⟨b,o,none⟩=false:=by unfold IQ at h;simp [World.frozen?,h]
theorem nV {W:World}{b k t t' co go go':Nat}{gr:Bool}{s st bg ow:Int}{ans zg:Value}{dn fl:Bool}(h:IQ W b k t' co go' gr st bg ow ans dn fl){Q:Exit->Act->World->Prop}(hQ:∀ tm W',IQ W' b k t' co go' true s bg ow ans dn fl->(∀ b',b'≠b->W'.heap[b']?=W.heap[b']?)->W'.heap.size=W.heap.size->Q .normal ⟨tm,[]⟩ W') :
    VP.wpIn (Fence.list [87] none) 0 Try.prog Q ⟨Yj b t go s zg,[]⟩ W:=by
  have f5:W.frozen? ⟨b,5,none⟩=false:=h.frozen;have f6:W.frozen? ⟨b,6,none⟩=false:=h.frozen;unfold IQ at h;simp only [VP,OW,Mw,Yj,Try.f87];have c5:W.cell? ⟨b,5,none⟩=some (.bool gr):=by simp [World.cell?,h]
  have c6:W.cell? ⟨b,6,none⟩=some (.int .i64 st):=by simp [World.cell?,h]
  gi_wp2;refine hQ _ _ ?_ ?_ ?_
  . simp [IQ,World.setCell,Array.getElem?_modify,h]
  . intro b' hb;simp [World.setCell,Array.getElem?_modify,hb.symm]
  . simp [World.setCell]
theorem UW {x:Wx X Sg ρ}{b k t t' co go go':Nat}{gr:Bool}{st bg ow:Int}{s:Nat}{ans:Value}{dn fl:Bool}(h:IQ W b k t' co go' gr st bg ow ans dn fl)(hJ:∀ W',IQ W' b k t' co go' true s bg ow ans dn fl->(∀ b',b'≠b->W'.heap[b']?=W.heap[b']?)->W'.heap.size=W.heap.size->JW (SW M ρ Try.prog).base x (G (c.finish (.tuple #[])) cs) W') :
    JW (SW M ρ Try.prog).base x ((G ((base 87).at ⟨Xi b t go,[]⟩ [.inRegion Q7 [0,1,2,3],.code OW]) (c :: cs)).finishComm Try.prog (JD ρ t) .select (0:Nat) (.int .i64 s) true) W:=by
  rw [JC];have hc:commResult (JD ρ t) .select ((0:Nat):Int) (.int .i64 s) true=.tuple #[.int .i64 0,.bool true,.int .i64 s,ρ.zg]:=by simp [commResult,JD,rcase,goInt]
  rw [hc];have hb:∃ id cnd els,OW=.block id (.cond cnd VP els)/\cnd=.tmp 12:=⟨_,_,_,rfl,rfl⟩
  obtain ⟨id,cnd,els,hb,hcnd⟩:=hb;subst hcnd;show JL (jU M ρ Try.prog) x _ W;rw [hb];simp only [Q7,Mw,Xi,Try.f87];walk_nrm;iterate 3 (refine Hf ?_;walk_nrm)
  refine GY stepG_region_end ?_;refine GY stepG_block ?_;refine JL.Iq rfl ?_;refine Runs.lone (S:=SW M ρ Try.prog) j6 (c:=VP) (by kernel_rfl) (Q:=fun e a γ Jj=>e=.normal/\a.defers=[]/\γ=x/\∃ W',LT.Alike W' Jj/\IQ W' b k t' co go' true s bg ow ans dn fl/\(∀ b',b'≠b->W'.heap[b']?=W.heap[b']?)/\W'.heap.size=W.heap.size) (a:=⟨Yj b t go s ρ.zg,[]⟩) (fun GQ ha=>?_) 87 .normal [.inBlock id] (c :: cs) (by simp) (by simp) fun e a' γ' W' q=>?_
  . refine nV (h.alike ha) fun tm W' h1 h2 h3=>⟨rfl,rfl,rfl,W',.refl _,h1,fun b' hb'=>?_,?_⟩
    . obtain ⟨τ,d,rfl⟩:=ha;exact h2 b' hb'
    . obtain ⟨τ,d,rfl⟩:=ha;exact h3
  . obtain ⟨rfl,h2,rfl,Jj,ha,h3,h4,h5⟩:=q;show JL (jU M ρ Try.prog) γ' (G ((base 87).at ⟨a'.tmps,a'.defers⟩ [.inBlock id]) (c :: cs)) W';rw [h2];refine GY stepG_inBlock ?_;refine GY stepG_end ?_;refine JL.Za rfl rfl Try.func87 rfl ?_;exact JW.tape (hJ Jj h3 h4 h5) ha
end
end
end Go.Proofs.Ytkdhnbcdbnpmhaa
