/-
  Part 14 of the proof that CellMeets returns true, and leaves its arguments as they were, for every input whose reading is of bulk at most 1048576. No further condition.
-/
import Derived.Test.YticecinjcajmcaaR00
import Derived.Test.YticecinjcajmcaaR12
import Derived.Test.YticecinjcajmcaaR13
import Derived.Laws.Pointers
import Derived.BigFrameIn
import Derived.Sort.CutIn
set_option linter.unusedVariables false
set_option linter.unusedSectionVars false
set_option linter.unusedSimpArgs false
set_option maxHeartbeats 4000000
set_option maxRecDepth 100000
noncomputable section
namespace Go.Proofs.Yticecinjcajmcaa
open Go Go.Conc Go.LT Go.LC Go.LK
section
section
variable {X Sg:Type}{M:Md X Sg}{ρ:Rn}{W:World}{c:Frame}{cs:List Frame}
theorem Mt {B:Nat->Bool}{w W:World}(hs:GQ { hol:=B } w W){a:Addr}(hB:B a.block=false):w.cell? a=W.cell? a:=by have:=ED (B:={ hol:=B }) (w:=w) (a:=a) hB;rw [← this];simp [World.cell?,FJ hs]
theorem SW.load {P:Program}{x:Wx X Sg ρ}{b:Frame}{a:Act}{k:List Item}{ops:Array Oper}{i:Nat}{rest:List Nat}{o:Oper}(v:Value)(ho:ops[i]?=some o)(hw:Region.wanted o (yielded ops a.tmps)=true)(hk:b.kind≠.early)(hr:∀ w,GQ { hol:=x.1.1.B } w W->(execOp a.eval o).run P w=.ok (.value v) w)(he:∀ w,GQ { hol:=x.1.1.B } w W->∀ e∈(execOp a.eval o).events P w #[],IG { hol:=x.1.1.B } w.heap.size e)(hJ:JL (aH M ρ P) x (G (b.at (a.put o.dst v) (.inRegion ops rest :: k)) cs) W):JL (aH M ρ P) x (G (b.at a (.inRegion ops (i :: rest) :: k)) cs) W:=
  (SW M ρ P).step rfl fun w hs=>⟨_,w,_,stepG_value ho hw hk (hr w hs),Kept.refl _ _,fun e h=>he w hs e (mem_listed h),W,hs,hJ⟩
theorem Rb {B:Nat->Bool}{w:World}{a:Addr}{v:Value}(hB:B a.block=false)(hc:w.cell? a=some v):IG { hol:=B } w.heap.size ⟨.cell a,false,false⟩:=⟨hB,EN hc,fun h=>by cases h⟩
theorem Nb {P:Program}(w:World)(es:Array Event)(d:Nat)(t:TypeId)(p:Option Addr)(h:P.underlying t=some (.pointer (P.pointee t))):(Op.equalIn (d+1) t (.pointer p) (.pointer none)).events P w es=es:=by
  have hu:∀ es,(underlying t).events P w es=es:=fun es=>by simp [underlying,h]
  cases p <;> simp [Op.equalIn,run_underlying h,hu]
theorem Oc {P:Program}(w:World)(es:Array Event)(t:TypeId)(p:Option Addr)(h:P.underlying t=some (.pointer (P.pointee t))):(Op.equal t (.pointer p) (.pointer none)).events P w es=es:=Nb w es 9999 t p h
theorem PD {P:Program}(w:World)(es:Array Event)(t:TypeId)(p:Option Addr)(h:P.underlying t=some (.pointer (P.pointee t))):(binOp .eql t (.pointer p) (.pointer none)).events P w es=es:=by simp only [binOp];simp [run_equal_pointer_nil w t p h,Oc w es t p h,go_sem]
def aU:Code:=match Try.f36.body with | some (.seq c _)=>c | _=>.skip
def MX:Code:=match Try.f36.body with | some (.seq _ (.seq c _))=>c | _=>.skip
def LV:Code:=match Try.f36.body with | some (.seq _ (.seq _ c))=>c | _=>.skip
theorem dW:Try.f36.body=some (.seq aU (.seq MX LV)):=rfl
theorem bn {x:Wx X Sg ρ}{b k t co go:Nat}{gr:Bool}{st bg ow:Int}{ans:Value}{dn fl:Bool}(h:Fq W b k t co go gr st bg ow ans dn fl)(hB:x.1.1.B b=false)(hJ:JL (aH M ρ Try.prog) x (G ((base 36).at ⟨#[.pointer (some ⟨b,0,none⟩),undef,.pointer (some ⟨b,0,none⟩),.bool false,.bool false,.pointer (some ⟨b,0,none⟩),.pointer (some ⟨b,0,none⟩),.pointer (some ⟨b,1,none⟩),.bool true,.bool false,.bool false,undef,undef,undef,undef,undef,undef,undef,undef,undef,undef,undef,undef,undef,undef,undef,undef,undef,undef,undef],[]⟩ [.code (.seq MX LV)]) (c :: cs)) W) :
    JW (SW M ρ Try.prog).base x (G (Frame.enter Try.prog 36 #[.pointer (some ⟨b,0,none⟩)] .normal) (c :: cs)) W:=by
  have c1:W.cell? ⟨b,1,none⟩=some (.bool true):=by unfold Fq at h;simp [World.cell?,h]
  have ht:#[.pointer (some ⟨b,0,none⟩)] ++ Array.replicate (Try.f36.ntmps - #[Value.pointer (some ⟨b,0,none⟩)].size) undef=#[.pointer (some ⟨b,0,none⟩),undef,undef,undef,undef,undef,undef,undef,undef,undef,undef,undef,undef,undef,undef,undef,undef,undef,undef,undef,undef,undef,undef,undef,undef,undef,undef,undef,undef,undef]:=by
    have:Try.f36.ntmps=30:=by kernel_rfl
    rw [this];walk_nrm
  rw [enter_at _ Try.func36 dW,ht];show JL (aH M ρ Try.prog) x _ W;refine Ei ?_;simp only [aU,Try.f36];refine Ei ?_;refine EH fun _ hkk=>?_
  (refine Eo ?_;walk_nrm)
  refine JL.value (.bool false) rfl rfl nE (fun _ _=>by go_simp) (fun w _ e he=>by simp [go_sem] at he;rw [PD _ _ _ _ zKR] at he;simp at he) ?_
  walk_nrm;iterate 4 (refine Eo ?_;walk_nrm)
  refine SW.load (.bool true) rfl rfl nE (fun w hs=>by
    have c2:=(Mt hs (a:=⟨b,1,none⟩) hB).trans c1;go_simp) (fun w hs e he=>by
    have c2:=(Mt hs (a:=⟨b,1,none⟩) hB).trans c1;simp [go_sem,c2] at he;subst he;exact Rb hB c2) ?_
  walk_nrm;iterate 2 (refine Eo ?_;walk_nrm)
  refine EB ?_;cases hkk;refine JL.Ey rfl ?_;refine Er stepG_skip ?_;exact hJ
def lH (b:Nat)(gr:Bool):Array Value:=#[.pointer (some ⟨b,0,none⟩),undef,.pointer (some ⟨b,0,none⟩),.bool false,.bool false,.pointer (some ⟨b,0,none⟩),.pointer (some ⟨b,0,none⟩),.pointer (some ⟨b,1,none⟩),.bool true,.bool false,.bool false,.pointer (some ⟨b,0,none⟩),.pointer (some ⟨b,0,none⟩),.pointer (some ⟨b,5,none⟩),.bool gr,.bool (!gr),undef,undef,undef,undef,undef,undef,undef,undef,undef,undef,undef,undef,undef,undef]
def VN:Code:=match MX with | .seq _ (.cond _ c _)=>c | _=>.skip
theorem UH {x:Wx X Sg ρ}{b k t co go:Nat}{gr:Bool}{st bg ow:Int}{ans:Value}{dn fl:Bool}(h:Fq W b k t co go gr st bg ow ans dn fl)(hB:x.1.1.B b=false)(hJ:JL (aH M ρ Try.prog) x (G ((base 36).at ⟨lH b gr,[]⟩ [.code (if gr then .skip else VN),.code LV]) (c :: cs)) W) :
    JW (SW M ρ Try.prog).base x (G (Frame.enter Try.prog 36 #[.pointer (some ⟨b,0,none⟩)] .normal) (c :: cs)) W:=by
  refine bn h hB ?_;have c5:W.cell? ⟨b,5,none⟩=some (.bool gr):=by unfold Fq at h;simp [World.cell?,h]
  refine Ei ?_;have e:∃ r,MX=.seq r (.cond (.tmp 15) VN .skip)/\r=(match MX with | .seq r _=>r | _=>.skip):=⟨_,rfl,rfl⟩
  obtain ⟨r,e,er⟩:=e;rw [e];subst er;simp only [MX,Try.f36];refine Ei ?_;refine EH fun _ hkk=>?_;iterate 3 (refine Eo ?_;walk_nrm)
  refine SW.load (.bool gr) rfl rfl nE (fun w hs=>by
    have c2:=(Mt hs (a:=⟨b,5,none⟩) hB).trans c5;go_simp) (fun w hs e he=>by
    have c2:=(Mt hs (a:=⟨b,5,none⟩) hB).trans c5;simp [go_sem,c2] at he;subst he;exact Rb hB c2) ?_
  walk_nrm
  (refine Eo ?_;walk_nrm)
  refine EB ?_;cases hkk;cases gr with
  | true=>exact JL.Ey rfl hJ
  | false=>exact JL.Fz rfl hJ
theorem aY:∀ f∈[36],Lets Try.prog f:=by intro f hf;simp only [List.mem_singleton] at hf;subst hf;exact ⟨by kernel_rfl,.inr (.inr (by decide))⟩
theorem gG {W:World}{b k t co go:Nat}{gr:Bool}{st bg ow:Int}{ans:Value}{dn fl:Bool}{v1 v2 v3 v4 v5 v6 v7 v8 v9 Aa Ab Ac Ae Af Ah Ai Aj Ak Al:Value}(h:Fq W b k t co go gr st bg ow ans dn fl){Q:Exit->Act->World->Prop}(hQ:∀ tm W',Fq W' b k t co go false st bg (RowKit.wrap64 (ow+1)) ans dn fl->(∀ b',b'≠b->W'.heap[b']?=W.heap[b']?)->W'.heap.size=W.heap.size->Q .normal ⟨tm,[]⟩ W') :
    LV.wpIn (Fence.list [36] none) 0 Try.prog Q ⟨#[.pointer (some ⟨b,0,none⟩),v1,v2,v3,v4,v5,v6,v7,v8,v9,Aa,Ab,Ac,Ae,Af,Ah,Ai,Aj,Ak,Al,undef,undef,undef,undef,undef,undef,undef,undef,undef,undef],[]⟩ W:=by
  have f5:W.frozen? ⟨b,5,none⟩=false:=h.frozen;have f8:W.frozen? ⟨b,8,none⟩=false:=h.frozen;unfold Fq at h;simp only [LV,Try.f36];have c5:W.cell? ⟨b,5,none⟩=some (.bool gr):=by simp [World.cell?,h]
  have c8:W.cell? ⟨b,8,none⟩=some (.int .i64 ow):=by simp [World.cell?,h]
  gi_wp2;refine hQ _ _ ?_ ?_ ?_
  . simp [Fq,World.setCell,Array.getElem?_modify,h]
  . intro b' hb;simp [World.setCell,Array.getElem?_modify,hb.symm]
  . simp [World.setCell]
structure Ht (b:Nat)(W W':World):Prop where
  other:∀ b',b'≠b->W'.heap[b']?=W.heap[b']?
  size:W'.heap.size=W.heap.size
theorem step_end {x:Wx X Sg ρ}{b k t co go:Nat}{gr:Bool}{st bg ow:Int}{ans:Value}{dn fl:Bool}{v1 v2 v3 v4 v5 v6 v7 v8 v9 Aa Ab Ac Ae Af Ah Ai Aj Ak Al:Value}(h:Fq W b k t co go gr st bg ow ans dn fl)(hJ:∀ W',Fq W' b k t co go false st bg (RowKit.wrap64 (ow+1)) ans dn fl->Ht b W W'->JW (SW M ρ Try.prog).base x (G (c.finish (.tuple #[])) cs) W') :
    JL (aH M ρ Try.prog) x (G ((base 36).at ⟨#[.pointer (some ⟨b,0,none⟩),v1,v2,v3,v4,v5,v6,v7,v8,v9,Aa,Ab,Ac,Ae,Af,Ah,Ai,Aj,Ak,Al,undef,undef,undef,undef,undef,undef,undef,undef,undef,undef],[]⟩ [.code LV]) (c :: cs)) W:=by
  refine Runs.lone (S:=SW M ρ Try.prog) aY (c:=LV) zKR (Q:=fun e a γ W₂=>e=.normal/\a.defers=[]/\γ=x/\∃ W',LT.Alike W' W₂/\Fq W' b k t co go false st bg (RowKit.wrap64 (ow+1)) ans dn fl/\Ht b W W') (a:=⟨_,[]⟩) (fun W₁ ha=>?_) 36 .normal [] (c :: cs) (by simp) (by simp) fun e a' γ' W' q=>?_
  . refine gG (h.alike ha) fun tm W' h1 h2 h3=>⟨rfl,rfl,rfl,W',.refl _,h1,⟨fun b' hb'=>?_,?_⟩⟩
    . obtain ⟨τ,d,rfl⟩:=ha;exact h2 b' hb'
    . obtain ⟨τ,d,rfl⟩:=ha;exact h3
  . obtain ⟨rfl,h2,rfl,W₂,ha,h3,h4⟩:=q;show JL (aH M ρ Try.prog) γ' (G ((base 36).at ⟨a'.tmps,a'.defers⟩ []) (c :: cs)) W';rw [h2];refine Er stepG_end ?_;refine JL.Xf rfl rfl Try.func36 rfl ?_;exact JW.tape (hJ W₂ h3 h4) ha
theorem YV {x:Wx X Sg ρ}{b k t co go:Nat}{st bg ow:Int}{ans:Value}{dn fl:Bool}(h:Fq W b k t co go true st bg ow ans dn fl)(hB:x.1.1.B b=false)(hJ:∀ W',Fq W' b k t co go false st bg (RowKit.wrap64 (ow+1)) ans dn fl->Ht b W W'->JW (SW M ρ Try.prog).base x (G (c.finish (.tuple #[])) cs) W') :
    JW (SW M ρ Try.prog).base x (G (Frame.enter Try.prog 36 #[.pointer (some ⟨b,0,none⟩)] .normal) (c :: cs)) W:=by
  refine UH h hB ?_;simp only [if_true];refine Er stepG_skip ?_;exact step_end h hJ
theorem JL.enter {P:Program}{main:Bool}{Γ:Type}{S:Ou P main Γ}{γ:Γ}{b:Frame}{a:Act}{k:List Item}{ops:Array Oper}{i:Nat}{rest:List Nat}{o:Oper}{f:FuncId}{fn:Func}{args:Array Operand}{ats:Array TypeId}(ho:ops[i]?=some o)(hw:Region.wanted o (yielded ops a.tmps)=true)(hk:b.kind≠.early)(hop:o.op=.call { callee:=.value (.func f),args,argTypes:=ats })(hf : P.funcs[f]? = some fn)(hname : (fn.name == "runtime.NumGoroutine") = false)(hb : fn.body.isNone = false)(h:JL S γ (G (Frame.enter P f (args.map a.eval) .normal) (b.at a (.inRegion ops (i :: rest) :: k) :: cs)) W) :
    JL S γ (G (b.at a (.inRegion ops (i :: rest) :: k)) cs) W:=
  .ctl rfl (fun w=>by
    rw [stepG_enter ho hw hk (run_call_body hop hf hname hb)];have:listed P b.fn a o w=#[]:=by unfold listed;rw [events_call_body hop hf hname hb];exact seen_none P _
    rw [this]) h
theorem PX {b t go t':Nat}(h:Ve ρ Try.prog 120 c cs):Xq ρ Try.prog t' (G ((base 60).at ⟨UJ b t go,[]⟩ [.inRegion Ol [0,1,2,3],.code LG]) (c :: cs)):=by
  unfold Xq;rw [Gc];have hc:commResult (Gb ρ t') .select ((1:Nat):Int) ρ.zg false=.tuple #[.int .i64 1,.bool false,ρ.zi,ρ.zg]:=by simp [commResult,Gb,rcase,goInt]
  rw [hc];simp only [Ol,Jv,LG,UJ,Try.f60];walk_nrm;refine SA.of fun W=>?_;iterate 3 (refine Eo ?_;walk_nrm)
  refine Er stepG_region_end ?_;refine Er stepG_block ?_;refine JL.Ey rfl ?_;refine JL.Fz rfl ?_;refine EH fun _ hkk=>?_;refine JL.Ii (.agg #[]) rfl rfl nE (fun _=>by kernel_rfl) ?_;walk_nrm;refine JL.Ii (.iface 120 (.agg #[])) rfl rfl nE (fun _=>by kernel_rfl) ?_;walk_nrm;refine SA.to ?_;obtain ⟨m,hm⟩:=(Ve.pop Try.func60 h) [⟨.iface 120 (.agg #[]),false,false⟩] ⟨[],by simp,rfl⟩
  refine ⟨m+1,hm.ctl rfl fun w _=>?_⟩;rw [OJ (v:=.iface 120 (.agg #[])) rfl rfl nE zKR,listed_none zKR]
theorem YL {x:Wx X Sg ρ}{st bg ow:Int}{ans:Value}{dn fl:Bool}{own:Nat->Prop}{pb:Nat}(hzi:ρ.zi=.int .i64 0)(hzg:ρ.zg=.agg #[])(h:Fq W x.1.1.v.b x.1.1.v.k x.1.1.v.t ρ.come ρ.gone false st bg ow ans dn fl)(hInv:M.Inv x.1.1.tgt.2.1 W)(YO:∀ b,M.Sh b->x.1.1.B b=false)(aN:M.Rec x.1.1.v.k x.1.1.tgt.1 x.1.1.v.b own W)(hpb:own pb)(ho1:∀ b,x.1.1.v.own b->own b)(ho2:∀ b,own b->x.1.1.v.own b\/x.1.1.n0<=b)(ho3:∀ b,own b->x.1.1.B b=false/\¬ M.Sh b/\∃ c e f,W.heap[b]?=some (.cells c e f))(hb:x.1.1.v.own x.1.1.v.b)(hov:x.1.1.tgt.2.2=false)(hlv:ρ.shut->Ve ρ Try.prog 120 c cs)(hpc:W.cell? ⟨pb,0,none⟩=some (.pointer (some ⟨x.1.1.v.b,0,none⟩)))(hJ:∀ r',x.1.2=r'+1->∀ v',Xp x.1.1.v v' x.1.1.tgt.1 false x.1.2 own pb->∀ (s:Nat) (σ:Sg) (W':World) (y:Wx X Sg ρ),y.1.1.v=v'->y.1.1.tgt=M.hold x.1.1.tgt.1 s σ->y.1.2=r'->aO M ρ v' y.1.1.B y.1.1.n0->y.1.1.n0=W'.heap.size->lJ M own W W'->M.Inv σ W'->
      ∀ W'',Fq W'' x.1.1.v.b x.1.1.v.k x.1.1.v.t ρ.come ρ.gone false s bg (RowKit.wrap64 (ow+1)) ans dn fl->Ht x.1.1.v.b W' W''->JW (SW M ρ Try.prog).base y (G (c.finish (.tuple #[])) cs) W'') :
    JW (SW M ρ Try.prog).base x (G (Frame.enter Try.prog 36 #[.pointer (some ⟨x.1.1.v.b,0,none⟩)] .normal) (c :: cs)) W:=by
  refine UH h (ho3 _ (ho1 _ hb)).1 ?_;simp only [Bool.false_eq_true,if_false];generalize hend:[Item.code LV]=KE;simp only [VN,MX,lH,Try.f36];refine Ei ?_;refine JL.region (l:=[0,1]) rfl fun _ hk2=>?_;cases hk2
  (refine Eo ?_;walk_nrm)
  refine JL.enter rfl rfl nE rfl Try.func59 zKR zKR ?_;walk_nrm;refine PZ h fun W₁ ha=>Qf ?_;obtain ⟨τ,d,rfl⟩:=ha;have hsel:∀ (c:Frame) (cs:List Frame) (w:World),stepG Try.prog false (G ((base 59).at ⟨Mj x.1.1.v.b x.1.1.v.k ρ.come ρ.gone,[]⟩ [.inRegion JN [0,1,2,3],.code Kr]) (c :: cs)) w =
      .comm (G ((base 59).at ⟨Mj x.1.1.v.b x.1.1.v.k ρ.come ρ.gone,[]⟩ [.inRegion JN [0,1,2,3],.code Kr]) (c :: cs)) (He ρ x.1.1.v.k) true .select w #[]:=fun c cs w=>by
    rw [Xu];simp only [He,hzi,hzg]
  have hcell:∀ o v,W.cell? ⟨x.1.1.v.b,o,none⟩=some v->(sh W τ d).cell? ⟨x.1.1.v.b,o,none⟩=some v:=fun _ _ h=>h;have h':=h;unfold Fq at h';have hbody:Try.f60.body=some (.seq SC Jv):=PK;generalize hr3:(Item.code (Code.region _ _ false))=R3;refine SW.sit (own:=own) (pb:=pb) rfl (hsel _ _) (M.inv_eq _ _ _ (fun b _=>.refl W b) hInv) YO (M.rec_eq _ _ _ _ _ _ (fun b _=>.refl W b) aN) hpb ho1 ho2 ho3 hb (fun e=>by rw [hov] at e;cases e) fun _=>⟨⟨hcell _ _ (by simp [World.cell?,h']),hcell _ _ (by simp [World.cell?,h']),hpc⟩,?_⟩
  have htw:#[.pointer (some ⟨x.1.1.v.b,0,none⟩)] ++ Array.replicate (Try.f60.ntmps - #[Value.pointer (some ⟨x.1.1.v.b,0,none⟩)].size) undef=#[.pointer (some ⟨x.1.1.v.b,0,none⟩),undef,undef,undef,undef,undef,undef,undef,undef,undef,undef,undef,undef,undef,undef,undef,undef,undef,undef,undef,undef,undef,undef]:=by
    have:Try.f60.ntmps=23:=by kernel_rfl
    rw [this];walk_nrm
  refine ⟨?gs,fun v' hs home hh=>Pg fun W₃=>?sit,fun hsh=>?shut,?hold⟩
  case sit=>
    unfold He;refine OO ?_;rw [Frame.finish_at];walk_nrm;refine Er stepG_region_end ?_;rw [← hr3];refine JL.region (l:=[0,1]) rfl fun _ hk3=>?_;cases hk3
    (refine Eo ?_;walk_nrm)
    refine JL.call rfl rfl nE rfl Try.func60 zKR PK ?_;rw [List.map_toArray];simp only [List.map_cons,List.map_nil,Act.eval,Array.getD_eq_getD_getElem?,List.getElem?_toArray,List.getElem?_cons_succ,List.getElem?_cons_zero,Option.getD_some];rw [htw,← hs.t,← hs.b];refine Ur hzi hzg ?_;rw [hs.t,hs.b];exact hh
  case shut=>exact PX (Ve.pop Try.func36 (hlv hsh))
  case hold=>
    intro r' hr v' hs s σ W' y e1 e2 e3 MN hn0 hH hI;have h2:Fq W' x.1.1.v.b x.1.1.v.k x.1.1.v.t ρ.come ρ.gone false st bg ow ans dn fl:=by unfold Fq;rw [hH.own _ (ho1 _ hb)];exact h
    refine RQ h2 fun W'' h3 h4 h5=>?_;rw [Frame.finish_at];show JL (aH M ρ Try.prog) y _ W'';walk_nrm;refine Er stepG_region_end ?_;rw [← hend];exact step_end h3 fun W3 h6 h7=>hJ r' hr v' hs s σ W' y e1 e2 e3 MN hn0 ⟨hH.own,hH.size⟩ hI W3 h6 ⟨fun b' hb'=>(h7.other b' hb').trans (h4 b' hb'),h7.size.trans h5⟩
end
end
section
theorem KA {n:Nat}(h:n < 2 ^ 62):RowKit.wrap64 ((n:Int)+1)=((n+1:Nat):Int):=by unfold RowKit.wrap64;omega
def E9 (a:Gq)(iv:Value):List Value:=[.int .i64 a.bg,.int .i64 a.st,.int .i64 a.ow,.bool a.a.ok,.int .i64 a.a.n,.int .i64 a.a.m,.int .i64 a.a.err,iv,.slice none 0 0]
def FR (w:World)(own:Nat->Prop)(iv:Value)(l:List Int):Prop:=
  (l=[]/\iv=.slice none 0 0)\/(l≠[]/\∃ g c,iv=.slice (some ⟨g,0,none⟩) l.length c/\own g/\l.length<=c/\c<=maxLen/\∀ (i:Nat) (u:Int),l[i]?=some u->w.cell? ⟨g,i,none⟩=some (.int .i64 u))
structure Ko (w:World)(own:Nat->Prop)(ans:Value)(out:List Gq):Prop where
  ex:∃ I4:List Value,I4.length=out.length/\BA.Fa w 0 9 ans out.length (List.zipWith E9 out I4).flatten/\∀ (i:Nat) (a:Gq) (iv:Value),out[i]?=some a->I4[i]?=some iv->FR w (fun g=>own g/\ans.ownBlock≠some g) iv a.a.ints
  blk:∀ g,ans.ownBlock=some g->own g
theorem IK {w w':World}{base size n:Nat}{v:Value}{xs:List Value}(h:BA.Fa w base size v n xs)(he:∀ g,v.ownBlock=some g->K3 w w' g):BA.Fa w' base size v n xs:=by
  obtain ⟨te,h1,h2⟩:=h;refine ⟨te,h1,?_⟩;rcases h2 with h2|⟨g,cap,cur,rfl,hb,hg,hr⟩
  . exact .inl h2
  . exact .inr ⟨g,cap,cur,rfl,hb,(he g rfl).cells hg,hr⟩
theorem bY {w w':World}{a:Addr}{v:Value}(h:w.cell? a=some v)(he:K3 w w' a.block):w'.cell? a=some v:=by
  cases ho:w.heap[a.block]? with
  | none=>simp [World.cell?,ho] at h
  | some o=>
    cases o with
    | cells c e f=>
      have:=he.cells ho;simp only [World.cell?,ho] at h;simp only [World.cell?,this];exact h
    | _=>simp [World.cell?,ho] at h
theorem FR.QD {w w':World}{own:Nat->Prop}{iv:Value}{l:List Int}(h:FR w own iv l)(he:∀ g,own g->K3 w w' g):FR w' own iv l:=by
  rcases h with h|⟨h0,g,c,h1,h2,h3,h4,h5⟩
  . exact .inl h
  . exact .inr ⟨h0,g,c,h1,h2,h3,h4,fun i u hu=>bY (h5 i u hu) (he g h2)⟩
theorem FR.mono {w:World}{own own':Nat->Prop}{iv:Value}{l:List Int}(h:FR w own iv l)(he:∀ g,own g->own' g):FR w own' iv l:=by
  rcases h with h|⟨h0,g,c,h1,h2,h3⟩
  . exact .inl h
  . exact .inr ⟨h0,g,c,h1,he g h2,h3⟩
theorem Ko.QD {w w':World}{own:Nat->Prop}{ans:Value}{out:List Gq}(h:Ko w own ans out)(he:∀ g,own g->K3 w w' g):Ko w' own ans out:=by obtain ⟨⟨I4,h1,h2,h3⟩,h4⟩:=h;exact ⟨⟨I4,h1,IK h2 fun g hg=>he g (h4 g hg),fun i a iv h5 h6=>(h3 i a iv h5 h6).QD fun g hg=>he g hg.1⟩,h4⟩
theorem Ko.mono {w:World}{own own':Nat->Prop}{ans:Value}{out:List Gq}(h:Ko w own ans out)(he:∀ g,own g->own' g):Ko w own' ans out:=by obtain ⟨⟨I4,h1,h2,h3⟩,h4⟩:=h;exact ⟨⟨I4,h1,h2,fun i a iv h5 h6=>(h3 i a iv h5 h6).mono fun g hg=>⟨he g hg.1,hg.2⟩⟩,fun g hg=>he g (h4 g hg)⟩
section
variable {Cl Cs Sg:Type}
def qH (k:Nat)(x:Wk Cl Cs)(b:Nat)(own:Nat->Prop)(w:World):Prop:=
  x.k=k/\own b/\∃ t co go gr ans,Fq w b k t co go gr x.st x.bg x.ow ans x.over x.fell/\Ko w (fun g=>own g/\g≠b) ans x.out
def Eu (D:Dr Cl Cs Sg)(m:Mem Sg):Md (Wk Cl Cs) Sg where
  hold:=D.hold
  Sh:=m.Sh
  Inv:=m.Inv
  Rec:=qH
  Qc:=m.rows
  inv_eq:=m.eq
  rec_eq:=fun k x b o w w' he ⟨h1,h2,t,co,go,gr,ans,h3,h4⟩=>⟨h1,h2,t,co,go,gr,ans,(he b h2).cells h3,h4.QD fun g hg=>he g hg.1⟩
structure FI (Cl Cs Sg:Type)(ρ:Rn) where
  x:Wx (Wk Cl Cs) Sg ρ
  own:Nat->Prop
  core:Nat->Prop
  pb:Nat
  z:Wk Cl Cs
  gr:Bool
  ans:Value
variable {ρ:Rn}(D:Dr Cl Cs Sg)(m:Mem Sg)(b k:Nat)
structure Jt (s:FI Cl Cs Sg ρ)(σ:Sg)(W:World):Prop where
  zi:ρ.zi=.int .i64 0
  zg:ρ.zg=.agg #[]
  vb:s.x.1.1.v.b=b
  vk:s.x.1.1.v.k=k
  row:Fq W b k s.x.1.1.v.t ρ.come ρ.gone s.gr s.z.st s.z.bg s.z.ow s.ans false false
  zk:s.z.k=k
  zo:s.z.over=false
  zf:s.z.fell=false
  am:Ko W (fun g=>s.core g/\g≠b/\g≠s.pb) s.ans s.z.out
  inv:m.Inv σ W
  sh:∀ b,m.Sh b->s.x.1.1.B b=false
  low:∀ b,s.x.1.1.B b=true->b < s.x.1.1.n0
  size:s.x.1.1.n0<=W.heap.size
  Wo:∀ b,s.x.1.1.v.own b->b < s.x.1.1.n0
  cb:s.core b
  Pb:s.core s.pb
  co:∀ b,s.core b->s.own b
  o1:∀ b,s.x.1.1.v.own b->s.own b
  o2:∀ b,s.own b->s.x.1.1.v.own b\/s.x.1.1.n0<=b
  o3:∀ b,s.own b->s.x.1.1.B b=false/\¬ m.Sh b/\∃ c e f,W.heap[b]?=some (.cells c e f)
  Ld:s.x.1.1.v.own b
  TM:s.pb≠b
  pc:W.cell? ⟨s.pb,0,none⟩=some (.pointer (some ⟨b,0,none⟩))
  cap:s.z.ow+s.x.1.2+s.gr.toNat < 2 ^ 62
structure zw (s s':FI Cl Cs Sg ρ):Prop where
  pb:s'.pb=s.pb
  ans:s'.ans=s.ans
  core:s'.core=s.core
  own:∀ b,s.own b->s'.own b
  h:s'.x.1.1.v.h=s.x.1.1.v.h
  t:s'.x.1.1.v.t=s.x.1.1.v.t
  r:s'.x.1.2<=s.x.1.2
  zk:s'.z.k=s.z.k
  todo:s'.z.todo=s.z.todo
  bg:s'.z.bg=s.z.bg
  out:s'.z.out=s.z.out
def FI.up (s:FI Cl Cs Sg ρ):Wk Cl Cs:=if s.gr then { s.z with ow:=s.z.ow+1 } else s.z
def RD (s:FI Cl Cs Sg ρ)(σ:Sg)(cs:Cs):Prop:=s.x.1.1.tgt=if s.gr then s.up.land (D.next k cs σ) else s.z.land (σ,.inl cs)
variable {D m b k}
theorem Jt.turn {x:Wx (Wk Cl Cs) Sg ρ}{own core:Nat->Prop}{pb:Nat}{z z':Wk Cl Cs}{gr zx:Bool}{ans:Value}{σ:Sg}{W W':World}(hA:Jt m b k ⟨x,own,core,pb,z,gr,ans⟩ σ W)(hr:Fq W' b k x.1.1.v.t ρ.come ρ.gone zx z'.st z'.bg z'.ow ans false false)(ht:Ht b W W')(h1:z'.k=z.k)(h2:z'.over=z.over)(h3:z'.fell=z.fell)(h4:z'.out=z.out)(h5:z'.ow+x.1.2+zx.toNat < 2 ^ 62):Jt m b k ⟨x,own,core,pb,z',zx,ans⟩ σ W':=by
  have hrow:∀ g:Nat,(∃ c e f,W.heap[g]?=some (Obj.cells c e f))->∃ c e f,W'.heap[g]?=some (Obj.cells c e f):=fun g hg=>by
    by_cases e:g=b
    . rw [e];exact ⟨_,_,_,hr⟩
    . rw [ht.other g e];exact hg
  exact {
          zi:=hA.zi,zg:=hA.zg,vb:=hA.vb,vk:=hA.vk,row:=hr,zk:=h1.trans hA.zk,zo:=h2.trans hA.zo,zf:=h3.trans hA.zf
          am:=by show Ko W' _ ans z'.out;rw [h4];exact hA.am.QD fun g hg=>.of (ht.other g hg.2.1)
          inv:=m.eq σ W W' (fun g hg=>.of (ht.other g fun e=>(hA.o3 b (hA.co b hA.cb)).2.1 (e ▸ hg))) hA.inv
          sh:=hA.sh,low:=hA.low,size:=Nat.le_trans hA.size (Nat.le_of_eq ht.size.symm),Wo:=hA.Wo,cb:=hA.cb,Pb:=hA.Pb,co:=hA.co,o1:=hA.o1,o2:=hA.o2
          o3:=fun g hg=>⟨(hA.o3 g hg).1,(hA.o3 g hg).2.1,hrow g (hA.o3 g hg).2.2⟩
          Ld:=hA.Ld,TM:=hA.TM,pc:=by rw [cell_of (ht.other pb hA.TM)];exact hA.pc
          cap:=h5 }
theorem vT {s:FI Cl Cs Sg ρ}{σ:Sg}{W:World}{cs:Cs}{c:Frame}{fs:List Frame}(hA:Jt m b k s σ W)(hS:RD D k s σ cs)(hL:ρ.shut->Ve ρ Try.prog 120 c fs)(hJ:∀ s' σ' W',Jt m b k s' σ' W'->zw s s'->s'.own=s.own->(∀ g,s.own g/\g≠b->W'.heap[g]?=W.heap[g]?)->W.heap.size<=W'.heap.size->2 * s'.x.1.2+(if s'.gr then 1 else 0) < 2 * s.x.1.2+(if s.gr then 1 else 0)->(s'.gr=false/\s'.x.1.1.tgt=s'.z.land (D.next k cs σ'))->
      JW (SW (Eu D m) ρ Try.prog).base s'.x (G (c.finish (.tuple #[])) fs) W') :
    JW (SW (Eu D m) ρ Try.prog).base s.x (G (Frame.enter Try.prog 36 #[.pointer (some ⟨b,0,none⟩)] .normal) (c :: fs)) W:=by
  obtain ⟨x,own,core,pb,z,gr,ans⟩:=s;have hcap:=hA.cap;have hr:=hA.row;have hbB:x.1.1.B b=false:=(hA.o3 b (hA.co b hA.cb)).1;simp only at hcap hr;cases gr with
  | true=>
    simp only [RD,if_true,FI.up] at hS;refine YV hr hbB fun W' h1 h2=>?_;have e1:=KA (n:=z.ow) zOM;rw [e1] at h1;refine hJ ⟨x,own,core,pb,{ z with ow:=z.ow+1 },false,ans⟩ σ W' ?_ ⟨rfl,rfl,rfl,fun _ h=>h,rfl,rfl,Nat.le_refl _,rfl,rfl,rfl,rfl⟩ rfl (fun g hg=>h2.other g hg.2) (Nat.le_of_eq h2.size.symm) (by simp) ⟨rfl,hS⟩;exact hA.turn h1 h2 rfl rfl rfl rfl (by simp at hcap ⊢;omega)
  | false=>
    simp only [RD,Bool.false_eq_true,if_false,Wk.Ml] at hS;obtain rfl:x.1.1.v.b=b:=hA.vb;obtain rfl:x.1.1.v.k=k:=hA.vk;have hrec:qH x.1.1.v.k ({ z with cur:=some cs }:Wk Cl Cs) x.1.1.v.b own W:=⟨hA.zk,hA.co _ hA.cb,_,_,_,_,_,by have e1:=hA.zo;have e2:=hA.zf;simp only at e1 e2;simp only [e1,e2];exact hr,hA.am.mono fun g hg=>⟨hA.co g hg.1,hg.2.1⟩⟩
    refine YL (M:=Eu D m) (x:=x) (own:=own) (pb:=pb) hA.zi hA.zg hr (by rw [hS];exact hA.inv) hA.sh (by rw [hS];exact hrec) (hA.co _ hA.Pb) hA.o1 hA.o2 hA.o3 hA.Ld (by rw [hS]) hL hA.pc ?_;intro r' hx v' hs s σ' W' y e1 e2 e3 MN hn0 hH hI W'' h6 h7;have e5:=KA (n:=z.ow) zOM;rw [e5] at h6;rw [hS] at e2;have hso:v'.own=own:=hs.own;have hA':Jt m x.1.1.v.b x.1.1.v.k ⟨y,own,core,pb,{ z with st:=s,ow:=z.ow+1 },false,ans⟩ σ' W'':=by
      have hoth:∀ g,own g->g≠x.1.1.v.b->W''.heap[g]?=W.heap[g]?:=fun g hg hne=>(h7.other g hne).trans (hH.own g hg);exact {
              zi:=hA.zi,zg:=hA.zg,vb:=by show y.1.1.v.b=_;rw [e1,hs.b],vk:=by show y.1.1.v.k=_;rw [e1,hs.k]
              row:=by show Fq W'' _ _ y.1.1.v.t _ _ _ _ _ _ _ _ _;rw [e1,hs.t];exact h6
              zk:=hA.zk,zo:=hA.zo,zf:=hA.zf
              am:=hA.am.QD fun g hg=>.of (hoth g (hA.co g hg.1) hg.2.1)
              inv:=m.eq σ' W' W'' (fun g hg=>.of (h7.other g fun e=>(hA.o3 _ (hA.co _ hA.cb)).2.1 (e ▸ hg))) hI
              sh:=fun g hg=>MN.sh g hg,low:=fun g hg=>MN.low g hg
              size:=by show y.1.1.n0<=_;rw [hn0,h7.size];exact Nat.le_refl _
              Wo:=fun g hg=>by
                show g < y.1.1.n0;have hg':own g:=by rw [← hso,← e1];exact hg
                obtain ⟨_,_,c,e,f,hc⟩:=hA.o3 g hg';have:=(zGE hc).1;have:=hH.size;rw [hn0];omega
              cb:=hA.cb,Pb:=hA.Pb,co:=hA.co
              o1:=fun g hg=>by rw [← hso,← e1];exact hg
              o2:=fun g hg=>.inl (by show y.1.1.v.own g;rw [e1,hso];exact hg)
              o3:=fun g hg=>⟨MN.own g (by rw [hso];exact hg),(hA.o3 g hg).2.1,by
                by_cases e:g=x.1.1.v.b
                . rw [e];exact ⟨_,_,_,h6⟩
                . rw [hoth g hg e];exact (hA.o3 g hg).2.2⟩
              Ld:=by show y.1.1.v.own _;rw [e1,hso];exact hA.co _ hA.cb
              TM:=hA.TM
              pc:=by rw [cell_of (hoth pb (hA.co _ hA.Pb) hA.TM)];exact hA.pc
              cap:=by simp at hcap ⊢;omega }
    refine hJ ⟨y,own,core,pb,{ z with st:=s,ow:=z.ow+1 },false,ans⟩ σ' W'' hA' ⟨rfl,rfl,rfl,fun _ h=>h,by show y.1.1.v.h=_;rw [e1,hs.h],by show y.1.1.v.t=_;rw [e1,hs.t],by show y.1.2<=x.1.2;omega,rfl,rfl,rfl,rfl⟩ rfl
      (fun g hg=>(h7.other g hg.2).trans (hH.own g hg.1)) (by rw [h7.size];exact hH.size) (by show 2 * y.1.2+0 < 2 * x.1.2+0;omega) ⟨rfl,?_⟩
    show y.1.1.tgt=_;rw [e2];show D.hold ({ z with cur:=some cs }:Wk Cl Cs) s σ'=_;rw [Dr.bF];have:=hA.zk;simp only at this;rw [this]
def J2 (D:Dr Cl Cs Sg)(m:Mem Sg)(ρ:Rn)(b k:Nat):Gn (SW (Eu D m) ρ Try.prog) D m 36 where
  St:=FI Cl Cs Sg ρ
  γ:=fun s=>s.x
  wv:=.pointer (some ⟨b,0,none⟩)
  num:=k
  At:=Jt m b k
  core:=fun s=>s.core
  own:=fun s=>s.own
  kept:=fun s g=>s.own g/\g≠b
  n0:=fun s=>s.x.1.1.n0
  fuel:=fun s=>2 * s.x.1.2+(if s.gr then 1 else 0)
  Le:=zw
  Rw:=fun s σ c=>s.gr=true/\s.x.1.1.tgt=match D.init k c σ with
    | .inl cs=>s.up.land (D.next k cs σ)
    | .inr e=>s.up.land (σ,.inr e)
  Step:=fun s σ cs=>RD D k s σ cs
  Zp:=fun s r=>s.gr=false/\s.x.1.1.tgt=s.z.land r
  End:=fun s σ e=>s.x.1.1.tgt=s.up.land (σ,.inr e)
  Leaves:=fun c fs=>ρ.shut->Ve ρ Try.prog 120 c fs
  add:=fun s N=>{ s with own:=fun g=>s.own g\/g=N }
  refl:=fun s=>⟨rfl,rfl,rfl,fun _ h=>h,rfl,rfl,Nat.le_refl _,rfl,rfl,rfl,rfl⟩
  trans:=fun s s' s'' h k=>⟨k.pb.trans h.pb,k.ans.trans h.ans,k.core.trans h.core,fun b hb=>k.own b (h.own b hb),k.h.trans h.h,k.t.trans h.t,Nat.le_trans k.r h.r,k.zk.trans h.zk,k.todo.trans h.todo,k.bg.trans h.bg,k.out.trans h.out⟩
  Sz:=fun {s σ c cs} ⟨h1,h2⟩ hi=>by rw [hi] at h2;unfold RD;rw [h1,if_pos rfl];exact h2
  ends:=fun {s σ c e} ⟨h1,h2⟩ hi=>by rw [hi] at h2;exact h2
  more:=fun {s σ cs} ⟨h1,h2⟩=>by unfold RD;rw [h1];exact h2
  done:=fun {s σ e} ⟨h1,h2⟩=>by unfold FI.up;rw [h1];exact h2
  inv:=fun h=>h.inv
  size:=fun h=>h.size
  row:=fun h hb=>(h.o3 _ hb).2
  MG:=fun h hb=>h.co _ hb
  IV:=fun h hb=>hb.1
  put:=fun {s σ W σ' W'} hA hI hc ho hs=>
    {
      zi:=hA.zi,zg:=hA.zg,vb:=hA.vb,vk:=hA.vk,row:=by have:=hA.row;unfold Fq at this ⊢;rw [hc b hA.cb];exact this
      zk:=hA.zk,zo:=hA.zo,zf:=hA.zf,am:=hA.am.QD fun g hg=>.of (hc g hg.1),inv:=hI,sh:=hA.sh,low:=hA.low,size:=Nat.le_trans hA.size hs,Wo:=hA.Wo
      cb:=hA.cb,Pb:=hA.Pb,co:=hA.co,o1:=hA.o1,o2:=hA.o2,o3:=fun g hg=>⟨(hA.o3 g hg).1,(hA.o3 g hg).2.1,ho g hg⟩,Ld:=hA.Ld,TM:=hA.TM
      pc:=by rw [cell_of (hc s.pb hA.Pb)];exact hA.pc,cap:=hA.cap }
  XQ:=fun {s σ W N} hA h1 h2 h3=>by
    have hNb:N≠b:=fun e=>by have:=hA.Wo b hA.Ld;have:s.x.1.1.n0<=N:=h1;omega
    refine ⟨{
              zi:=hA.zi,zg:=hA.zg,vb:=hA.vb,vk:=hA.vk,row:=hA.row,zk:=hA.zk,zo:=hA.zo,zf:=hA.zf,am:=hA.am,inv:=hA.inv,sh:=hA.sh,low:=hA.low,size:=hA.size,Wo:=hA.Wo
              cb:=hA.cb,Pb:=hA.Pb,co:=fun g hg=>.inl (hA.co g hg),o1:=fun g hg=>.inl (hA.o1 g hg),o2:=fun g hg=>hg.elim (hA.o2 g) fun e=>.inr (e ▸ h1)
              o3:=fun g hg=>hg.elim (hA.o3 g) fun e=>⟨by
                cases hB:s.x.1.1.B g with
                | false=>rfl
                | true=>
                  have:=hA.low g hB;have:s.x.1.1.n0<=N:=h1;omega,by rw [e];exact h2,by rw [e];exact h3⟩
              Ld:=hA.Ld,TM:=hA.TM,pc:=hA.pc,cap:=hA.cap },⟨rfl,rfl,rfl,fun _ h=>.inl h,rfl,rfl,Nat.le_refl _,rfl,rfl,rfl,rfl⟩,rfl,rfl,fun _=>.rfl,fun _=>.rfl,fun g=>⟨fun ⟨h,hb⟩=>h.elim (fun h=>.inl ⟨h,hb⟩) .inr,fun h=>h.elim (fun h=>⟨.inl h.1,h.2⟩) fun e=>⟨.inr e,e ▸ hNb⟩⟩⟩
  VA:=fun h=>h
  Tj:=fun h=>h
  WQ:=fun h=>h
  Wt:=fun h=>h
  pop:=fun hf h hs=>Ve.pop hf (h hs)
  step:=fun {s σ W cs c fs} hA hS hL hJ=>vT hA hS hL fun s' σ' W' a1 a2 a3 a4 a5 a6 a7=>hJ s' σ' W' a1 a2 a2.core a3 (by funext g;rw [a3]) a4 a5 a6 a7
end
end
end Go.Proofs.Yticecinjcajmcaa
namespace Go.Proofs.Yticecinjcajmcaa
open Go Go.Conc Go.LT Go.LC Go.LK Go.RowKit
open BA
def kM (W:World)(g o:Nat)(a:Gq)(ia:Option Addr)(il ic:Nat):Prop:=
  W.cell? ⟨g,o,none⟩=some (.int .i64 a.bg)/\W.cell? ⟨g,o+1,none⟩=some (.int .i64 a.st)/\W.cell? ⟨g,o+2,none⟩=some (.int .i64 a.ow)/\W.cell? ⟨g,o+3,none⟩=some (.bool a.a.ok)/\W.cell? ⟨g,o+4,none⟩=some (.int .i64 a.a.n)/\W.cell? ⟨g,o+5,none⟩=some (.int .i64 a.a.m)/\W.cell? ⟨g,o+6,none⟩=some (.int .i64 a.a.err)/\W.cell? ⟨g,o+7,none⟩=some (.slice ia il ic)/\W.cell? ⟨g,o+8,none⟩=some (.slice none 0 0)
def LW (aa:Option Addr)(outs:List (List Gq))(W:World):Prop:=
  ∀ (k:Nat) out,outs[k]?=some out->∃ b o sa sc,aa=some ⟨b,o,none⟩/\W.cell? ⟨b,o+k,none⟩=some (.slice sa out.length sc)/\∀ (i:Nat) a,out[i]?=some a->∃ g o' ia il ic,sa=some ⟨g,o',none⟩/\kM W g (o'+i * 9) a ia il ic
theorem LW.old {aa:Option Addr}{outs:List (List Gq)}{W W':World}(h:LW aa outs W)(hg:∀ g,g < W.heap.size->W'.heap[g]?=W.heap[g]?):LW aa outs W':=fun k out hk=>by
  have e:∀ {g o v},W.cell? ⟨g,o,none⟩=some v->W'.cell? ⟨g,o,none⟩=some v:=fun {g o v} hx=>by rw [← hx];simp only [World.cell?,hg g (EN hx)]
  obtain ⟨b,o,sa,sc,a1,a2,a3⟩:=h k out hk;refine ⟨b,o,sa,sc,a1,e a2,fun i a ha=>?_⟩;obtain ⟨g,o',ia,il,ic,b1,c0,c1,c2,c3,c4,c5,c6,c7,c8⟩:=a3 i a ha;exact ⟨g,o',ia,il,ic,b1,e c0,e c1,e c2,e c3,e c4,e c5,e c6,e c7,e c8⟩
theorem H7 (w:World)(a:Obj)(c:Array Value)(e:TypeId)(f:Nat × Nat)(j:Nat):((w.alloc a).alloc (.cells c e f)).cell? ⟨w.heap.size+1,j,none⟩=c[j]?:=by
  have:=I8 (w.alloc a) c e f j
  simpa using this
def Xd (w:World)(e:Ending)(w':World):Prop:=e=.returned (.bool true)/\Below w.heap.size w w'
theorem gI (h:FuncId){Fx:Nat->Prop}{wa ta ya aa:Option Addr}{plans:List (List Ef)}{turns hl:List Int}{outs:List (List Gq)}{w:World}(hC:FX Fx wa ta ya plans turns hl w)(hA:LW aa outs w)(wc tn tc yn yc ac:Nat)(u:Int)(oa:Option Addr)(on oc:Nat)(st:Int)(cut:Bool)(hlen:outs.length<=plans.length)(hpl:plans.length<=16)(hfit:∀ k,(outs.getD k []).length<=(plans.getD k []).length) :
    CallsIn (Fence.list [h,16,17] none) 0 Try.prog 16 #[.agg #[.slice wa plans.length wc,.slice ta tn tc,.slice ya yn yc,.int .i64 u],.agg #[.slice aa outs.length ac,.slice oa on oc,.int .i64 st,.bool cut]] w (Xd w):=by
  have HC:=Lib.hid (zAI hC (zAI hA hfit));clear hC hA hfit;gi_enter Try.func16,Try.ntmps16
  gi_wp2;generalize hW:World.alloc (World.alloc w _) _=W1;have c0:W1.cell? ⟨w.heap.size,0,none⟩=some (.slice wa plans.length wc):=by rw [← hW];exact Lib.cell?_alloc_some _ (I8 _ _ _ _ 0)
  have c1:W1.cell? ⟨w.heap.size+1,0,none⟩=some (.slice aa outs.length ac):=by rw [← hW];exact H7 _ _ _ _ _ 0
  have HD:RowKit.Hid (FX Fx wa ta ya plans turns hl W1/\LW aa outs W1/\Below w.heap.size w W1):=Lib.hid (by
    obtain ⟨hC,hA,_⟩:=HC.out;have o:∀ g,g < w.heap.size->W1.heap[g]?=w.heap[g]?:=fun g hg=>by rw [← hW,heap_alloc_old _ _ (by simp;omega),heap_alloc_old _ _ hg]
    exact ⟨hC.old o,hA.old o,by rw [← hW];exact ((Below.refl _ w).alloc (Nat.le_refl _) _).alloc (by simp) _⟩)
  clear hW;gi_loopw [5] (fun iv wr=>∃ k:Nat,k<=outs.length/\iv=.int .i64 k/\Below W1.heap.size W1 wr) (fun iv _=>outs.length - (intOf iv).toNat)
  case atStart=>exact ⟨0,Nat.zero_le _,rfl,Below.refl _ _⟩
  case round=>
    obtain ⟨k,hk,rfl,hB⟩:=hrel;have d0:=(hB.cell (p:=⟨w.heap.size,0,none⟩) (EN c0)).trans c0;have d1:=(hB.cell (p:=⟨w.heap.size+1,0,none⟩) (EN c1)).trans c1;by_cases hlt:k < outs.length
    . have hki:(k:Int) < (outs.length:Int):=by omega
      have hkp:k < plans.length:=by omega
      have uX:(k:Int) < (plans.length:Int):=by omega
      have hfit:=HC.out.2.2 k;obtain ⟨hC,hA,_⟩:=HD.out;obtain ⟨pl,hpk⟩:∃ pl,plans[k]?=some pl:=⟨_,List.getElem?_eq_getElem hkp⟩
      obtain ⟨out,hok⟩:∃ out,outs[k]?=some out:=⟨_,List.getElem?_eq_getElem hlt⟩
      rw [List.getD_eq_getElem?_getD,List.getD_eq_getElem?_getD,hpk,hok] at hfit;replace hfit:¬ ((pl.length:Int) < (out.length:Int)):=by have:out.length<=pl.length:=hfit;omega
      obtain ⟨b,o,ca,cc,rfl,_,_,p1,_⟩:=hC.work k pl hpk;obtain ⟨b2,o2,sa,sc,rfl,q1,_⟩:=hA k out hok;have e1:=(hB.cell (p:=⟨b,o+k,none⟩) (EN p1)).trans p1;have e2:=(hB.cell (p:=⟨b2,o2+k,none⟩) (EN q1)).trans q1;have g1:decide (plans.length<=k)=false:=by simp;omega
      have g2:decide (pl.length < out.length)=false:=by simp;omega
      have HB:=Lib.hid hB;clear hB hC hA hpk hok p1 q1 c0 c1;gi_wp2;gi_region
      gi_wp2;go_roundw
      case rel=>exact ⟨k+1,by omega,by go_num,HB.out.drew⟩
      case measure=>simp [intOf];omega
    . obtain rfl:k=outs.length:=by omega
      gi_wp2;go_ret
      exact ⟨rfl,HD.out.2.2.trans (hB.mono HD.out.2.2.size)⟩
theorem aD {pl:List Ef}{out:List Gq}{i:Nat}{c:Ef}{a:Gq}(hc:pl[i]?=some c)(ha:out[i]?=some a)(p:Int)(lo hi:Nat):cnt p lo hi pl (out.take (i+1))=cnt p lo hi pl (out.take i)+if hit p lo hi (c,a) then 1 else 0:=by
  have h1:i < pl.length:=(List.getElem?_eq_some_iff.1 hc).1;have h2:i < out.length:=(List.getElem?_eq_some_iff.1 ha).1;have e1:out.take (i+1)=out.take i ++ [a]:=by rw [List.take_add_one,ha];rfl
  have e2:pl=pl.take i ++ c :: pl.drop (i+1):=by
    have h3:pl[i]=c:=by rw [List.getElem?_eq_getElem h1] at hc;exact Option.some.inj hc
    rw [← h3,List.getElem_cons_drop,List.take_append_drop]
  have key:=Si (p:=p) (lo:=lo) (hi:=hi) (dn:=pl.take i) (td:=pl.drop (i+1)) (c:=c) (out:=out.take i) (a:=a) (by rw [List.length_take,List.length_take];omega);rw [← e2] at key;rw [e1];exact key
theorem Z0 {p:Int}{lo hi:Nat}(pl:List Ef)(out:List Gq):cnt p lo hi pl out<=pl.length:=by unfold cnt;refine Nat.le_trans List.countP_le_length ?_;rw [List.length_zip];omega
theorem dQ {plans:List (List Ef)}{outs:List (List Gq)}{k:Nat}{p:Int}{lo hi:Nat}(h64:∀ j,(plans.getD j []).length<=64):∀ n,OD plans outs k p lo hi n<=64 * n
  | 0=>Nat.le_refl _
  | n+1=>by have h1:=dQ h64 (outs:=outs) (k:=k) (p:=p) (lo:=lo) (hi:=hi) n;have h2:=Z0 (p:=p) (lo:=lo) (hi:=hi) (plans.getD n []) (outs.getD n []);have h3:=h64 n;rw [OD];split <;> omega
theorem Ry (h:FuncId){Fx:Nat->Prop}{wa ta ya aa:Option Addr}{plans:List (List Ef)}{turns hl:List Int}{outs:List (List Gq)}{w:World}(hC:FX Fx wa ta ya plans turns hl w)(hA:LW aa outs w)(wc tn tc yn yc ac:Nat)(u:Int)(oa:Option Addr)(on oc:Nat)(st:Int)(cut:Bool)(hlen:outs.length=plans.length)(hpl:plans.length<=16)(hfit:∀ k,(outs.getD k []).length<=(plans.getD k []).length)(h64:∀ j,(plans.getD j []).length<=64)(k:Nat)(p:Int)(lo hi rounds:Nat)(hro:rounds<=9000000000000000000)(hlo:lo<=1000000)(hhi:hi<=1000000)(hst:∀ (j i:Nat) (a:Gq),(outs.getD j [])[i]?=some a->a.st<=1000000)(h1:rounds<=OD plans outs k p lo hi plans.length+1)(h2:1<=OD plans outs k p lo hi plans.length) :
    CallsIn (Fence.list [h,16,17] none) 0 Try.prog 17 #[.agg #[.slice wa plans.length wc,.slice ta tn tc,.slice ya yn yc,.int .i64 u],.agg #[.slice aa outs.length ac,.slice oa on oc,.int .i64 st,.bool cut],.int .i64 k,.int .i64 p,.int .i64 lo,.int .i64 hi,.int .i64 rounds] w (Xd w):=by
  have HC:=Lib.hid (zAI hC (zAI hA (zAI hfit (zAI h64 (zAI hst (zAI h1 (zAI h2 hlen)))))));have hout:outs.length<=16:=by omega
  clear hC hA hfit h64 hst h1 h2 hlen;gi_enter Try.func17,Try.ntmps17
  gi_wp2;generalize hW:World.alloc (World.alloc w _) _=W1;have c0:W1.cell? ⟨w.heap.size,0,none⟩=some (.slice wa plans.length wc):=by rw [← hW];exact Lib.cell?_alloc_some _ (I8 _ _ _ _ 0)
  have c1:W1.cell? ⟨w.heap.size+1,0,none⟩=some (.slice aa outs.length ac):=by rw [← hW];exact H7 _ _ _ _ _ 0
  have HD:RowKit.Hid (FX Fx wa ta ya plans turns hl W1/\LW aa outs W1/\Below w.heap.size w W1):=Lib.hid (by
    obtain ⟨hC,hA,_⟩:=HC.out;have o:∀ g,g < w.heap.size->W1.heap[g]?=w.heap[g]?:=fun g hg=>by rw [← hW,heap_alloc_old _ _ (by simp;omega),heap_alloc_old _ _ hg]
    exact ⟨hC.old o,hA.old o,by rw [← hW];exact ((Below.refl _ w).alloc (Nat.le_refl _) _).alloc (by simp) _⟩)
  clear hW;gi_loopw [15,16] (fun nv jv wr=>∃ j:Nat,j<=outs.length/\jv=.int .i64 j/\nv=.int .i64 (OD plans outs k p lo hi j:Nat)/\Below W1.heap.size W1 wr) (fun _ jv _=>outs.length - (intOf jv).toNat)
  case atStart=>exact ⟨0,Nat.zero_le _,rfl,rfl,Below.refl _ _⟩
  case round=>
    obtain ⟨j,hj,rfl,rfl,hB⟩:=hrel;have d0:=(hB.cell (p:=⟨w.heap.size,0,none⟩) (EN c0)).trans c0;have d1:=(hB.cell (p:=⟨w.heap.size+1,0,none⟩) (EN c1)).trans c1;have hN:OD plans outs k p lo hi j<=64 * j:=dQ HC.out.2.2.2.1 j;by_cases hlt:j < outs.length
    . have hji:(j:Int) < (outs.length:Int):=by omega
      have hjp:j < plans.length:=by have:=HC.out.2.2.2.2.2.2.2;omega
      have Ai1:(j:Int) < (plans.length:Int):=by omega
      obtain ⟨-,-,hfit,h64,hst,-⟩:=HC.out;obtain ⟨hC,hA,-⟩:=HD.out;obtain ⟨pl,hpk⟩:∃ pl,plans[j]?=some pl:=⟨_,List.getElem?_eq_getElem hjp⟩
      obtain ⟨out,hok⟩:∃ out,outs[j]?=some out:=⟨_,List.getElem?_eq_getElem hlt⟩
      have hf:=hfit j;have h6:=h64 j;have e64:plans.getD j []=pl:=by rw [List.getD_eq_getElem?_getD,hpk];rfl
      have SV:outs.getD j []=out:=by rw [List.getD_eq_getElem?_getD,hok];rfl
      have hs:=hst j;rw [e64,SV] at hf;rw [e64] at h6;rw [SV] at hs;have hos:OD plans outs k p lo hi (j+1)=OD plans outs k p lo hi j+if j=k then 0 else cnt p lo hi pl out:=by rw [OD,e64,SV]
      obtain ⟨b,o,ca,cc,rfl,-,-,p1,p2⟩:=hC.work j pl hpk;obtain ⟨b2,o2,sa,sc,rfl,q1,q2⟩:=hA j out hok;have e2:=(hB.cell (p:=⟨b2,o2+j,none⟩) (EN q1)).trans q1;have HR:=Lib.hid (zAI hf (zAI hs (zAI hos (zAI p1 (zAI p2 (zAI q1 (zAI q2 hB)))))));clear hB hC hA hpk hok p1 p2 q1 q2 hfit h64 hst e64 SV hos hs hf;generalize hN0:OD plans outs k p lo hi j=N at hN;obtain ⟨f,hf⟩:∃ f:Nat->Nat,∀ i,f i=N+(if j=k then 0 else cnt p lo hi pl (out.take i)):=⟨_,fun _=>rfl⟩
      have f0:RowKit.Hid (f 0=N):=Lib.hid (by rw [hf];simp [cnt]);have HF:=Lib.hid hf;clear hf;gi_wp2;gi_loopw [15,17] (fun nv iv wq=>∃ i:Nat,i<=out.length/\iv=.int .i64 i/\nv=.int .i64 (f i:Nat)/\Below W1.heap.size W1 wq) (fun _ iv _=>out.length - (intOf iv).toNat)
      case atStart=>exact ⟨0,Nat.zero_le _,rfl,by rw [f0.out],HR.out.2.2.2.2.2.2.2⟩
      case round=>
        obtain ⟨i,hi',rfl,rfl,hB⟩:=hrel;clear d0 d1 e2;have d0:=(hB.cell (p:=⟨w.heap.size,0,none⟩) (EN c0)).trans c0;have d1:=(hB.cell (p:=⟨w.heap.size+1,0,none⟩) (EN c1)).trans c1;have e2:=(hB.cell (p:=⟨b2,o2+j,none⟩) (EN HR.out.2.2.2.2.2.1)).trans HR.out.2.2.2.2.2.1;by_cases hl0:i < out.length
        . have hl0':(i:Int) < (out.length:Int):=by omega
          by_cases hjk:j=k
          . have sV:((j:Int) != (k:Int))=false:=by simp;omega
            have HV:RowKit.Hid (OD plans outs k p lo hi (j+1)=f i):=Lib.hid (by rw [HR.out.2.2.1,HF.out,if_pos hjk,if_pos hjk,hN0]);have HB:=Lib.hid (zAI hB hjk);generalize f i=M at HV;clear hB hjk hN0;gi_wp2;go_roundw
            case rel=>exact ⟨j+1,by omega,by go_num,by rw [HV.out],HB.out.1⟩
            case measure=>simp [intOf];omega
          . have sV:((j:Int) != (k:Int))=true:=by simp;omega
            obtain ⟨hf,-,-,p1,p2,-,q2,-⟩:=HR.out;obtain ⟨c,hc⟩:∃ c,pl[i]?=some c:=⟨_,List.getElem?_eq_getElem zOM⟩
            obtain ⟨a,ha⟩:∃ a,out[i]?=some a:=⟨_,List.getElem?_eq_getElem hl0⟩
            obtain ⟨g,o',pa,pn,pc,rfl,-,x0,x1,x2,x3,x4⟩:=p2 i c hc;obtain ⟨g2,r9,ia,il,ic,rfl,y0,y1,y2,y3,y4,y5,y6,y7,y8⟩:=q2 i a ha;have hip:(i:Int) < (pl.length:Int):=by omega
            have up:∀ {g o v},W1.cell? ⟨g,o,none⟩=some v->wr.cell? ⟨g,o,none⟩=some v:=fun h=>(hB.cell (EN h)).trans h;have hz:=hB.size;have l0:=EN d0;have l1:=EN d1;have l2:=EN (up p1);have l3:=EN e2;have l4:=EN (up x0);have l5:=EN (up y0);replace p1:=up p1;replace x0:=up x0;replace x1:=up x1;replace x2:=up x2;replace x3:=up x3;replace x4:=up x4;replace y0:=up y0;replace y1:=up y1;replace y2:=up y2;replace y3:=up y3;replace y4:=up y4;replace y5:=up y5;replace y6:=up y6;replace y7:=up y7;replace y8:=up y8;have Wn:∀ g,g < wr.heap.size->∀ oa ob o,((wr.alloc oa).alloc ob).drew.cell? ⟨g,o,none⟩=wr.cell? ⟨g,o,none⟩:=fun g hg oa ob o=>by
              have e:((wr.alloc oa).alloc ob).drew.heap[g]?=wr.heap[g]?:=by show ((wr.heap.push oa).push ob)[g]?=_;rw [Array.getElem?_push,Array.getElem?_push,Array.size_push,if_neg zOM,if_neg zOM]
              simp only [World.cell?,e]
            have Ua:∀ g,g < wr.heap.size->∀ oa o,(wr.alloc oa).drew.cell? ⟨g,o,none⟩=wr.cell? ⟨g,o,none⟩:=fun g hg oa o=>by
              have e:(wr.alloc oa).drew.heap[g]?=wr.heap[g]?:=by show (wr.heap.push oa)[g]?=_;rw [Array.getElem?_push,if_neg zOM]
              simp only [World.cell?,e]
            have z0:=Wn _ l0;have z1:=Wn _ l1;have z2:=Wn _ l2;have z3:=Wn _ l3;have z4:=Wn _ l4;have z5:=Wn _ l5;have w0:=Ua _ l0;have w1:=Ua _ l1;have w2:=Ua _ l2;have w3:=Ua _ l3;have w4:=Ua _ l4;have w5:=Ua _ l5;have hq0:cnt p lo hi pl (out.take i)<=64:=Nat.le_trans (Z0 _ _) h6;have Abt:i < 64:=by omega
            have hnx:f (i+1)=f i+if hit p lo hi (c,a) then 1 else 0:=by rw [HF.out,HF.out,if_neg hjk,if_neg hjk,aD hc ha p lo hi];omega
            have zU:f i<=N+64:=by rw [HF.out,if_neg hjk];omega
            rw [show hit p lo hi (c,a)=decide (c.a=p/\2<=c.kind/\c.kind<=7/\lo < a.st/\a.st < hi) from rfl] at hnx;have HS:=Lib.hid (zAI hnx hB);generalize hq:f i=q at zU HS;clear hnx hq hq0;clear hf hc ha hB hjk hN0 p2 q2 Ua Wn l0 l1 l2 l3 l4 l5 up c0 c1;gi_wp2;gi_cut [18,19] from 94 (fun sa sd wc=>∃ A D:Nat,sa=.pointer (some ⟨A,0,none⟩)/\sd=.pointer (some ⟨D,0,none⟩)/\wc.cell? ⟨D,0,none⟩=some (.int .i64 c.kind)/\wc.cell? ⟨D,1,none⟩=some (.int .i64 c.a)/\wc.cell? ⟨A,1,none⟩=some (.int .i64 a.st)/\RowKit.Hid (Below W1.heap.size W1 wc))
            case first=>
              gi_region
              . (gi_wp2;refine Met.intro ?_;go_step;(repeat apply Exists.intro);refine ⟨?rel,rfl⟩)
                case rel=>
                  exact ⟨_,_,rfl,rfl,H7 _ _ _ _ _ 0,H7 _ _ _ _ _ 1,Lib.cell?_alloc_some _ (I8 _ _ _ _ 1),Lib.hid ((HS.out.2.alloc HS.out.2.size _).alloc (by have:=HS.out.2.size;simp;omega) _).drew⟩
              . (gi_wp2;refine Met.intro ?_;go_step;(repeat apply Exists.intro);refine ⟨?rel,rfl⟩)
                case rel=>
                  exact ⟨_,_,rfl,rfl,Lib.cell?_alloc_some _ (I8 _ _ _ _ 0),Lib.cell?_alloc_some _ (I8 _ _ _ _ 1),H7 _ _ _ _ _ 1,Lib.hid ((HS.out.2.alloc HS.out.2.size _).alloc (by have:=HS.out.2.size;simp;omega) _).drew⟩
            case rest=>
              obtain ⟨A,D,rfl,rfl,f0,f1,f2,HW⟩:=hcut;clear z0 z1 z2 z3 z4 z5 w0 w1 w2 w3 w4 w5 x0 x1 x2 x3 x4 y0 y1 y2 y3 y4 y5 y6 y7 y8 p1 d0 d1 e2 hjp hip hl0' sV;gi_upto_region 9 with fail
              gi_cut [83] from 94 (fun v wq=>v=.bool (decide (c.a=p/\2<=c.kind/\c.kind<=7/\lo < a.st/\a.st < hi))/\wq=wc)
              case first=>
                by_cases hcp:c.a=p
                . have g1:(c.a == p)=true:=by simp [hcp]
                  by_cases g2:2<=c.kind
                  . by_cases g3:c.kind<=7
                    . by_cases g4:lo < a.st
                      . have g4':(lo:Int) < (a.st:Int):=by omega
                        by_cases g5:a.st < hi
                        . have g5':(a.st:Int) < (hi:Int):=by omega
                          gi_wp2
                          (refine Met.intro ?_;go_step;(repeat apply Exists.intro);refine ⟨?rel,rfl⟩)
                          case rel=>exact ⟨by rw [decide_eq_true ⟨hcp,g2,g3,g4,g5⟩],rfl⟩
                        . have g5':¬ (a.st:Int) < (hi:Int):=by omega
                          gi_wp2
                          (refine Met.intro ?_;go_step;(repeat apply Exists.intro);refine ⟨?rel,rfl⟩)
                          case rel=>exact ⟨by rw [decide_eq_false zOM],rfl⟩
                      . have g4':¬ (lo:Int) < (a.st:Int):=by omega
                        gi_wp2
                        (refine Met.intro ?_;go_step;(repeat apply Exists.intro);refine ⟨?rel,rfl⟩)
                        case rel=>exact ⟨by rw [decide_eq_false zOM],rfl⟩
                    . gi_wp2
                      (refine Met.intro ?_;go_step;(repeat apply Exists.intro);refine ⟨?rel,rfl⟩)
                      case rel=>exact ⟨by rw [decide_eq_false zOM],rfl⟩
                  . gi_wp2
                    (refine Met.intro ?_;go_step;(repeat apply Exists.intro);refine ⟨?rel,rfl⟩)
                    case rel=>exact ⟨by rw [decide_eq_false zOM],rfl⟩
                . have g1:(c.a == p)=false:=by simp [hcp]
                  gi_wp2
                  (refine Met.intro ?_;go_step;(repeat apply Exists.intro);refine ⟨?rel,rfl⟩)
                  case rel=>exact ⟨by rw [decide_eq_false zOM],rfl⟩
              case rest=>
                obtain ⟨rfl,rfl⟩:=hcut;generalize decide (c.a=p/\2<=c.kind/\c.kind<=7/\lo < a.st/\a.st < hi)=hb at HS;cases hb with
                | true=>
                  have hh:RowKit.Hid (f (i+1)=q+1):=Lib.hid (by rw [HS.out.1];rfl);gi_wp2;go_roundw
                  case rel=>exact ⟨i+1,by omega,by go_num,by rw [hh.out];go_num,HW.out⟩
                  case measure=>simp [intOf];omega
                | false=>
                  have hh:RowKit.Hid (f (i+1)=q):=Lib.hid (by rw [HS.out.1];rfl);gi_wp2;go_roundw
                  case rel=>exact ⟨i+1,by omega,by go_num,by rw [hh.out],HW.out⟩
                  case measure=>simp [intOf];omega
        . obtain rfl:i=out.length:=by omega
          have hl0':¬ (out.length:Int) < (out.length:Int):=by omega
          have HV:RowKit.Hid (OD plans outs k p lo hi (j+1)=f out.length):=Lib.hid (by rw [HR.out.2.2.1,HF.out,hN0,List.take_length]);have HB:=Lib.hid hB;clear hB hN0;generalize f out.length=M at HV;gi_wp2;go_roundw
          case rel=>exact ⟨j+1,by omega,by go_num,by rw [HV.out],HB.out⟩
          case measure=>simp [intOf];omega
    . obtain rfl:j=outs.length:=by omega
      obtain ⟨h1,h2,hle⟩:=HC.out.2.2.2.2.2;rw [← hle] at h1 h2;generalize OD plans outs k p lo hi outs.length=N at hN h1 h2;have n1:(rounds:Int) - 1<=(N:Int):=by omega
      have n2:1<=N:=h2;have n3:(1:Int)<=(N:Int):=by omega
      have HB:=Lib.hid hB;clear hB h1 h2 hle;gi_wp2;go_ret
      exact ⟨rfl,HD.out.2.2.trans (HB.out.mono HD.out.2.2.size)⟩
end Go.Proofs.Yticecinjcajmcaa
end
