/-
  Part 13 of the proof that CellAlone returns true for every input and leaves its arguments as they were. No further condition.
-/
import Derived.Test.YtkdhnbcdbnpmhaaQ05
import Derived.Test.YtkdhnbcdbnpmhaaQ12
import Derived.Laws.Pointers
set_option linter.unusedVariables false
set_option linter.unusedSectionVars false
set_option maxHeartbeats 1000000
namespace Go.Proofs.Ytkdhnbcdbnpmhaa
open Go Go.Conc Go.LT Go.LC Go.LK
section
section
variable {X Sg:Type}{M:Md X Sg}{ρ:Rn}{W:World}{c:Frame}{cs:List Frame}
theorem Pt {B:Nat->Bool}{w W:World}(hs:J2 { hol:=B } w W){a:Addr}(hB:B a.block=false):w.cell? a=W.cell? a:=by have:=Ie (B:={ hol:=B }) (w:=w) (a:=a) hB;rw [← this];simp [World.cell?,IV hs]
theorem SW.load {P:Program}{x:Wx X Sg ρ}{b:Frame}{a:Act}{k:List Item}{ops:Array Oper}{i:Nat}{rest:List Nat}{o:Oper}(v:Value)(ho:ops[i]?=some o)(hw:Region.wanted o (yielded ops a.tmps)=true)(hk:b.kind≠.early)(hr:∀ w,J2 { hol:=x.1.1.B } w W->(execOp a.eval o).run P w=.ok (.value v) w)(he:∀ w,J2 { hol:=x.1.1.B } w W->∀ e∈(execOp a.eval o).events P w #[],Lr { hol:=x.1.1.B } w.heap.size e)(hJ:JL (jU M ρ P) x (G (b.at (a.put o.dst v) (.inRegion ops rest :: k)) cs) W):JL (jU M ρ P) x (G (b.at a (.inRegion ops (i :: rest) :: k)) cs) W:=
  (SW M ρ P).step rfl fun w hs=>⟨_,w,_,stepG_value ho hw hk (hr w hs),Kept.refl _ _,fun e h=>he w hs e (mem_listed h),W,hs,hJ⟩
theorem UA {B:Nat->Bool}{w:World}{a:Addr}{v:Value}(hB:B a.block=false)(hc:w.cell? a=some v):Lr { hol:=B } w.heap.size ⟨.cell a,false,false⟩:=⟨hB,R6 hc,fun h=>by cases h⟩
theorem PZ {P:Program}(w:World)(es:Array Event)(d:Nat)(t:TypeId)(p:Option Addr)(h:P.underlying t=some (.pointer (P.pointee t))):(Op.equalIn (d+1) t (.pointer p) (.pointer none)).events P w es=es:=by
  have hu:∀ es,(underlying t).events P w es=es:=fun es=>by simp [underlying,h]
  cases p <;> simp [Op.equalIn,run_underlying h,hu]
theorem QU {P:Program}(w:World)(es:Array Event)(t:TypeId)(p:Option Addr)(h:P.underlying t=some (.pointer (P.pointee t))):(Op.equal t (.pointer p) (.pointer none)).events P w es=es:=PZ w es 9999 t p h
theorem Tj {P:Program}(w:World)(es:Array Event)(t:TypeId)(p:Option Addr)(h:P.underlying t=some (.pointer (P.pointee t))):(binOp .eql t (.pointer p) (.pointer none)).events P w es=es:=by simp only [binOp];simp [run_equal_pointer_nil w t p h,QU w es t p h,go_sem]
noncomputable def gu:Code:=match Try.f63.body with | some (.seq c _)=>c | _=>.skip
noncomputable def PX:Code:=match Try.f63.body with | some (.seq _ (.seq c _))=>c | _=>.skip
noncomputable def OG:Code:=match Try.f63.body with | some (.seq _ (.seq _ c))=>c | _=>.skip
theorem jW:Try.f63.body=some (.seq gu (.seq PX OG)):=rfl
theorem iG {x:Wx X Sg ρ}{b k t co go:Nat}{gr:Bool}{st bg ow:Int}{ans:Value}{dn fl:Bool}(h:IQ W b k t co go gr st bg ow ans dn fl)(hB:x.1.1.B b=false)(hJ:JL (jU M ρ Try.prog) x (G ((base 63).at ⟨#[.pointer (some ⟨b,0,none⟩),undef,.pointer (some ⟨b,0,none⟩),.bool false,.bool false,.pointer (some ⟨b,0,none⟩),.pointer (some ⟨b,0,none⟩),.pointer (some ⟨b,1,none⟩),.bool true,.bool false,.bool false,undef,undef,undef,undef,undef,undef,undef,undef,undef,undef,undef,undef,undef,undef,undef,undef,undef,undef,undef],[]⟩ [.code (.seq PX OG)]) (c :: cs)) W) :
    JW (SW M ρ Try.prog).base x (G (Frame.enter Try.prog 63 #[.pointer (some ⟨b,0,none⟩)] .normal) (c :: cs)) W:=by
  have c1:W.cell? ⟨b,1,none⟩=some (.bool true):=by unfold IQ at h;simp [World.cell?,h]
  have ht:#[.pointer (some ⟨b,0,none⟩)] ++ Array.replicate (Try.f63.ntmps - #[Value.pointer (some ⟨b,0,none⟩)].size) undef=#[.pointer (some ⟨b,0,none⟩),undef,undef,undef,undef,undef,undef,undef,undef,undef,undef,undef,undef,undef,undef,undef,undef,undef,undef,undef,undef,undef,undef,undef,undef,undef,undef,undef,undef,undef]:=by
    have:Try.f63.ntmps=30:=by kernel_rfl
    rw [this];walk_nrm
  rw [enter_at _ Try.func63 jW,ht];show JL (jU M ρ Try.prog) x _ W;refine GY stepG_seq ?_;simp only [gu,Try.f63];refine GY stepG_seq ?_;refine Hu fun _ hkk=>?_
  (refine Hf ?_;walk_nrm)
  refine JL.value (.bool false) rfl rfl nE (fun _ _=>by go_simp) (fun w _ e he=>by simp [go_sem] at he;rw [Tj _ _ _ _ (by kernel_rfl)] at he;simp at he) ?_
  walk_nrm;iterate 4 (refine Hf ?_;walk_nrm)
  refine SW.load (.bool true) rfl rfl nE (fun w hs=>by
    have c2:=(Pt hs (a:=⟨b,1,none⟩) hB).trans c1;go_simp) (fun w hs e he=>by
    have c2:=(Pt hs (a:=⟨b,1,none⟩) hB).trans c1;simp [go_sem,c2] at he;subst he;exact UA hB c2) ?_
  walk_nrm;iterate 2 (refine Hf ?_;walk_nrm)
  refine Hw ?_;cases hkk;refine JL.Ho rfl ?_;refine GY stepG_skip ?_;exact hJ
def pK (b:Nat)(gr:Bool):Array Value:=#[.pointer (some ⟨b,0,none⟩),undef,.pointer (some ⟨b,0,none⟩),.bool false,.bool false,.pointer (some ⟨b,0,none⟩),.pointer (some ⟨b,0,none⟩),.pointer (some ⟨b,1,none⟩),.bool true,.bool false,.bool false,.pointer (some ⟨b,0,none⟩),.pointer (some ⟨b,0,none⟩),.pointer (some ⟨b,5,none⟩),.bool gr,.bool (!gr),undef,undef,undef,undef,undef,undef,undef,undef,undef,undef,undef,undef,undef,undef]
noncomputable def Yy:Code:=match PX with | .seq _ (.cond _ c _)=>c | _=>.skip
theorem Xl {x:Wx X Sg ρ}{b k t co go:Nat}{gr:Bool}{st bg ow:Int}{ans:Value}{dn fl:Bool}(h:IQ W b k t co go gr st bg ow ans dn fl)(hB:x.1.1.B b=false)(hJ:JL (jU M ρ Try.prog) x (G ((base 63).at ⟨pK b gr,[]⟩ [.code (if gr then .skip else Yy),.code OG]) (c :: cs)) W) :
    JW (SW M ρ Try.prog).base x (G (Frame.enter Try.prog 63 #[.pointer (some ⟨b,0,none⟩)] .normal) (c :: cs)) W:=by
  refine iG h hB ?_;have c5:W.cell? ⟨b,5,none⟩=some (.bool gr):=by unfold IQ at h;simp [World.cell?,h]
  refine GY stepG_seq ?_;have e:∃ r,PX=.seq r (.cond (.tmp 15) Yy .skip)/\r=(match PX with | .seq r _=>r | _=>.skip):=⟨_,rfl,rfl⟩
  obtain ⟨r,e,er⟩:=e;rw [e];subst er;simp only [PX,Try.f63];refine GY stepG_seq ?_;refine Hu fun _ hkk=>?_;iterate 3 (refine Hf ?_;walk_nrm)
  refine SW.load (.bool gr) rfl rfl nE (fun w hs=>by
    have c2:=(Pt hs (a:=⟨b,5,none⟩) hB).trans c5;go_simp) (fun w hs e he=>by
    have c2:=(Pt hs (a:=⟨b,5,none⟩) hB).trans c5;simp [go_sem,c2] at he;subst he;exact UA hB c2) ?_
  walk_nrm
  (refine Hf ?_;walk_nrm)
  refine Hw ?_;cases hkk;cases gr with
  | true=>exact JL.Ho rfl hJ
  | false=>exact JL.Iq rfl hJ
theorem gU:∀ f∈[63],Lets Try.prog f:=by intro f hf;simp only [List.mem_singleton] at hf;subst hf;exact ⟨by kernel_rfl,.inr (.inr (by decide))⟩
theorem nG {W:World}{b k t co go:Nat}{gr:Bool}{st bg ow:Int}{ans:Value}{dn fl:Bool}{v1 v2 v3 v4 v5 v6 v7 v8 v9 Aa Ab Ac Ae Af Ah Ai Aj Ak Al:Value}(h:IQ W b k t co go gr st bg ow ans dn fl){Q:Exit->Act->World->Prop}(hQ:∀ tm W',IQ W' b k t co go false st bg (RowKit.wrap64 (ow+1)) ans dn fl->(∀ b',b'≠b->W'.heap[b']?=W.heap[b']?)->W'.heap.size=W.heap.size->Q .normal ⟨tm,[]⟩ W') :
    OG.wpIn (Fence.list [63] none) 0 Try.prog Q ⟨#[.pointer (some ⟨b,0,none⟩),v1,v2,v3,v4,v5,v6,v7,v8,v9,Aa,Ab,Ac,Ae,Af,Ah,Ai,Aj,Ak,Al,undef,undef,undef,undef,undef,undef,undef,undef,undef,undef],[]⟩ W:=by
  have f5:W.frozen? ⟨b,5,none⟩=false:=h.frozen;have f8:W.frozen? ⟨b,8,none⟩=false:=h.frozen;unfold IQ at h;simp only [OG,Try.f63];have c5:W.cell? ⟨b,5,none⟩=some (.bool gr):=by simp [World.cell?,h]
  have c8:W.cell? ⟨b,8,none⟩=some (.int .i64 ow):=by simp [World.cell?,h]
  gi_wp2;refine hQ _ _ ?_ ?_ ?_
  . simp [IQ,World.setCell,Array.getElem?_modify,h]
  . intro b' hb;simp [World.setCell,Array.getElem?_modify,hb.symm]
  . simp [World.setCell]
structure KA (b:Nat)(W W':World):Prop where
  other:∀ b',b'≠b->W'.heap[b']?=W.heap[b']?
  size:W'.heap.size=W.heap.size
theorem step_end {x:Wx X Sg ρ}{b k t co go:Nat}{gr:Bool}{st bg ow:Int}{ans:Value}{dn fl:Bool}{v1 v2 v3 v4 v5 v6 v7 v8 v9 Aa Ab Ac Ae Af Ah Ai Aj Ak Al:Value}(h:IQ W b k t co go gr st bg ow ans dn fl)(hJ:∀ W',IQ W' b k t co go false st bg (RowKit.wrap64 (ow+1)) ans dn fl->KA b W W'->JW (SW M ρ Try.prog).base x (G (c.finish (.tuple #[])) cs) W') :
    JL (jU M ρ Try.prog) x (G ((base 63).at ⟨#[.pointer (some ⟨b,0,none⟩),v1,v2,v3,v4,v5,v6,v7,v8,v9,Aa,Ab,Ac,Ae,Af,Ah,Ai,Aj,Ak,Al,undef,undef,undef,undef,undef,undef,undef,undef,undef,undef],[]⟩ [.code OG]) (c :: cs)) W:=by
  refine Runs.lone (S:=SW M ρ Try.prog) gU (c:=OG) (by kernel_rfl) (Q:=fun e a γ Jj=>e=.normal/\a.defers=[]/\γ=x/\∃ W',LT.Alike W' Jj/\IQ W' b k t co go false st bg (RowKit.wrap64 (ow+1)) ans dn fl/\KA b W W') (a:=⟨_,[]⟩) (fun GQ ha=>?_) 63 .normal [] (c :: cs) (by simp) (by simp) fun e a' γ' W' q=>?_
  . refine nG (h.alike ha) fun tm W' h1 h2 h3=>⟨rfl,rfl,rfl,W',.refl _,h1,⟨fun b' hb'=>?_,?_⟩⟩
    . obtain ⟨τ,d,rfl⟩:=ha;exact h2 b' hb'
    . obtain ⟨τ,d,rfl⟩:=ha;exact h3
  . obtain ⟨rfl,h2,rfl,Jj,ha,h3,h4⟩:=q;show JL (jU M ρ Try.prog) γ' (G ((base 63).at ⟨a'.tmps,a'.defers⟩ []) (c :: cs)) W';rw [h2];refine GY stepG_end ?_;refine JL.Za rfl rfl Try.func63 rfl ?_;exact JW.tape (hJ Jj h3 h4) ha
theorem ZV {x:Wx X Sg ρ}{b k t co go:Nat}{st bg ow:Int}{ans:Value}{dn fl:Bool}(h:IQ W b k t co go true st bg ow ans dn fl)(hB:x.1.1.B b=false)(hJ:∀ W',IQ W' b k t co go false st bg (RowKit.wrap64 (ow+1)) ans dn fl->KA b W W'->JW (SW M ρ Try.prog).base x (G (c.finish (.tuple #[])) cs) W') :
    JW (SW M ρ Try.prog).base x (G (Frame.enter Try.prog 63 #[.pointer (some ⟨b,0,none⟩)] .normal) (c :: cs)) W:=by
  refine Xl h hB ?_;simp only [if_true];refine GY stepG_skip ?_;exact step_end h hJ
theorem JL.enter {P:Program}{main:Bool}{Γ:Type}{S:Sn P main Γ}{γ:Γ}{b:Frame}{a:Act}{k:List Item}{ops:Array Oper}{i:Nat}{rest:List Nat}{o:Oper}{f:FuncId}{fn:Func}{args:Array Operand}{ats:Array TypeId}(ho:ops[i]?=some o)(hw:Region.wanted o (yielded ops a.tmps)=true)(hk:b.kind≠.early)(hop:o.op=.call { callee:=.value (.func f),args,argTypes:=ats })(hf : P.funcs[f]? = some fn)(hname : (fn.name == "runtime.NumGoroutine") = false)(hb : fn.body.isNone = false)(h:JL S γ (G (Frame.enter P f (args.map a.eval) .normal) (b.at a (.inRegion ops (i :: rest) :: k) :: cs)) W) :
    JL S γ (G (b.at a (.inRegion ops (i :: rest) :: k)) cs) W:=
  .ctl rfl (fun w=>by
    rw [stepG_enter ho hw hk (run_call_body hop hf hname hb)];have:listed P b.fn a o w=#[]:=by unfold listed;rw [events_call_body hop hf hname hb];exact seen_none P _
    rw [this]) h
theorem X7 {b t go t':Nat}(h:kI ρ Try.prog 180 c cs):Zm ρ Try.prog t' (G ((base 87).at ⟨Xi b t go,[]⟩ [.inRegion Q7 [0,1,2,3],.code OW]) (c :: cs)):=by
  unfold Zm;rw [JC];have hc:commResult (JD ρ t') .select ((1:Nat):Int) ρ.zg false=.tuple #[.int .i64 1,.bool false,ρ.zi,ρ.zg]:=by simp [commResult,JD,rcase,goInt]
  rw [hc];simp only [Q7,Mw,OW,Xi,Try.f87];walk_nrm;refine SA.of fun W=>?_;iterate 3 (refine Hf ?_;walk_nrm)
  refine GY stepG_region_end ?_;refine GY stepG_block ?_;refine JL.Ho rfl ?_;refine JL.Iq rfl ?_;refine Hu fun _ hkk=>?_;refine JL.KX (.agg #[]) rfl rfl nE (fun _=>by kernel_rfl) ?_;walk_nrm;refine JL.KX (.iface 180 (.agg #[])) rfl rfl nE (fun _=>by kernel_rfl) ?_;walk_nrm;refine SA.to ?_;obtain ⟨m,hm⟩:=(kI.pop Try.func87 h) [⟨.iface 180 (.agg #[]),false,false⟩] ⟨[],rfl⟩
  refine ⟨m+1,hm.ctl rfl fun w _=>?_⟩;rw [Xc (v:=.iface 180 (.agg #[])) rfl rfl nE (by kernel_rfl),listed_none (by kernel_rfl)]
theorem bL {x:Wx X Sg ρ}{st bg ow:Int}{ans:Value}{dn fl:Bool}{own:Nat->Prop}{pb:Nat}(hzi:ρ.zi=.int .i64 0)(hzg:ρ.zg=.agg #[])(h:IQ W x.1.1.v.b x.1.1.v.k x.1.1.v.t ρ.come ρ.gone false st bg ow ans dn fl)(hInv:M.Inv x.1.1.tgt.2.1 W)(bn:∀ b,M.Sh b->x.1.1.B b=false)(eG:M.Rec x.1.1.v.k x.1.1.tgt.1 x.1.1.v.b own W)(hpb:own pb)(ho1:∀ b,x.1.1.v.own b->own b)(ho2:∀ b,own b->x.1.1.v.own b\/x.1.1.n0<=b)(ho3:∀ b,own b->x.1.1.B b=false/\¬ M.Sh b/\∃ c e f,W.heap[b]?=some (.cells c e f))(hb:x.1.1.v.own x.1.1.v.b)(hov:x.1.1.tgt.2.2=false)(hlv:ρ.shut->kI ρ Try.prog 180 c cs)(hpc:W.cell? ⟨pb,0,none⟩=some (.pointer (some ⟨x.1.1.v.b,0,none⟩)))(hJ:∀ r',x.1.2=r'+1->∀ v',YU x.1.1.v v' x.1.1.tgt.1 false x.1.2 own pb->∀ (s:Nat) (σ:Sg) (W':World) (y:Wx X Sg ρ),y.1.1.v=v'->y.1.1.tgt=M.hold x.1.1.tgt.1 s σ->y.1.2=r'->jr M ρ v' y.1.1.B y.1.1.n0->y.1.1.n0=W'.heap.size->qj M own W W'->M.Inv σ W'->
      ∀ W'',IQ W'' x.1.1.v.b x.1.1.v.k x.1.1.v.t ρ.come ρ.gone false s bg (RowKit.wrap64 (ow+1)) ans dn fl->KA x.1.1.v.b W' W''->JW (SW M ρ Try.prog).base y (G (c.finish (.tuple #[])) cs) W'') :
    JW (SW M ρ Try.prog).base x (G (Frame.enter Try.prog 63 #[.pointer (some ⟨x.1.1.v.b,0,none⟩)] .normal) (c :: cs)) W:=by
  refine Xl h (ho3 _ (ho1 _ hb)).1 ?_;simp only [Bool.false_eq_true,if_false];generalize hend:[Item.code OG]=KE;simp only [Yy,PX,pK,Try.f63];refine GY stepG_seq ?_;refine JL.region (l:=[0,1]) rfl fun _ hk2=>?_;cases hk2
  (refine Hf ?_;walk_nrm)
  refine JL.enter rfl rfl nE rfl Try.func86 (by kernel_rfl) (by kernel_rfl) ?_;walk_nrm;refine Ti h fun GQ ha=>SI ?_;obtain ⟨τ,d,rfl⟩:=ha;have hsel:∀ (c:Frame) (cs:List Frame) (w:World),stepG Try.prog false (G ((base 86).at ⟨O7 x.1.1.v.b x.1.1.v.k ρ.come ρ.gone,[]⟩ [.inRegion MV [0,1,2,3],.code Nk]) (c :: cs)) w =
      .comm (G ((base 86).at ⟨O7 x.1.1.v.b x.1.1.v.k ρ.come ρ.gone,[]⟩ [.inRegion MV [0,1,2,3],.code Nk]) (c :: cs)) (Kj ρ x.1.1.v.k) true .select w #[]:=fun c cs w=>by
    rw [YV];simp only [Kj,hzi,hzg]
  have hcell:∀ o v,W.cell? ⟨x.1.1.v.b,o,none⟩=some v->(sh W τ d).cell? ⟨x.1.1.v.b,o,none⟩=some v:=fun _ _ h=>h;have h':=h;unfold IQ at h';have hbody:Try.f87.body=some (.seq Vt Mw):=Sc;generalize hr3:(Item.code (Code.region _ _ false))=R3;refine SW.sit (own:=own) (pb:=pb) rfl (hsel _ _) (M.inv_eq _ _ _ (fun b _=>.refl W b) hInv) bn (M.rec_eq _ _ _ _ _ _ (fun b _=>.refl W b) eG) hpb ho1 ho2 ho3 hb (fun e=>by rw [hov] at e;cases e) fun _=>⟨⟨hcell _ _ (by simp [World.cell?,h']),hcell _ _ (by simp [World.cell?,h']),hpc⟩,?_⟩
  have htw:#[.pointer (some ⟨x.1.1.v.b,0,none⟩)] ++ Array.replicate (Try.f87.ntmps - #[Value.pointer (some ⟨x.1.1.v.b,0,none⟩)].size) undef=#[.pointer (some ⟨x.1.1.v.b,0,none⟩),undef,undef,undef,undef,undef,undef,undef,undef,undef,undef,undef,undef,undef,undef,undef,undef,undef,undef,undef,undef,undef,undef]:=by
    have:Try.f87.ntmps=23:=by kernel_rfl
    rw [this];walk_nrm
  refine ⟨?gs,fun v' hs home hh=>RN fun Hl=>?sit,fun hsh=>?shut,?hold⟩
  case sit=>
    unfold Kj;refine Rm ?_;rw [Frame.finish_at];walk_nrm;refine GY stepG_region_end ?_;rw [← hr3];refine JL.region (l:=[0,1]) rfl fun _ hk3=>?_;cases hk3
    (refine Hf ?_;walk_nrm)
    refine JL.call rfl rfl nE rfl Try.func87 (by kernel_rfl) Sc ?_;rw [List.map_toArray];simp only [List.map_cons,List.map_nil,Act.eval,Array.getD_eq_getD_getElem?,List.getElem?_toArray,List.getElem?_cons_succ,List.getElem?_cons_zero,Option.getD_some];rw [htw,← hs.t,← hs.b];refine WH hzi hzg ?_;rw [hs.t,hs.b];exact hh
  case shut=>exact X7 (kI.pop Try.func63 (hlv hsh))
  case hold=>
    intro r' hr v' hs s σ W' y e1 e2 e3 Px hn0 hH hI;have h2:IQ W' x.1.1.v.b x.1.1.v.k x.1.1.v.t ρ.come ρ.gone false st bg ow ans dn fl:=by unfold IQ;rw [hH.own _ (ho1 _ hb)];exact h
    refine UW h2 fun W'' h3 h4 h5=>?_;rw [Frame.finish_at];show JL (jU M ρ Try.prog) y _ W'';walk_nrm;refine GY stepG_region_end ?_;rw [← hend];exact step_end h3 fun W3 h6 h7=>hJ r' hr v' hs s σ W' y e1 e2 e3 Px hn0 ⟨hH.own,hH.size⟩ hI W3 h6 ⟨fun b' hb'=>(h7.other b' hb').trans (h4 b' hb'),h7.size.trans h5⟩
end
end
end Go.Proofs.Ytkdhnbcdbnpmhaa
namespace Go.LT
open Go
section
section
variable {P:Program}{Q:Value->Prop}
theorem Va {t:Extern.Atomic.T}{a:Addr}(h:∀ v,Q v):G6 P Q (Extern.Atomic.read t a):=by unfold Extern.Atomic.read;refine GV (QF fun v=>?_);repeat' first | exact GZ (h _) | exact G9 True.intro | split
theorem Vy {t:Extern.Atomic.T}(h:∀ v,Q v)(args:Array Value):G6 P Q (Extern.Atomic.loadT t args):=by
  obtain ⟨l⟩:=args;rcases l with _|⟨x,_|⟨y,l⟩⟩
  . exact G8
  . exact (GV (Km fun _=>Va h):G6 P Q (asAddr x >>= fun a=>Extern.Atomic.read t a))
  . exact G8
theorem gM (h:∀ v,Q v)(args:Array Value):G6 P Q (Extern.Atomic.storeT args):=by
  obtain ⟨l⟩:=args;rcases l with _|⟨x,_|⟨y,_|⟨z,l⟩⟩⟩
  . exact G8
  . exact G8
  . exact (GV (Km fun _=>GV (Ni fun _=>GZ (h _))):G6 P Q (asAddr x >>= fun a=>store a y .atomic >>= fun _=>pure Extern.Atomic.none_))
  . exact G8
theorem kZ {t:Extern.Atomic.T}(h:∀ v,Q v)(args:Array Value):G6 P Q (Extern.Atomic.swapT t args):=by
  obtain ⟨l⟩:=args;rcases l with _|⟨x,_|⟨y,_|⟨z,l⟩⟩⟩
  . exact G8
  . exact G8
  . exact (GV (Km fun _=>GV (Va fun _=>GV (Ni fun _=>GZ (h _)))):G6 P Q (asAddr x >>= fun a=>Extern.Atomic.read t a >>= fun old=>store a y .atomic >>= fun _=>pure old))
  . exact G8
theorem dV {op:IntKind->Int->Int->Sem Value}{k:IntKind}{r:Bool}(hop:∀ (Q':Value->Prop),(∀ v,Q' v)->∀ k x y,G6 P Q' (op k x y))(h:∀ v,Q v)(args:Array Value):G6 P Q (Extern.Atomic.update op k r args):=by
  obtain ⟨l⟩:=args;rcases l with _|⟨x,_|⟨y,_|⟨z,l⟩⟩⟩
  . exact G8
  . exact G8
  . show G6 P Q (asAddr x >>= fun a=>Extern.Atomic.read (.int k) a >>= fun old=>asInt old >>= fun u=>asInt y >>= fun v=>op k u v >>= fun new=>store a new .atomic >>= fun _=>pure (if r=true then new else old));refine GV (Km fun _=>GV (Va fun _=>GV (LZ fun _=>GV (LZ fun _=>GV (hop _ (fun _=>GV (Ni fun _=>?_)) _ _ _)))));exact GZ (h _)
  . exact G8
theorem Rb {α:Type}{Q:α->Prop}{f:Bool->Sem α}(hf:∀ b,G6 P Q (f b))(hd:Dead P (f true)){β:Type}(g:β->Addr):∀ l:List β,G6 P Q ((l.anyM fun i=>frozen (g i)) >>= f)
  | []=>hf false
  | a :: l=>by
    have ih:=Rb hf hd g l;refine ⟨fun b=>?_,fun w es h=>absurd ?_ h⟩
    . cases b with
      | true=>exact hf true
      | false=>exact ih
    . rw [Sem.runT_fst];exact hd w
theorem bI {α:Type}{Q:α->Prop}{f:Bool->Sem α}{a:Addr}(hf:∀ b,G6 P Q (f b))(hd:Dead P (f true)):G6 P Q (Extern.Atomic.touchesFrozen a >>= f):=by
  unfold Extern.Atomic.touchesFrozen;rw [bind_assoc];refine GV (MN fun v=>?_);cases v with
  | none=>exact ⟨fun b=>hf b,fun w es h=>absurd (by rw [Sem.runT_fst];exact hd w) h⟩
  | some x=>
    obtain ⟨at_,aSx⟩:=x;rw [bind_assoc];refine GV (IJ fun i=>?_);dsimp only;split
    . exact (G9 (u := .unsafePointer "memory seen as another type") True.intro : G6 P _ (unsupported _))
    . exact Rb hf hd _ _
theorem je {k:IntKind}(h:∀ v,Q v)(args:Array Value):G6 P Q (Extern.Atomic.casT (.int k) args):=by
  obtain ⟨l⟩:=args;rcases l with _|⟨x,_|⟨y,_|⟨z,_|⟨u,l⟩⟩⟩⟩
  . exact G8
  . exact G8
  . exact G8
  . change G6 P Q (do
      let a' ← asAddr x
      if ← Extern.Atomic.touchesFrozen a' then unsupported (.unsafePointer "a write to bytes that a string shares")
      let eq ← match Extern.Atomic.T.int k,← Extern.Atomic.read (.int k) a',y with
        | _,.int _ x,.int _ y=>pure (x == y)
        | .ptr,.pointer x,.pointer y=>samePointer x y
        | .int _,.pointer (some _),.int _ 0 | .int _,.int _ 0,.pointer (some _)=>pure false
        | .int _,.pointer (some _),_ | .int _,_,.pointer (some _)=>unsupported .addressObserved
        | _, _, _ => stuck "atomic.CompareAndSwap: old is no T"
      if eq then store a' z .atomic
      pure (Value.bool eq))
    refine GV (Km fun a=>?_);refine bI (fun b=>?_) (fun w=>rfl);cases b with
    | true => exact (G9 (u := .unsafePointer "a write to bytes that a string shares") True.intro : G6 P _ (unsupported _))
    | false=>
      refine GV (Va fun v=>?_);have hj:∀ eq:Bool,G6 P Q (if eq=true then (store a z .atomic >>= fun _=>pure (.bool eq)) else pure (.bool eq)):=fun eq=>by
        split
        . exact GV (Ni fun _=>GZ (h _))
        . exact GZ (h _)
      dsimp only;split
      . exact hj _
      . rename_i e;cases e
      . exact hj false
      . exact hj false
      . exact (G9 (u:=.addressObserved) True.intro:G6 P _ (unsupported _))
      . exact (G9 (u:=.addressObserved) True.intro:G6 P _ (unsupported _))
      . exact (G8:G6 P _ (stuck _))
  . exact G8
variable {f:FuncId}{fn:Func}
theorem JN {e : Array Value -> Sem Value}(hf : P.funcs[f]? = some fn)(hn : (fn.name == "runtime.NumGoroutine") = false)(hb : fn.body.isNone = true)(h1 : Extern.findNext fn = none)(h2 : Extern.find fn = some e)(ht : ∀ args, G6 P (fun _ => True) (e args)) : Qk P f := ⟨fn, e, hf, hn, hb, h1, h2, ht⟩
theorem tT {k:IntKind}{r:Bool}(h:∀ v,Q v)(args:Array Value):G6 P Q (Extern.Atomic.update (Op.intArith .add) k r args):=dV (fun Q' h' k x y=>KY h') h args
end
end
end Go.LT
namespace Go.Proofs.Ytkdhnbcdbnpmhaa
open Go Go.Conc Go.LT Go.LC Go.LK
section
theorem TR {P : Program}{f : FuncId}{fn : Func}(hf : P.funcs[f]? = some fn)(hname : (fn.name == "runtime.NumGoroutine") = false)(hb : fn.body.isNone = true)(hn : Extern.findNext fn = none)(k : IntKind)(he:Extern.find fn=some (Extern.Atomic.swapT (.int k))){a:Addr}{x y:Int}{w:World}(hc:w.cell? a=some (.int k x))(hz:w.frozen? a=false) :
    (callFunc f #[.pointer (some a),.int k y]).run P w=.ok (.value (.int k x)) (w.setCell a (.int k y)):=by
  rw [run_callFunc_extern hf hname hb hn he];change (Sem.run P (do
    let a' ← asAddr (.pointer (some a))
    let old ← Extern.Atomic.read (.int k) a'
    store a' (.int k y) .atomic
    pure old) w).andThen _=_
  simp [Extern.Atomic.read,asAddr,hc,hz,run_store P w a (.int k y) .atomic rfl,Result.andThen]
noncomputable def at0:Code:=match Try.f53.body with | some (.seq c _)=>c | _=>.skip
noncomputable def at1:Code:=match Try.f53.body with | some (.seq _ (.seq c _))=>c | _=>.skip
noncomputable def at2:Code:=match Try.f53.body with | some (.seq _ (.seq _ c))=>c | _=>.skip
theorem mI:Try.f53.body=some (.seq at0 (.seq at1 at2)):=rfl
section
variable {main:Bool}{Γ:Type}{S:HY Try.prog main Γ}{m:Mem (List Int)}{cb ct n:Nat}{cf:Frame}{fs:List Frame}{W:World}{σ:List Int}{cs:GU}
theorem Pj (I:Js S He m 63)(hm:Ir m ct cb n){s:I.St}{i:Int}(hA:I.At s σ W)(hS:I.Step s σ cs)(hL:I.Leaves cf fs)(hJ:∀ s' σ' W',I.At s' σ' W'->I.On s W s' W'->I.fuel s' < I.fuel s->I.gF s' (He.next I.num cs σ')->JW S.base (I.γ s') (G (cf.finish (if inn n i then .tuple #[.pointer (some ⟨cb,i.toNat,none⟩),.int .i64 0] else .tuple #[.pointer none,.int .i64 41])) fs) W') :
    JW S.base (I.γ s) (G (Frame.enter Try.prog 53 #[.pointer (some ⟨ct,0,none⟩),I.wv,.int .i64 i] .normal) (cf :: fs)) W:=by
  have ht:#[.pointer (some ⟨ct,0,none⟩),I.wv,.int .i64 i] ++ Array.replicate (Try.f53.ntmps - #[.pointer (some ⟨ct,0,none⟩),I.wv,Value.int .i64 i].size) undef=#[.pointer (some ⟨ct,0,none⟩),I.wv,.int .i64 i,undef,undef,undef,undef,undef,undef,undef,undef,undef,undef,undef,undef,undef,undef,undef,undef,undef,undef,undef,undef,undef,undef,undef,undef]:=by
    have:Try.f53.ntmps=27:=by kernel_rfl
    rw [this];walk_nrm
  rw [enter_at _ Try.func53 mI,ht];generalize hw:I.wv=wv;show JL S.L (I.γ s) _ W;refine GY stepG_seq ?_;simp only [at0,Try.f53];refine Hu fun _ hkk=>?_;iterate 2 (refine Hf ?_;walk_nrm)
  refine Hw ?_;cases hkk;refine GY stepG_seq ?_;simp only [at1,Try.f53];refine Hu fun _ hkk=>?_
  (refine Hf ?_;walk_nrm)
  refine JL.enter rfl rfl nE rfl Try.func63 (by kernel_rfl) (by kernel_rfl) ?_;walk_nrm;rw [← hw];refine I.line hA hS (I.pop Try.func53 hL) fun s' σ' W' hA' hO hf _ hT=>?_;rw [Frame.finish_at];rw [hw];show JL S.L (I.γ s') _ W';walk_nrm;refine Hw ?_;cases hkk;refine HY.Ht (S:=S) (b:=base 53) [] (by simp) (by kernel_rfl) nE (by kernel_rfl) fun GQ ha=>?_;have hI:=m.alike (I.inv hA') ha;obtain ⟨_,hc,_⟩:=hm.get _ _ hI;have hn:=hm.len;simp only [at2,Try.f53];have hend:∀ tm v,(∀ w,(results Try.f53 tm).runT Try.prog w #[]=(.ok v w,#[]))->v=(if inn n i then .tuple #[.pointer (some ⟨cb,i.toNat,none⟩),.int .i64 0] else .tuple #[.pointer none,.int .i64 41])->
      TB S (I.γ s') (base 53) [] [] (cf :: fs) .ret ⟨tm,[]⟩ GQ:=fun tm v hr hv Y=>by
    refine JL.back rfl Try.func53 hr ?_;rw [hv];exact JW.tape (hJ s' σ' W' hA' hO hf hT) ha
  clear hJ hT hA' hA hS hL;by_cases h0:i < 0
  . gi_wp2;exact hend _ (.tuple #[.pointer none,.int .i64 41]) (fun w=>by kernel_rfl) (by rw [if_neg (by simp [inn];omega)])
  . by_cases h1:i < n
    . gi_wp2;exact hend _ (.tuple #[.pointer (some ⟨cb,i.toNat,none⟩),.int .i64 0]) (fun w=>by kernel_rfl) (by rw [if_pos (by simp [inn];omega)])
    . gi_wp2;exact hend _ (.tuple #[.pointer none,.int .i64 41]) (fun w=>by kernel_rfl) (by rw [if_neg (by simp [inn];omega)])
noncomputable def ld0:Code:=match Try.f20.body with | some (.seq c _)=>c | _=>.skip
noncomputable def ld1:Code:=match Try.f20.body with | some (.seq _ (.seq c _))=>c | _=>.skip
noncomputable def ld2:Code:=match Try.f20.body with | some (.seq _ (.seq _ c))=>c | _=>.skip
theorem kT:Try.f20.body=some (.seq ld0 (.seq ld1 ld2)):=rfl
theorem Zk:∀ g∈[27,61],@Lets (Host.only 20) Try.prog g:=fun g hg=>by
  simp only [List.mem_cons,List.not_mem_nil,or_false] at hg;rcases hg with rfl|rfl
  . exact ⟨by kernel_rfl,.inl ⟨_,_,Try.func27,by kernel_rfl,rfl,by kernel_rfl⟩⟩
  . exact ⟨by kernel_rfl,.inr (.inl (JN Try.func61 (by kernel_rfl) rfl (by kernel_rfl) (e:=Extern.Atomic.loadT (.int .i64)) (by kernel_rfl) (Vy fun _=>trivial)))⟩
theorem RQ (I:Js S He m 63)(hm:Ir m ct cb n){s:I.St}{c:G5}(hk:c.kind=1)(hA:I.At s σ W)(hS:I.Step s σ (.one c))(hL:I.Leaves cf fs)(hJ:∀ s' σ' W' e,I.At s' σ' W'->I.On s W s' W'->I.End s' σ' (e,false)->(e.ok=false/\e.m=0/\e.ints=[])->JW S.base (I.γ s') (G (cf.finish (.tuple #[.int .i64 e.n,.int .i64 e.err])) fs) W') :
    JW S.base (I.γ s) (G (Frame.enter Try.prog 20 #[.pointer (some ⟨ct,0,none⟩),I.wv,.int .i64 c.a] .normal) (cf :: fs)) W:=by
  have ht:#[.pointer (some ⟨ct,0,none⟩),I.wv,.int .i64 c.a] ++ Array.replicate (Try.f20.ntmps - (#[.pointer (some ⟨ct,0,none⟩),I.wv,.int .i64 c.a]:Array Value).size) undef=#[.pointer (some ⟨ct,0,none⟩),I.wv,.int .i64 c.a,undef,undef,undef,undef,undef,undef,undef,undef,undef,undef,undef,undef,undef,undef,undef,undef,undef,undef,undef]:=by
    have:Try.f20.ntmps=22:=by kernel_rfl
    rw [this];walk_nrm
  rw [enter_at _ Try.func20 kT,ht];generalize hw:I.wv=wv;show JL S.L (I.γ s) _ W;refine GY stepG_seq ?_;simp only [ld0,Try.f20];refine Hu fun _ hkk=>?_;iterate 2 (refine Hf ?_;walk_nrm)
  refine Hw ?_;cases hkk;refine GY stepG_seq ?_;simp only [ld1,Try.f20];refine Hu fun _ hkk=>?_;iterate 3 (refine Hf ?_;walk_nrm)
  refine JL.enter rfl rfl nE rfl Try.func53 (by kernel_rfl) (by kernel_rfl) ?_;walk_nrm;rw [← hw];refine Pj I hm hA hS (I.pop Try.func20 hL) fun s' σ' W' hA' hO hf hT=>?_;rw [Frame.finish_at];rw [hw];show JL S.L (I.γ s') _ W';have hlen:=(hm.get _ _ (I.inv hA')).1;cases hi:inn n c.a with
  | false=>
    rw [if_neg (by simp)];walk_nrm;iterate 5 (refine Hf ?_;walk_nrm)
    refine Hw ?_;cases hkk;refine HY.Ht (S:=S) (b:=base 20) [27,61] Zk (by kernel_rfl) nE (by kernel_rfl) fun GQ ha=>?_;simp only [ld2,Try.f20];obtain ⟨hA1,Ke⟩:=I.alike hA' ha;have hT':I.End s' σ' ({ err:=41 },false):=I.done (by have:=hT;simp only [He] at this;rw [hlen,if_pos hi] at this;exact this);have hend:=hJ s' σ' GQ _ hA1 (hO.trans Ke) hT' ⟨rfl,rfl,rfl⟩;clear hT hT' hJ hA' hA hS hL;gi_wp2;intro Y;exact JL.back rfl Try.func20 (v:=.tuple #[.int .i64 0,.int .i64 41]) (fun w=>by kernel_rfl) hend
  | true=>
    rw [if_pos rfl];walk_nrm;iterate 5 (refine Hf ?_;walk_nrm)
    refine Hw ?_;cases hkk;refine HY.Ht (S:=S) (b:=base 20) [27,61] Zk (by kernel_rfl) nE (by kernel_rfl) fun GQ ha=>?_;simp only [ld2,Try.f20];obtain ⟨hA1,Ke⟩:=I.alike hA' ha;have hO2:=hO.trans Ke;have hi':c.a.toNat < n:=by simp [inn] at hi;omega
    have hc:=hm.cell (I.inv hA1) hi';have hz:=hm.frozen (I.inv hA1) c.a.toNat;rw [show He.next I.num (.one c) σ'=((II c σ').1,.inr ((II c σ').2,false)) by simp only [He];rw [hlen,if_neg (by simp [hi])]] at hT;unfold II at hT;simp only [hk] at hT;simp only [if_true] at hT;have hend:=hJ s' σ' GQ _ hA1 hO2 (I.done hT) ⟨rfl,rfl,rfl⟩;clear hT hJ hA' hA hS hL hlen;generalize σ'.getD c.a.toNat 0=x at *;clear hA1 Ke hO2 hi hO;generalize c.a.toNat=i at *;have hl:=run_call_load (P:=Try.prog) Try.func61 (by kernel_rfl) (by kernel_rfl) (by kernel_rfl) .i64 (by kernel_rfl) hc;gi_wp2;intro Y;exact JL.back rfl Try.func20 (v:=.tuple #[.int .i64 x,.int .i64 0]) (fun w=>by kernel_rfl) hend
noncomputable def st0:Code:=match Try.f21.body with | some (.seq c _)=>c | _=>.skip
noncomputable def st1:Code:=match Try.f21.body with | some (.seq _ (.seq c _))=>c | _=>.skip
noncomputable def st2:Code:=match Try.f21.body with | some (.seq _ (.seq _ c))=>c | _=>.skip
theorem lu:Try.f21.body=some (.seq st0 (.seq st1 st2)):=rfl
theorem Y3:∀ g∈[54,81],@Lets (Host.only 21) Try.prog g:=fun g hg=>by
  simp only [List.mem_cons,List.not_mem_nil,or_false] at hg;rcases hg with rfl|rfl
  . exact ⟨by kernel_rfl,.inl ⟨_,_,Try.func54,by kernel_rfl,rfl,by kernel_rfl⟩⟩
  . exact ⟨by kernel_rfl,.inr (.inl (JN Try.func81 (by kernel_rfl) rfl (by kernel_rfl) (e:=Extern.Atomic.storeT) (by kernel_rfl) (gM fun _=>trivial)))⟩
theorem Vg (I:Js S He m 63)(hm:Ir m ct cb n){s:I.St}{c:G5}(hk:c.kind=2)(hA:I.At s σ W)(hS:I.Step s σ (.one c))(hL:I.Leaves cf fs)(hJ:∀ s' σ' W' e,I.At s' σ' W'->I.On s W s' W'->I.End s' σ' (e,false)->(e.ok=false/\e.n=0/\e.m=0/\e.ints=[])->JW S.base (I.γ s') (G (cf.finish (.int .i64 e.err)) fs) W') :
    JW S.base (I.γ s) (G (Frame.enter Try.prog 21 #[.pointer (some ⟨ct,0,none⟩),I.wv,.int .i64 c.a,.int .i64 c.b] .normal) (cf :: fs)) W:=by
  have ht:#[.pointer (some ⟨ct,0,none⟩),I.wv,.int .i64 c.a,.int .i64 c.b] ++ Array.replicate (Try.f21.ntmps - (#[.pointer (some ⟨ct,0,none⟩),I.wv,.int .i64 c.a,.int .i64 c.b]:Array Value).size) undef=#[.pointer (some ⟨ct,0,none⟩),I.wv,.int .i64 c.a,.int .i64 c.b,undef,undef,undef,undef,undef,undef,undef,undef,undef,undef,undef,undef,undef,undef,undef,undef,undef,undef,undef,undef]:=by
    have:Try.f21.ntmps=24:=by kernel_rfl
    rw [this];walk_nrm
  rw [enter_at _ Try.func21 lu,ht];generalize hw:I.wv=wv;show JL S.L (I.γ s) _ W;refine GY stepG_seq ?_;simp only [st0,Try.f21];refine Hu fun _ hkk=>?_
  (refine Hf ?_;walk_nrm)
  refine Hw ?_;cases hkk;refine GY stepG_seq ?_;simp only [st1,Try.f21];refine Hu fun _ hkk=>?_;iterate 3 (refine Hf ?_;walk_nrm)
  refine JL.enter rfl rfl nE rfl Try.func53 (by kernel_rfl) (by kernel_rfl) ?_;walk_nrm;rw [← hw];refine Pj I hm hA hS (I.pop Try.func21 hL) fun s' σ' W' hA' hO hf hT=>?_;rw [Frame.finish_at];rw [hw];show JL S.L (I.γ s') _ W';have hlen:=(hm.get _ _ (I.inv hA')).1;cases hi:inn n c.a with
  | false=>
    rw [if_neg (by simp)];walk_nrm;iterate 5 (refine Hf ?_;walk_nrm)
    refine Hw ?_;cases hkk;refine HY.Ht (S:=S) (b:=base 21) [54,81] Y3 (by kernel_rfl) nE (by kernel_rfl) fun GQ ha=>?_;simp only [st2,Try.f21];obtain ⟨hA1,Ke⟩:=I.alike hA' ha;have hT':I.End s' σ' ({ err:=41 },false):=I.done (by have:=hT;simp only [He] at this;rw [hlen,if_pos hi] at this;exact this);have hend:=hJ s' σ' GQ _ hA1 (hO.trans Ke) hT' ⟨rfl,rfl,rfl,rfl⟩;clear hT hT' hJ hA' hA hS hL;gi_wp2;intro Y;exact JL.back rfl Try.func21 (v:=.int .i64 41) (fun w=>by kernel_rfl) hend
  | true=>
    rw [if_pos rfl];walk_nrm;iterate 5 (refine Hf ?_;walk_nrm)
    refine Hw ?_;cases hkk;refine HY.Ht (S:=S) (b:=base 21) [54,81] Y3 (by kernel_rfl) nE (by kernel_rfl) fun GQ ha=>?_;simp only [st2,Try.f21];obtain ⟨hA1,Ke⟩:=I.alike hA' ha;have hO2:=hO.trans Ke;have hi':c.a.toNat < n:=by simp [inn] at hi;omega
    have hc:=hm.cell (I.inv hA1) hi';have hz:=hm.frozen (I.inv hA1) c.a.toNat;rw [show He.next I.num (.one c) σ'=((II c σ').1,.inr ((II c σ').2,false)) by simp only [He];rw [hlen,if_neg (by simp [hi])]] at hT;unfold II at hT;simp only [hk] at hT;simp (config:={ decide:=true }) only [if_true,if_false] at hT;obtain ⟨hA2,hO3⟩:=I.turn hA1 (hm.set _ _ _ c.b (I.inv hA1) hi') (fun b hb=>by simp [World.setCell,Array.getElem?_modify];intro h;exact absurd (h ▸ hm.sh) hb) (by simp [World.setCell]);have hend:=hJ s' _ _ _ hA2 (hO2.trans hO3) (I.done hT) ⟨rfl,rfl,rfl,rfl⟩;clear hT hJ hA' hA hS hL hlen;clear hA2 hO3;generalize hy:c.b=y at *;generalize σ'.getD c.a.toNat 0=x at *;clear hA1 Ke hO2 hi hO;generalize c.a.toNat=i at *;have hl:=run_call_store (P:=Try.prog) Try.func81 (by kernel_rfl) (by kernel_rfl) (by kernel_rfl) (by kernel_rfl) (k:=.i64) (y:=y) hc hz;gi_wp2;intro Y
    exact JL.back rfl Try.func21 (v:=.int .i64 0) (fun w=>by kernel_rfl) hend
noncomputable def ad0:Code:=match Try.f22.body with | some (.seq c _)=>c | _=>.skip
noncomputable def ad1:Code:=match Try.f22.body with | some (.seq _ (.seq c _))=>c | _=>.skip
noncomputable def ad2:Code:=match Try.f22.body with | some (.seq _ (.seq _ c))=>c | _=>.skip
theorem kM:Try.f22.body=some (.seq ad0 (.seq ad1 ad2)):=rfl
theorem YP:∀ g∈[55,82],@Lets (Host.only 22) Try.prog g:=fun g hg=>by
  simp only [List.mem_cons,List.not_mem_nil,or_false] at hg;rcases hg with rfl|rfl
  . exact ⟨by kernel_rfl,.inl ⟨_,_,Try.func55,by kernel_rfl,rfl,by kernel_rfl⟩⟩
  . exact ⟨by kernel_rfl,.inr (.inl (JN Try.func82 (by kernel_rfl) rfl (by kernel_rfl) (e:=Extern.Atomic.update (Op.intArith .add) .i64 true) (by kernel_rfl) (tT fun _=>trivial)))⟩
theorem Vx (I:Js S He m 63)(hm:Ir m ct cb n){s:I.St}{c:G5}(hk:c.kind=3)(hA:I.At s σ W)(hS:I.Step s σ (.one c))(hL:I.Leaves cf fs)(hJ:∀ s' σ' W' e,I.At s' σ' W'->I.On s W s' W'->I.End s' σ' (e,false)->(e.ok=false/\e.m=0/\e.ints=[])->JW S.base (I.γ s') (G (cf.finish (.tuple #[.int .i64 e.n,.int .i64 e.err])) fs) W') :
    JW S.base (I.γ s) (G (Frame.enter Try.prog 22 #[.pointer (some ⟨ct,0,none⟩),I.wv,.int .i64 c.a,.int .i64 c.b] .normal) (cf :: fs)) W:=by
  have ht:#[.pointer (some ⟨ct,0,none⟩),I.wv,.int .i64 c.a,.int .i64 c.b] ++ Array.replicate (Try.f22.ntmps - (#[.pointer (some ⟨ct,0,none⟩),I.wv,.int .i64 c.a,.int .i64 c.b]:Array Value).size) undef=#[.pointer (some ⟨ct,0,none⟩),I.wv,.int .i64 c.a,.int .i64 c.b,undef,undef,undef,undef,undef,undef,undef,undef,undef,undef,undef,undef,undef,undef,undef,undef,undef,undef,undef,undef,undef]:=by
    have:Try.f22.ntmps=25:=by kernel_rfl
    rw [this];walk_nrm
  rw [enter_at _ Try.func22 kM,ht];generalize hw:I.wv=wv;show JL S.L (I.γ s) _ W;refine GY stepG_seq ?_;simp only [ad0,Try.f22];refine Hu fun _ hkk=>?_;iterate 2 (refine Hf ?_;walk_nrm)
  refine Hw ?_;cases hkk;refine GY stepG_seq ?_;simp only [ad1,Try.f22];refine Hu fun _ hkk=>?_;iterate 3 (refine Hf ?_;walk_nrm)
  refine JL.enter rfl rfl nE rfl Try.func53 (by kernel_rfl) (by kernel_rfl) ?_;walk_nrm;rw [← hw];refine Pj I hm hA hS (I.pop Try.func22 hL) fun s' σ' W' hA' hO hf hT=>?_;rw [Frame.finish_at];rw [hw];show JL S.L (I.γ s') _ W';have hlen:=(hm.get _ _ (I.inv hA')).1;cases hi:inn n c.a with
  | false=>
    rw [if_neg (by simp)];walk_nrm;iterate 5 (refine Hf ?_;walk_nrm)
    refine Hw ?_;cases hkk;refine HY.Ht (S:=S) (b:=base 22) [55,82] YP (by kernel_rfl) nE (by kernel_rfl) fun GQ ha=>?_;simp only [ad2,Try.f22];obtain ⟨hA1,Ke⟩:=I.alike hA' ha;have hT':I.End s' σ' ({ err:=41 },false):=I.done (by have:=hT;simp only [He] at this;rw [hlen,if_pos hi] at this;exact this);have hend:=hJ s' σ' GQ _ hA1 (hO.trans Ke) hT' ⟨rfl,rfl,rfl⟩;clear hT hT' hJ hA' hA hS hL;gi_wp2;intro Y;exact JL.back rfl Try.func22 (v:=.tuple #[.int .i64 0,.int .i64 41]) (fun w=>by kernel_rfl) hend
  | true=>
    rw [if_pos rfl];walk_nrm;iterate 5 (refine Hf ?_;walk_nrm)
    refine Hw ?_;cases hkk;refine HY.Ht (S:=S) (b:=base 22) [55,82] YP (by kernel_rfl) nE (by kernel_rfl) fun GQ ha=>?_;simp only [ad2,Try.f22];obtain ⟨hA1,Ke⟩:=I.alike hA' ha;have hO2:=hO.trans Ke;have hi':c.a.toNat < n:=by simp [inn] at hi;omega
    have hc:=hm.cell (I.inv hA1) hi';have hz:=hm.frozen (I.inv hA1) c.a.toNat;rw [show He.next I.num (.one c) σ'=((II c σ').1,.inr ((II c σ').2,false)) by simp only [He];rw [hlen,if_neg (by simp [hi])]] at hT;unfold II at hT;simp only [hk] at hT;simp (config:={ decide:=true }) only [if_true,if_false] at hT;obtain ⟨hA2,hO3⟩:=I.turn hA1 (hm.set _ _ _ (RowKit.wrap64 (σ'.getD c.a.toNat 0+c.b)) (I.inv hA1) hi') (fun b hb=>by simp [World.setCell,Array.getElem?_modify];intro h;exact absurd (h ▸ hm.sh) hb) (by simp [World.setCell]);have hend:=hJ s' _ _ _ hA2 (hO2.trans hO3) (I.done hT) ⟨rfl,rfl,rfl⟩;clear hT hJ hA' hA hS hL hlen;clear hA2 hO3;generalize hy:(RowKit.wrap64 (σ'.getD c.a.toNat 0+c.b))=y at *;generalize σ'.getD c.a.toNat 0=x at *;clear hA1 Ke hO2 hi hO;generalize c.a.toNat=i at *
    have hl:=run_call_add (P:=Try.prog) Try.func82 (by kernel_rfl) (by kernel_rfl) (by kernel_rfl) .i64 (by kernel_rfl) (y:=c.b) hc hz (s:=y) (by go_simp;rw [IntKind.wrap_i64];unfold RowKit.wrap64 at hy;exact hy);gi_wp2;intro Y;exact JL.back rfl Try.func22 (v:=.tuple #[.int .i64 y,.int .i64 0]) (fun w=>by kernel_rfl) hend
noncomputable def sw0:Code:=match Try.f23.body with | some (.seq c _)=>c | _=>.skip
noncomputable def sw1:Code:=match Try.f23.body with | some (.seq _ (.seq c _))=>c | _=>.skip
noncomputable def sw2:Code:=match Try.f23.body with | some (.seq _ (.seq _ c))=>c | _=>.skip
theorem lV:Try.f23.body=some (.seq sw0 (.seq sw1 sw2)):=rfl
theorem YH:∀ g∈[56,83],@Lets (Host.only 23) Try.prog g:=fun g hg=>by
  simp only [List.mem_cons,List.not_mem_nil,or_false] at hg;rcases hg with rfl|rfl
  . exact ⟨by kernel_rfl,.inl ⟨_,_,Try.func56,by kernel_rfl,rfl,by kernel_rfl⟩⟩
  . exact ⟨by kernel_rfl,.inr (.inl (JN Try.func83 (by kernel_rfl) rfl (by kernel_rfl) (e:=Extern.Atomic.swapT (.int .i64)) (by kernel_rfl) (kZ fun _=>trivial)))⟩
theorem Ve (I:Js S He m 63)(hm:Ir m ct cb n){s:I.St}{c:G5}(hk:c.kind=4)(hA:I.At s σ W)(hS:I.Step s σ (.one c))(hL:I.Leaves cf fs)(hJ:∀ s' σ' W' e,I.At s' σ' W'->I.On s W s' W'->I.End s' σ' (e,false)->(e.ok=false/\e.m=0/\e.ints=[])->JW S.base (I.γ s') (G (cf.finish (.tuple #[.int .i64 e.n,.int .i64 e.err])) fs) W') :
    JW S.base (I.γ s) (G (Frame.enter Try.prog 23 #[.pointer (some ⟨ct,0,none⟩),I.wv,.int .i64 c.a,.int .i64 c.b] .normal) (cf :: fs)) W:=by
  have ht:#[.pointer (some ⟨ct,0,none⟩),I.wv,.int .i64 c.a,.int .i64 c.b] ++ Array.replicate (Try.f23.ntmps - (#[.pointer (some ⟨ct,0,none⟩),I.wv,.int .i64 c.a,.int .i64 c.b]:Array Value).size) undef=#[.pointer (some ⟨ct,0,none⟩),I.wv,.int .i64 c.a,.int .i64 c.b,undef,undef,undef,undef,undef,undef,undef,undef,undef,undef,undef,undef,undef,undef,undef,undef,undef,undef,undef,undef,undef]:=by
    have:Try.f23.ntmps=25:=by kernel_rfl
    rw [this];walk_nrm
  rw [enter_at _ Try.func23 lV,ht];generalize hw:I.wv=wv;show JL S.L (I.γ s) _ W;refine GY stepG_seq ?_;simp only [sw0,Try.f23];refine Hu fun _ hkk=>?_;iterate 2 (refine Hf ?_;walk_nrm)
  refine Hw ?_;cases hkk;refine GY stepG_seq ?_;simp only [sw1,Try.f23];refine Hu fun _ hkk=>?_;iterate 3 (refine Hf ?_;walk_nrm)
  refine JL.enter rfl rfl nE rfl Try.func53 (by kernel_rfl) (by kernel_rfl) ?_;walk_nrm;rw [← hw];refine Pj I hm hA hS (I.pop Try.func23 hL) fun s' σ' W' hA' hO hf hT=>?_;rw [Frame.finish_at];rw [hw];show JL S.L (I.γ s') _ W';have hlen:=(hm.get _ _ (I.inv hA')).1;cases hi:inn n c.a with
  | false=>
    rw [if_neg (by simp)];walk_nrm;iterate 5 (refine Hf ?_;walk_nrm)
    refine Hw ?_;cases hkk;refine HY.Ht (S:=S) (b:=base 23) [56,83] YH (by kernel_rfl) nE (by kernel_rfl) fun GQ ha=>?_;simp only [sw2,Try.f23];obtain ⟨hA1,Ke⟩:=I.alike hA' ha;have hT':I.End s' σ' ({ err:=41 },false):=I.done (by have:=hT;simp only [He] at this;rw [hlen,if_pos hi] at this;exact this);have hend:=hJ s' σ' GQ _ hA1 (hO.trans Ke) hT' ⟨rfl,rfl,rfl⟩;clear hT hT' hJ hA' hA hS hL;gi_wp2;intro Y;exact JL.back rfl Try.func23 (v:=.tuple #[.int .i64 0,.int .i64 41]) (fun w=>by kernel_rfl) hend
  | true=>
    rw [if_pos rfl];walk_nrm;iterate 5 (refine Hf ?_;walk_nrm)
    refine Hw ?_;cases hkk;refine HY.Ht (S:=S) (b:=base 23) [56,83] YH (by kernel_rfl) nE (by kernel_rfl) fun GQ ha=>?_;simp only [sw2,Try.f23];obtain ⟨hA1,Ke⟩:=I.alike hA' ha;have hO2:=hO.trans Ke;have hi':c.a.toNat < n:=by simp [inn] at hi;omega
    have hc:=hm.cell (I.inv hA1) hi';have hz:=hm.frozen (I.inv hA1) c.a.toNat;rw [show He.next I.num (.one c) σ'=((II c σ').1,.inr ((II c σ').2,false)) by simp only [He];rw [hlen,if_neg (by simp [hi])]] at hT;unfold II at hT;simp only [hk] at hT;simp (config:={ decide:=true }) only [if_true,if_false] at hT;obtain ⟨hA2,hO3⟩:=I.turn hA1 (hm.set _ _ _ c.b (I.inv hA1) hi') (fun b hb=>by simp [World.setCell,Array.getElem?_modify];intro h;exact absurd (h ▸ hm.sh) hb) (by simp [World.setCell]);have hend:=hJ s' _ _ _ hA2 (hO2.trans hO3) (I.done hT) ⟨rfl,rfl,rfl⟩;clear hT hJ hA' hA hS hL hlen;clear hA2 hO3;generalize hy:c.b=y at *;generalize σ'.getD c.a.toNat 0=x at *;clear hA1 Ke hO2 hi hO;generalize c.a.toNat=i at *;have hl:=TR (P:=Try.prog) Try.func83 (by kernel_rfl) (by kernel_rfl) (by kernel_rfl) .i64 (by kernel_rfl) (y:=y) hc hz;gi_wp2;intro Y
    exact JL.back rfl Try.func23 (v:=.tuple #[.int .i64 x,.int .i64 0]) (fun w=>by kernel_rfl) hend
noncomputable def cs0:Code:=match Try.f24.body with | some (.seq c _)=>c | _=>.skip
noncomputable def cs1:Code:=match Try.f24.body with | some (.seq _ (.seq c _))=>c | _=>.skip
noncomputable def cs2:Code:=match Try.f24.body with | some (.seq _ (.seq _ c))=>c | _=>.skip
theorem mV:Try.f24.body=some (.seq cs0 (.seq cs1 cs2)):=rfl
theorem Zi:∀ g∈[57,84],@Lets (Host.only 24) Try.prog g:=fun g hg=>by
  simp only [List.mem_cons,List.not_mem_nil,or_false] at hg;rcases hg with rfl|rfl
  . exact ⟨by kernel_rfl,.inl ⟨_,_,Try.func57,by kernel_rfl,rfl,by kernel_rfl⟩⟩
  . exact ⟨by kernel_rfl,.inr (.inl (JN Try.func84 (by kernel_rfl) rfl (by kernel_rfl) (e:=Extern.Atomic.casT (.int .i64)) (by kernel_rfl) (je fun _=>trivial)))⟩
theorem R7 (I:Js S He m 63)(hm:Ir m ct cb n){s:I.St}{c:G5}(hk:c.kind=5)(hA:I.At s σ W)(hS:I.Step s σ (.one c))(hL:I.Leaves cf fs)(hJ:∀ s' σ' W' e,I.At s' σ' W'->I.On s W s' W'->I.End s' σ' (e,false)->(e.n=0/\e.m=0/\e.ints=[])->JW S.base (I.γ s') (G (cf.finish (.tuple #[.bool e.ok,.int .i64 e.err])) fs) W') :
    JW S.base (I.γ s) (G (Frame.enter Try.prog 24 #[.pointer (some ⟨ct,0,none⟩),I.wv,.int .i64 c.a,.int .i64 c.b,.int .i64 c.c] .normal) (cf :: fs)) W:=by
  have ht:#[.pointer (some ⟨ct,0,none⟩),I.wv,.int .i64 c.a,.int .i64 c.b,.int .i64 c.c] ++ Array.replicate (Try.f24.ntmps - (#[.pointer (some ⟨ct,0,none⟩),I.wv,.int .i64 c.a,.int .i64 c.b,.int .i64 c.c]:Array Value).size) undef=#[.pointer (some ⟨ct,0,none⟩),I.wv,.int .i64 c.a,.int .i64 c.b,.int .i64 c.c,undef,undef,undef,undef,undef,undef,undef,undef,undef,undef,undef,undef,undef,undef,undef,undef,undef,undef,undef,undef,undef,undef,undef]:=by
    have:Try.f24.ntmps=28:=by kernel_rfl
    rw [this];walk_nrm
  rw [enter_at _ Try.func24 mV,ht];generalize hw:I.wv=wv;show JL S.L (I.γ s) _ W;refine GY stepG_seq ?_;simp only [cs0,Try.f24];refine Hu fun _ hkk=>?_;iterate 2 (refine Hf ?_;walk_nrm)
  refine Hw ?_;cases hkk;refine GY stepG_seq ?_;simp only [cs1,Try.f24];refine Hu fun _ hkk=>?_;iterate 3 (refine Hf ?_;walk_nrm)
  refine JL.enter rfl rfl nE rfl Try.func53 (by kernel_rfl) (by kernel_rfl) ?_;walk_nrm;rw [← hw];refine Pj I hm hA hS (I.pop Try.func24 hL) fun s' σ' W' hA' hO hf hT=>?_;rw [Frame.finish_at];rw [hw];show JL S.L (I.γ s') _ W';have hlen:=(hm.get _ _ (I.inv hA')).1;cases hi:inn n c.a with
  | false=>
    rw [if_neg (by simp)];walk_nrm;iterate 5 (refine Hf ?_;walk_nrm)
    refine Hw ?_;cases hkk;refine HY.Ht (S:=S) (b:=base 24) [57,84] Zi (by kernel_rfl) nE (by kernel_rfl) fun GQ ha=>?_;simp only [cs2,Try.f24];obtain ⟨hA1,Ke⟩:=I.alike hA' ha;have hT':I.End s' σ' ({ err:=41 },false):=I.done (by have:=hT;simp only [He] at this;rw [hlen,if_pos hi] at this;exact this);have hend:=hJ s' σ' GQ _ hA1 (hO.trans Ke) hT' ⟨rfl,rfl,rfl⟩;clear hT hT' hJ hA' hA hS hL;gi_wp2;intro Y;exact JL.back rfl Try.func24 (v:=.tuple #[.bool false,.int .i64 41]) (fun w=>by kernel_rfl) hend
  | true=>
    rw [if_pos rfl];walk_nrm;iterate 5 (refine Hf ?_;walk_nrm)
    refine Hw ?_;cases hkk;refine HY.Ht (S:=S) (b:=base 24) [57,84] Zi (by kernel_rfl) nE (by kernel_rfl) fun GQ ha=>?_;simp only [cs2,Try.f24];obtain ⟨hA1,Ke⟩:=I.alike hA' ha;have hO2:=hO.trans Ke;have hi':c.a.toNat < n:=by simp [inn] at hi;omega
    have hc:=hm.cell (I.inv hA1) hi';have hz:=hm.frozen (I.inv hA1) c.a.toNat;rw [show He.next I.num (.one c) σ'=((II c σ').1,.inr ((II c σ').2,false)) by simp only [He];rw [hlen,if_neg (by simp [hi])]] at hT;unfold II at hT;simp only [hk] at hT;simp (config:={ decide:=true }) only [if_false] at hT;by_cases hx:σ'.getD c.a.toNat 0=c.b
    . rw [if_pos hx] at hT;obtain ⟨hA2,hO3⟩:=I.turn hA1 (hm.set _ _ _ c.c (I.inv hA1) hi') (fun b hb=>by simp [World.setCell,Array.getElem?_modify];intro h;exact absurd (h ▸ hm.sh) hb) (by simp [World.setCell]);have hend:=hJ s' _ _ _ hA2 (hO2.trans hO3) (I.done hT) ⟨rfl,rfl,rfl⟩;clear hT hJ hA' hA hS hL hlen hA2 hO3;rw [hx] at hc;clear hx hA1 Ke hO2 hi hO;generalize c.a.toNat=i at *;generalize c.b=x at *;generalize c.c=y at *;have hl:=run_call_cas_hit (P:=Try.prog) Try.func84 (by kernel_rfl) (by kernel_rfl) (by kernel_rfl) .i64 (by kernel_rfl) (y:=y) hc hz;gi_wp2;intro Y;exact JL.back rfl Try.func24 (v:=.tuple #[.bool true,.int .i64 0]) (fun w=>by kernel_rfl) hend
    . rw [if_neg hx] at hT;have hend:=hJ s' _ _ _ hA1 hO2 (I.done hT) ⟨rfl,rfl,rfl⟩;clear hT hJ hA' hA hS hL hlen hA1 Ke hO2 hi hO;generalize σ'.getD c.a.toNat 0=x at *;generalize c.a.toNat=i at *;generalize c.b=o at *;generalize c.c=y at *;have hl:=run_call_cas_miss (P:=Try.prog) Try.func84 (by kernel_rfl) (by kernel_rfl) (by kernel_rfl) .i64 (by kernel_rfl) (y:=y) hc hz hx;clear hx;gi_wp2;intro Y;exact JL.back rfl Try.func24 (v:=.tuple #[.bool false,.int .i64 0]) (fun w=>by kernel_rfl) hend
end
end
end Go.Proofs.Ytkdhnbcdbnpmhaa
