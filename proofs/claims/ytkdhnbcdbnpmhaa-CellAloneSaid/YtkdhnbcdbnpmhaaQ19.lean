/-
  Part 19 of the proof that CellAlone returns true for every input and leaves its arguments as they were. No further condition.
-/
import Derived.Test.YtkdhnbcdbnpmhaaQ11
import Derived.Test.YtkdhnbcdbnpmhaaQ12
import Derived.Conc.WgGenN2
import Derived.Conc.WgGenN3
import Derived.Conc.TokenWalk
import Derived.Test.YtkdhnbcdbnpmhaaProg
import Derived.Conc.WgLib
import Derived.BigRegionIn
set_option linter.unusedVariables false
set_option linter.unusedSectionVars false
set_option maxHeartbeats 8000000
set_option maxRecDepth 100000
namespace Go.LK
open Go Go.Conc Go.LT Go.LC
open Go.ConcN (WgLive sumTo upd sumTo_upd upd_ne upd_same)
open Go.ConcR (KK wgBlock WgAt stA smA rd wr mk)
section
section
variable {X Sg:Type}
variable {P:Program}{Fin:Iw}{GR:Ig P Fin}
variable {M:Md X Sg}{ρ:Rn}{ws:List (Ij X)}{role:Nat->Ik}{bd:Nat->Nat}{w W:World}{ex n:Nat}{df:Bool}{g g':Goroutine}
theorem RI.rM {B B':Nat->Bool}{q:Nat->Nat}{T:Trace}{gs:Array Goroutine}{w:World}(C:RI P (bY { hol:=B }) q T gs w){b:Nat}(hb:w.heap.size<=b)(h1:∀ x,B x=true->B' x=true)(h2:∀ x,B' x=true->B x=true\/x=b):RI P (bY { hol:=B' }) q T gs w:=by
  refine ⟨C.old,C.above,C.past.shun (fun l ⟨a,e,h⟩=>⟨a,e,h1 _ h⟩) fun i a ha hs=>?_⟩;obtain ⟨ad,ho,hB⟩:=hs;rcases h2 _ hB with hB|hB
  . exact .inl ⟨ad,ho,hB⟩
  . exfalso
    obtain ⟨x,hx,hxa⟩:=touch_of ha;have hlow:=C.past.seen x (Array.mem_of_getElem? hx);have:(MemAct.low w.heap.size x.act)->b < w.heap.size:=by
      intro hl;cases hact:x.act with
      | access e=>
        rw [hact] at hl hxa;simp only [MemAct.touch?,Option.some.injEq] at hxa;subst hxa;simp only at ho;have h3:e.loc.low w.heap.size:=hl;rw [ho] at h3;rw [← hB];exact h3
      | mark m=>
        rw [hact] at hl hxa;cases m <;> simp only [MemAct.touch?,Option.some.injEq,reduceCtorEq] at hxa
        all_goals (subst hxa;simp only [Loc.cell.injEq] at ho;subst ho;rw [← hB];exact hl)
      | _=>rw [hact] at hxa;simp [MemAct.touch?] at hxa
    have:=this hlow;omega
theorem mq:Qd ([]:List (Ij X))=RU:=by
  funext i l
  apply propext;exact ⟨fun ⟨j,v,hv,_⟩=>(by cases hv),fun h=>h.elim⟩
theorem fM:OQ ([]:List (Ij X)) 0=fun g=>g=0:=by
  funext i
  apply propext;exact ⟨fun h=>h.elim id fun h=>h.elim id fun ⟨j,v,hv,_⟩=>(by cases hv),fun h=>.inl h⟩
theorem YB:KW ([]:List (Ij X)) 0=fun _=>False:=by
  funext i
  apply propext;exact ⟨fun ⟨h0,h⟩=>h.elim h0 fun ⟨j,v,hv,_⟩=>(by cases hv),fun h=>h.elim⟩
theorem UH:Ku ρ=bY (Il ρ ws):=by
  funext l
  apply propext;unfold Ku bY Il;constructor
  . rintro ⟨a,rfl,h⟩;exact ⟨a,rfl,by simp;exact h.symm⟩
  . rintro ⟨a,rfl,h⟩;exact ⟨a,rfl,by simp at h;exact h.symm⟩
theorem J0.begin {B:Nat->Bool}{n:Nat}(XQ:ρ.Bo=B)(Y0:ρ.Wg=W.heap.size)(hrun:g.status=.running)(hstep:∀ w,w.heap.size=ρ.Wg->stepG P true g w=.go g' { w with heap:=w.heap.push (wgBlock ρ.ty 0 0) } #[])(hcg:ρ.come≠ρ.gone)(hco:∃ k,W.heap[ρ.come]?=some (.chan 0 #[] false k k false))(hgo:∃ k,W.heap[ρ.gone]?=some (.chan 0 #[] false k k false))(bn:∀ b,M.Sh b->b≠ρ.Wg/\ρ.Bo b=false)(hlow:Fin.b0<=ρ.come/\Fin.b0<=ρ.gone)(hJ:∀ W',(∀ b,b < W.heap.size->W'.heap[b]?=W.heap[b]?)->W'.heap.size=W.heap.size+1->JW (S0 P Fin GR).base (.H7 M ρ [] 0 false n) g' W') :
    JW (S0 (X:=X) (Sg:=Sg) P Fin GR).base (.Ii B n) g W:=by
  intro w hw gs T sl q hg hn C Ahc;subst XQ;have hsz:=J6 hw;have hC':RI P (bY (Il ρ ([]:List (Ij X)))) q T gs w:=RI.rM (B':=fun b=>ρ.Bo b || b == ρ.Wg) C (b:=ρ.Wg) (by omega) (fun x h=>by simp [h]) (fun x h=>by simpa using h);obtain ⟨N,gs',a',w',sl',T',q',p1,p2,p3,p4,p5⟩:=Zf (sl:=sl) (D:=fun w w' es=>w.heap.size<=w'.heap.size/\es=#[]) (Stop:=fun a x=>a=g'/\x.heap=w.heap.push (wgBlock ρ.ty 0 0)/\x.os=w.os/\x.output=w.output) (fun w w' es ⟨h1,h2⟩=>⟨h1,by rw [h2];simp⟩)
    (.one hrun fun w₁ ⟨d,h₁⟩=>by subst h₁;exact ⟨g',_,#[],hstep _ (by show w.heap.size=_;omega),⟨by simp,rfl⟩,.stop fun w₂ ⟨d',h₂⟩=>by subst h₂;exact ⟨rfl,rfl,rfl,rfl⟩⟩) hg hC'
  obtain ⟨rfl,hh,hos,hou⟩:=p4 w' ⟨w'.drawn,rfl⟩;have hget:∀ b,b < w.heap.size->w'.heap[b]?=w.heap[b]?:=fun b hb=>by rw [hh,Array.getElem?_push];simp [Nat.ne_of_lt hb]
  have hwg:WgAt ρ.ty ρ.Wg w' 0 0:=by
    unfold WgAt;rw [hh,Y0,hsz]
    simp
  have hlt:∀ {b:Nat} {o:Obj},w.heap[b]?=some o->b < w.heap.size:=fun h=>(Array.getElem?_eq_some_iff.1 h).1;have hcw:∀ c:Nat,(∃ k,W.heap[c]?=some (Obj.chan 0 #[] false k k false))->∃ k,w'.heap[c]?=some (Obj.chan 0 #[] false k k false):=fun c ⟨k,h⟩=>by have:=UL hw h;exact ⟨k,by rw [hget _ (hlt this)];exact this⟩
  have hold:∀ b:Nat,ρ.Bo b=true->b≠ρ.Wg/\∃ c e f,w'.heap[b]?=some (Obj.cells c e f):=fun b hb=>by obtain ⟨c,e,f,hc⟩:=hw.2 b hb;have:=hlt hc;exact ⟨by omega,c,e,f,by rw [hget _ this];exact hc⟩
  have H:=RI.begin (ty:=ρ.ty) (K:=Kc ρ ([]:List (Ij X))) (fun _=>0) (fun c=>c=ρ.gone) p5 hwg;rw [← mq (X:=X),← fM (X:=X),← YB (X:=X),← UH] at H;have hs':J2 (Il ρ ([]:List (Ij X))) w' (GN (Il ρ ([]:List (Ij X))) w'):=⟨.refl _,⟨fun b hb=>?_,fun b hb=>?_⟩⟩
  . refine GR _ _ _ _ _ p1 ⟨hos,hou,by show w.heap.size<=w'.heap.size;rw [hh];simp,fun b o _ ho _=>by rw [show (crowd gs' w' sl').world=w' from rfl,hget b (hlt ho)];exact ho⟩ (hJ _ (fun b hb=>?_) (by simp [hh,hsz]) w' hs' gs' T' sl' _ _ _ p3 (p2.trans hn) ⟨?_,?_,?_,fun i st n c e=>(by cases e),?_,?_,?_,?_,⟨hcg,hcw _ hco⟩,fun _=>hcw _ hgo,bn,hold,rfl⟩ H ⟨?_,rfl,?_⟩ (H.J9.past.hears 0 (.inl rfl)) ⟨by omega,hlow.1,hlow.2,fun i v hv=>(by cases hv)⟩)
    . rw [IV hw,H8,H8,hget b (by omega)];have hb1:(b == ρ.Wg)=false:=by simp;omega
      have hb2:ownB ([]:List (Ij X)) b=false:=MO fun i v hv=>(by cases hv)
      show Option.map (fun o=>if ((ρ.Bo b || b == ρ.Wg)=true) then Oo o else dep (ownB ([]:List (Ij X)) b) o) _=_;rw [hb1,hb2,Bool.or_false];rfl
    all_goals (intro i;intros;simp_all)
  . simp only [Il,Bool.or_eq_true,beq_iff_eq] at hb;rcases hb with hb|hb
    . exact (hold b hb).2
    . rw [hb];exact Ko hwg
  . obtain ⟨j,u,hu,_⟩:=Lc.1 hb;cases hu
theorem OA.mem (C:OA M ρ P ws 0 role bd w):∀ g l,Qd ws g l->l.isMemory=true/\¬ Ku ρ l:=by
  rintro x l ⟨j,u,hu,Ki,ho,hs⟩;have key:∀ b,u.own b->∀ o,¬ Ku ρ (.cell ⟨b,o,none⟩):=fun b hb o=>by
    rintro ⟨a,ha,h⟩;cases ha
    obtain ⟨_,h1,h2,_⟩:=C.own j u hu b hb;rcases h with h|h
    . exact h1 h
    . rw [h2] at h;cases h
  have hi:=C.inside j u hu;rcases hs with rfl|rfl|rfl
  . exact ⟨rfl,key _ hi.1 _⟩
  . exact ⟨rfl,key _ hi.1 _⟩
  . exact ⟨rfl,key _ hi.2 _⟩
theorem S0.Ms (hw:J2 (Il ρ ws) w W){w₁:World}(h:Jc ρ.ty ρ.Wg w w₁):J2 (Il ρ ws) w₁ W:=by obtain ⟨⟨τ,d,rfl⟩,hR⟩:=hw;have ht:=h.turns (B:=Il ρ ws) Nr;exact ⟨⟨τ,d,by rw [ht.same];rfl⟩,ht.rows hR⟩
theorem OA.turns {Ia:Nat->Ik}{w₁:World}(C:OA M ρ P ws 0 role bd w)(hS:Same role Ia)(h:Jc ρ.ty ρ.Wg w w₁)(Y0:∃ c e f,w.heap[ρ.Wg]?=some (.cells c e f)):OA M ρ P ws 0 Ia bd w₁:=
  C.walk (B:=fun _=>true) hS (fun _ _ _ _ _=>rfl) (fun _ _=>rfl) (.RG h) Y0
theorem J0.mZ (hrun:g.status=.running)(hstep:∀ w,stepG P true g w=.go g' w #[mk .disable])(hJ:JW (S0 P Fin GR).base (.H7 M ρ ws ex true n) g' W):JW (S0 P Fin GR).base (.H7 M ρ ws ex false n) g W:=by
  intro w hw gs T sl role bd live hg hn C H hL hdf LW;obtain ⟨N,gs₁,w₁,d,sl₁,sl₂,T₁,Ic,Hr,p1,p2,p3,p4,p5,p6,p7,p8,p9,Rx⟩:=picked (h:=0) (sl:=sl) C.env hrun _ _ rfl rfl hg H;have hst:=hstep (w₁.at d);have hrt:=runT_crowd_go (P:=P) (sl:=sl₂) (i:=0) p4 hst;have H1:Held P ρ.ty ρ.Wg (Kc ρ ws) (Qd ws) bd (Ku ρ) (fun c=>c=ρ.gone) (QE (OQ ws 0) 0 true) (KW ws 0) 0 Ic Hr ex T₁ gs₁ (w₁.at d):=by obtain ⟨C,hs,_⟩:=id p5;exact ⟨⟨fun i g s m d hi hg e=>let ⟨a1,a2,a3,a4,a5⟩:=C.KR i g s m d hi hg e;⟨a1,a2,a3,fun z=>a4 z.1,a5⟩,C.seats,fun i st n e=>let ⟨a1,a2,a3,a4⟩:=C.seat i st n e;⟨a1,a2,⟨a3,fun z=>by subst z;exact hs st n e⟩,a4⟩,C.own,C.above,C.past.fewer fun g hg=>hg.1,C.keep,C.wg,C.few,C.one⟩,hs,p5.tight⟩
  obtain ⟨H',ha'⟩:=H1.mark C.env (fn:=g.frame.fn) (pos:=g.frame.place) (a':=g') (fun z=>z.2 rfl) p4 (m:=.disable) (.inl rfl);have KP:Deaf (T₁ ++ MemOp.ofEvents 0 g.frame.fn g.frame.place #[mk .disable]) 0=true.toNat:=by rw [Deaf_own,p9,hdf];rfl
  exact GR (N+1) _ _ _ _ (runNT_then p1 (by simp only [runNT,p2,hrt];rfl)) (.RG LW.wg p6) (hJ (w₁.at d) (S0.Ms hw p6) _ _ _ Ic bd Hr ha' (by simp [p3,hn]) (C.turns p7 p6 (Ko H.J9.wg)) H' (hL.keep C p8) KP LW)
theorem J0.en (hrun:g.status=.running)(hstep:∀ w,stepG P true g w=.go g' w #[mk .enable])(hJ:JW (S0 P Fin GR).base (.H7 M ρ ws ex false n) g' W):JW (S0 P Fin GR).base (.H7 M ρ ws ex true n) g W:=by
  intro w hw gs T sl role bd live hg hn C H hL hdf LW;obtain ⟨N,gs₁,w₁,d,sl₁,sl₂,T₁,Ic,Hr,p1,p2,p3,p4,p5,p6,p7,p8,p9,Rx⟩:=picked (h:=0) (sl:=sl) C.env hrun _ _ rfl rfl hg H;have hst:=hstep (w₁.at d);have hrt:=runT_crowd_go (P:=P) (sl:=sl₂) (i:=0) p4 hst;obtain ⟨H',ha'⟩:=p5.mark C.env (fn:=g.frame.fn) (pos:=g.frame.place) (a':=g') (fun z=>z.2 rfl) p4 (m:=.enable) (.inr rfl);have KP:Deaf (T₁ ++ MemOp.ofEvents 0 g.frame.fn g.frame.place #[mk .enable]) 0=false.toNat:=by rw [Deaf_own,p9,hdf];rfl
  have H2:Held P ρ.ty ρ.Wg (Kc ρ ws) (Qd ws) bd (Ku ρ) (fun c=>c=ρ.gone) (QE (OQ ws 0) 0 false) (KW ws 0) 0 Ic Hr ex (T₁ ++ MemOp.ofEvents 0 g.frame.fn g.frame.place #[mk .enable]) ((gs₁.map (woken P g g' (w₁.at d))).setIfInBounds 0 g') (w₁.at d):=by
    obtain ⟨C',hs,_⟩:=id H';have hM:∀ x,OQ ws 0 x->QE (OQ ws 0) 0 true x\/x=0:=fun x hx=>by
      by_cases e:x=0
      . exact .inr e
      . exact .inl ⟨hx,e⟩
    exact ⟨⟨fun i g s m d hi hg e=>let ⟨a1,a2,a3,a4,a5⟩:=C'.KR i g s m d hi hg e;⟨a1,a2,a3,fun z=>a4 ⟨z,hi⟩,a5⟩,C'.seats,fun i st n e=>let ⟨a1,a2,a3,a4⟩:=C'.seat i st n e;⟨a1,a2,a3.1,a4⟩,C'.own,C'.above,(C'.past.join KP C.mem).fewer hM,C'.keep,C'.wg,C'.few,C'.one⟩,hs,p5.tight⟩
  exact GR (N+1) _ _ _ _ (runNT_then p1 (by simp only [runNT,p2,hrt];rfl)) (.RG LW.wg p6) (hJ (w₁.at d) (S0.Ms hw p6) _ _ _ Ic bd Hr ha' (by simp [p3,hn]) (C.turns p7 p6 (Ko H.J9.wg)) H2 (hL.keep C p8) KP LW)
theorem J0.add {g':Nat->Goroutine}(hrun:g.status=.running)(hcap:n+ex+1 < 2147483648)(hstep:∀ (w:World) (v:Nat),v+1 < 2147483648->WgAt ρ.ty ρ.Wg w (v * KK) 0->stepG P true g w=.go (g' v) (w.setCell (stA ρ.Wg) (.int .u64 ((v+1:Nat) * KK))) #[rd (stA ρ.Wg),wr (stA ρ.Wg)])(hJ:∀ v,v+1 < 2147483648->JW (S0 P Fin GR).base (.H7 M ρ ws (ex+1) true n) (g' v) W):JW (S0 P Fin GR).base (.H7 M ρ ws ex true n) g W:=by
  intro w hw gs T sl role bd live hg hn C H hL hdf LW;obtain ⟨N,gs₁,w₁,d,sl₁,sl₂,T₁,Ic,Hr,p1,p2,p3,p4,p5,p6,p7,p8,p9,Rx⟩:=picked (h:=0) (sl:=sl) C.env hrun _ _ rfl rfl hg H;have hsum:sumTo gs₁.size Hr<=gs₁.size:=by have:=Go.ConcN.sumTo_le (f:=Hr) (c:=1) (j:=gs₁.size) fun i _=>p5.J9.one i;omega
  have hv:sumTo gs₁.size Hr+ex+1 < 2147483648:=by omega
  have hst:=hstep _ _ hv p5.J9.wg;have hrt:=runT_crowd_go (P:=P) (sl:=sl₂) (i:=0) p4 hst;obtain ⟨H',ha'⟩:=p5.count (fn:=g.frame.fn) (pos:=g.frame.place) (a':=g' (sumTo gs₁.size Hr+ex)) C.env (fun z=>z.2 rfl) p4 hv;have KP:Deaf (T₁ ++ MemOp.ofEvents 0 g.frame.fn g.frame.place #[rd (stA ρ.Wg),wr (stA ρ.Wg)]) 0=true.toNat:=by rw [Deaf_own,p9,hdf];rfl
  have hr2:Jc ρ.ty ρ.Wg w ((w₁.at d).setCell (stA ρ.Wg) (.int .u64 ((sumTo gs₁.size Hr+ex+1:Nat) * KK))):=p6.trans (Jc.Tc (.inr ⟨_,rfl⟩) ⟨_,_,H'.J9.wg⟩ ⟨_,_,p5.J9.wg⟩);exact GR (N+1) _ _ _ _ (runNT_then p1 (by simp only [runNT,p2,hrt];rfl)) (.RG LW.wg hr2) (hJ _ hv _ (S0.Ms hw hr2) _ _ _ Ic bd Hr ha' (by simp [p3,hn]) (C.turns p7 hr2 (Ko H.J9.wg)) H' (hL.keep C p8) KP LW)
end
end
section
section
variable {X Sg:Type}
variable {P:Program}{Fin:Iw}{GR:Ig P Fin}
variable {M:Md X Sg}{ρ:Rn}{ws:List (Ij X)}{role:Nat->Ik}{bd:Nat->Nat}{w W:World}{ex n:Nat}{df:Bool}{g g':Goroutine}
def G0.live:G0 X Sg->World->Prop
  | .Ii _ _=>fun _=>True
  | .H7 _ ρ _ _ _ _=>WgLive ρ.ty ρ.Wg
theorem J0.idle (hrun:g.status=.running)(hstep:∀ w,WgLive ρ.ty ρ.Wg w->stepG P true g w=.go g' w #[])(hJ:JW (S0 P Fin GR).base (.H7 M ρ ws ex df n) g' W):JW (S0 P Fin GR).base (.H7 M ρ ws ex df n) g W:=by
  intro w hw gs T sl role bd live hg hn C H hL hdf LW;obtain ⟨N,gs₁,w₁,d,sl₁,sl₂,T₁,Ic,Hr,p1,p2,p3,p4,p5,p6,p7,p8,p9,Rx⟩:=picked (h:=0) (sl:=sl) C.env hrun _ _ rfl rfl hg H;have hst:=hstep (w₁.at d) ⟨_,_,p5.J9.wg⟩;have hrt:=runT_crowd_go (P:=P) (sl:=sl₂) (i:=0) p4 hst;have hd:Zv (Kc ρ ws) (Qd ws) (Ku ρ) (fun _=>True) ρ.Wg 0 (w₁.at d) (w₁.at d) #[]:=⟨fun _ _ h=>h,fun _ _ _ h=>h,rfl,Nat.le_refl _,by simp⟩
  obtain ⟨H',ha'⟩:=p5.own (fn:=g.frame.fn) (pos:=g.frame.place) (a':=g') (fun _ _ _ _ _ _=>trivial) p4 hd;have KP:=((KS (h:=0) (fn:=g.frame.fn) (pos:=g.frame.place) hd.evs).2.2.2 T₁).trans (p9.trans hdf);exact GR (N+1) _ _ _ _ (runNT_then p1 (by simp only [runNT,p2,hrt];rfl)) (.RG LW.wg p6) (hJ (w₁.at d) (S0.Ms hw p6) _ _ _ Ic bd Hr ha' (by simp [p3,hn]) (C.turns p7 p6 (Ko H.J9.wg)) H' (hL.keep C p8) KP LW)
noncomputable def Y9 (P:Program)(Fin:Iw)(GR:Ig P Fin):Sn P true (G0 X Sg) where
  B:=G0.B
  J:=J0 P Fin
  live:=G0.live
  idle:=fun γ g g' W hs h hJ=>by
    cases γ with
    | Ii B=>exact JW.silent (S:=(S0 (X:=X) (Sg:=Sg) P Fin GR).base) hs (fun w=>h w trivial) hJ
    | H7 M ρ ws ex df n=>exact J0.idle (GR:=GR) hs h hJ
structure Says (Wg:Nat)(m:Mark):Prop where
  mZ:m≠.disable
  en:m≠.enable
  low:∀ n,Wg < n->(MemAct.ofEvent (mk m)).low n
  touch:∀ b,(MemAct.ofEvent (mk m)).touch?=some b->(∃ a:Addr,b.loc=.cell a/\a.block=Wg)/\b.kind≠.plain
theorem bN (Wg o:Nat):Says Wg (.read ⟨Wg,o,none⟩):=⟨by simp,by simp,fun n h=>h,fun b hb=>by simp only [mk,MemAct.ofEvent,MemAct.touch?,Option.some.injEq] at hb;subst hb;exact ⟨⟨_,rfl,rfl⟩,by simp⟩⟩
theorem X4 (Wg o:Nat):Says Wg (.write ⟨Wg,o,none⟩):=⟨by simp,by simp,fun n h=>h,fun b hb=>by simp only [mk,MemAct.ofEvent,MemAct.touch?,Option.some.injEq] at hb;subst hb;exact ⟨⟨_,rfl,rfl⟩,by simp⟩⟩
theorem Ql (Wg o:Nat):Says Wg (.acquire ⟨Wg,o,none⟩):=⟨by simp,by simp,fun n h=>h,fun b hb=>by simp [mk,MemAct.ofEvent,MemAct.touch?] at hb⟩
theorem OA.pE (C:OA M ρ P ws 0 role bd w){x:Nat}{l:Loc}(h:Qd ws x l){a:Addr}(e:l=.cell a):a.block≠ρ.Wg:=by obtain ⟨_,h2⟩:=C.mem x l h;intro hb;exact h2 ⟨a,e,.inl hb⟩
theorem J0.said {m:Mark}(hm:Says ρ.Wg m)(hrun:g.status=.running)(hstep:∀ w,WgLive ρ.ty ρ.Wg w->stepG P true g w=.go g' w #[mk m])(hJ:JW (S0 P Fin GR).base (.H7 M ρ ws ex df n) g' W):JW (S0 P Fin GR).base (.H7 M ρ ws ex df n) g W:=by
  intro w hw gs T sl role bd live hg hn C H hL hdf LW;obtain ⟨N,gs₁,w₁,d,sl₁,sl₂,T₁,Ic,Hr,p1,p2,p3,p4,p5,p6,p7,p8,p9,Rx⟩:=picked (h:=0) (sl:=sl) C.env hrun _ _ rfl rfl hg H;have hst:=hstep (w₁.at d) ⟨_,_,p5.J9.wg⟩;have hrt:=runT_crowd_go (P:=P) (sl:=sl₂) (i:=0) p4 hst;have hlow:=p5.J9.Ww;have hd:Zv (Kc ρ ws) (Qd ws) (Ku ρ) (fun _=>True) ρ.Wg 0 (w₁.at d) (w₁.at d) #[mk m]:=⟨fun _ _ h=>h,fun _ _ _ h=>h,rfl,Nat.le_refl _,fun e he=>by
    simp only [List.mem_toArray,List.mem_cons,List.not_mem_nil,or_false] at he;subst he;refine ⟨fun b hb=>?_,fun h=>?_,fun h=>?_,hm.low _ hlow⟩
    . obtain ⟨⟨a,h1,h2⟩,h3⟩:=hm.touch b hb;exact ⟨fun x _ hS=>absurd h2 (C.pE hS h1),fun _=>h3⟩
    . simp only [mk,Loc.mark.injEq] at h;exact hm.mZ h
    . simp only [mk,Loc.mark.injEq] at h;exact hm.en h⟩
  obtain ⟨H',ha'⟩:=p5.own (fn:=g.frame.fn) (pos:=g.frame.place) (a':=g') (fun _ _ _ _ _ _=>trivial) p4 hd;have KP:=((KS (h:=0) (fn:=g.frame.fn) (pos:=g.frame.place) hd.evs).2.2.2 T₁).trans (p9.trans hdf);exact GR (N+1) _ _ _ _ (runNT_then p1 (by simp only [runNT,p2,hrt];rfl)) (.RG LW.wg p6) (hJ (w₁.at d) (S0.Ms hw p6) _ _ _ Ic bd Hr ha' (by simp [p3,hn]) (C.turns p7 p6 (Ko H.J9.wg)) H' (hL.keep C p8) KP LW)
end
end
end Go.LK
namespace Go.LK
open Go Go.Conc Go.LT Go.LC Go.Conc.Lib Go.ConcR.Gen Go.RowKit
open Go.ConcN (WgLive sumTo upd sumTo_upd upd_ne upd_same)
open Go.ConcR (KK wgBlock WgAt stA smA rd wr mk)
section
section
variable {X Sg:Type}
variable {P:Program}{L:WgLink}{Fin:Iw}{GR:Ig P Fin}
variable {M:Md X Sg}{ρ:Rn}{ws:List (Ij X)}{W:World}{ex n:Nat}{b₀:Frame}{a₀:Act}{ops₀:Array Oper}{i₀:Nat}{rest₀:List Nat}{k₀:List Item}{cs:List Frame}
theorem bub {S:Sn P true (G0 X Sg)}(H:WgLib P L){γ:G0 X Sg}{b:Frame}{a:Act}{k:List Item}{ops:Array Oper}{i:Nat}{rest:List Nat}{o:Oper}{aSx:Array Operand}{ats:Array TypeId}(ho:ops[i]?=some o)(hw:Region.wanted o (yielded ops a.tmps)=true)(hk:b.kind≠.early)(hop:o.op=.call { callee:=.value (.func L.inBubble),args:=aSx,argTypes:=ats })(h:JL S γ (G (b.at (a.put o.dst (.bool false)) (.inRegion ops rest :: k)) cs) W):JL S γ (G (b.at a (.inRegion ops (i :: rest) :: k)) cs) W:=
  JL.pure (.bool false) ho hw hk hop H.f_inBubble (x_inBubble_n L) (x_inBubble_b L) (x_inBubble_x L) (x_inBubble_f L) h
theorem add1 (H:WgLib P L)(hty:ρ.ty=L.tWg)(hcap:n+ex+1 < 2147483648)(hT:JL (Y9 (X:=X) (Sg:=Sg) P Fin GR) (.H7 M ρ ws (ex+1) false n) (G (b₀.at (a₀.put ((ops₀[i₀]?).bind (·.dst)) (.tuple #[])) (.inRegion ops₀ rest₀ :: k₀)) cs) W) :
    JL (Y9 (X:=X) (Sg:=Sg) P Fin GR) (.H7 M ρ ws ex false n) (G ((base L.add).at ⟨#[.pointer (some ⟨ρ.Wg,0,none⟩),.int .i64 1] ++ Array.replicate 115 undef,[]⟩ [.code (body_add L)]) (b₀.at a₀ (.inRegion ops₀ (i₀ :: rest₀) :: k₀) :: cs)) W:=by
  lib_facts
  simp only [body_add,addFn,Option.getD_some];walk_nrm;refine GY stepG_seq ?_;refine JL.Iq rfl ?_;refine GY stepG_seq ?_;refine GY stepG_seq ?_;refine Hu fun _ hkk=>?_;iterate 2 (refine Hf ?_;walk_nrm)
  refine Hw ?_;cases hkk;refine JL.Ho rfl ?_;refine GY stepG_skip ?_;refine GY stepG_seq ?_;refine Hu fun _ hkk=>?_;refine J0.mZ (GR:=GR) rfl (fun w=>stepG_mark0 .disable (by simp) rfl rfl (by k_ne) rfl H.f_disable (x_disable_n L) (x_disable_b L) (x_disable_x L) (x_disable_f L)) ?_;show JL (Y9 (X:=X) (Sg:=Sg) P Fin GR) _ _ _;walk_nrm;refine Hw ?_;cases hkk;refine Hu fun _ hkk=>?_;refine GY (stepG_defer rfl rfl (by first|exact iO|exact fO|decide|assumption) rfl) ?_;walk_nrm;refine Hw ?_;cases hkk;refine GY stepG_seq ?_;refine Hu fun _ hkk=>?_
  (refine Hf ?_;walk_nrm)
  refine Hw ?_;cases hkk;refine GY stepG_seq ?_;refine GY stepG_seq ?_;refine Hu fun _ hkk=>?_;refine bub H rfl rfl (by k_ne) rfl ?_;walk_nrm;refine Hw ?_;cases hkk;refine JL.Ho rfl ?_;refine GY stepG_skip ?_;refine GY stepG_seq ?_;refine Hu fun _ hkk=>?_;iterate 6 (refine Hf ?_;walk_nrm)
  refine JL.call rfl rfl (by first|exact iO|exact fO|decide|assumption) rfl H.f_uAdd (nm_uAdd L) rfl ?_;walk_nrm;simp only [uAddFn];walk_nrm;refine GY stepG_seq ?_;refine Hu fun _ hkk=>?_
  (refine Hf ?_;walk_nrm)
  refine Hw ?_;cases hkk;refine GY stepG_seq ?_;refine Hu fun _ hkk=>?_;iterate 4 (refine Hf ?_;walk_nrm)
  apply J0.add (GR:=GR) rfl hcap
  . intro w v hv hw;have e0:IntKind.u64.wrap ((v:Int) * KK+4294967296)=((v+1:Nat):Int) * KK:=by rw [IntKind.wrap_u64];simp only [KK];omega
    refine (stepG_add_atomic rfl rfl (by k_ne) rfl H.f_addU64 (x_addU64_n L) (x_addU64_b L) (x_addU64_x L) .u64 (x_addU64_f L) rfl rfl (show w.cell? (stA ρ.Wg)=_ from hw.cellSt) (hw.thaw 0)).trans ?_;rw [e0];rfl
  intro v hv;show JL (Y9 (X:=X) (Sg:=Sg) P Fin GR) _ _ _;have hmk:∀ g':Goroutine,JL (Y9 (X:=X) (Sg:=Sg) P Fin GR) (.H7 M ρ ws (ex+1) false n) g' W->∀ g:Goroutine,g.status=.running->(∀ w,stepG P true g w=.go g' w #[mk .enable])->JL (Y9 (X:=X) (Sg:=Sg) P Fin GR) (.H7 M ρ ws (ex+1) true n) g W:=fun g' hJ g hg h=>J0.en (GR:=GR) hg h hJ;clear hcap;rcases Nat.eq_zero_or_pos v with rfl|hvp
  . have z:(((0+1:Nat):Int)) * KK=4294967296:=by simp [KK]
    simp only [z];walk_nrm
    (refine Hf ?_;walk_nrm)
    refine Hw ?_;cases hkk;refine GY stepG_ret' ?_;refine JL.leave1 rfl rfl H.f_uAdd rfl ?_;walk_nrm
    (refine Hf ?_;walk_nrm)
    refine Hw ?_;cases hkk;refine GY stepG_seq ?_;refine GY stepG_seq ?_;refine Hu fun _ hkk=>?_;iterate 4 (refine Hf ?_;walk_nrm)
    refine GY (stepG_unwanted rfl rfl) ?_;walk_nrm;refine GY (stepG_unwanted rfl rfl) ?_;walk_nrm
    (refine Hf ?_;walk_nrm)
    refine Hw ?_;cases hkk;refine JL.Ho rfl ?_;refine GY stepG_skip ?_;refine GY stepG_seq ?_;refine Hu fun _ hkk=>?_;iterate 4 (refine Hf ?_;walk_nrm)
    refine Hw ?_;cases hkk;refine GY stepG_seq ?_;refine Hu fun _ hkk=>?_;iterate 4 (refine Hf ?_;walk_nrm)
    refine Hw ?_;cases hkk;refine GY stepG_seq ?_;refine GY stepG_seq ?_;refine Hu fun _ hkk=>?_;iterate 10 (refine Hf ?_;walk_nrm)
    refine Hw ?_;cases hkk;refine JL.Iq rfl ?_;refine Hu fun _ hkk=>?_;iterate 3 (refine Hf ?_;walk_nrm)
    refine JL.value (.pointer (some ⟨ρ.Wg,1,none⟩)) rfl rfl (by k_ne) (fun w hl=>by
      have hcv:=run_convert_to_unsafe (P:=P) H.underlying_tPU32 H.underlying_tUP H.room_tU32 (ConcN.Gen.WgLive.cell1 (show WgLive ρ.ty ρ.Wg w from hl)).choose_spec;go_simp) (fun w hl e he=>by
      have hce:=fun es=>events_convert_to_unsafe (P:=P) H.underlying_tPU32 H.underlying_tUP H.room_tU32 (ConcN.Gen.WgLive.cell1 (show WgLive ρ.ty ρ.Wg w from hl)).choose_spec es;simp [go_sem,hce] at he) ?_
    walk_nrm;refine J0.said (GR:=GR) (bN ρ.Wg 1) rfl (fun w _=>stepG_markAt .read (by simp) rfl rfl (by k_ne) rfl H.f_raceRead (x_raceRead_n L) (x_raceRead_b L) (x_raceRead_x L) (x_raceRead_f L) (ad:=⟨ρ.Wg,1,none⟩) (by simp [Act.eval])) ?_;show JL (Y9 (X:=X) (Sg:=Sg) P Fin GR) _ _ _;walk_nrm;refine Hw ?_;cases hkk;refine GY stepG_seq ?_;refine GY stepG_seq ?_;refine Hu fun _ hkk=>?_;iterate 2 (refine Hf ?_;walk_nrm)
    refine Hw ?_;cases hkk;refine JL.Ho rfl ?_;refine GY stepG_skip ?_;refine GY stepG_seq ?_;refine GY stepG_seq ?_;refine Hu fun _ hkk=>?_;iterate 3 (refine Hf ?_;walk_nrm)
    refine GY (stepG_unwanted rfl rfl) ?_;walk_nrm;refine GY (stepG_unwanted rfl rfl) ?_;walk_nrm;iterate 2 (refine Hf ?_;walk_nrm)
    refine GY (stepG_unwanted rfl rfl) ?_;walk_nrm;refine GY (stepG_unwanted rfl rfl) ?_;walk_nrm;refine GY (stepG_unwanted rfl rfl) ?_;walk_nrm;refine GY (stepG_unwanted rfl rfl) ?_;walk_nrm
    (refine Hf ?_;walk_nrm)
    refine Hw ?_;cases hkk;refine JL.Ho rfl ?_;refine GY stepG_skip ?_;refine GY stepG_seq ?_;refine GY stepG_seq ?_;refine Hu fun _ hkk=>?_;iterate 3 (refine Hf ?_;walk_nrm)
    refine GY (stepG_unwanted rfl rfl) ?_;walk_nrm;refine GY (stepG_unwanted rfl rfl) ?_;walk_nrm
    (refine Hf ?_;walk_nrm)
    refine Hw ?_;cases hkk;refine JL.Iq rfl ?_;refine GY stepG_ret' ?_;refine hmk _ ?_ _ rfl fun w=>stepG_unwind_entry (v:=.tuple #[]) (evs:=#[mk .enable]) rfl H.f_enable (x_enable_n L) (x_enable_b L) (x_enable_x L) (x_enable_f L) (by simp [Extern.Race.none_]) (by simp [mk]) (by simp [mk]);refine JL.leave0 rfl rfl H.f_add rfl ?_;exact hT
  . obtain ⟨V,hV⟩:∃ V:Int,V=(v:Int)+1:=⟨_,rfl⟩
    obtain ⟨S,hS⟩:∃ S:Int,S=V * KK:=⟨_,rfl⟩
    have z:(((v+1:Nat):Int)) * KK=S:=by rw [hS,hV];simp
    simp only [z];have a1:S / 4294967296=V:=by rw [hS];simp only [KK];omega
    have b1:bits .and .u64 S 2147483648=0:=by rw [hS,hV];have:=ConcN.st_flag (v+1) 0 (by omega) (by omega);simpa [KK] using this
    have b2:bits .and .u64 S 2147483647=0:=by rw [hS,hV];have:=ConcN.st_waiters (v+1) 0 (by omega) (by omega);simpa [KK] using this
    have c1:IntKind.i32.wrap V=V:=by rw [IntKind.wrap_i32];omega
    have hV1:1 < V:=by omega
    have hV2:V < 2147483648:=by omega
    have q1:(V == 1)=false:=by simp;omega
    have q2:decide (V=1)=false:=decide_eq_false (by omega);have q3:decide (V < 0)=false:=decide_eq_false (by omega);have q4:decide (0 < V)=true:=decide_eq_true (by omega);have q5:(V == 0)=false:=by simp;omega
    have q6:decide (V=0)=false:=decide_eq_false (by omega);clear hS hV z;walk_nrm
    (refine Hf ?_;walk_nrm)
    refine Hw ?_;cases hkk;refine GY stepG_ret' ?_;refine JL.leave1 rfl rfl H.f_uAdd rfl ?_;walk_nrm
    (refine Hf ?_;walk_nrm)
    refine Hw ?_;cases hkk;refine GY stepG_seq ?_;refine GY stepG_seq ?_;refine Hu fun _ hkk=>?_;iterate 4 (refine Hf ?_;walk_nrm)
    refine GY (stepG_unwanted rfl rfl) ?_;walk_nrm;refine GY (stepG_unwanted rfl rfl) ?_;walk_nrm
    (refine Hf ?_;walk_nrm)
    refine Hw ?_;cases hkk;refine JL.Ho rfl ?_;refine GY stepG_skip ?_;refine GY stepG_seq ?_;refine Hu fun _ hkk=>?_;iterate 4 (refine Hf ?_;walk_nrm)
    refine Hw ?_;cases hkk;refine GY stepG_seq ?_;refine Hu fun _ hkk=>?_;iterate 4 (refine Hf ?_;walk_nrm)
    refine Hw ?_;cases hkk;refine GY stepG_seq ?_;refine GY stepG_seq ?_;refine Hu fun _ hkk=>?_;iterate 10 (refine Hf ?_;walk_nrm)
    refine Hw ?_;cases hkk;refine JL.Ho rfl ?_;refine GY stepG_skip ?_;refine GY stepG_seq ?_;refine GY stepG_seq ?_;refine Hu fun _ hkk=>?_;iterate 2 (refine Hf ?_;walk_nrm)
    refine Hw ?_;cases hkk;refine JL.Ho rfl ?_;refine GY stepG_skip ?_;refine GY stepG_seq ?_;refine GY stepG_seq ?_;refine Hu fun _ hkk=>?_;iterate 3 (refine Hf ?_;walk_nrm)
    refine GY (stepG_unwanted rfl rfl) ?_;walk_nrm;refine GY (stepG_unwanted rfl rfl) ?_;walk_nrm;iterate 2 (refine Hf ?_;walk_nrm)
    refine GY (stepG_unwanted rfl rfl) ?_;walk_nrm;refine GY (stepG_unwanted rfl rfl) ?_;walk_nrm;refine GY (stepG_unwanted rfl rfl) ?_;walk_nrm;refine GY (stepG_unwanted rfl rfl) ?_;walk_nrm
    (refine Hf ?_;walk_nrm)
    refine Hw ?_;cases hkk;refine JL.Ho rfl ?_;refine GY stepG_skip ?_;refine GY stepG_seq ?_;refine GY stepG_seq ?_;refine Hu fun _ hkk=>?_;iterate 3 (refine Hf ?_;walk_nrm)
    refine GY (stepG_unwanted rfl rfl) ?_;walk_nrm;refine GY (stepG_unwanted rfl rfl) ?_;walk_nrm
    (refine Hf ?_;walk_nrm)
    refine Hw ?_;cases hkk;refine JL.Iq rfl ?_;refine GY stepG_ret' ?_;refine hmk _ ?_ _ rfl fun w=>stepG_unwind_entry (v:=.tuple #[]) (evs:=#[mk .enable]) rfl H.f_enable (x_enable_n L) (x_enable_b L) (x_enable_x L) (x_enable_f L) (by simp [Extern.Race.none_]) (by simp [mk]) (by simp [mk]);refine JL.leave0 rfl rfl H.f_add rfl ?_;exact hT
end
end
end Go.LK
namespace Go.LK
open Go Go.Conc Go.LT Go.LC
open Go.ConcN (WgLive sumTo upd sumTo_upd upd_ne upd_same)
open Go.ConcR (KK wgBlock WgAt stA smA rd wr mk)
section
inductive WP | loop (v:Nat) | seen (v:Nat) | sem | last | deaf | hear
section
variable {X Sg:Type}
variable {P:Program}{Fin:Iw}{GR:Ig P Fin}
variable {M:Md X Sg}{ρ:Rn}{ws:List (Ij X)}{role:Nat->Ik}{bd:Nat->Nat}{w W:World}{ex n:Nat}{g g':Goroutine}
def DW (ρ:Rn)(ws:List (Ij X))(w w':World)(es:Array Event):Prop:=DK (Il ρ ws) w w' es\/(w'=w/\ρ.Wg < w.heap.size/\∃ m,Says ρ.Wg m/\es=#[mk m])
def wE (P:Program)(Fin:Iw)(X Sg:Type)(ρ:Rn)(w0:World)(n _:Nat)(g:Goroutine)(w:World):Prop:=QD Fin.b0 w0 w/\J0 (X:=X) (Sg:=Sg) P Fin (.Ii (fun b=>ρ.Bo b || b == ρ.Wg) n) g w
def wm (P:Program)(Fin:Iw)(X Sg:Type)(ρ:Rn)(ws:List (Ij X))(w0:World)(n:Nat):WP->Goroutine->World->Prop
  | .loop v,g,w=>JK P ρ.ty ρ.Wg n (DW ρ ws) (wE P Fin X Sg ρ w0 n) (.loop v) g w
  | .seen v,g,w=>JK P ρ.ty ρ.Wg n (DW ρ ws) (wE P Fin X Sg ρ w0 n) (.seen v) g w
  | .sem,g,w=>JK P ρ.ty ρ.Wg n (DW ρ ws) (wE P Fin X Sg ρ w0 n) .sem g w
  | .last,g,w=>JK P ρ.ty ρ.Wg n (DW ρ ws) (wE P Fin X Sg ρ w0 n) .last g w
  | .deaf,g,w=>Lu P true ρ.ty ρ.Wg n (DW ρ ws) (wE P Fin X Sg ρ w0 n) true 0 g w
  | .hear,g,w=>Lu P true ρ.ty ρ.Wg n (DW ρ ws) (wE P Fin X Sg ρ w0 n) false 0 g w
theorem wm.step {p:WP}{w0:World}(hs:g.status=.running)(h:∀ w₁,Jc ρ.ty ρ.Wg w w₁->∃ g' w' es,stepG P true g w₁=.go g' w' es/\DW ρ ws w₁ w' es)(k:∀ w₁ g' w' es,Jc ρ.ty ρ.Wg w w₁->stepG P true g w₁=.go g' w' es->wm P Fin X Sg ρ ws w0 n p g' w'):wm P Fin X Sg ρ ws w0 n p g w:=by
  cases p with
  | loop v=>exact JK.step hs h k
  | seen v=>exact JK.step hs h k
  | sem=>exact JK.step hs h k
  | last=>exact JK.step hs h k
  | deaf=>exact Lu.step hs h k
  | hear=>exact Lu.step hs h k
noncomputable def Vn (P:Program)(Fin:Iw)(X Sg:Type)(ρ:Rn)(ws:List (Ij X))(n:Nat):Sn P true WP where
  B:=fun _=>Il ρ ws
  J:=fun p g w=>∀ w0,Fin.b0<=ρ.Wg->QD Fin.b0 w0 w->WgLive ρ.ty ρ.Wg w->wm P Fin X Sg ρ ws w0 n p g w
  live:=fun _=>WgLive ρ.ty ρ.Wg
  idle:=fun p g g' W hs h hJ w hw w0 hb0 hf hl=>wm.step hs (fun w₁ h₁=>⟨g',w₁,#[],h w₁ (h₁.live hl),.inl ⟨Kept.refl _ _,by simp⟩⟩) fun w₁ g'' w' es h₁ e=>by
    rw [h w₁ (h₁.live hl)] at e;cases e
    exact hJ w₁ (S0.Ms hw h₁) w0 hb0 (hf.trans (.RG hb0 h₁)) (h₁.live hl)
section
variable {p:WP}
theorem JT.said {m:Mark}(hm:Says ρ.Wg m)(hs:g.status=.running)(h:∀ w,WgLive ρ.ty ρ.Wg w->stepG P true g w=.go g' w #[mk m])(hJ:JL (Vn P Fin X Sg ρ ws n) p g' W):JL (Vn P Fin X Sg ρ ws n) p g W:=fun w hw w0 hb0 hf hl=>
  wm.step hs (fun w₁ h₁=>⟨g',w₁,_,h w₁ (h₁.live hl),.inr ⟨rfl,(by obtain ⟨st,sm,hx⟩:=h₁.live hl;exact (Array.getElem?_eq_some_iff.1 hx).1),m,hm,rfl⟩⟩) fun w₁ g'' w' es h₁ e=>by
    rw [h w₁ (h₁.live hl)] at e;cases e
    exact hJ w₁ (S0.Ms hw h₁) w0 hb0 (hf.trans (.RG hb0 h₁)) (h₁.live hl)
theorem JT.load {v:Nat}{g':Nat->Goroutine}(hs:g.status=.running)(h:∀ (w:World) (v':Nat),v' < 2147483648->WgAt ρ.ty ρ.Wg w (v' * KK) 0->stepG P true g w=.go (g' v') w #[rd (stA ρ.Wg)])(h0:JL (Vn P Fin X Sg ρ ws n) .deaf (g' 0) W)(h1:∀ v',v'<=v->v'≠0->v' < 2147483648->JL (Vn P Fin X Sg ρ ws n) (.seen v') (g' v') W):JL (Vn P Fin X Sg ρ ws n) (.loop v) g W:=fun w hw w0 hb0 hf hl=>
  JK.load hs (fun w₁ v' h₁ _ hv hwg=>⟨_,h w₁ v' hv hwg⟩)
    (fun w₁ g'' h₁ hwg e=>by
      have:=h w₁ 0 (by omega) (by simpa using hwg);rw [this] at e;cases e
      exact h0 w₁ (S0.Ms hw h₁) w0 hb0 (hf.trans (.RG hb0 h₁)) (h₁.live hl))
    (fun w₁ v' g'' h₁ hle hne hv hwg e=>by
      rw [h w₁ v' hv hwg] at e;cases e
      exact h1 v' hle hne hv w₁ (S0.Ms hw h₁) w0 hb0 (hf.trans (.RG hb0 h₁)) (h₁.live hl))
theorem JT.cas {v:Nat}{gh gm:Goroutine}(hs:g.status=.running)(hv:v≠0)(h:∀ w,WgAt ρ.ty ρ.Wg w (v * KK) 0->stepG P true g w=.go gh (w.setCell (stA ρ.Wg) (.int .u64 (v * KK+1))) #[rd (stA ρ.Wg),wr (stA ρ.Wg)])(m:∀ (w:World) (v':Nat),v' < v->WgAt ρ.ty ρ.Wg w (v' * KK) 0->stepG P true g w=.go gm w #[rd (stA ρ.Wg)])(kh:JL (Vn P Fin X Sg ρ ws n) .sem gh W)(km:∀ v',v' < v->JL (Vn P Fin X Sg ρ ws n) (.loop v') gm W):JL (Vn P Fin X Sg ρ ws n) (.seen v) g W:=fun w hw w0 hb0 hf hl=>
  JK.cas hs hv (fun w₁ _ hwg=>⟨gh,h w₁ hwg⟩)
    (fun w₁ g'' h₁ hwg e=>by
      rw [h w₁ hwg] at e;cases e
      have hl2:WgLive ρ.ty ρ.Wg (w₁.setCell (stA ρ.Wg) (.int .u64 (v * KK+1))):=⟨_,_,hwg.setSt _⟩
      have hr:=h₁.trans (Jc.Tc (.inr ⟨_,rfl⟩) hl2 (h₁.live hl));exact kh _ (S0.Ms hw hr) w0 hb0 (hf.trans (.RG hb0 hr)) hl2)
    (fun w₁ v' _ hlt hwg=>⟨gm,m w₁ v' hlt hwg⟩)
    (fun w₁ v' g'' h₁ hlt hwg e=>by
      rw [m w₁ v' hlt hwg] at e;cases e
      exact km v' hlt w₁ (S0.Ms hw h₁) w0 hb0 (hf.trans (.RG hb0 h₁)) (h₁.live hl))
theorem WgAt.setSm {ty:TypeId}{Wg:Nat}{w:World}{st sm:Int}(h:WgAt ty Wg w st sm)(v:Int):WgAt ty Wg (w.setCell (smA Wg) (.int .u32 v)) st v:=by unfold WgAt wgBlock at h ⊢;simp [World.setCell,smA,Array.getElem?_modify,h]
theorem aU {ty:TypeId}{Wg:Nat}{w:World}{st sm:Int}(h:WgAt ty Wg w st sm)(v:Int):Jc ty Wg w (w.setCell (smA Wg) (.int .u32 v)):=
  ⟨rfl,rfl,rfl,by simp [World.setCell],fun b hb=>by simp [World.setCell,smA,Array.getElem?_modify,hb.symm],fun _=>⟨_,_,WgAt.setSm h v⟩,.inl ⟨_,_,h⟩⟩
theorem JT.acq (hs:g.status=.running)(ho:g.offers=none)(hb:∀ w,(∃ st,WgAt ρ.ty ρ.Wg w st 0)->stepG P true g w=.go { g with status:=.blocked } w #[])(h:∀ w,WgAt ρ.ty ρ.Wg w 0 1->stepG P true g w=.go g' (w.setCell (smA ρ.Wg) (.int .u32 0)) (semEvents (smA ρ.Wg)))(k:JL (Vn P Fin X Sg ρ ws n) .last g' W):JL (Vn P Fin X Sg ρ ws n) .sem g W:=fun w hw w0 hb0 hf hl=>
  JK.acq hs ho (fun w₁ _ hx=>hb w₁ hx) (fun w₁ _ hwg=>⟨g',h w₁ hwg⟩)
    (fun w₁ g'' h₁ hwg e=>by
      rw [h w₁ hwg] at e;cases e
      have hr:=h₁.trans (aU hwg 0);exact k _ (S0.Ms hw hr) w0 hb0 (hf.trans (.RG hb0 hr)) ⟨_,_,WgAt.setSm hwg 0⟩)
theorem JT.last (hs:g.status=.running)(h:∀ w,WgAt ρ.ty ρ.Wg w 0 0->stepG P true g w=.go g' w #[rd (stA ρ.Wg)])(k:JL (Vn P Fin X Sg ρ ws n) .deaf g' W):JL (Vn P Fin X Sg ρ ws n) .last g W:=fun w hw w0 hb0 hf hl=>
  JK.last hs (fun w₁ _ hwg=>⟨g',h w₁ hwg⟩)
    (fun w₁ g'' h₁ hwg e=>by
      rw [h w₁ hwg] at e;cases e
      exact k w₁ (S0.Ms hw h₁) w0 hb0 (hf.trans (.RG hb0 h₁)) (h₁.live hl))
theorem JT.en (hs:g.status=.running)(h:∀ w,stepG P true g w=.go g' w #[mk .enable])(k:JL (Vn P Fin X Sg ρ ws n) .hear g' W):JL (Vn P Fin X Sg ρ ws n) .deaf g W:=fun w hw w0 hb0 hf hl=>
  Lu.en hs (fun w₁ _=>⟨g',h w₁⟩)
    (fun w₁ g'' h₁ e=>by
      rw [h w₁] at e;cases e
      exact k w₁ (S0.Ms hw h₁) w0 hb0 (hf.trans (.RG hb0 h₁)) (h₁.live hl))
end
structure Aba (ws:List (Ij X))(W W':World):Prop where
  cell:∀ a,W'.cell? a=W.cell? a
  block:∀ b,ownB ws b=false->W'.heap[b]?=W.heap[b]?
  size:W'.heap.size=W.heap.size
theorem JT.over (h:∀ W',Aba ws W W'->JW (S0 (X:=X) (Sg:=Sg) P Fin GR).base (.Ii (fun b=>ρ.Bo b || b == ρ.Wg) n) g W'):JL (Vn P Fin X Sg ρ ws n) .hear g W:=fun w hw w0 hb0 hf hl=>
  Lu.stop fun w₁ h₁=>by
    have Nc:=S0.Ms hw h₁
    let B':Hid:={ hol:=fun b=>ρ.Bo b || b == ρ.Wg }
    have hs':J2 B' w₁ (GN B' w₁):=⟨.refl _,⟨fun b hb=>Nc.2.hol b hb,fun b hb=>(by cases hb)⟩⟩
    refine ⟨hf.trans (.RG hb0 h₁),h (GN B' w₁) ⟨fun a=>?_,fun b hb=>?_,?_⟩ w₁ hs'⟩
    . have hh:=IV Nc;simp only [World.cell?,hh];rw [H8,H8];cases w₁.heap[a.block]? with
      | none=>rfl
      | some o=>
        by_cases hb:(ρ.Bo a.block || a.block == ρ.Wg)=true
        . simp only [B',Il,Option.map_some,hb,if_true]
        . simp only [B',Il,Option.map_some,hb,if_false,Bool.false_eq_true];cases o <;> rfl
    . rw [IV Nc,H8,H8];show Option.map (fun o=>if ((ρ.Bo b || b == ρ.Wg)=true) then Oo o else dep false o) _=Option.map (fun o=>if ((ρ.Bo b || b == ρ.Wg)=true) then Oo o else dep (ownB ws b) o) _;rw [hb]
    . rw [Je,J6 Nc]
theorem J0.waits (hov:∀ (i:Nat) (v:Ij X),ws[i]?=some v->v.over=true)(h:JL (Vn P Fin X Sg ρ ws n) (.loop n) g W):JW (S0 (X:=X) (Sg:=Sg) P Fin GR).base (.H7 M ρ ws 0 true n) g W:=by
  intro w hw gs T sl role bd live hg hn C H hL hdf LW;have hno:∀ i st m,role i≠.seat st m:=fun i st m e=>by
    have hlt:=(H.J9.seat i st m e).1;have hi0:i≠0:=fun z=>H.NV st m (z ▸ e);obtain ⟨g',hg'⟩:∃ g',gs[i]?=some g':=⟨_,Array.getElem?_eq_getElem hlt⟩
    obtain ⟨_,h0|⟨j,v,hv,_,ho⟩⟩:=(H.J9.seats i g' st m hi0 hg' e).2
    . exact hi0 h0
    . rw [hov j v hv] at ho;cases ho
  have hsum:sumTo gs.size live<=n:=by have:=Go.ConcN.sumTo_le (f:=live) (c:=1) (j:=gs.size) fun i _=>H.J9.one i;omega
  have hD:∀ w w' es,DW ρ ws w w' es->Zv (Kc ρ ws) (Qd ws) (Ku ρ) (fun _=>True) ρ.Wg 0 w w' es:=by
    rintro w w' es (hd|⟨rfl,hlow,m,hm,rfl⟩)
    . exact DK.H7 C hd
    . refine ⟨fun _ _ h=>h,fun _ _ _ h=>h,rfl,Nat.le_refl _,fun e he=>?_⟩;simp only [List.mem_toArray,List.mem_cons,List.not_mem_nil,or_false] at he;subst he;refine ⟨fun b hb=>?_,fun h=>?_,fun h=>?_,hm.low _ hlow⟩
      . obtain ⟨⟨a,h1,h2⟩,h3⟩:=hm.touch b hb;exact ⟨fun x _ hS=>absurd h2 (C.pE hS h1),fun _=>h3⟩
      . simp only [mk,Loc.mark.injEq] at h;exact hm.mZ h
      . simp only [mk,Loc.mark.injEq] at h;exact hm.en h
  have E:VD ρ.Wg (Kc ρ ws) (Qd ws) (Ku ρ):={ C.env with jk:=⟨_,rfl,.inl rfl⟩ }
  obtain ⟨N,m',T',p1,p2⟩:=iT (sl:=sl) E C.mem (.inl rfl) hD (.loop n) g w (h w hw w LW.wg (.refl _ _) ⟨_,_,H.J9.wg⟩) n (.inl rfl) hn hg H hdf hno hL.zero hsum;obtain ⟨gs',a',w',sl',Ia,Iz,ex',rfl,q2,q3,q4,q5,q6,q7⟩:=p2;refine GR _ _ _ _ _ p1 q4.1 ?_;have hnl:∀ g,¬ KW ws 0 g:=fun x ⟨hx0,h0⟩=>h0.elim hx0 fun ⟨j,v,hv,_,ho⟩=>by rw [hov j v hv] at ho;cases ho
  obtain ⟨q,hB⟩:=q5.ends (.inl rfl) hnl q6 q7;have e:Ku ρ=bY { hol:=fun b=>ρ.Bo b || b == ρ.Wg }:=UH (ws:=ws);rw [e] at hB;refine q4.2 gs' T' sl' q q3 (q2.trans hn) hB ?_;obtain ⟨c,e',f,hc⟩:=Ko H.J9.wg;have h1:=(Array.getElem?_eq_some_iff.1 hc).1;have h2:=LW.wg;have h3:=q4.1.size;omega
end
end
end Go.LK
namespace Go.LK
open Go Go.Conc Go.LT Go.LC Go.Conc.Lib Go.ConcR.Gen Go.RowKit
open Go.ConcN (WgLive sumTo upd sumTo_upd upd_ne upd_same)
open Go.ConcR (KK wgBlock WgAt stA smA rd wr mk)
section
section
variable {X Sg:Type}
variable {P:Program}{L:WgLink}{Fin:Iw}{GR:Ig P Fin}
variable {ρ:Rn}{ws:List (Ij X)}{W:World}{n:Nat}{b₀:Frame}{a₀:Act}{ops₀:Array Oper}{i₀:Nat}{rest₀:List Nat}{k₀:List Item}{cs:List Frame}
theorem Abg {γ:WP}{S:Sn P true WP}{b:Frame}{a:Act}{it:Item}{k:List Item}(h:∀ k',Zt k k'->JL S γ (G (b.at a (it :: k')) cs) W):JL S γ (G (b.at a (it :: k)) cs) W:=h k .mk
theorem waitLoop (H:WgLib P L)(hT:JL (Vn P Fin X Sg ρ ws n) .hear (G (b₀.at (a₀.put ((ops₀[i₀]?).bind (·.dst)) (.tuple #[])) (.inRegion ops₀ rest₀ :: k₀)) cs) W) :
    ∀ v,∀ T:Array Value,T.size=84->T[0]?=some (.pointer (some ⟨ρ.Wg,0,none⟩))->JL (Vn P Fin X Sg ρ ws n) (.loop v) (G ((base L.wait).at ⟨T,[]⟩ [.code (L7 L),.inLoop (L7 L),.inBlock 0]) (b₀.at a₀ (.inRegion ops₀ (i₀ :: rest₀) :: k₀) :: cs)) W:=by
  intro v;induction v using Nat.strongRecOn with
  | _ v ih=>
  intro T hT84 t0
  lib_facts
  obtain ⟨v0,v1,v2,v3,v4,v5,v6,v7,v8,v9,Aa,Ab,Ac,Ae,Af,Ah,Ai,Aj,Ak,Al,Am,Ao,Ap,Aq,Ar,Au,Av,Aw,Ay,Az,AA,AB,AJ,AL,AO,AP,AQ,AU,AV,AX,AY,AZ,A8,A9,Ba,Bb,Bc,Bf,Bh,Bj,Bl,Bp,Bq,Br,Bu,Bv,Bw,Bz,BD,BF,BG,BH,BI,BJ,BK,BL,BM,BN,BO,BP,BQ,BR,BS,BU,BX,BZ,Ca,Cb,Cc,Ce,Cg,Ci,Cj,Ck,rfl⟩:=array84 T hT84;simp only [List.getElem?_toArray,List.getElem?_cons_zero,Option.some.injEq] at t0;subst t0;clear hT84;refine Abg fun K hK=>?_;simp only [L7,body_wait,waitFn,Option.getD_some];refine GY stepG_block ?_;refine GY stepG_seq ?_;refine Hu fun _ hkk=>?_;iterate 3 (refine Hf ?_;walk_nrm)
  refine JL.call rfl rfl (by first|exact iO|exact fO|decide|assumption) rfl H.f_uLoad (nm_uLoad L) rfl ?_;walk_nrm;simp only [uLoadFn];walk_nrm;refine GY stepG_seq ?_;refine Hu fun _ hkk=>?_
  (refine Hf ?_;walk_nrm)
  refine Hw ?_;cases hkk;refine GY stepG_seq ?_;refine Hu fun _ hkk=>?_;iterate 3 (refine Hf ?_;walk_nrm)
  apply JT.load rfl
  . intro w v' hv' hw;exact stepG_load_atomic (v:=(v':Int) * KK) rfl rfl (by k_ne) rfl H.f_loadU64 (x_loadU64_n L) (x_loadU64_b L) (x_loadU64_x L) .u64 (x_loadU64_f L) rfl (show w.cell? (stA ρ.Wg)=_ from hw.cellSt)
  ·
    have z:((0:Nat):Int) * KK=0:=by simp
    simp only [z];walk_nrm
    (refine Hf ?_;walk_nrm)
    refine Hw ?_;cases hkk;refine GY stepG_ret' ?_;refine JL.leave1 rfl rfl H.f_uLoad rfl ?_;walk_nrm
    (refine Hf ?_;walk_nrm)
    refine Hw ?_;cases hkk;refine GY stepG_seq ?_;refine Hu fun _ hkk=>?_;iterate 4 (refine Hf ?_;walk_nrm)
    refine Hw ?_;cases hkk;refine GY stepG_seq ?_;refine Hu fun _ hkk=>?_;iterate 4 (refine Hf ?_;walk_nrm)
    refine Hw ?_;cases hkk;refine GY stepG_seq ?_;refine GY stepG_seq ?_;refine Hu fun _ hkk=>?_;iterate 2 (refine Hf ?_;walk_nrm)
    refine Hw ?_;cases hkk;refine JL.Iq rfl ?_;refine GY stepG_seq ?_;refine JL.Iq rfl ?_;refine GY stepG_seq ?_;refine Hu fun _ hkk=>?_;refine JT.en rfl (fun w=>stepG_mark0 .enable (by simp) rfl rfl (by k_ne) rfl H.f_enable (x_enable_n L) (x_enable_b L) (x_enable_x L) (x_enable_f L)) ?_;walk_nrm;refine Hw ?_;cases hkk;refine Hu fun _ hkk=>?_
    (refine Hf ?_;walk_nrm)
    refine JL.value (.pointer (some ⟨ρ.Wg,0,none⟩)) rfl rfl (by k_ne) (fun w hl=>by
      have hcv:=run_convert_to_unsafe (P:=P) H.underlying_tWgP H.underlying_tUP H.room_tWg (ConcN.Gen.WgLive.cell0 (show WgLive ρ.ty ρ.Wg w from hl)).choose_spec;go_simp) (fun w hl e he=>by
      have hce:=fun es=>events_convert_to_unsafe (P:=P) H.underlying_tWgP H.underlying_tUP H.room_tWg (ConcN.Gen.WgLive.cell0 (show WgLive ρ.ty ρ.Wg w from hl)).choose_spec es;simp [go_sem,hce] at he) ?_
    walk_nrm;refine JT.said (Ql ρ.Wg 0) rfl (fun w _=>stepG_markAt .acquire (by simp) rfl rfl (by k_ne) rfl H.f_acquire (x_acquire_n L) (x_acquire_b L) (x_acquire_x L) (x_acquire_f L) (by simp [Act.eval])) ?_;walk_nrm;refine Hw ?_;cases hkk;refine GY stepG_seq ?_;refine GY stepG_seq ?_;refine Hu fun _ hkk=>?_;iterate 8 (refine Hf ?_;walk_nrm)
    refine GY (stepG_unwanted rfl rfl) ?_;walk_nrm;refine GY (stepG_unwanted rfl rfl) ?_;walk_nrm
    (refine Hf ?_;walk_nrm)
    refine Hw ?_;cases hkk;refine JL.Ho rfl ?_;refine GY stepG_skip ?_;refine GY stepG_ret' ?_;refine JL.leave0 rfl rfl H.f_wait rfl ?_;exact hT
  . intro v' hle hne hv';obtain ⟨S,hS⟩:∃ S:Int,(v':Int) * KK=S:=⟨_,rfl⟩
    have a1:S / 4294967296=(v':Int):=by rw [← hS];simp only [KK];omega
    have b1:bits .and .u64 S 2147483648=0:=by rw [← hS];have:=ConcN.st_flag v' 0 (by omega) (by omega);simpa [KK] using this
    have b2:bits .and .u64 S 2147483647=0:=by rw [← hS];have:=ConcN.st_waiters v' 0 (by omega) (by omega);simpa [KK] using this
    have c1:IntKind.i32.wrap (v':Int)=(v':Int):=by rw [IntKind.wrap_i32];omega
    have w1:IntKind.u64.wrap (S+1)=S+1:=by rw [IntKind.wrap_u64,← hS];simp only [KK];omega
    have q3:decide ((v':Int) < 0)=false:=decide_eq_false (by omega);have q4:decide (0 < (v':Int))=true:=decide_eq_true (by omega);have q5:((v':Int) == 0)=false:=by simp;omega
    have q6:decide ((v':Int)=0)=false:=decide_eq_false (by omega);simp only [hS];walk_nrm
    (refine Hf ?_;walk_nrm)
    refine Hw ?_;cases hkk;refine GY stepG_ret' ?_;refine JL.leave1 rfl rfl H.f_uLoad rfl ?_;walk_nrm
    (refine Hf ?_;walk_nrm)
    refine Hw ?_;cases hkk;refine GY stepG_seq ?_;refine Hu fun _ hkk=>?_;iterate 4 (refine Hf ?_;walk_nrm)
    refine Hw ?_;cases hkk;refine GY stepG_seq ?_;refine Hu fun _ hkk=>?_;iterate 4 (refine Hf ?_;walk_nrm)
    refine Hw ?_;cases hkk;refine GY stepG_seq ?_;refine GY stepG_seq ?_;refine Hu fun _ hkk=>?_;iterate 2 (refine Hf ?_;walk_nrm)
    refine Hw ?_;cases hkk;refine JL.Ho rfl ?_;refine GY stepG_skip ?_;refine GY stepG_seq ?_;refine Hu fun _ hkk=>?_;iterate 6 (refine Hf ?_;walk_nrm)
    refine JL.call rfl rfl (by first|exact iO|exact fO|decide|assumption) rfl H.f_uCas (nm_uCas L) rfl ?_;walk_nrm;simp only [uCasFn];walk_nrm;refine GY stepG_seq ?_;refine Hu fun _ hkk=>?_
    (refine Hf ?_;walk_nrm)
    refine Hw ?_;cases hkk;refine GY stepG_seq ?_;refine Hu fun _ hkk=>?_;iterate 5 (refine Hf ?_;walk_nrm)
    apply JT.cas rfl hne
    . intro w hw;rw [hS] at hw ⊢;exact (stepG_cas_hit (v:=S) (n:=S+1) rfl rfl (by k_ne) rfl H.f_casU64 (x_casU64_n L) (x_casU64_b L) (x_casU64_x L) .u64 (x_casU64_f L) rfl rfl rfl (show w.cell? (stA ρ.Wg)=_ from hw.cellSt) (hw.thaw 0)).trans (by rfl)
    . intro w v'' hlt hw;exact stepG_cas_miss (v:=(v'':Int) * KK) (old:=S) (n:=S+1) rfl rfl (by k_ne) rfl H.f_casU64 (x_casU64_n L) (x_casU64_b L) (x_casU64_x L) .u64 (x_casU64_f L) rfl rfl rfl (show w.cell? (stA ρ.Wg)=_ from hw.cellSt) (hw.thaw 0) (by rw [← hS];simp only [KK];omega)
    . walk_nrm
      (refine Hf ?_;walk_nrm)
      refine Hw ?_;cases hkk;refine GY stepG_ret' ?_;refine JL.leave1 rfl rfl H.f_uCas rfl ?_;walk_nrm;refine Hw ?_;cases hkk;refine JL.Iq rfl ?_;refine GY stepG_seq ?_;refine GY stepG_seq ?_;refine Hu fun _ hkk=>?_;iterate 4 (refine Hf ?_;walk_nrm)
      refine Hw ?_;cases hkk;refine JL.Iq rfl ?_;refine Hu fun _ hkk=>?_;iterate 3 (refine Hf ?_;walk_nrm)
      refine JL.value (.pointer (some ⟨ρ.Wg,1,none⟩)) rfl rfl (by k_ne) (fun w hl=>by
        have hcv:=run_convert_to_unsafe (P:=P) H.underlying_tPU32 H.underlying_tUP H.room_tU32 (ConcN.Gen.WgLive.cell1 (show WgLive ρ.ty ρ.Wg w from hl)).choose_spec;go_simp) (fun w hl e he=>by
        have hce:=fun es=>events_convert_to_unsafe (P:=P) H.underlying_tPU32 H.underlying_tUP H.room_tU32 (ConcN.Gen.WgLive.cell1 (show WgLive ρ.ty ρ.Wg w from hl)).choose_spec es;simp [go_sem,hce] at he) ?_
      walk_nrm;refine JT.said (X4 ρ.Wg 1) rfl (fun w _=>stepG_markAt .write (by simp) rfl rfl (by k_ne) rfl H.f_raceWrite (x_raceWrite_n L) (x_raceWrite_b L) (x_raceWrite_x L) (x_raceWrite_f L) (ad:=⟨ρ.Wg,1,none⟩) (by simp [Act.eval])) ?_;walk_nrm;refine Hw ?_;cases hkk;refine GY stepG_seq ?_;refine Hu fun _ hkk=>?_
      (refine Hf ?_;walk_nrm)
      refine Hw ?_;cases hkk;refine GY stepG_seq ?_;refine GY stepG_seq ?_;refine Hu fun _ hkk=>?_;iterate 4 (refine Hf ?_;walk_nrm)
      refine GY (stepG_unwanted rfl rfl) ?_;walk_nrm
      (refine Hf ?_;walk_nrm)
      refine Hw ?_;cases hkk;refine JL.Ho rfl ?_;refine GY stepG_skip ?_;refine GY stepG_seq ?_;refine Hu fun _ hkk=>?_;iterate 4 (refine Hf ?_;walk_nrm)
      apply JT.acq rfl rfl
      . rintro w ⟨st,hw⟩;exact stepG_semacquire_wait rfl rfl rfl H.f_semacquire (x_semacquire_n L) (x_semacquire_b L) (x_semacquire_x L) (x_semacquire_f L) (by simp [Act.eval,smA]) hw.cellSm
      . intro w hf;exact (stepG_semacquire (n:=1) rfl rfl (by k_ne) rfl H.f_semacquire (x_semacquire_n L) (x_semacquire_b L) (x_semacquire_x L) (x_semacquire_f L) (by simp [Act.eval,smA]) hf.cellSm (by k_ne) (hf.thaw 1)).trans (by rfl)
      walk_nrm;refine Hw ?_;cases hkk;refine GY stepG_seq ?_;refine Hu fun _ hkk=>?_;iterate 3 (refine Hf ?_;walk_nrm)
      refine JL.call rfl rfl (by first|exact iO|exact fO|decide|assumption) rfl H.f_uLoad (nm_uLoad L) rfl ?_;walk_nrm;simp only [uLoadFn];walk_nrm;refine GY stepG_seq ?_;refine Hu fun _ hkk=>?_
      (refine Hf ?_;walk_nrm)
      refine Hw ?_;cases hkk;refine GY stepG_seq ?_;refine Hu fun _ hkk=>?_;iterate 3 (refine Hf ?_;walk_nrm)
      apply JT.last rfl
      . intro w hw;exact stepG_load_atomic (v:=0) rfl rfl (by k_ne) rfl H.f_loadU64 (x_loadU64_n L) (x_loadU64_b L) (x_loadU64_x L) .u64 (x_loadU64_f L) rfl (show w.cell? (stA ρ.Wg)=_ from hw.cellSt)
      walk_nrm
      (refine Hf ?_;walk_nrm)
      refine Hw ?_;cases hkk;refine GY stepG_ret' ?_;refine JL.leave1 rfl rfl H.f_uLoad rfl ?_;walk_nrm;iterate 2 (refine Hf ?_;walk_nrm)
      refine Hw ?_;cases hkk;refine GY stepG_seq ?_;refine JL.Iq rfl ?_;refine GY stepG_seq ?_;refine Hu fun _ hkk=>?_;refine JT.en rfl (fun w=>stepG_mark0 .enable (by simp) rfl rfl (by k_ne) rfl H.f_enable (x_enable_n L) (x_enable_b L) (x_enable_x L) (x_enable_f L)) ?_;walk_nrm;refine Hw ?_;cases hkk;refine Hu fun _ hkk=>?_
      (refine Hf ?_;walk_nrm)
      refine JL.value (.pointer (some ⟨ρ.Wg,0,none⟩)) rfl rfl (by k_ne) (fun w hl=>by
        have hcv:=run_convert_to_unsafe (P:=P) H.underlying_tWgP H.underlying_tUP H.room_tWg (ConcN.Gen.WgLive.cell0 (show WgLive ρ.ty ρ.Wg w from hl)).choose_spec;go_simp) (fun w hl e he=>by
        have hce:=fun es=>events_convert_to_unsafe (P:=P) H.underlying_tWgP H.underlying_tUP H.room_tWg (ConcN.Gen.WgLive.cell0 (show WgLive ρ.ty ρ.Wg w from hl)).choose_spec es;simp [go_sem,hce] at he) ?_
      walk_nrm;refine JT.said (Ql ρ.Wg 0) rfl (fun w _=>stepG_markAt .acquire (by simp) rfl rfl (by k_ne) rfl H.f_acquire (x_acquire_n L) (x_acquire_b L) (x_acquire_x L) (x_acquire_f L) (by simp [Act.eval])) ?_;walk_nrm;refine Hw ?_;cases hkk;refine GY stepG_seq ?_;refine GY stepG_seq ?_;refine Hu fun _ hkk=>?_
      (refine Hf ?_;walk_nrm)
      refine Hw ?_;cases hkk;refine JL.Ho rfl ?_;refine GY stepG_skip ?_;refine GY stepG_ret' ?_;refine JL.leave0 rfl rfl H.f_wait rfl ?_;exact hT
    . intro v'' hlt;walk_nrm
      (refine Hf ?_;walk_nrm)
      refine Hw ?_;cases hkk;refine GY stepG_ret' ?_;refine JL.leave1 rfl rfl H.f_uCas rfl ?_;walk_nrm;refine Hw ?_;cases hkk;refine JL.Ho rfl ?_;refine GY stepG_skip ?_;refine GY stepG_inBlock ?_;cases hK
      refine GY stepG_inLoop ?_;exact ih v'' (by omega) _ rfl rfl
end
end
end Go.LK
namespace Go.LK
open Go Go.Conc Go.LT Go.LC
open Go.ConcN (WgLive sumTo upd sumTo_upd upd_ne upd_same)
open Go.ConcR (KK wgBlock WgAt stA smA rd wr mk)
section
section
variable {X Sg:Type}
variable {P:Program}{Fin:Iw}{GR:Ig P Fin}
variable {M:Md X Sg}{ρ:Rn}{ws:List (Ij X)}{W:World}{ex n:Nat}{df:Bool}{g g':Goroutine}
theorem J0.close (hov:∀ (i:Nat) (v:Ij X),ws[i]?=some v->v.over=true)(hcl:¬ ρ.Uh)(hrun:g.status=.running)(hstep:∀ w k,w.heap[ρ.gone]?=some (.chan 0 #[] false k k false)->stepG P true g w=.go g' (w.setChan ρ.gone 0 #[] true k k false) (closeEvents ρ.gone))(hJ:∀ W',(∀ b,b≠ρ.gone->W'.heap[b]?=W.heap[b]?)->W'.heap.size=W.heap.size->JW (S0 P Fin GR).base (.H7 M { ρ with Uh:=True } ws ex df n) g' W'):JW (S0 P Fin GR).base (.H7 M ρ ws ex df n) g W:=by
  intro w hw gs T sl role bd live hg hn C H hL hdf LW;obtain ⟨N,gs₁,w₁,d,sl₁,sl₂,T₁,Ic,Hr,p1,p2,p3,p4,p5,p6,p7,p8,p9,Rx⟩:=picked (h:=0) (sl:=sl) C.env hrun _ _ rfl rfl hg H;have C₁:=C.turns p7 p6 (Ko H.J9.wg);have hf1:QD Fin.b0 w (w₁.at d):=.RG LW.wg p6;have Nc:=S0.Ms hw p6;generalize w₁.at d=w1 at *;have hno:∀ i st m,Ic i≠.seat st m:=fun i st m e=>by
    have hlt:=(p5.J9.seat i st m e).1;have hi0:i≠0:=fun z=>p5.NV st m (z ▸ e);obtain ⟨g',hg'⟩:∃ g',gs₁[i]?=some g':=⟨_,Array.getElem?_eq_getElem hlt⟩
    obtain ⟨_,h0|⟨j,v,hv,_,ho⟩⟩:=(p5.J9.seats i g' st m hi0 hg' e).2
    . exact hi0 h0
    . rw [hov j v hv] at ho;cases ho
  obtain ⟨k,hk⟩:=C₁.gone hcl;have hst:=hstep _ k hk;have hrt:=runT_crowd_go (P:=P) (sl:=sl₂) (i:=0) p4 hst;have hlt:ρ.gone < w1.heap.size:=(Array.getElem?_eq_some_iff.1 hk).1;have hne:∀ b,b≠ρ.gone->(w1.setChan ρ.gone 0 #[] true k k false).heap[b]?=w1.heap[b]?:=fun b hb=>heap_setChan_ne _ _ _ _ _ _ _ (Ne.symm hb);have hsz:(w1.setChan ρ.gone 0 #[] true k k false).heap.size=w1.heap.size:=by simp [World.setChan]
  have Y0:ρ.Wg≠ρ.gone:=fun e=>by obtain ⟨c,e',f,hc⟩:=Ko p5.J9.wg;rw [e,hk] at hc;cases hc
  have hcell:∀ {b:Nat} {c e f},w1.heap[b]?=some (.cells c e f)->b≠ρ.gone:=fun {b} {c} {e} {f} h z=>by rw [z,hk] at h;cases h
  have hf2:QD Fin.b0 w1 (w1.setChan ρ.gone 0 #[] true k k false):=⟨rfl,rfl,Nat.le_of_eq hsz.symm,fun b o hb ho _=>by rw [hne b (by have:=LW.gone;omega)];exact ho⟩
  generalize w1.setChan ρ.gone 0 #[] true k k false=w2 at *;have hd:Zv (Kc ρ ws) (Qd ws) (Ku ρ) (fun c=>c≠ρ.gone) ρ.Wg 0 w1 w2 (closeEvents ρ.gone):=by
    refine ⟨fun i _ h j v hv hx ho=>?_,fun c k hc h=>by rw [hne c hc];exact h,hne _ Y0,Nat.le_of_eq hsz.symm,fun e he=>?_⟩
    . rw [hov j v hv] at ho;cases ho
    . simp only [closeEvents,List.mem_toArray,List.mem_cons,List.not_mem_nil,or_false] at he;refine ⟨fun b hb=>⟨fun g _ hS=>?_,fun hS=>?_⟩,?_,?_,?_⟩
      . obtain ⟨j,v,hv,_,ho,_⟩:=hS;rw [hov j v hv] at ho;cases ho
      . obtain ⟨a,ha,_⟩:=hS;rcases he with rfl|rfl <;> simp [MemAct.ofEvent,MemAct.touch?] at hb
        subst hb;cases ha
      . rcases he with rfl | rfl <;> simp
      . rcases he with rfl | rfl <;> simp
      . rcases he with rfl | rfl <;> (show ρ.gone < _;omega)
  obtain ⟨H',ha'⟩:=p5.own (fn:=g.frame.fn) (pos:=g.frame.place) (a':=g') (fun i st m c e=>absurd e (hno i st m)) p4 hd;have KP:=((KS (h:=0) (fn:=g.frame.fn) (pos:=g.frame.place) hd.evs).2.2.2 T₁).trans (p9.trans hdf);have C':OA M { ρ with Uh:=True } P ws 0 Ic bd w2:=by
    refine ⟨C₁.apart,C₁.pos,fun i v hv _ ho=>(by rw [hov i v hv] at ho;cases ho),fun i st m c e=>absurd e (hno i st m),fun i v hv hn=>?_,fun i v hv b hb=>?_,C₁.inside,fun i v hv=>?_,?_,fun h=>absurd trivial h,C₁.sh,fun b hb=>?_,C₁.o8⟩
    . obtain ⟨k1,k2,k3⟩:=C₁.keep i v hv hn;refine ⟨fun b hb=>(k1 b hb).trans (.of (hne b ?_)),k2,Nat.le_trans k3 (Nat.le_of_eq hsz.symm)⟩;obtain ⟨_,_,_,c,e,f,hc⟩:=C₁.own i v hv b hb;exact hcell hc
    . obtain ⟨a1,a2,a3,c,e,f,hc⟩:=C₁.own i v hv b hb;exact ⟨a1,a2,a3,c,e,f,by rw [hne b (hcell hc)];exact hc⟩
    . obtain ⟨c1,c2,k,hk⟩:=C₁.chan i v hv;exact ⟨c1,c2,k,by rw [hne _ c2];exact hk⟩
    . obtain ⟨c1,k,hk⟩:=C₁.come;exact ⟨c1,k,by rw [hne _ c1];exact hk⟩
    . obtain ⟨h1,c,e,f,hc⟩:=C₁.old b hb;exact ⟨h1,c,e,f,by rw [hne b (hcell hc)];exact hc⟩
  have hs':J2 (Il ρ ws) w2 (GN (Il ρ ws) w2):=⟨.refl _,⟨fun b hb=>?_,fun b hb=>?_⟩⟩
  . refine GR (N+1) _ _ _ _ (runNT_then p1 (by simp only [runNT,p2,hrt];rfl)) (hf1.trans hf2) (hJ (GN (Il ρ ws) w2) (fun b hb=>?_) ?_ w2 hs' _ _ _ Ic bd Hr ha' (by simp [p3,hn]) C' H' (hL.keep C p8) KP ⟨LW.wg,LW.come,LW.gone,LW.turn⟩)
    . rw [IV Nc,H8,H8,hne b hb]
    . rw [Je,hsz,J6 Nc]
  . obtain ⟨c,e,f,hc⟩:=Nc.2.hol b hb;exact ⟨c,e,f,by rw [hne b (hcell hc)];exact hc⟩
  . obtain ⟨c,e,f,hc⟩:=Nc.2.MH b hb;exact ⟨c,e,f,by rw [hne b (hcell hc)];exact hc⟩
end
end
end Go.LK
namespace Go.Proofs.Ytkdhnbcdbnpmhaa
open Go
abbrev link:Go.Conc.Lib.WgLink:={ add:=75,done:=77,wait:=80,relMerge:=90,disable:=91,enable:=92,inBubble:=93,associate:=94,fatal:=95,uOr:=96,uAdd:=97,raceRead:=98,uLoad:=99,uStore:=100,disassociate:=101,semrelease:=102,acquire:=108,isAssociated:=109,uCas:=110,raceWrite:=111,semacquire:=112,orU64:=114,addU64:=115,loadU64:=116,storeU64:=117,casU64:=122,tWgP:=169,tUP:=171,tAssoc:=172,tWg:=152,tAU:=150,tU64:=148,tUint:=167,tU32:=125,tPU32:=166,tPAU:=196,tPU64:=198,tNoCopy:=147,tANoCopy:=77,tAlign64:=78 }
theorem jC:Go.Conc.Lib.WgLib Try.prog link:=
  ⟨Try.func75,Try.func77,Try.func80,Try.func90,Try.func91,Try.func92,Try.func93,Try.func94,Try.func95,Try.func96,Try.func97,Try.func98,Try.func99,Try.func100,Try.func101,Try.func102,Try.func108,Try.func109,Try.func110,Try.func111,Try.func112,Try.func114,Try.func115,Try.func116,Try.func117,Try.func122,Try.underlying169,Try.runUnderlying169,Try.sizeOf169,Try.isAgg169,Try.zeroValue169,Try.underlying171,Try.runUnderlying171,Try.sizeOf171,Try.isAgg171,Try.zeroValue171,Try.underlying172,Try.runUnderlying172,Try.sizeOf172,Try.isAgg172,Try.zeroValue172,Try.underlying152,Try.runUnderlying152,Try.sizeOf152,Try.isAgg152,Try.zeroValue152,Try.underlying150,Try.runUnderlying150,Try.sizeOf150,Try.isAgg150,Try.zeroValue150,Try.underlying148,Try.runUnderlying148,Try.sizeOf148,Try.isAgg148,Try.zeroValue148,Try.underlying167,Try.runUnderlying167,Try.sizeOf167,Try.isAgg167,Try.zeroValue167,Try.underlying125,Try.runUnderlying125,Try.sizeOf125,Try.isAgg125,Try.zeroValue125,Try.underlying166,Try.runUnderlying166,Try.sizeOf166,Try.isAgg166,Try.zeroValue166,Try.underlying196,Try.runUnderlying196,Try.sizeOf196,Try.isAgg196,Try.zeroValue196,Try.underlying198,Try.runUnderlying198,Try.sizeOf198,Try.isAgg198,Try.zeroValue198,Try.underlying0,Try.runUnderlying0,Try.sizeOf0,Try.isAgg0,Try.zeroValue0,Try.underlying3,Try.runUnderlying3,Try.sizeOf3,Try.isAgg3,Try.zeroValue3,Try.underlying4,Try.runUnderlying4,Try.sizeOf4,Try.isAgg4,Try.zeroValue4,Try.underlying9,Try.runUnderlying9,Try.sizeOf9,Try.isAgg9,Try.zeroValue9,Try.underlying20,Try.runUnderlying20,Try.sizeOf20,Try.isAgg20,Try.zeroValue20,Try.underlying21,Try.runUnderlying21,Try.sizeOf21,Try.isAgg21,Try.zeroValue21,(by kernel_rfl),(by kernel_rfl)⟩
end Go.Proofs.Ytkdhnbcdbnpmhaa
