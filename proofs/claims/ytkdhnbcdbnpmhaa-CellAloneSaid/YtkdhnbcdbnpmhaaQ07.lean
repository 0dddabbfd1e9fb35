/-
  Part 7 of the proof that CellAlone returns true for every input and leaves its arguments as they were. No further condition.
-/
import Derived.Test.YtkdhnbcdbnpmhaaQ06
set_option linter.unusedVariables false
set_option linter.unusedSectionVars false
namespace Go.LC
open Go Go.Conc Go.LT
open Go.ConcN (WgLive sumTo upd sumTo_upd upd_ne upd_same)
open Go.ConcR (KK wgBlock WgAt stA smA rd wr mk)
section
inductive Lu (P:Program)(main:Bool)(ty:TypeId)(Wg n:Nat)(D:World->World->Array Event->Prop)(Stop:Nat->Goroutine->World->Prop):Bool->Nat->Goroutine->World->Prop
  | stop {ex:Nat} {g:Goroutine} {w:World} (h:∀ w₁,Jc ty Wg w w₁->Stop ex g w₁):Lu P main ty Wg n D Stop false ex g w
  | step {b:Bool} {ex:Nat} {g:Goroutine} {w:World} (hs:g.status=.running) (h:∀ w₁,Jc ty Wg w w₁->∃ g' w' es,stepG P main g w₁=.go g' w' es/\D w₁ w' es)
      (k:∀ w₁ g' w' es,Jc ty Wg w w₁->stepG P main g w₁=.go g' w' es->Lu P main ty Wg n D Stop b ex g' w'):Lu P main ty Wg n D Stop b ex g w
  | mZ {ex:Nat} {g:Goroutine} {w:World} (hs:g.status=.running) (h:∀ w₁,Jc ty Wg w w₁->∃ g',stepG P main g w₁=.go g' w₁ #[mk .disable])
      (k:∀ w₁ g',Jc ty Wg w w₁->stepG P main g w₁=.go g' w₁ #[mk .disable]->Lu P main ty Wg n D Stop true ex g' w₁):Lu P main ty Wg n D Stop false ex g w
  | en {ex:Nat} {g:Goroutine} {w:World} (hs:g.status=.running) (h:∀ w₁,Jc ty Wg w w₁->∃ g',stepG P main g w₁=.go g' w₁ #[mk .enable])
      (k:∀ w₁ g',Jc ty Wg w w₁->stepG P main g w₁=.go g' w₁ #[mk .enable]->Lu P main ty Wg n D Stop false ex g' w₁):Lu P main ty Wg n D Stop true ex g w
  | add {ex:Nat} {g:Goroutine} {w:World} (hs:g.status=.running) (hn:n+ex+1 < 2147483648)
      (h:∀ w₁ (v:Nat),Jc ty Wg w w₁->v+1 < 2147483648->WgAt ty Wg w₁ (v * KK) 0->∃ g',stepG P main g w₁=.go g' (w₁.setCell (stA Wg) (.int .u64 ((v+1:Nat) * KK))) #[rd (stA Wg),wr (stA Wg)])
      (k:∀ w₁ (v:Nat) g',Jc ty Wg w w₁->v+1 < 2147483648->WgAt ty Wg w₁ (v * KK) 0->stepG P main g w₁=.go g' (w₁.setCell (stA Wg) (.int .u64 ((v+1:Nat) * KK))) #[rd (stA Wg),wr (stA Wg)]->
        Lu P main ty Wg n D Stop true (ex+1) g' (w₁.setCell (stA Wg) (.int .u64 ((v+1:Nat) * KK)))):Lu P main ty Wg n D Stop true ex g w
section
variable {P:Program}{main:Bool}{ty:TypeId}{Wg n:Nat}{D:World->World->Array Event->Prop}{Stop Stop':Nat->Goroutine->World->Prop}{b:Bool}{ex:Nat}{g:Goroutine}{w w₁:World}
theorem Lu.rely (h:Lu P main ty Wg n D Stop b ex g w)(hr:Jc ty Wg w w₁):Lu P main ty Wg n D Stop b ex g w₁:=by
  cases h with
  | stop h=>exact .stop fun w₂ h₂=>h w₂ (hr.trans h₂)
  | step hs h k=>exact .step hs (fun w₂ h₂=>h w₂ (hr.trans h₂)) fun w₂ g' w' es h₂=>k w₂ g' w' es (hr.trans h₂)
  | mZ hs h k=>exact .mZ hs (fun w₂ h₂=>h w₂ (hr.trans h₂)) fun w₂ g' h₂=>k w₂ g' (hr.trans h₂)
  | en hs h k=>exact .en hs (fun w₂ h₂=>h w₂ (hr.trans h₂)) fun w₂ g' h₂=>k w₂ g' (hr.trans h₂)
  | add hs hn h k=>exact .add hs hn (fun w₂ v h₂=>h w₂ v (hr.trans h₂)) fun w₂ v g' h₂=>k w₂ v g' (hr.trans h₂)
theorem Lu.of {S:Goroutine->World->Prop}(h:LT.Way P main (Jc ty Wg) D S g w)(k:∀ g w,(∀ w₁,Jc ty Wg w w₁->S g w₁)->Lu P main ty Wg n D Stop b ex g w):Lu P main ty Wg n D Stop b ex g w:=by
  induction h with
  | stop h=>exact k _ _ h
  | step hs h _ ih=>exact .step hs h ih
theorem Lu.one (hs:g.status=.running)(h:∀ w₁,Jc ty Wg w w₁->∃ g' w' es,stepG P main g w₁=.go g' w' es/\D w₁ w' es/\Lu P main ty Wg n D Stop b ex g' w'):Lu P main ty Wg n D Stop b ex g w:=
  .step hs (fun w₁ h₁=>let ⟨g',w',es,a,b,_⟩:=h w₁ h₁;⟨g',w',es,a,b⟩) fun w₁ g' w' es h₁ hst=>by
    obtain ⟨g2,w2,es2,a,_,c⟩:=h w₁ h₁;rw [a] at hst;cases hst
    exact c
end
section
variable {P:Program}{ty:TypeId}{Wg:Nat}{K:Nat->World->Prop}{Still:Nat->Loc->Prop}{Bd:Nat->Nat}{Shun:Loc->Prop}{Quiet Sp Mem Loose:Nat->Prop}{Kf:Trace->Nat->Prop}{role:Nat->Ik}{live:Nat->Nat}{ex h j:Nat}{T:Trace}{gs:Array Goroutine}{w:World}
def QE (Mem:Nat->Prop)(h:Nat):Bool->Nat->Prop
  | false=>Mem
  | true=>fun g=>Mem g/\g≠h
theorem Held.plain (H:Held P ty Wg K Still Bd Shun Quiet Mem Loose h role live ex T gs w)(E:Env Wg K Still Shun){a a':Goroutine}{w':World}{ops:Trace}{ex':Nat}(hw:KG Wg w w')(ha:gs[h]?=some a)(hops:∀ op∈ops,op.g=h)(hp:Jl Still Shun Mem Loose w.heap.size (Knows (T ++ ops) h) (T ++ ops))(hwg:WgAt ty Wg w' ((sumTo gs.size live+ex':Nat) * KK) 0)(Qf:sumTo gs.size live+ex' < 2147483648) :
    Held P ty Wg K Still Bd Shun Quiet Mem Loose h role live ex' (T ++ ops) ((gs.map (woken P a a' w')).setIfInBounds h a') w'/\((gs.map (woken P a a' w')).setIfInBounds h a')[h]?=some a':=by
  have hlt:h < gs.size:=(Array.getElem?_eq_some_iff.1 ha).1;have C:=H.J9;have hlive:WgLive ty Wg w:=⟨_,_,C.wg⟩
  have hrx:=PL ty Wg hlive ⟨_,_,hwg⟩;have hget:∀ x,x≠h->((gs.map (woken P a a' w')).setIfInBounds h a')[x]?=gs[x]?:=by
    intro x hx;rw [Array.getElem?_setIfInBounds_ne (fun e=>hx e.symm),Array.getElem?_map];cases e:gs[x]? with
    | none=>rfl
    | some y=>simp [woken_of_again (C.fixed E hw hx e)]
  have hD:∀ x,x≠h->Deaf (T ++ ops) x=Deaf T x:=fun x hx=>Deaf_other T (fun z=>hx z.symm) _ hops;refine ⟨⟨⟨fun i g s m d hi hg e=>?_,fun i g st n hi hg e=>?_,fun i st n e=>?_,C.own,fun j hj=>?_,by rw [hw.size];exact hp,fun i st n e=>E.kwg _ _ _ hw (C.keep i st n e),by simpa using hwg,by simpa using Qf,C.one⟩,H.NV,H.tight⟩,Array.getElem?_setIfInBounds_self_of_lt (by simpa using hlt)⟩
  . rw [hget i hi] at hg;obtain ⟨h1,h2,h3,h4⟩:=C.KR i g s m d hi hg e;exact ⟨h1,h2.rely hrx,by rw [hD i hi];exact h3,h4⟩
  . rw [hget i hi] at hg;exact C.seats i g st n hi hg e
  . obtain ⟨h1,h2,h3,h4,h5⟩:=C.seat i st n e;refine ⟨by simpa using h1,h2,h3,by rw [hw.size];exact h4,fun c hc=>?_⟩;obtain ⟨k,hk⟩:=h5 c hc;exact ⟨k,Ph hw hlive hk⟩
  . have hj':gs.size<=j:=by simpa using hj
    rw [hD j (by omega)];exact C.above j hj'
theorem Held.mark (H:Held P ty Wg K Still Bd Shun Quiet Mem Loose h role live ex T gs w)(E:Env Wg K Still Shun)(hMh:¬ Mem h){a a':Goroutine}{fn:FuncId}{pos:String}(ha:gs[h]?=some a){m:Mark}(hm:m=.disable\/m=.enable) :
    Held P ty Wg K Still Bd Shun Quiet Mem Loose h role live ex (T ++ MemOp.ofEvents h fn pos #[Go.ConcR.mk m]) ((gs.map (woken P a a' w)).setIfInBounds h a') w/\((gs.map (woken P a a' w)).setIfInBounds h a')[h]?=some a':=by
  have hops:∀ op∈MemOp.ofEvents h fn pos #[Go.ConcR.mk m],op.g=h:=fun op hop=>by obtain ⟨e,_,rfl⟩:=Conc.mem_ofEvents hop;rfl
  refine H.plain E (.inl rfl) ha hops (H.J9.past.mute (fun i=>Knows.app _) hops (fun op hop=>?_) (fun z=>absurd z hMh) fun op hop=>?_) H.J9.wg H.J9.few <;>
  . obtain ⟨e,he,rfl⟩:=Conc.mem_ofEvents hop;simp only [List.mem_toArray,List.mem_cons,List.not_mem_nil,or_false] at he;subst he;rcases hm with rfl|rfl <;> first|rfl|trivial
theorem Held.count (H:Held P ty Wg K Still Bd Shun Quiet Mem Loose h role live ex T gs w)(E:Env Wg K Still Shun)(hMh:¬ Mem h){a a':Goroutine}{fn:FuncId}{pos:String}(ha:gs[h]?=some a)(hv:sumTo gs.size live+ex+1 < 2147483648) :
    Held P ty Wg K Still Bd Shun Quiet Mem Loose h role live (ex+1) (T ++ MemOp.ofEvents h fn pos #[rd (stA Wg),wr (stA Wg)]) ((gs.map (woken P a a' (w.setCell (stA Wg) (.int .u64 ((sumTo gs.size live+ex+1:Nat) * KK))))).setIfInBounds h a') (w.setCell (stA Wg) (.int .u64 ((sumTo gs.size live+ex+1:Nat) * KK)))/\
      ((gs.map (woken P a a' (w.setCell (stA Wg) (.int .u64 ((sumTo gs.size live+ex+1:Nat) * KK))))).setIfInBounds h a')[h]?=some a':=by
  have hops:∀ op∈MemOp.ofEvents h fn pos #[rd (stA Wg),wr (stA Wg)],op.g=h:=fun op hop=>by obtain ⟨e,_,rfl⟩:=Conc.mem_ofEvents hop;rfl
  have hev:∀ e∈(#[rd (stA Wg),wr (stA Wg)]:Array Event),e=rd (stA Wg)\/e=wr (stA Wg):=fun e he=>by simpa using he
  have hlow:=H.J9.Ww;refine H.plain E (.inr ⟨_,rfl⟩) ha hops (H.J9.past.hold H.tight hops (fun op hop b hb=>?_) (fun z=>absurd z hMh) fun op hop=>?_) ?_ (by omega)
  . obtain ⟨e,he,rfl⟩:=Conc.mem_ofEvents hop;have hloc:b.loc=.cell (stA Wg)/\b.kind=.atomic:=by rcases hev e he with rfl|rfl <;> (simp only [rd,wr,MemAct.ofEvent,MemAct.touch?,Option.some.injEq] at hb;subst hb;exact ⟨rfl,rfl⟩)
    exact ⟨fun g _ hS=>absurd E.shun (by rw [← hloc.1];exact E.apart g _ hS),fun _=>by rw [hloc.2];simp⟩
  . obtain ⟨e,he,rfl⟩:=Conc.mem_ofEvents hop;rcases hev e he with rfl|rfl <;> exact hlow
  . have:=H.J9.wg.setSt ((sumTo gs.size live+ex+1:Nat) * KK);exact this
theorem aV (E:Env Wg K Still Shun)(hmem:∀ g l,Still g l->l.isMemory=true/\¬ Shun l)(hMh:Mem h){Ch:Nat->Prop}{n:Nat}{D:World->World->Array Event->Prop}{Stop:Nat->Goroutine->World->Prop}(hD:∀ w w' es,D w w' es->Zv K Still Shun Ch Wg h w w' es){b:Bool}{ex:Nat}{a:Goroutine}{w:World}(hW:Lu P (h == 0) ty Wg n D Stop b ex a w) :
    ∀ {role:Nat->Ik} {live:Nat->Nat} {T:Trace} {gs:Array Goroutine} {sl:Option (Nat × Nat)},gs.size=n->gs[h]?=some a->Held P ty Wg K Still Bd Shun Quiet (QE Mem h b) Loose h role live ex T gs w->Deaf T h=b.toNat->(∀ i st n c,role i=.seat st n->st.has c->Ch c)->
    ∃ N gs' a' w' sl' T' Ia Iz ex',runNT P N (crowd gs w sl) T=(.next (crowd gs' w' sl'),T')/\gs'.size=gs.size/\gs'[h]?=some a'/\Stop ex' a' w'/\Held P ty Wg K Still Bd Shun Quiet Mem Loose h Ia Iz ex' T' gs' w'/\Same role Ia/\NS h role live Iz/\∀ x,Iz x<=live x:=by
  induction hW with
  | @stop ex g w hs=>
    intro role live T gs sl hn ha H hdf ZN;exact ⟨0,gs,_,w,sl,T,role,live,ex,rfl,rfl,ha,hs w (.refl w),H,.refl role,.refl h role live,fun _=>Nat.le_refl _⟩
  | @step b ex g w hrun hstep hk ih=>
    intro role live T gs sl hn ha H hdf ZN;obtain ⟨N,gs₁,w₁,d,sl₁,sl₂,T₁,Ic,Hr,p1,p2,p3,p4,p5,p6,p7,p8,p9,Rx⟩:=picked (sl:=sl) E hrun _ _ rfl rfl ha H;obtain ⟨g',w',es,hst,hd⟩:=hstep _ p6;have MQ:∀ i st n c,Ic i=.seat st n->st.has c->Ch c:=fun i st n c e hc=>by obtain ⟨n',e'⟩:=p7.back e;exact ZN i st n' c e' hc
    have hrt:=runT_crowd_go (P:=P) (sl:=sl₂) p4 hst;obtain ⟨H',ha'⟩:=p5.own (fn:=g.frame.fn) (pos:=g.frame.place) (a':=g') MQ p4 (hD _ _ _ hd);have KP:=((KS (h:=h) (fn:=g.frame.fn) (pos:=g.frame.place) (hD _ _ _ hd).evs).2.2.2 T₁).trans (p9.trans hdf);obtain ⟨N₂,IW,a₂,w₂,sl₃,T₂,Iu,Jd,Tz,q1,q2,q3,q4,q5,q6,q7,q8⟩:=ih _ _ _ _ p6 hst (sl:=sl₂) (by simp [p3,hn]) ha' H' KP MQ;exact ⟨N+(N₂+1),IW,a₂,w₂,sl₃,T₂,Iu,Jd,Tz,runNT_then p1 (by simp only [runNT,p2,hrt];exact q1),by rw [q2];simpa using p3,q3,q4,q5,p7.trans q6,p8.trans p7 q7,fun x=>Nat.le_trans (q8 x) (Rx x)⟩
  | @mZ ex g w hrun hstep hk ih=>
    intro role live T gs sl hn ha H hdf ZN;obtain ⟨N,gs₁,w₁,d,sl₁,sl₂,T₁,Ic,Hr,p1,p2,p3,p4,p5,p6,p7,p8,p9,Rx⟩:=picked (sl:=sl) E hrun _ _ rfl rfl ha H;obtain ⟨g',hst⟩:=hstep _ p6;have MQ:∀ i st n c,Ic i=.seat st n->st.has c->Ch c:=fun i st n c e hc=>by obtain ⟨n',e'⟩:=p7.back e;exact ZN i st n' c e' hc
    have hrt:=runT_crowd_go (P:=P) (sl:=sl₂) p4 hst;have H1:Held P ty Wg K Still Bd Shun Quiet (QE Mem h true) Loose h Ic Hr ex T₁ gs₁ (w₁.at d):=by obtain ⟨C,hs,_⟩:=id p5;exact ⟨⟨fun i g s m d hi hg e=>let ⟨a1,a2,a3,a4,a5⟩:=C.KR i g s m d hi hg e;⟨a1,a2,a3,fun z=>a4 z.1,a5⟩,C.seats,fun i st n e=>let ⟨a1,a2,a3,a4⟩:=C.seat i st n e;⟨a1,a2,⟨a3,fun z=>by subst z;exact hs st n e⟩,a4⟩,C.own,C.above,C.past.fewer fun g hg=>hg.1,C.keep,C.wg,C.few,C.one⟩,hs,p5.tight⟩
    obtain ⟨H',ha'⟩:=H1.mark E (fn:=g.frame.fn) (pos:=g.frame.place) (a':=g') (fun z=>z.2 rfl) p4 (m:=.disable) (.inl rfl);have KP:Deaf (T₁ ++ MemOp.ofEvents h g.frame.fn g.frame.place #[mk .disable]) h=true.toNat:=by rw [Deaf_own,p9,hdf];rfl
    obtain ⟨N₂,IW,a₂,w₂,sl₃,T₂,Iu,Jd,Tz,q1,q2,q3,q4,q5,q6,q7,q8⟩:=ih _ _ p6 hst (sl:=sl₂) (by simp [p3,hn]) ha' H' KP MQ;exact ⟨N+(N₂+1),IW,a₂,w₂,sl₃,T₂,Iu,Jd,Tz,runNT_then p1 (by simp only [runNT,p2,hrt];exact q1),by rw [q2];simpa using p3,q3,q4,q5,p7.trans q6,p8.trans p7 q7,fun x=>Nat.le_trans (q8 x) (Rx x)⟩
  | @en ex g w hrun hstep hk ih=>
    intro role live T gs sl hn ha H hdf ZN;obtain ⟨N,gs₁,w₁,d,sl₁,sl₂,T₁,Ic,Hr,p1,p2,p3,p4,p5,p6,p7,p8,p9,Rx⟩:=picked (sl:=sl) E hrun _ _ rfl rfl ha H;obtain ⟨g',hst⟩:=hstep _ p6;have MQ:∀ i st n c,Ic i=.seat st n->st.has c->Ch c:=fun i st n c e hc=>by obtain ⟨n',e'⟩:=p7.back e;exact ZN i st n' c e' hc
    have hrt:=runT_crowd_go (P:=P) (sl:=sl₂) p4 hst;obtain ⟨H',ha'⟩:=p5.mark E (fn:=g.frame.fn) (pos:=g.frame.place) (a':=g') (fun z=>z.2 rfl) p4 (m:=.enable) (.inr rfl);have KP:Deaf (T₁ ++ MemOp.ofEvents h g.frame.fn g.frame.place #[mk .enable]) h=false.toNat:=by rw [Deaf_own,p9,hdf];rfl
    have H2:Held P ty Wg K Still Bd Shun Quiet (QE Mem h false) Loose h Ic Hr ex (T₁ ++ MemOp.ofEvents h g.frame.fn g.frame.place #[mk .enable]) ((gs₁.map (woken P g g' (w₁.at d))).setIfInBounds h g') (w₁.at d):=by
      obtain ⟨C,hs,_⟩:=id H';have hM:∀ x,Mem x->QE Mem h true x\/x=h:=fun x hx=>by
        by_cases e:x=h
        . exact .inr e
        . exact .inl ⟨hx,e⟩
      exact ⟨⟨fun i g s m d hi hg e=>let ⟨a1,a2,a3,a4,a5⟩:=C.KR i g s m d hi hg e;⟨a1,a2,a3,fun z=>a4 ⟨z,hi⟩,a5⟩,C.seats,fun i st n e=>let ⟨a1,a2,a3,a4⟩:=C.seat i st n e;⟨a1,a2,a3.1,a4⟩,C.own,C.above,(C.past.join KP hmem).fewer hM,C.keep,C.wg,C.few,C.one⟩,hs,p5.tight⟩
    obtain ⟨N₂,IW,a₂,w₂,sl₃,T₂,Iu,Jd,Tz,q1,q2,q3,q4,q5,q6,q7,q8⟩:=ih _ _ p6 hst (sl:=sl₂) (by simp [p3,hn]) ha' H2 KP MQ;exact ⟨N+(N₂+1),IW,a₂,w₂,sl₃,T₂,Iu,Jd,Tz,runNT_then p1 (by simp only [runNT,p2,hrt];exact q1),by rw [q2];simpa using p3,q3,q4,q5,p7.trans q6,p8.trans p7 q7,fun x=>Nat.le_trans (q8 x) (Rx x)⟩
  | @add ex g w hrun hcap hstep hk ih=>
    intro role live T gs sl hn ha H hdf ZN;obtain ⟨N,gs₁,w₁,d,sl₁,sl₂,T₁,Ic,Hr,p1,p2,p3,p4,p5,p6,p7,p8,p9,Rx⟩:=picked (sl:=sl) E hrun _ _ rfl rfl ha H;have hsum:sumTo gs₁.size Hr<=gs₁.size:=by have:=Go.ConcN.sumTo_le (f:=Hr) (c:=1) (j:=gs₁.size) fun i _=>p5.J9.one i;omega
    have hv:sumTo gs₁.size Hr+ex+1 < 2147483648:=by omega
    obtain ⟨g',hst⟩:=hstep _ _ p6 hv p5.J9.wg;have MQ:∀ i st n c,Ic i=.seat st n->st.has c->Ch c:=fun i st n c e hc=>by obtain ⟨n',e'⟩:=p7.back e;exact ZN i st n' c e' hc
    have hrt:=runT_crowd_go (P:=P) (sl:=sl₂) p4 hst;obtain ⟨H',ha'⟩:=p5.count (fn:=g.frame.fn) (pos:=g.frame.place) (a':=g') E (fun z=>z.2 rfl) p4 hv;have KP:Deaf (T₁ ++ MemOp.ofEvents h g.frame.fn g.frame.place #[rd (stA Wg),wr (stA Wg)]) h=true.toNat:=by rw [Deaf_own,p9,hdf];rfl
    obtain ⟨N₂,IW,a₂,w₂,sl₃,T₂,Iu,Jd,Tz,q1,q2,q3,q4,q5,q6,q7,q8⟩:=ih _ _ _ p6 hv p5.J9.wg hst (sl:=sl₂) (by simp [p3,hn]) ha' H' KP MQ;exact ⟨N+(N₂+1),IW,a₂,w₂,sl₃,T₂,Iu,Jd,Tz,runNT_then p1 (by simp only [runNT,p2,hrt];exact q1),by rw [q2];simpa using p3,q3,q4,q5,p7.trans q6,p8.trans p7 q7,fun x=>Nat.le_trans (q8 x) (Rx x)⟩
end
end
end Go.LC
namespace Go.LC
open Go Go.Conc Go.LT
open Go.ConcN (WgLive sumTo upd sumTo_upd upd_ne upd_same)
open Go.ConcR (KK wgBlock WgAt stA smA rd wr mk DC0)
section
section
variable {Still:Nat->Loc->Prop}{Shun:Loc->Prop}{Mem Loose:Nat->Prop}{B:Nat}{K K':Nat->Prop}{t:Trace}
theorem Jl.OP {g:Nat}(H:Jl Still Shun Mem Loose B K t)(hK:∀ i,K i->K' i)(hg:¬ Mem g){ad:Addr}(hS:Shun (.cell ad))(hap:∀ g l,Still g l->¬ Shun l)(hB:ad.block < B)(hd:0 < Deaf t g){fn:FuncId}{pos:String}{es:Array Event}(hes:∀ e∈es,e=⟨.cell ad,false,true⟩\/e=⟨.cell ad,true,true⟩):Jl Still Shun Mem Loose B K' (t ++ MemOp.ofEvents g fn pos es):=by
  refine H.deaf hK hg (fun op hop=>by obtain ⟨e,_,rfl⟩:=Conc.mem_ofEvents hop;rfl) (fun op hop b hb=>?_) (fun op hop dd=>?_) hd (fun op hop=>?_)
  . obtain ⟨e,he,rfl⟩:=Conc.mem_ofEvents hop;have hloc:b.loc=.cell ad/\b.kind=.atomic:=by rcases hes e he with rfl|rfl <;> (simp only [MemAct.ofEvent,MemAct.touch?,Option.some.injEq] at hb;subst hb;exact ⟨rfl,rfl⟩)
    exact ⟨by rw [hloc.1];exact hS,hloc.2,fun g' hs=>hap g' _ hs (by rw [hloc.1];exact hS)⟩
  . obtain ⟨e,he,rfl⟩:=Conc.mem_ofEvents hop;rcases hes e he with rfl|rfl <;> rfl
  . obtain ⟨e,he,rfl⟩:=Conc.mem_ofEvents hop;rcases hes e he with rfl|rfl <;> exact hB
theorem Jl.Yp {g:Nat}(H:Jl Still Shun Mem Loose B K t)(hK:∀ i,K i->K' i)(hg:¬ Mem g){fn:FuncId}{pos:String}{m:Mark}(hm:m=.disable\/m=.enable):Jl Still Shun Mem Loose B K' (t ++ MemOp.ofEvents g fn pos #[⟨.mark m,false,true⟩]):=by
  refine H.mute hK (fun op hop=>by obtain ⟨e,_,rfl⟩:=Conc.mem_ofEvents hop;rfl) (fun op hop=>?_) (fun z=>absurd z hg) fun op hop=>?_ <;>
  . obtain ⟨e,he,rfl⟩:=Conc.mem_ofEvents hop;simp only [List.mem_toArray,List.mem_cons,List.not_mem_nil,or_false] at he;subst he;rcases hm with rfl|rfl <;> first|rfl|trivial
theorem Jl.sem {g:Nat}(H:Jl Still Shun Mem Loose B K t){Kf:Trace->Nat->Prop}(hKf:K=Kf t)(fE:∀ t u i,Kf t i->Kf (t ++ u) i)(hg:¬ Mem g){ad:Addr}(hS:Shun (.cell ad))(hap:∀ g l,Still g l->¬ Shun l)(hB:ad.block < B)(fn:FuncId)(pos:String) :
    Jl Still Shun Mem Loose B (Kf (t ++ MemOp.ofEvents g fn pos (semEvents ad))) (t ++ MemOp.ofEvents g fn pos (semEvents ad))/\Deaf (t ++ MemOp.ofEvents g fn pos (semEvents ad)) g=Deaf t g:=by
  have e1:MemOp.ofEvents g fn pos (semEvents ad)=MemOp.ofEvents g fn pos #[⟨.mark .disable,false,true⟩] ++ (MemOp.ofEvents g fn pos #[⟨.cell ad,false,true⟩,⟨.cell ad,true,true⟩] ++ MemOp.ofEvents g fn pos #[⟨.mark .enable,false,true⟩]):=by simp [ofEvents_eq,semEvents]
  subst hKf;have p1:=H.Yp (fE t (MemOp.ofEvents g fn pos #[⟨.mark .disable,false,true⟩])) hg (fn:=fn) (pos:=pos) (.inl rfl);have d1:Deaf (t ++ MemOp.ofEvents g fn pos #[⟨.mark .disable,false,true⟩]) g=Deaf t g+1:=by rw [Deaf_own];rfl
  have p2:=p1.OP (fE _ (MemOp.ofEvents g fn pos #[⟨.cell ad,false,true⟩,⟨.cell ad,true,true⟩])) hg hS hap hB (by omega) (fn:=fn) (pos:=pos) (es:=#[⟨.cell ad,false,true⟩,⟨.cell ad,true,true⟩]) (fun e he=>by simpa using he);have d2:Deaf (t ++ MemOp.ofEvents g fn pos #[⟨.mark .disable,false,true⟩] ++ MemOp.ofEvents g fn pos #[⟨.cell ad,false,true⟩,⟨.cell ad,true,true⟩]) g=Deaf t g+1:=by rw [Deaf_own,d1];rfl
  have p3:=p2.Yp (fE _ (MemOp.ofEvents g fn pos #[⟨.mark .enable,false,true⟩])) hg (fn:=fn) (pos:=pos) (.inr rfl);have d3:Deaf (t ++ MemOp.ofEvents g fn pos #[⟨.mark .disable,false,true⟩] ++ MemOp.ofEvents g fn pos #[⟨.cell ad,false,true⟩,⟨.cell ad,true,true⟩] ++ MemOp.ofEvents g fn pos #[⟨.mark .enable,false,true⟩]) g=Deaf t g:=by rw [Deaf_own,d2];rfl
  rw [e1,← Array.append_assoc,← Array.append_assoc];exact ⟨p3,d3⟩
end
def T9:Ik->Nat
  | .fin s _ _=>cn s
  | _=>0
inductive OE (n:Nat)(role:Nat->Ik):Nat->Nat->Nat->Prop
  | b1 {v:Nat} (hv:1<=v) (hs:∀ i,i≠0->i < n->(role i).stage=7\/(role i).stage=6\/(role i).stage=5\/(role i).stage=1) (hc:v=sumTo n fun i=>T9 (role i)):OE n role v 1 0
  | b2 (L:Nat) (hL:L≠0) (hLn:L < n) (hs:(role L).stage=4\/(role L).stage=3) (ho:∀ i,i≠0->i≠L->i < n->(role i).stage=1):OE n role 0 1 0
  | b3 (L:Nat) (hL:L≠0) (hLn:L < n) (hs:(role L).stage=2) (ho:∀ i,i≠0->i≠L->i < n->(role i).stage=1):OE n role 0 0 0
  | b4 (ho:∀ i,i≠0->i < n->(role i).stage=1):OE n role 0 0 1
structure UU (P:Program)(ty:TypeId)(Wg:Nat)(K:Nat->World->Prop)(Still:Nat->Loc->Prop)(Shun:Loc->Prop)(Mem Loose:Nat->Prop)(role:Nat->Ik)(v wt sm:Nat)(T:Trace)(gs:Array Goroutine)(w:World):Prop where
  KR:∀ i g s m d,i≠0->gs[i]?=some g->role i=.fin s m d->Fs P ty Wg s m d g w/\Deaf T i=d/\¬ Mem i
  all:∀ i,i≠0->i < gs.size->∃ s m d,role i=.fin s m d
  zero:T9 (role 0)=0
  eP:¬ Mem 0
  deaf0:Deaf T 0=1
  above:∀ j,gs.size<=j->Deaf T j=0
  past:Jl Still Shun Mem Loose w.heap.size (Knows T 0) T
  tight:¬ Loose 0
  wg:WgAt ty Wg w (v * KK+wt) sm
  mode:OE gs.size role v wt sm
  few:v < 2147483648
def LX (Wg:Nat)(w w':World):Prop:=w'=w\/(∃ x,w'=w.setCell (stA Wg) x)\/∃ x,w'=w.setCell (smA Wg) x
theorem LX.size {Wg:Nat}{w w':World}(h:LX Wg w w'):w'.heap.size=w.heap.size:=by rcases h with rfl|⟨x,rfl⟩|⟨x,rfl⟩ <;> simp [World.setCell]
theorem LX.RG {ty:TypeId}{Wg:Nat}{w w':World}(h:LX Wg w w')(hl:WgLive ty Wg w')(hl0:WgLive ty Wg w):Jc ty Wg w w':=by
  refine ⟨?_,?_,?_,h.size,fun b hb=>?_,fun _=>hl,.inl hl0⟩
  . rcases h with rfl | ⟨x,rfl⟩ | ⟨x,rfl⟩ <;> rfl
  . rcases h with rfl | ⟨x,rfl⟩ | ⟨x,rfl⟩ <;> rfl
  . rcases h with rfl | ⟨x,rfl⟩ | ⟨x,rfl⟩ <;> rfl
  . rcases h with rfl | ⟨x,rfl⟩ | ⟨x,rfl⟩ <;> simp [World.setCell,stA,smA,Array.getElem?_modify,Ne.symm hb]
structure VD (Wg:Nat)(K:Nat->World->Prop)(Still:Nat->Loc->Prop)(Shun:Loc->Prop):Prop extends Env Wg K Still Shun where
  jk:Shun (.cell (smA Wg))
section
variable {P:Program}{ty:TypeId}{Wg:Nat}{K:Nat->World->Prop}{Still:Nat->Loc->Prop}{Bd:Nat->Nat}{Shun:Loc->Prop}{Quiet Sp Mem Loose:Nat->Prop}{role:Nat->Ik}{v wt sm:Nat}{T:Trace}{gs:Array Goroutine}{w:World}
theorem UU.put (E:VD Wg K Still Shun)(C:UU P ty Wg K Still Shun Mem Loose role v wt sm T gs w){i:Nat}{g g':Goroutine}{s' m' d' v' ku sm':Nat}{w':World}{ops:Trace}(hw:LX Wg w w')(hi:gs[i]?=some g)(h0:i≠0)(hops:∀ op∈ops,op.g=i)(hF:Fs P ty Wg s' m' d' g' w')(hd:Deaf (T ++ ops) i=d')(hp:Jl Still Shun Mem Loose w.heap.size (Knows (T ++ ops) 0) (T ++ ops))(hwg:WgAt ty Wg w' (v' * KK+ku) sm')(hm:OE gs.size (upd role i (.fin s' m' d')) v' ku sm')(hf:v' < 2147483648) :
    UU P ty Wg K Still Shun Mem Loose (upd role i (.fin s' m' d')) v' ku sm' (T ++ ops) ((gs.map (woken P g g' w')).setIfInBounds i g') w':=by
  have hlt:i < gs.size:=(Array.getElem?_eq_some_iff.1 hi).1;have hrx:=PL ty Wg ⟨_,_,C.wg⟩ ⟨_,_,hwg⟩;have hD:∀ x,x≠i->Deaf (T ++ ops) x=Deaf T x:=fun x hx=>Deaf_other T (fun z=>hx z.symm) _ hops;have hM:¬ Mem i:=by obtain ⟨s,m,d,e⟩:=C.all i h0 hlt;exact (C.KR i g s m d h0 hi e).2.2
  refine ⟨fun x y s m d hx hy e=>?_,fun x hx hlx=>?_,?_,C.eP,by rw [hD 0 (Ne.symm h0)];exact C.deaf0,fun j hj=>?_,by rw [hw.size];exact hp,C.tight,hwg,by simpa using hm,hf⟩
  . by_cases ex:x=i
    . subst ex;rw [upd_same] at e;cases e
      rw [Array.getElem?_setIfInBounds_self_of_lt (by simpa using hlt)] at hy;obtain rfl:=Option.some.inj hy;exact ⟨hF,hd,hM⟩
    . rw [upd_ne role _ ex] at e;rw [Array.getElem?_setIfInBounds_ne (fun z=>ex z.symm),Array.getElem?_map] at hy;obtain ⟨y0,hy0,rfl⟩:=Option.map_eq_some_iff.1 hy;obtain ⟨a1,a2,a3⟩:=C.KR x y0 s m d hx hy0 e;rw [woken_of_again (again_of_running a1.status w'),hD x ex];exact ⟨a1.rely hrx,a2,a3⟩
  . by_cases ex:x=i
    . subst ex;exact ⟨_,_,_,upd_same _ _ _⟩
    . rw [upd_ne role _ ex];exact C.all x hx (by simpa using hlx)
  . rw [upd_ne role _ (Ne.symm h0)];exact C.zero
  . have hj':gs.size<=j:=by simpa using hj
    rw [hD j (by omega)];exact C.above j hj'
theorem OE.congr {n:Nat}{r r':Nat->Ik}{v wt sm:Nat}(h:OE n r v wt sm)(hs:∀ i,i < n->(r' i).stage=(r i).stage/\T9 (r' i)=T9 (r i)):OE n r' v wt sm:=by
  cases h with
  | b1 hv h1 hc=>exact .b1 hv (fun i h0 hi=>by rw [(hs i hi).1];exact h1 i h0 hi) (by rw [hc];exact Go.ConcN.sumTo_congr fun i hi=>((hs i hi).2).symm)
  | b2 L hL hn h1 ho=>exact .b2 L hL hn (by rw [(hs L hn).1];exact h1) fun i a b c=>by rw [(hs i c).1];exact ho i a b c
  | b3 L hL hn h1 ho=>exact .b3 L hL hn (by rw [(hs L hn).1];exact h1) fun i a b c=>by rw [(hs i c).1];exact ho i a b c
  | b4 ho=>exact .b4 fun i a c=>by rw [(hs i c).1];exact ho i a c
theorem YX {n i:Nat}{role:Nat->Ik}{r':Ik}(hi:i < n):(sumTo n fun a=>T9 (upd role i r' a))+T9 (role i)=(sumTo n fun a=>T9 (role a))+T9 r':=sumTo_upd role r' T9 hi
theorem UU.by_step (E:VD Wg K Still Shun)(C:UU P ty Wg K Still Shun Mem Loose role v wt sm T gs w){i:Nat}{g:Goroutine}{sl:Option (Nat × Nat)}(hi:gs[i]?=some g)(h0:i≠0)(hrun:g.status=.running) :
    ∃ g' w' ops r' v' ku sm',runT P (crowd gs w sl) i=(.next (crowd ((gs.map (woken P g g' w')).setIfInBounds i g') w' sl),ops)/\LX Wg w w'/\UU P ty Wg K Still Shun Mem Loose (upd role i r') v' ku sm' (T ++ ops) ((gs.map (woken P g g' w')).setIfInBounds i g') w'/\
      Less gs.size (upd role i r') role/\(sm'=1->sm=0->mayWake P g=true/\g'.status≠.blocked/\g'.status≠.waiting):=by
  have hlt:i < gs.size:=(Array.getElem?_eq_some_iff.1 hi).1;have hi0:(i == 0)=false:=by simp;omega
  obtain ⟨s,m,d,er⟩:=C.all i h0 hlt;obtain ⟨hF,hD,hM⟩:=C.KR i g s m d h0 hi er;have hst:(role i).stage=s:=by rw [er];rfl
  have hops:∀ (es:Array Event),∀ op∈MemOp.ofEvents i g.frame.fn g.frame.place es,op.g=i:=fun es op hop=>by obtain ⟨e,_,rfl⟩:=Conc.mem_ofEvents hop;rfl
  have hWs:Wg < w.heap.size:=(Array.getElem?_eq_some_iff.1 C.wg).1;have fE:∀ (t u:Trace) i,Knows t 0 i->Knows (t ++ u) 0 i:=fun t u i=>Knows.app u;have dc:∀ {w':World} {es:Array Event},DC0 w w' es->w'=w/\es=#[]:=fun h=>⟨h.1,h.2⟩
  have quiet:∀ (g':Goroutine) (es:Array Event) (m':Nat),stepG P false g w=.go g' w es->Fs P ty Wg s m' (deafBehind d es) g' w->m' < m->(∀ e∈es,(MemAct.ofEvent e).touch?=none/\(MemAct.ofEvent e).low (Wg+1))->
      ∃ g' w' ops r' v' ku sm',runT P (crowd gs w sl) i=(.next (crowd ((gs.map (woken P g g' w')).setIfInBounds i g') w' sl),ops)/\LX Wg w w'/\UU P ty Wg K Still Shun Mem Loose (upd role i r') v' ku sm' (T ++ ops) ((gs.map (woken P g g' w')).setIfInBounds i g') w'/\
      Less gs.size (upd role i r') role/\(sm'=1->sm=0->mayWake P g=true/\g'.status≠.blocked/\g'.status≠.waiting):=by
    intro g' es m' hgo hF' hlt' hes;refine ⟨g',w,_,.fin s m' (deafBehind d es),v,wt,sm,runT_crowd_go (sl:=sl) hi (by rw [hi0];exact hgo),.inl rfl,C.put E (.inl rfl) hi h0 (hops es) hF' (by rw [Deaf_own,hD]) ?_ C.wg (C.mode.congr fun x hx=>?_) C.few,Kl hlt (.inr ⟨hst.symm,by rw [er];exact hlt'⟩),fun a b=>by omega⟩
    . refine C.past.mute (fE T _) (hops es) (fun op hop=>?_) (fun z=>absurd z hM) fun op hop=>?_
      . obtain ⟨e,he,rfl⟩:=Conc.mem_ofEvents hop;exact (hes e he).1
      . obtain ⟨e,he,rfl⟩:=Conc.mem_ofEvents hop;exact MemAct.low_mono hWs (hes e he).2
    . by_cases e:x=i
      . subst e;rw [upd_same,er];exact ⟨rfl,rfl⟩
      . rw [upd_ne _ _ e];exact ⟨rfl,rfl⟩
  have idle:∀ (g':Goroutine) (w':World) (es:Array Event) (m':Nat),stepG P false g w=.go g' w' es->DC0 w w' es->Fs P ty Wg s m' d g' w'->m' < m->
      ∃ g' w' ops r' v' ku sm',runT P (crowd gs w sl) i=(.next (crowd ((gs.map (woken P g g' w')).setIfInBounds i g') w' sl),ops)/\LX Wg w w'/\UU P ty Wg K Still Shun Mem Loose (upd role i r') v' ku sm' (T ++ ops) ((gs.map (woken P g g' w')).setIfInBounds i g') w'/\
      Less gs.size (upd role i r') role/\(sm'=1->sm=0->mayWake P g=true/\g'.status≠.blocked/\g'.status≠.waiting):=by
    intro g' w' es m' hgo hdc hF' hlt';obtain ⟨rfl,rfl⟩:=dc hdc;exact quiet g' #[] m' hgo (by simpa [deafBehind] using hF') hlt' (by simp)
  have hmark:∀ (s':Nat),(s=7/\s'=6)\/(s=6/\s'=5)->OE gs.size role v wt sm->∀ m' d',OE gs.size (upd role i (.fin s' m' d')) v wt sm:=by
    intro s' hs' hmo m' d';cases hmo with
    | b1 hv h1 hc=>
      refine .b1 hv (fun x a b=>?_) ?_
      . by_cases e:x=i
        . subst e;rw [upd_same];rcases hs' with ⟨_,rfl⟩ | ⟨_,rfl⟩ <;> simp [Ik.stage]
        . rw [upd_ne _ _ e];exact h1 x a b
      . have:=YX (role:=role) (r':=.fin s' m' d') hlt;have e1:T9 (role i)=1:=by rw [er];rcases hs' with ⟨rfl,_⟩ | ⟨rfl,_⟩ <;> rfl
        have e2:T9 (.fin s' m' d')=1:=by rcases hs' with ⟨_,rfl⟩ | ⟨_,rfl⟩ <;> rfl
        omega
    | b2 L hL hn h1 ho=>
      exfalso
      by_cases e:i=L
      . subst e;omega
      . have:=ho i h0 e hlt;omega
    | b3 L hL hn h1 ho=>
      exfalso
      by_cases e:i=L
      . subst e;omega
      . have:=ho i h0 e hlt;omega
    | b4 ho=>exfalso;have:=ho i h0 hlt;omega
  cases hF with
  | r0 h=>
    rcases Lj (IZ w) h with ⟨_,g',hgo,m',hG⟩|⟨n',g',w',es,rfl,hgo,dD,hG⟩
    . refine ⟨g',w,_,.fin 6 m' 0,v,wt,sm,runT_crowd_go (sl:=sl) hi (by rw [hi0];exact hgo),.inl rfl,C.put E (.inl rfl) hi h0 (hops _) (.k1 hG) (by rw [Deaf_own,hD];rfl) ?_ C.wg (hmark 6 (.inl ⟨rfl,rfl⟩) C.mode _ _) C.few,Kl hlt (.inl (by rw [hst];simp [Ik.stage])),fun a b=>by omega⟩
      refine C.past.mute (fE T _) (hops _) (fun op hop=>?_) (fun z=>absurd z hM) fun op hop=>?_ <;>
      . obtain ⟨e,he,rfl⟩:=Conc.mem_ofEvents hop;simp only [List.mem_toArray,List.mem_cons,List.not_mem_nil,or_false] at he;subst he;first | rfl | exact hWs
    . exact idle g' w' es n' hgo dD (.r0 hG) (by omega)
  | k1 h=>
    rcases Lj (IZ w) h with ⟨_,g',hgo,m',hG⟩|⟨n',g',w',es,rfl,hgo,dD,hG⟩
    . refine ⟨g',w,_,.fin 5 m' 1,v,wt,sm,runT_crowd_go (sl:=sl) hi (by rw [hi0];exact hgo),.inl rfl,C.put E (.inl rfl) hi h0 (hops _) (.d1 hG) (by rw [Deaf_own,hD];rfl) ?_ C.wg (hmark 5 (.inr ⟨rfl,rfl⟩) C.mode _ _) C.few,Kl hlt (.inl (by rw [hst];simp [Ik.stage])),fun a b=>by omega⟩
      exact C.past.Yp (fE T _) hM (.inl rfl)
    . exact idle g' w' es n' hgo dD (.k1 hG) (by omega)
  | d1 h=>
    rcases Lj (IZ w) h with ⟨_,hadd⟩|⟨n',g',w',es,rfl,hgo,dD,hG⟩
    ·
      have hmo:=C.mode;have yX:=C.wg;have Qf:=C.few;cases hmo with
      | b1 hv h1 hc=>
        obtain ⟨v',rfl⟩:∃ v',v=v'+1:=⟨v - 1,by omega⟩
        obtain ⟨g',hgo,hlast,hq⟩:=hadd v' 1 (by omega) (by omega) (by simpa using yX);have hwg':WgAt ty Wg (w.setCell (stA Wg) (.int .u64 ((v':Int) * KK+((1:Nat):Int)))) ((v':Int) * KK+((1:Nat):Int)) ((0:Nat):Int):=by have:=yX.setSt ((v':Int) * KK+((1:Nat):Int));simpa using this
        have hp:=C.past.OP (ad:=stA Wg) (fE T (MemOp.ofEvents i g.frame.fn g.frame.place #[rd (stA Wg),wr (stA Wg)])) hM E.shun E.apart hWs (by rw [hD];omega) (fn:=g.frame.fn) (pos:=g.frame.place) (es:=#[rd (stA Wg),wr (stA Wg)]) (fun e he=>by simpa [rd,wr] using he);have hdf:Deaf (T ++ MemOp.ofEvents i g.frame.fn g.frame.place #[rd (stA Wg),wr (stA Wg)]) i=1:=by rw [Deaf_own,hD];rfl
        have hsum:=fun r'=>YX (role:=role) (r':=r') hlt;have e1:T9 (role i)=1:=by rw [er];rfl
        by_cases hz:v'=0
        . subst hz;obtain ⟨m',hG⟩:=hlast ⟨rfl,rfl⟩;refine ⟨g',_,_,.fin 4 m' 1,0,1,0,runT_crowd_go (sl:=sl) hi (by rw [hi0];exact hgo),.inr (.inl ⟨_,rfl⟩),C.put E (.inr (.inl ⟨_,rfl⟩)) hi h0 (hops _) (.d2 hG) hdf hp hwg' (.b2 i h0 hlt (.inl (by rw [upd_same];rfl)) fun x a b c=>?_) (by omega),Kl hlt (.inl (by rw [hst];simp [Ik.stage])),fun a b=>by omega⟩;rw [upd_ne _ _ b];have hx0:T9 (role x)=0:=by
            have hs2:=hsum (.fin 1 0 0);have:T9 (.fin 1 0 0)=0:=rfl;have hz0:(sumTo gs.size fun a=>T9 (upd role i (.fin 1 0 0) a))=0:=by omega
            have:=Go.ConcN.le_sumTo (f:=fun a=>T9 (upd role i (.fin 1 0 0) a)) (i:=x) (j:=gs.size) c;simp only [upd_ne role _ b] at this;omega
          obtain ⟨s2,m2,d2,e2⟩:=C.all x a c;have h2:=h1 x a c;rw [e2] at hx0 h2 ⊢;simp only [Ik.stage,T9,cn] at hx0 h2 ⊢;split at hx0 <;> omega
        . obtain ⟨q,hq⟩:=hq (by omega);refine ⟨g',_,_,.fin 1 q 1,v',1,0,runT_crowd_go (sl:=sl) hi (by rw [hi0];exact hgo),.inr (.inl ⟨_,rfl⟩),C.put E (.inr (.inl ⟨_,rfl⟩)) hi h0 (hops _) (.quit hq) hdf hp hwg' (.b1 (by omega) (fun x a c=>?_) ?_) (by omega),Kl hlt (.inl (by rw [hst];simp [Ik.stage])),fun a b=>by omega⟩
          . by_cases e:x=i
            . subst e;rw [upd_same];simp [Ik.stage]
            . rw [upd_ne _ _ e];exact h1 x a c
          . have:=hsum (.fin 1 q 1);have e2:T9 (.fin 1 q 1)=0:=rfl;omega
      | b2 L hL hn h1 ho=>
        exfalso
        by_cases e:i=L
        . subst e;omega
        . have:=ho i h0 e hlt;omega
      | b3 L hL hn h1 ho=>
        exfalso
        by_cases e:i=L
        . subst e;omega
        . have:=ho i h0 e hlt;omega
      | b4 ho=>exfalso;have:=ho i h0 hlt;omega
    . exact idle g' w' es n' hgo dD (.d1 hG) (by omega)
  | d2 h=>
    have hmo:wt=1/\v=0/\sm=0/\∀ x,x≠0->x≠i->x < gs.size->(role x).stage=1:=by
      have hmo:=C.mode;cases hmo with
      | b1 hv h1 hc=>exfalso;have:=h1 i h0 hlt;omega
      | b2 L hL hn h1 ho=>
        by_cases e:i=L
        . subst e;exact ⟨rfl,rfl,rfl,ho⟩
        . exfalso;have:=ho i h0 e hlt;omega
      | b3 L hL hn h1 ho=>
        exfalso
        by_cases e:i=L
        . subst e;omega
        . have:=ho i h0 e hlt;omega
      | b4 ho=>exfalso;have:=ho i h0 hlt;omega
    obtain ⟨rfl,rfl,rfl,ho⟩:=hmo;rcases Lj (IZ w) h with ⟨_,hld⟩|⟨n',g',w',es,rfl,hgo,dD,hG⟩
    . obtain ⟨g',hgo,m',hG⟩:=hld (by simpa using C.wg);refine ⟨g',w,_,.fin 3 m' 1,0,1,0,runT_crowd_go (sl:=sl) hi (by rw [hi0];exact hgo),.inl rfl,C.put E (.inl rfl) hi h0 (hops _) (.d3 hG) (by rw [Deaf_own,hD];rfl) ?_ C.wg (.b2 i h0 hlt (.inr (by rw [upd_same];rfl)) fun x a b c=>by rw [upd_ne _ _ b];exact ho x a b c) C.few,Kl hlt (.inl (by rw [hst];simp [Ik.stage])),fun a b=>by omega⟩;exact C.past.OP (ad:=stA Wg) (fE T _) hM E.shun E.apart hWs (by rw [hD];omega) (fun e he=>by simp [rd] at he;exact .inl he)
    . exact idle g' w' es n' hgo dD (.d2 hG) (by omega)
  | d3 h=>
    have hmo:wt=1/\v=0/\sm=0/\∀ x,x≠0->x≠i->x < gs.size->(role x).stage=1:=by
      have hmo:=C.mode;cases hmo with
      | b1 hv h1 hc=>exfalso;have:=h1 i h0 hlt;omega
      | b2 L hL hn h1 ho=>
        by_cases e:i=L
        . subst e;exact ⟨rfl,rfl,rfl,ho⟩
        . exfalso;have:=ho i h0 e hlt;omega
      | b3 L hL hn h1 ho=>
        exfalso
        by_cases e:i=L
        . subst e;omega
        . have:=ho i h0 e hlt;omega
      | b4 ho=>exfalso;have:=ho i h0 hlt;omega
    obtain ⟨rfl,rfl,rfl,ho⟩:=hmo;rcases Lj (IZ w) h with ⟨_,Afb⟩|⟨n',g',w',es,rfl,hgo,dD,hG⟩
    . obtain ⟨g',hgo,m',hG⟩:=Afb (by simpa using C.wg);refine ⟨g',_,_,.fin 2 m' 1,0,0,0,runT_crowd_go (sl:=sl) hi (by rw [hi0];exact hgo),.inr (.inl ⟨_,rfl⟩),C.put E (.inr (.inl ⟨_,rfl⟩)) hi h0 (hops _) (.d4 hG) (by rw [Deaf_own,hD];rfl) ?_ (by have:=C.wg.setSt 0;simpa using this) (.b3 i h0 hlt (by rw [upd_same];rfl) fun x a b c=>by rw [upd_ne _ _ b];exact ho x a b c) C.few,Kl hlt (.inl (by rw [hst];simp [Ik.stage])),fun a b=>by omega⟩;exact C.past.OP (ad:=stA Wg) (fE T _) hM E.shun E.apart hWs (by rw [hD];omega) (fun e he=>by simp [wr] at he;exact .inr he)
    . exact idle g' w' es n' hgo dD (.d3 hG) (by omega)
  | d4 h=>
    have hmo:wt=0/\v=0/\sm=0/\∀ x,x≠0->x≠i->x < gs.size->(role x).stage=1:=by
      have hmo:=C.mode;cases hmo with
      | b1 hv h1 hc=>exfalso;have:=h1 i h0 hlt;omega
      | b2 L hL hn h1 ho=>
        exfalso
        by_cases e:i=L
        . subst e;omega
        . have:=ho i h0 e hlt;omega
      | b3 L hL hn h1 ho=>
        by_cases e:i=L
        . subst e;exact ⟨rfl,rfl,rfl,ho⟩
        . exfalso;have:=ho i h0 e hlt;omega
      | b4 ho=>exfalso;have:=ho i h0 hlt;omega
    obtain ⟨rfl,rfl,rfl,ho⟩:=hmo;rcases Lj (IZ w) h with ⟨_,hmw,hrel⟩|⟨n',g',w',es,rfl,hgo,dD,hG⟩
    . obtain ⟨g',hgo,q,hq⟩:=hrel (by simpa using C.wg);obtain ⟨hp,hdf⟩:=C.past.sem (Kf:=fun T=>Knows T 0) rfl fE hM E.jk E.apart (show (smA Wg).block < _ from hWs) g.frame.fn g.frame.place;refine ⟨g',_,_,.fin 1 q 1,0,0,1,runT_crowd_go (sl:=sl) hi (by rw [hi0];exact hgo),.inr (.inr ⟨_,rfl⟩),C.put E (.inr (.inr ⟨_,rfl⟩)) hi h0 (hops _) (.quit hq) (by rw [hdf,hD]) hp (by have:=C.wg.setSm 1;simpa using this) (.b4 fun x a c=>?_) C.few,Kl hlt (.inl (by rw [hst];simp [Ik.stage])),fun a b=>⟨hmw,by rcases hq.status with z | z <;> rw [z] <;> simp⟩⟩
      . by_cases e:x=i
        . subst e;rw [upd_same];rfl
        . rw [upd_ne _ _ e];exact ho x a e c
    . exact idle g' w' es n' hgo dD (.d4 hG) (by omega)
  | quit h=>
    cases m with
    | zero=>rw [h.1] at hrun;cases hrun
    | succ m=>
      rcases h with ⟨hf,_⟩|⟨_,g',es,hm,hgo,hq⟩
      . rw [hf] at hrun;cases hrun
      . exact quiet g' es m (hgo w) (.quit hq) (by omega) fun e he=>⟨touch_mute (hm e he),low_mute (hm e he) _⟩
end
end
end Go.LC
