/-
  Part 6 of the proof that CellAlone returns true for every input and leaves its arguments as they were. No further condition.
-/
import Derived.Test.YtkdhnbcdbnpmhaaQ01
import Derived.Test.YtkdhnbcdbnpmhaaQ05
set_option linter.unusedVariables false
set_option linter.unusedSectionVars false
namespace Go.LC
open Go Go.Conc Go.LT
open Go.ConcN (WgLive sumTo upd sumTo_upd upd_ne upd_same)
open Go.ConcR (KK wgBlock WgAt stA smA rd wr mk)
section
structure Jc (ty:TypeId)(Wg:Nat)(w w₁:World):Prop where
  tape:w₁.tape=w.tape
  os:w₁.os=w.os
  output:w₁.output=w.output
  size:w₁.heap.size=w.heap.size
  block:∀ b,b≠Wg->w₁.heap[b]?=w.heap[b]?
  live:WgLive ty Wg w->WgLive ty Wg w₁
  dead:WgLive ty Wg w\/w₁.heap[Wg]?=w.heap[Wg]?
section
variable {ty:TypeId}{Wg:Nat}{w w₁ w₂:World}
theorem Jc.refl (w:World):Jc ty Wg w w:=⟨rfl,rfl,rfl,rfl,fun _ _=>rfl,id,.inr rfl⟩
theorem Jc.trans (h:Jc ty Wg w w₁)(h':Jc ty Wg w₁ w₂):Jc ty Wg w w₂:=
  ⟨h'.tape.trans h.tape,h'.os.trans h.os,h'.output.trans h.output,h'.size.trans h.size,fun b hb=>(h'.block b hb).trans (h.block b hb),h'.live ∘ h.live,h.dead.elim .inl fun e=>h'.dead.elim (fun ⟨st,sm,hl⟩=>.inl ⟨st,sm,e.symm.trans hl⟩) fun e'=>.inr (e'.trans e)⟩
theorem Jc.at (w:World)(d:Nat):Jc ty Wg w (w.at d):=⟨rfl,rfl,rfl,rfl,fun _ _=>rfl,id,.inr rfl⟩
theorem Jc.Tc (h:KG Wg w w₁)(hl:WgLive ty Wg w₁)(hl0:WgLive ty Wg w):Jc ty Wg w w₁:=by
  refine ⟨?_,?_,?_,h.size,fun b hb=>h.other hb,fun _=>hl,.inl hl0⟩ <;>
  . rcases h with rfl | ⟨x,rfl⟩ <;> rfl
theorem Jc.turns {B:Hid}(hB:B Wg=true)(h:Jc ty Wg w w₁):Turns B w w₁:=by
  have key:∀ i:Nat,(GN B w₁).heap[i]?=(GN B w).heap[i]?:=by
    intro i;rw [H8,H8];by_cases hi:i=Wg
    . subst hi;rcases h.dead with ⟨st,sm,h0⟩|e
      . obtain ⟨st',sm',h1⟩:=h.live ⟨st,sm,h0⟩;unfold WgAt wgBlock at h0 h1;rw [h0,h1];simp [hB,Oo]
      . rw [e]
    . rw [h.block i hi]
  have row:∀ b:Nat,(∃ c e f,w.heap[b]?=some (Obj.cells c e f))->∃ c e f,w₁.heap[b]?=some (Obj.cells c e f):=fun b hr=>by
    by_cases hi:b=Wg
    . subst hi;rcases h.dead with ⟨st,sm,h0⟩|e
      . obtain ⟨st',sm',h1⟩:=h.live ⟨st,sm,h0⟩;exact ⟨_,_,_,h1⟩
      . rw [e];exact hr
    . rw [h.block b hi];exact hr
  refine ⟨h.tape,?_,fun hR=>⟨fun b hb=>row b (hR _ hb),fun b hb=>row b (hR.MH _ hb)⟩⟩;have:(GN B w₁).heap=(GN B w).heap:=Array.ext_getElem? key;have e1:=h.tape;have e2:=h.os;have e3:=h.output;simp only [GN,sh] at this ⊢;rw [this];cases w₁
  cases w
  simp only at e1 e2 e3 ⊢;subst e1 e2 e3;rfl
end
def wB (Still:Nat->Loc->Prop)(Shun:Loc->Prop)(h n:Nat)(e:Event):Prop:=
  (∀ b,(MemAct.ofEvent e).touch?=some b->(∀ g,g≠h->Still g b.loc->b.write=false)/\(Shun b.loc->b.kind≠.plain))/\e.loc≠.mark .disable/\e.loc≠.mark .enable/\(MemAct.ofEvent e).low n
structure Zv (K:Nat->World->Prop)(Still:Nat->Loc->Prop)(Shun:Loc->Prop)(Ch:Nat->Prop)(Wg h:Nat)(w w':World)(es:Array Event):Prop where
  keep:∀ i,i≠h->K i w->K i w'
  chan:∀ c k,Ch c->w.heap[c]?=some (.chan 0 #[] false k k false)->w'.heap[c]?=some (.chan 0 #[] false k k false)
  wg:w'.heap[Wg]?=w.heap[Wg]?
  size:w.heap.size<=w'.heap.size
  evs:∀ e∈es,wB Still Shun h w'.heap.size e
def Same (r r':Nat->Ik):Prop:=∀ i,(∀ st n,r i=.seat st n->∃ n',r' i=.seat st n')/\(∀ s m d,r i=.fin s m d->∃ s' m' d',r' i=.fin s' m' d')
theorem Same.refl (r:Nat->Ik):Same r r:=fun i=>⟨fun st n h=>⟨n,h⟩,fun s m d h=>⟨s,m,d,h⟩⟩
theorem Same.trans {r r' r'':Nat->Ik}(h:Same r r')(h':Same r' r''):Same r r'':=fun i=>
  ⟨fun st n e=>let ⟨n',e'⟩:=(h i).1 st n e;(h' i).1 st n' e',fun s m d e=>let ⟨s',m',d',e'⟩:=(h i).2 s m d e;(h' i).2 s' m' d' e'⟩
theorem Same.back {r r':Nat->Ik}(h:Same r r'){i:Nat}{st:Seat}{n:Nat}(e:r' i=.seat st n):∃ n',r i=.seat st n':=by
  cases hr:r i with
  | fin s m d=>obtain ⟨s',m',d',e'⟩:=(h i).2 s m d hr;rw [e] at e';cases e'
  | seat st' n'=>obtain ⟨n'',e'⟩:=(h i).1 st' n' hr;rw [e] at e';cases e';exact ⟨n',rfl⟩
theorem Same.upd {r:Nat->Ik}{i:Nat}{r':Ik}(h1:∀ st n,r i=.seat st n->∃ n',r'=.seat st n')(h2:∀ s m d,r i=.fin s m d->∃ s' m' d',r'=.fin s' m' d'):Same r (upd r i r'):=fun x=>by
  by_cases e:x=i
  . subst e;rw [upd_same];exact ⟨h1,h2⟩
  . rw [upd_ne r _ e];exact Same.refl r x
def NS (h:Nat)(r:Nat->Ik)(l l':Nat->Nat):Prop:=∀ x,(x=h\/∃ st n,r x=.seat st n)->l' x=l x
theorem NS.refl (h:Nat)(r:Nat->Ik)(l:Nat->Nat):NS h r l l:=fun _ _=>rfl
theorem NS.trans {h:Nat}{r r':Nat->Ik}{l l' l'':Nat->Nat}(a:NS h r l l')(s:Same r r')(b:NS h r' l' l''):NS h r l l'':=fun x hx=>
  (b x (hx.imp id fun ⟨st,n,e⟩=>let ⟨n',e'⟩:=(s x).1 st n e;⟨st,n',e'⟩)).trans (a x hx)
section
variable {P:Program}{ty:TypeId}{Wg:Nat}{K:Nat->World->Prop}{Still:Nat->Loc->Prop}{Bd:Nat->Nat}{Shun:Loc->Prop}{Quiet Sp Mem Loose:Nat->Prop}{Kf:Trace->Nat->Prop}{role:Nat->Ik}{live:Nat->Nat}{ex h:Nat}{T:Trace}{gs:Array Goroutine}{w:World}
theorem Qc.at (E:Env Wg K Still Shun)(C:Qc P ty Wg K Still Bd Shun Quiet Sp Mem Loose Kf role live ex T gs w)(d:Nat):Qc P ty Wg K Still Bd Shun Quiet Sp Mem Loose Kf role live ex T gs (w.at d):=
  ⟨fun i g s m dd hs hg hr=>let ⟨a,b,c⟩:=C.KR i g s m dd hs hg hr;⟨a,b.rely (PL ty Wg ⟨_,_,C.wg⟩ ⟨_,_,C.wg⟩),c⟩,C.seats,C.seat,C.own,C.above,C.past,fun i st n e=>E.kat _ _ _ (C.keep i st n e),C.wg,C.few,C.one⟩
structure Held (P:Program)(ty:TypeId)(Wg:Nat)(K:Nat->World->Prop)(Still:Nat->Loc->Prop)(Bd:Nat->Nat)(Shun:Loc->Prop)(Quiet Mem Loose:Nat->Prop)(h:Nat)(role:Nat->Ik)(live:Nat->Nat)(ex:Nat)(T:Trace)(gs:Array Goroutine)(w:World):Prop where
  J9:Qc P ty Wg K Still Bd Shun Quiet (fun x=>x=h) Mem Loose (fun T=>Knows T h) role live ex T gs w
  NV:∀ st n,role h≠.seat st n
  tight:¬ Loose h
theorem Qc.awake (C:Qc P ty Wg K Still Bd Shun Quiet Sp Mem Loose Kf role live ex T gs w)(hS:∀ x g,Sp x->gs[x]?=some g->g.status=.running\/g.status=.blocked):∀ g∈gs,awake g:=by
  intro g hg;obtain ⟨i,hi,rfl⟩:=Array.mem_iff_getElem.1 hg;have hgi:gs[i]?=some gs[i]:=Array.getElem?_eq_getElem hi;by_cases hsp:Sp i
  . exact awake_of ((hS i _ hsp hgi).imp id .inl)
  . cases e:role i with
    | fin s m d=>exact awake_of ((C.KR i _ s m d hsp hgi e).2.1.status.imp id .inr)
    | seat st n=>exact awake_of ((Sits.status (C.keep i st n e) (C.seats i _ st n hsp hgi e).1).elim (fun x=>.inl x.1) fun x=>.inr (.inl x.1))
theorem picked (E:Env Wg K Still Shun){a:Goroutine}(hrun:a.status=.running):∀ (m1 m2:Nat) {role:Nat->Ik} {live:Nat->Nat} {T:Trace} {gs:Array Goroutine} {w:World} {sl:Option (Nat × Nat)},M1 gs.size role=m1->M2 gs.size role=m2->
    gs[h]?=some a->Held P ty Wg K Still Bd Shun Quiet Mem Loose h role live ex T gs w->
    ∃ N gs' w' d sl' sl'' T' Ia Iz,runNT P N (crowd gs w sl) T=(.next (crowd gs' w' sl'),T')/\stepT P (crowd gs' w' sl')=runT P (crowd gs' (w'.at d) sl'') h/\gs'.size=gs.size/\gs'[h]?=some a/\
      Held P ty Wg K Still Bd Shun Quiet Mem Loose h Ia Iz ex T' gs' (w'.at d)/\Jc ty Wg w (w'.at d)/\Same role Ia/\NS h role live Iz/\Deaf T' h=Deaf T h/\∀ x,Iz x<=live x:=by
  intro m1;induction m1 using Nat.strongRecOn with
  | _ m1 ih1=>
  intro m2;induction m2 using Nat.strongRecOn with
  | _ m2 ih2=>
  intro role live T gs w sl hm1 hm2 ha H;have hsa:∀ x gx,x=h->gs[x]?=some gx->gx=a:=fun x gx hx hg=>by subst hx;rw [ha] at hg;exact (Option.some.inj hg).symm
  obtain ⟨i,g,d,sl',hi,hg,hst⟩:=crowd_pick (P:=P) (w:=w) (sl:=sl) (H.J9.awake fun x gx hx hg=>by rw [hsa x gx hx hg];exact .inl hrun) ⟨h,a,ha,hrun⟩;have Cd:=H.J9.at E d;by_cases e:i=h
  . subst e;exact ⟨0,gs,w,d,sl,sl',T,role,live,rfl,hst,rfl,ha,⟨Cd,H.NV,H.tight⟩,.at w d,.refl role,.refl _ role live,rfl,fun _=>Nat.le_refl _⟩
  . obtain ⟨gs',w',ops,r',L6,hrt,hsz,hsp,hw,hog,C',hlt,k1,k2,k3⟩:=Cd.by_step (sl:=sl') E (fun t u i=>Knows.app u) hi e hg
      (fun x gx w' hx hgx _=>by rw [hsa x gx hx hgx];exact again_of_running (.inl hrun) _)
      (fun st n g₂ _ _ x gx c hx hgx _=>by rw [hsa x gx hx hgx];exact offersAt_of_not_blocked (by rw [hrun];simp) _ _)
    have H':Held P ty Wg K Still Bd Shun Quiet Mem Loose h (upd role i r') (upd live i L6) ex (T ++ ops) gs' w':=⟨C',fun st n hh=>H.NV st n (by rw [upd_ne role _ (fun z=>e z.symm)] at hh;exact hh),H.tight⟩
    have hr1:Jc ty Wg w w':=(Jc.at w d).trans (Jc.Tc hw ⟨_,_,C'.wg⟩ ⟨_,_,Cd.wg⟩);have key:∃ N IW w₂ d₂ sl₂ sl₃ T₂ Iu Jd,runNT P N (crowd gs' w' sl') (T ++ ops)=(.next (crowd IW w₂ sl₂),T₂)/\stepT P (crowd IW w₂ sl₂)=runT P (crowd IW (w₂.at d₂) sl₃) h/\IW.size=gs'.size/\IW[h]?=some a/\
        Held P ty Wg K Still Bd Shun Quiet Mem Loose h Iu Jd ex T₂ IW (w₂.at d₂)/\Jc ty Wg w' (w₂.at d₂)/\Same (upd role i r') Iu/\NS h (upd role i r') (upd live i L6) Jd/\Deaf T₂ h=Deaf (T ++ ops) h/\∀ x,Jd x<=upd live i L6 x:=by
      have ha':gs'[h]?=some a:=by rw [hsp h rfl];exact ha
      rcases hlt with hl|⟨hl1,hl2⟩
      . exact ih1 (M1 gs'.size (upd role i r')) (by rw [hsz,← hm1];exact hl) _ rfl rfl ha' H'
      . exact ih2 (M2 gs'.size (upd role i r')) (by rw [hsz,← hm2];exact hl2) (by rw [hsz,hl1,hm1]) rfl ha' H'
    obtain ⟨N,IW,w₂,d₂,sl₂,sl₃,T₂,Iu,Jd,q1,q2,q3,q4,q5,q6,q7,q8,q9,q10⟩:=key;refine ⟨N+1,IW,w₂,d₂,sl₂,sl₃,T₂,Iu,Jd,by simp only [runNT,hst,hrt];exact q1,q2,q3.trans hsz,q4,q5,hr1.trans q6,(Same.upd (fun st n e=>let ⟨n',x,_⟩:=(k1 st n e).1;⟨n',x⟩) k2).trans q7,fun x hx=>?_,q9.trans (Deaf_other T (fun z=>e z) ops hog),fun x=>Nat.le_trans (q10 x) ?_⟩
    rotate_left
    . by_cases hxi:x=i
      . subst hxi;rw [upd_same];exact k3
      . rw [upd_ne live _ hxi];exact Nat.le_refl _
    by_cases hxi:x=i
    . subst hxi;rcases hx with hx|⟨st,n,hx⟩
      . exact absurd hx e
      . obtain ⟨⟨n',hr',_⟩,hlv⟩:=k1 st n hx;rw [q8 x (.inr ⟨st,n',by rw [upd_same];exact hr'⟩),upd_same,hlv]
    . rw [q8 x (hx.imp id fun ⟨st,n,hh⟩=>⟨st,n,by rw [upd_ne role _ hxi];exact hh⟩),upd_ne live _ hxi]
theorem KS {n:Nat}{fn:FuncId}{pos:String}{es:Array Event}(he:∀ e∈es,wB Still Shun h n e) :
    (∀ op∈MemOp.ofEvents h fn pos es,op.g=h)/\(∀ op∈MemOp.ofEvents h fn pos es,∀ b,op.act.touch?=some b->(∀ g,g≠h->Still g b.loc->b.write=false)/\(Shun b.loc->b.kind≠.plain))/\(∀ op∈MemOp.ofEvents h fn pos es,op.act.low n)/\
      ∀ t:Trace,Deaf (t ++ MemOp.ofEvents h fn pos es) h=Deaf t h:=by
  refine ⟨fun op hop=>by obtain ⟨e,_,rfl⟩:=Conc.mem_ofEvents hop;rfl,fun op hop b hb=>by obtain ⟨e,h',rfl⟩:=Conc.mem_ofEvents hop;exact (he e h').1 b hb,fun op hop=>by obtain ⟨e,h',rfl⟩:=Conc.mem_ofEvents hop;exact (he e h').2.2.2,fun t=>?_⟩;rw [Deaf_own];exact deafBehind_still (fun e h'=>⟨(he e h').2.1,(he e h').2.2.1⟩) _
theorem Held.own (H:Held P ty Wg K Still Bd Shun Quiet Mem Loose h role live ex T gs w){Ch:Nat->Prop}(ZN:∀ i st n c,role i=.seat st n->st.has c->Ch c){a a':Goroutine}{w':World}{es:Array Event}{fn:FuncId}{pos:String}(ha:gs[h]?=some a)(hd:Zv K Still Shun Ch Wg h w w' es) :
    Held P ty Wg K Still Bd Shun Quiet Mem Loose h role live ex (T ++ MemOp.ofEvents h fn pos es) ((gs.map (woken P a a' w')).setIfInBounds h a') w'/\((gs.map (woken P a a' w')).setIfInBounds h a')[h]?=some a':=by
  have hlt:h < gs.size:=(Array.getElem?_eq_some_iff.1 ha).1;obtain ⟨hops,hr,hl,hdf⟩:=KS (h:=h) (fn:=fn) (pos:=pos) hd.evs;have C:=H.J9;have hch:∀ i st n c,role i=.seat st n->st.has c->∃ k,w'.heap[c]?=some (.chan 0 #[] false k k false):=fun i st n c e hc=>by obtain ⟨k,hk⟩:=(C.seat i st n e).2.2.2.2 c hc;exact ⟨k,hd.chan c k (ZN i st n c e hc) hk⟩
  have hwg':WgAt ty Wg w' ((sumTo gs.size live+ex:Nat) * KK) 0:=by have:=C.wg;unfold WgAt at this ⊢;rw [hd.wg];exact this
  have hrx:=PL ty Wg ⟨_,_,C.wg⟩ ⟨_,_,hwg'⟩;have hget:∀ x,x≠h->((gs.map (woken P a a' w')).setIfInBounds h a')[x]?=gs[x]?:=by
    intro x hx;rw [Array.getElem?_setIfInBounds_ne (fun e=>hx e.symm),Array.getElem?_map];cases e:gs[x]? with
    | none=>rfl
    | some y=>
      have:y.again w'=y:=by
        cases er:role x with
        | fin s m d=>exact again_of_running (C.KR x y s m d hx e er).2.1.status w'
        | seat st n=>
          obtain ⟨hS,_⟩:=C.seats x y st n hx e er;exact Sits.again (hd.keep x hx (C.keep x st n er)) hS (C.seat x st n er).2.1 fun c hc=>by obtain ⟨k,hk⟩:=hch x st n c er hc;exact ⟨_,_,_,_,_,hk⟩
      simp [woken_of_again this]
  have hD:∀ x,x≠h->Deaf (T ++ MemOp.ofEvents h fn pos es) x=Deaf T x:=fun x hx=>Deaf_other T (fun z=>hx z.symm) _ hops;refine ⟨⟨⟨fun i g s m d hi hg e=>?_,fun i g st n hi hg e=>?_,fun i st n e=>?_,C.own,fun j hj=>?_,(C.past.mono hd.size).hold H.tight hops hr (fun _=>hdf T) hl,fun i st n e=>hd.keep i (fun z=>H.NV st n (z ▸ e)) (C.keep i st n e),by simpa using hwg',by simpa using C.few,C.one⟩,H.NV,H.tight⟩,Array.getElem?_setIfInBounds_self_of_lt (by simpa using hlt)⟩
  . rw [hget i hi] at hg;obtain ⟨h1,h2,h3,h4⟩:=C.KR i g s m d hi hg e;exact ⟨h1,h2.rely hrx,by rw [hD i hi];exact h3,h4⟩
  . rw [hget i hi] at hg;exact C.seats i g st n hi hg e
  . obtain ⟨h1,h2,h3,h4,_⟩:=C.seat i st n e;exact ⟨by simpa using h1,h2,h3,Nat.le_trans h4 hd.size,fun c hc=>hch i st n c e hc⟩
  . have hj':gs.size<=j:=by simpa using hj
    rw [hD j (by omega)];exact C.above j hj'
theorem Xf (E:Env Wg K Still Shun){Ch:Nat->Prop}{D:World->World->Array Event->Prop}{Stop:Goroutine->World->Prop}(hD:∀ w w' es,D w w' es->Zv K Still Shun Ch Wg h w w' es){a:Goroutine}{w:World}(hW:LT.Way P (h == 0) (Jc ty Wg) D Stop a w) :
    ∀ {role:Nat->Ik} {live:Nat->Nat} {T:Trace} {gs:Array Goroutine} {sl:Option (Nat × Nat)},gs[h]?=some a->Held P ty Wg K Still Bd Shun Quiet Mem Loose h role live ex T gs w->(∀ i st n c,role i=.seat st n->st.has c->Ch c)->
    ∃ N gs' a' w' sl' T' Ia Iz,runNT P N (crowd gs w sl) T=(.next (crowd gs' w' sl'),T')/\gs'.size=gs.size/\gs'[h]?=some a'/\Stop a' w'/\Held P ty Wg K Still Bd Shun Quiet Mem Loose h Ia Iz ex T' gs' w'/\Same role Ia/\NS h role live Iz/\Deaf T' h=Deaf T h/\∀ x,Iz x<=live x:=by
  induction hW with
  | @stop g w hs=>
    intro role live T gs sl ha H ZN;exact ⟨0,gs,_,w,sl,T,role,live,rfl,rfl,ha,hs w (.refl w),H,.refl role,.refl h role live,rfl,fun _=>Nat.le_refl _⟩
  | @step g w hrun hstep hk ih=>
    intro role live T gs sl ha H ZN;obtain ⟨N,gs₁,w₁,d,sl₁,sl₂,T₁,Ic,Hr,p1,p2,p3,p4,p5,p6,p7,p8,p9,Rx⟩:=picked (sl:=sl) E hrun _ _ rfl rfl ha H;obtain ⟨g',w',es,hst,hd⟩:=hstep _ p6;have MQ:∀ i st n c,Ic i=.seat st n->st.has c->Ch c:=fun i st n c e hc=>by obtain ⟨n',e'⟩:=p7.back e;exact ZN i st n' c e' hc
    have hrt:=runT_crowd_go (P:=P) (sl:=sl₂) p4 hst;obtain ⟨H',ha'⟩:=p5.own (fn:=g.frame.fn) (pos:=g.frame.place) (a':=g') MQ p4 (hD _ _ _ hd);obtain ⟨N₂,IW,a₂,w₂,sl₃,T₂,Iu,Jd,q1,q2,q3,q4,q5,q6,q7,q8,q9⟩:=ih _ _ _ _ p6 hst (sl:=sl₂) ha' H' MQ;refine ⟨N+(N₂+1),IW,a₂,w₂,sl₃,T₂,Iu,Jd,runNT_then p1 (by simp only [runNT,p2,hrt];exact q1),?_,q3,q4,q5,p7.trans q6,p8.trans p7 q7,q8.trans (((KS (h:=h) (fn:=g.frame.fn) (pos:=g.frame.place) (hD _ _ _ hd).evs).2.2.2 T₁).trans p9),fun x=>Nat.le_trans (q9 x) (Rx x)⟩;rw [q2];simpa using p3
end
end
section
theorem NJ {cs:Array CommCase}{g:Goroutine}{sh:CommShape}{c k:Nat}{v z:Value}(hk:cs[k]?=some (scase c v z))(ho:∀ (m:Nat) (cc:CommCase),m≠k->cs[m]?=some cc->cc.send=none):offersAt (parked g cs sh) c true=[k]:=by
  have hz:∀ m:Nat,cs.zipIdx.toList[m]?=(cs[m]?).map fun x=>(x,m):=by intro m;simp
  unfold offersAt parked;simp only [];refine congrArg (List.map fun x:CommCase × Nat=>x.2) (a₂:=[(scase c v z,k)]) ?_;rw [← List.map_id' cs.zipIdx.toList];refine filter_map_one (fun x=>x) _ cs.zipIdx.toList k (scase c v z,k) (by rw [hz,hk];rfl) (by simp [scase]) (fun m x hm hx=>?_);rw [hz] at hx;cases e:cs[m]? with
  | none=>rw [e] at hx;cases hx
  | some y=>
    rw [e] at hx;simp only [Option.map_some,Option.some.injEq] at hx;subst hx;simp [ho m y hm e]
theorem KM {cs:Array CommCase}{g:Goroutine}{sh:CommShape}{c c' k:Nat}{v z:Value}(hk:cs[k]?=some (scase c v z))(ho:∀ (m:Nat) (cc:CommCase),m≠k->cs[m]?=some cc->cc.send=none)(hne:c'≠c):offersAt (parked g cs sh) c' true=[]:=by
  unfold offersAt parked;simp only [List.map_eq_nil_iff,List.filter_eq_nil_iff];rintro ⟨cc,m⟩ hm;have hm':=mem_of_zipIdx hm;by_cases e:m=k
  . subst e;rw [hk] at hm';obtain rfl:=Option.some.inj hm';simp [scase,Ne.symm hne]
  . simp [ho m cc e hm']
theorem Yr {cs:Array CommCase}{g:Goroutine}{sh:CommShape}{w:World}(h:∀ cc∈cs,∃ c cap buf s r tm,cc.chan=.chan (some c)/\w.heap[c]?=some (.chan cap buf false s r tm)):(parked g cs sh).again w=parked g cs sh:=by unfold Goroutine.again parked;simp only [];rw [if_neg];rw [Bool.not_eq_true,Array.any_eq_false];intro i hi;obtain ⟨c,cap,buf,s,r,tm,e,hc⟩:=h cs[i] (Array.getElem_mem hi);simp [e,hc]
section
variable {P:Program}{ty:TypeId}{Wg:Nat}{K:Nat->World->Prop}{Still:Nat->Loc->Prop}{Bd:Nat->Nat}{Shun:Loc->Prop}{Quiet Sp Mem Loose:Nat->Prop}{Kf:Trace->Nat->Prop}{role:Nat->Ik}{live:Nat->Nat}{ex h j:Nat}{T:Trace}{gs:Array Goroutine}{w:World}
theorem Qc.note (C:Qc P ty Wg K Still Bd Shun Quiet Sp Mem Loose Kf role live ex T gs w){i:Nat}{ops:Trace}(hops:∀ op∈ops,op.g=i)(hd:Deaf (T ++ ops) i=Deaf T i)(hlt:i < gs.size)(hp:Jl Still Shun Mem Loose w.heap.size (Kf (T ++ ops)) (T ++ ops)) :
    Qc P ty Wg K Still Bd Shun Quiet Sp Mem Loose Kf role live ex (T ++ ops) gs w:=by
  have hD:∀ x,Deaf (T ++ ops) x=Deaf T x:=fun x=>by
    by_cases e:x=i
    . subst e;exact hd
    . exact Deaf_other T (fun z=>e z.symm) _ hops
  exact ⟨fun i g s m d a b c=>by rw [hD];exact C.KR i g s m d a b c,C.seats,C.seat,C.own,fun j hj=>by rw [hD];exact C.above j hj,hp,C.keep,C.wg,C.few,C.one⟩
structure After (P:Program)(ty:TypeId)(Wg:Nat)(K:Nat->World->Prop)(Still:Nat->Loc->Prop)(Bd:Nat->Nat)(Quiet Mem' Loose':Nat->Prop)(role:Nat->Ik)(live:Nat->Nat)(h c:Nat)(w:World)(a':Goroutine)(rh:Ik):Prop where
  fin:∀ s m d,rh=.fin s m d->0 < h/\(∀ w',WgLive ty Wg w'->Fs P ty Wg s m d a' w')/\d=0/\¬ Mem' h/\live h=cn s/\(s=7\/s=6\/s=5\/s=1)
  seat:∀ st n,rh=.seat st n->Sits P (h == 0) (K h) (Still h) (Bd h) st n a'/\Loose' h/\st.Wf/\Mem' h/\Bd h<=w.heap.size/\(∀ c',st.has c'->c'≠c/\∃ k,w.heap[c']?=some (.chan 0 #[] false k k false))/\
    (∀ i st' n' c',i≠h->role i=.seat st' n'->st.has c'->st'.has c'->Quiet c')/\K h w
theorem Qc.pass (hKc:∀ i w c k,w.heap[c]?=some (.chan 0 #[] false k k false)->K i w->K i (w.setChan c 0 #[] false (k+1) (k+1) false))(C:Qc P ty Wg K Still Bd Shun Quiet (fun x=>x=h) Mem Loose (fun T=>Knows T h) role live ex T gs w)(hMh:Mem h)(QY:h < gs.size){c k n:Nat}{st:Seat}(hjh:j≠h)(hj:role j=.seat st n)(hsc:st.has c)(kJ:¬ Quiet c)(hc:w.heap[c]?=some (.chan 0 #[] false k k false)){Mem' Loose':Nat->Prop}(hM1:∀ g,Mem' g->Mem g)(hM2:∀ g,Mem g->g≠h->Mem' g)(hL:∀ g,Loose g->g≠j->Loose' g)(wJ:¬ Loose' j){a':Goroutine}{rh:Ik}(hA:After P ty Wg K Still Bd Quiet Mem' Loose' role live h c w a' rh){gs':Array Goroutine}(hsz:gs'.size=gs.size)(hother:∀ x,x≠h->x≠j->gs'[x]?=gs[x]?)(hgh:gs'[h]?=some a')(fh:FuncId)(ph:String)(fj:FuncId)(pj:String) :
    Held P ty Wg K Still Bd Shun Quiet Mem' Loose' j (upd (upd role j (.fin 0 0 0)) h rh) live ex (T ++ met h j fh ph fj pj c k 0) gs' (w.setChan c 0 #[] false (k+1) (k+1) false):=by
  have hD:∀ x,Deaf (T ++ met h j fh ph fj pj c k 0) x=Deaf T x:=fun x=>Deaf_quiet (met_quiet _ _ _ _ _ _ _ _ _ x);obtain ⟨hjlt,Ame,hMj,hBj,Ak5⟩:=C.seat j st n hj;have hcB:c < w.heap.size:=(Array.getElem?_eq_some_iff.1 hc).1;have hcW:c≠Wg:=by rintro rfl;have:=C.wg;unfold WgAt wgBlock at this;rw [this] at hc;cases hc
  have hwg:WgAt ty Wg (w.setChan c 0 #[] false (k+1) (k+1) false) ((sumTo gs.size live+ex:Nat) * KK) 0:=by have:=C.wg;unfold WgAt at this ⊢;rw [heap_setChan_ne _ _ _ _ _ _ _ hcW];exact this
  have hlive:WgLive ty Wg (w.setChan c 0 #[] false (k+1) (k+1) false):=⟨_,_,hwg⟩
  have hrx:=PL ty Wg ⟨_,_,C.wg⟩ hlive;have hsize:(w.setChan c 0 #[] false (k+1) (k+1) false).heap.size=w.heap.size:=by simp [World.setChan]
  have Ia:∀ {x:Nat} {st':Seat} {n':Nat},upd (upd role j (.fin 0 0 0)) h rh x=.seat st' n'->(x=h/\rh=.seat st' n')\/(x≠h/\x≠j/\role x=.seat st' n'):=fun {x st' n'} e=>by
    by_cases e1:x=h
    . subst e1;rw [upd_same] at e;exact .inl ⟨rfl,e⟩
    . rw [upd_ne _ _ e1] at e;by_cases e2:x=j
      . subst e2;rw [upd_same] at e;cases e
      . rw [upd_ne _ _ e2] at e;exact .inr ⟨e1,e2,e⟩
  have pg:=C.past.give hMh hMj fh ph fj pj k 0 hcB;refine ⟨⟨fun i g s m d hi hg e=>?_,fun i g st' n' hi hg e=>?_,fun i st' n' e=>?_,fun i i' s1 s2 n1 n2 c' e1 e2 h1 h2=>?_,fun x hx=>?_,?_,fun i st' n' e=>?_,by rw [hsz];exact hwg,by rw [hsz];exact C.few,C.one⟩,fun st' n' e=>?_,wJ⟩
  . by_cases e1:i=h
    . subst e1;rw [upd_same] at e;rw [hgh] at hg;obtain rfl:=Option.some.inj hg;obtain ⟨a1,a2,a3,a4,a5,a6⟩:=hA.fin s m d e;exact ⟨a1,a2 _ hlive,by rw [hD,a3];exact C.past.hears i hMh,a4,a5,a6⟩
    . rw [upd_ne _ _ e1,upd_ne _ _ hi] at e;rw [hother i e1 hi] at hg;obtain ⟨a1,a2,a3,a4,a5,a6⟩:=C.KR i g s m d e1 hg e;exact ⟨a1,a2.rely hrx,by rw [hD];exact a3,fun h=>a4 (hM1 _ h),a5,a6⟩
  . rcases Ia e with ⟨rfl,e0⟩ | ⟨e1,e2,e⟩
    . rw [hgh] at hg;obtain rfl:=Option.some.inj hg;obtain ⟨a1,a2,_⟩:=hA.seat st' n' e0;exact ⟨a1,a2⟩
    . rw [hother i e1 e2] at hg;obtain ⟨a1,a2⟩:=C.seats i g st' n' e1 hg e;exact ⟨a1,hL i a2 e2⟩
  . rcases Ia e with ⟨rfl,e0⟩ | ⟨e1,e2,e⟩
    . obtain ⟨_,_,a3,a4,a5,a6,_⟩:=hA.seat st' n' e0;refine ⟨by rw [hsz];exact QY,a3,a4,by rw [hsize];exact a5,fun c' hc'=>?_⟩;obtain ⟨b1,k',b2⟩:=a6 c' hc';exact ⟨k',by rw [heap_setChan_ne _ _ _ _ _ _ _ (Ne.symm b1)];exact b2⟩
    . obtain ⟨a1,a2,a3,a4,a5⟩:=C.seat i st' n' e;refine ⟨by rw [hsz];exact a1,a2,hM2 i a3 e1,by rw [hsize];exact a4,fun c' hc'=>?_⟩;obtain ⟨k',b2⟩:=a5 c' hc';have hne:c≠c':=by
        rintro rfl;rcases C.own i j st' st n' n c e hj hc' hsc with z|z
        . exact e2 z
        . exact kJ z
      exact ⟨k',by rw [heap_setChan_ne _ _ _ _ _ _ _ hne];exact b2⟩
  . rcases Ia e1 with ⟨x0,e3⟩ | ⟨x1,x2,e3⟩ <;> rcases Ia e2 with ⟨y0,e4⟩ | ⟨y1,y2,e4⟩
    . exact .inl (x0.trans y0.symm)
    . obtain ⟨_,_,_,_,_,_,a7⟩:=hA.seat s1 n1 e3;exact .inr (a7.1 i' s2 n2 c' y1 e4 h1 h2)
    . obtain ⟨_,_,_,_,_,_,a7⟩:=hA.seat s2 n2 e4;exact .inr (a7.1 i s1 n1 c' x1 e3 h2 h1)
    . exact C.own i i' s1 s2 n1 n2 c' e3 e4 h1 h2
  . rw [hD];exact C.above x (by omega)
  . rw [hsize];exact (pg.fewer hM1).loosen fun g ⟨hg,hgj⟩=>hL g hg hgj
  . rcases Ia e with ⟨rfl,e0⟩ | ⟨e1,e2,e⟩
    . exact hKc _ _ _ _ hc (hA.seat st' n' e0).2.2.2.2.2.2.2
    . exact hKc _ _ _ _ hc (C.keep i st' n' e)
  . rcases Ia e with ⟨rfl,_⟩ | ⟨_,e2,_⟩
    . exact hjh rfl
    . exact e2 rfl
structure Ml (cases:Array CommCase)(k c:Nat)(v:Value)(w:World):Prop where
  send:∃ z,cases[k]?=some (scase c v z)
  recv:∀ (m:Nat) (cc:CommCase),m≠k->cases[m]?=some cc->∃ q z kq,cc=rcase q z/\w.heap[q]?=some (.chan 0 #[] false kq kq false)
theorem OT {w w':World}(h:Jc ty Wg w w')(hl:WgLive ty Wg w){c k:Nat}(hc:w.heap[c]?=some (.chan 0 #[] false k k false)):w'.heap[c]?=some (.chan 0 #[] false k k false):=by
  have:c≠Wg:=by rintro rfl;obtain ⟨st,sm,h⟩:=hl;unfold WgAt wgBlock at h;rw [h] at hc;cases hc
  rw [h.block _ this];exact hc
theorem Ml.keep {cases:Array CommCase}{k c:Nat}{v:Value}{w w':World}(h:Ml cases k c v w)(hr:Jc ty Wg w w')(hl:WgLive ty Wg w):Ml cases k c v w':=
  ⟨h.send,fun m cc hm hc=>let ⟨q,z,kq,e,hq⟩:=h.recv m cc hm hc;⟨q,z,kq,e,OT hr hl hq⟩⟩
theorem Ml.recvs {cases:Array CommCase}{k c:Nat}{v:Value}{w:World}(h:Ml cases k c v w):∀ (m:Nat) (cc:CommCase),m≠k->cases[m]?=some cc->cc.send=none:=fun m cc hm hc=>by obtain ⟨q,z,kq,rfl,_⟩:=h.recv m cc hm hc;rfl
theorem Ml.open {cases:Array CommCase}{k c kc:Nat}{v:Value}{w:World}(h:Ml cases k c v w)(hc:w.heap[c]?=some (.chan 0 #[] false kc kc false)):∀ cc∈cases,∃ c cap buf s r tm,cc.chan=.chan (some c)/\w.heap[c]?=some (.chan cap buf false s r tm):=by
  intro cc hcc;obtain ⟨m,hm,e⟩:=Array.mem_iff_getElem.1 hcc;have hm':cases[m]?=some cc:=by rw [← e];exact Array.getElem?_eq_getElem hm
  by_cases hmk:m=k
  . subst hmk;obtain ⟨z,hz⟩:=h.send;rw [hz] at hm';obtain rfl:=Option.some.inj hm';exact ⟨c,_,_,_,_,_,rfl,hc⟩
  . obtain ⟨q,z,kq,rfl,hq⟩:=h.recv m cc hmk hm';exact ⟨q,_,_,_,_,_,rfl,hq⟩
theorem After.keep (E:Env Wg K Still Shun){Mem' Loose':Nat->Prop}{c:Nat}{a':Goroutine}{rh:Ik}{w':World}{Ia:Nat->Ik}{Iz:Nat->Nat}(hA:After P ty Wg K Still Bd Quiet Mem' Loose' role live h c w a' rh)(hS:Same role Ia)(hl:Iz h=live h)(hr:Jc ty Wg w w')(hw:WgLive ty Wg w) :
    After P ty Wg K Still Bd Quiet Mem' Loose' Ia Iz h c w' a' rh:=by
  refine ⟨fun s m d e=>?_,fun st n e=>?_⟩
  . obtain ⟨a1,a2,a3,a4,a5,a6⟩:=hA.fin s m d e;exact ⟨a1,a2,a3,a4,hl.trans a5,a6⟩
  . obtain ⟨a1,a2,a3,a4,a5,a6,a7⟩:=hA.seat st n e;refine ⟨a1,a2,a3,a4,by rw [hr.size];exact a5,fun c' hc'=>?_,fun i st' n' c' hi e' h1 h2=>?_,E.blk _ _ _ hr.block a7.2⟩
    . obtain ⟨b1,k',b2⟩:=a6 c' hc';exact ⟨b1,k',OT hr hw b2⟩
    . obtain ⟨n'',e''⟩:=hS.back e';exact a7.1 i st' n'' c' hi e'' h1 h2
structure wI (ty:TypeId)(Wg c:Nat)(w w':World):Prop where
  tape:w'.tape=w.tape
  os:w'.os=w.os
  output:w'.output=w.output
  size:w'.heap.size=w.heap.size
  block:∀ b,b≠Wg->b≠c->w'.heap[b]?=w.heap[b]?
  chan:∃ k,w.heap[c]?=some (.chan 0 #[] false k k false)/\w'.heap[c]?=some (.chan 0 #[] false (k+1) (k+1) false)
  live:WgLive ty Wg w'
theorem wI.of {w w₁:World}(hr:Jc ty Wg w w₁)(hl:WgLive ty Wg w){c k:Nat}(hc:w.heap[c]?=some (.chan 0 #[] false k k false)):wI ty Wg c w (w₁.setChan c 0 #[] false (k+1) (k+1) false):=by
  have hcW:c≠Wg:=by rintro rfl;obtain ⟨st,sm,h⟩:=hl;unfold WgAt wgBlock at h;rw [h] at hc;cases hc
  have hc1:=OT hr hl hc;obtain ⟨st,sm,hl1⟩:=hr.live hl;refine ⟨hr.tape,hr.os,hr.output,by rw [← hr.size];simp [World.setChan],fun b hb hbc=>?_,⟨k,hc,heap_setChan_self _ hc1 _ _ _ _ _ _⟩,⟨st,sm,?_⟩⟩
  . rw [heap_setChan_ne _ _ _ _ _ _ _ (Ne.symm hbc)];exact hr.block b hb
  . unfold WgAt at hl1 ⊢;rw [heap_setChan_ne _ _ _ _ _ _ _ hcW];exact hl1
theorem Qc.setH (C:Qc P ty Wg K Still Bd Shun Quiet (fun x=>x=h) Mem Loose Kf role live ex T gs w)(y:Goroutine):Qc P ty Wg K Still Bd Shun Quiet (fun x=>x=h) Mem Loose Kf role live ex T (gs.setIfInBounds h y) w:=by have hget:∀ x,x≠h->(gs.setIfInBounds h y)[x]?=gs[x]?:=fun x hx=>Array.getElem?_setIfInBounds_ne (fun e=>hx e.symm);exact ⟨fun i g s m d hi hg e=>C.KR i g s m d hi (by rw [← hget i hi];exact hg) e,fun i g st n hi hg e=>C.seats i g st n hi (by rw [← hget i hi];exact hg) e,fun i st n e=>by simpa using C.seat i st n e,C.own,fun j hj=>C.above j (by simpa using hj),C.past,C.keep,by simpa using C.wg,by simpa using C.few,C.one⟩
def Got (P:Program)(ty:TypeId)(Wg:Nat)(K:Nat->World->Prop)(Still:Nat->Loc->Prop)(Bd:Nat->Nat)(Shun:Loc->Prop)(Quiet Mem' Loose':Nat->Prop)(h j c:Nat)(st:Seat)(kk:Nat)(v:Value)(role:Nat->Ik)(live:Nat->Nat)(ex:Nat)(rh:Ik)(n:Nat)(w:World)(m:Machine)(T':Trace):Prop:=
  ∃ gs' gj w' sl' Ia Iz,m=crowd gs' w' sl'/\gs'.size=n/\gs'[j]?=some (gj.finishComm P st.cases st.shape kk v true)/\st.home gj/\Held P ty Wg K Still Bd Shun Quiet Mem' Loose' j Ia Iz ex T' gs' w'/\wI ty Wg c w w'/\
    Same (upd (upd role j (.fin 0 0 0)) h rh) Ia/\∀ x,(x=h\/∃ st n,role x=.seat st n)->Iz x=live x
theorem Qz (C:Qc P ty Wg K Still Bd Shun Quiet Sp Mem Loose Kf role live ex T gs w){c c' n n' i:Nat}{st st':Seat}(hj:role j=.seat st n)(hsc:st.has c)(kJ:¬ Quiet c)(hi:role i=.seat st' n')(hc':st'.has c')(hij:i≠j):c'≠c:=by
  rintro rfl;rcases C.own i j st' st n' n c' hi hj hc' hsc with z|z
  . exact hij z
  . exact kJ z
theorem flight (E:Env Wg K Still Shun)(hKc:∀ i w c k,w.heap[c]?=some (.chan 0 #[] false k k false)->K i w->K i (w.setChan c 0 #[] false (k+1) (k+1) false)){SK:Goroutine}{cases:Array CommCase}{shape:CommShape}{k c kk:Nat}{v zj:Value}{st:Seat}(hMh:Mem h)(hjh:j≠h)(hkk:st.cases[kk]?=some (rcase c zj))(kJ:¬ Quiet c){Mem' Loose':Nat->Prop}(hM1:∀ g,Mem' g->Mem g)(hM2:∀ g,Mem g->g≠h->Mem' g)(hL:∀ g,Loose g->g≠j->Loose' g)(wJ:¬ Loose' j){rh:Ik}:∀ (m1 m2:Nat) {role:Nat->Ik} {live:Nat->Nat} {T:Trace} {gs:Array Goroutine} {w:World} {sl:Option (Nat × Nat)},M1 gs.size role=m1->M2 gs.size role=m2->
    Qc P ty Wg K Still Bd Shun Quiet (fun x=>x=h) Mem Loose (fun T=>Knows T h) role live ex T gs w->gs[h]?=some (parked SK cases shape)->Ml cases k c v w->(∃ n,role j=.seat st (n+1))->
    After P ty Wg K Still Bd Quiet Mem' Loose' role live h c w (SK.finishComm P cases shape k undef false) rh->
    ∃ N m' T',runNT P N (crowd gs w sl) T=(.next m',T')/\Got P ty Wg K Still Bd Shun Quiet Mem' Loose' h j c st kk v role live ex rh gs.size w m' T':=by
  intro m1;induction m1 using Nat.strongRecOn with
  | _ m1 ih1=>
  intro m2;induction m2 using Nat.strongRecOn with
  | _ m2 ih2=>
  intro role live T gs w sl hm1 hm2 C hgh hO ⟨n,hj⟩ hA;obtain ⟨hjlt,hwf,hMj,hBj,hch⟩:=C.seat j st _ hj;have hsc:st.has c:=⟨kk,zj,hkk⟩
  obtain ⟨kc,hc⟩:=hch c hsc;have QY:h < gs.size:=(Array.getElem?_eq_some_iff.1 hgh).1;obtain ⟨gj,hgj⟩:∃ gj,gs[j]?=some gj:=⟨gs[j],Array.getElem?_eq_getElem hjlt⟩
  have xB:gj.status=.running:=(Sits.status (C.keep j st _ hj) (C.seats j gj st _ hjh hgj hj).1).elim (·.1) (fun x=>by omega);have hsa:∀ x gx,x=h->gs[x]?=some gx->gx=parked SK cases shape:=fun x gx hx hg=>by subst hx;rw [hgh] at hg;exact (Option.some.inj hg).symm
  obtain ⟨i,g,d,sl',hi,hg,hst⟩:=crowd_pick (P:=P) (w:=w) (sl:=sl) (C.awake fun x gx hx hg=>by rw [hsa x gx hx hg];exact .inr rfl) ⟨j,gj,hgj,xB⟩;have Cd:=C.at E d;have hlive:WgLive ty Wg w:=⟨_,_,C.wg⟩
  have hOd:Ml cases k c v (w.at d):=hO.keep (Jc.at w d) hlive;have hih:i≠h:=by rintro rfl;rw [hsa i g rfl hi] at hg;cases hg
  obtain ⟨zs,hzs⟩:=hO.send;by_cases hat:i=j/\∃ g₂,AtIn P (i == 0) (K i) (Still i) (Bd i) st g g₂
  . obtain ⟨rfl,g₂,hat⟩:=hat;obtain ⟨_,_,_,_,hhome,es,hes,hstp⟩:=id hat;obtain ⟨hops,hr,hl,hd⟩:=QK (fn:=g.frame.fn) (pos:=g.frame.place) hBj E hes;have hno:∀ (m:Nat) (c':CommCase),m≠kk->st.cases[m]?=some c'->NoWays (w.at d) (gs.setIfInBounds i ph) c':=by
      intro m c' hm hcm;obtain ⟨c'',z,rfl⟩:=hwf.recvs c' (Array.mem_of_getElem? hcm);have Adb:st.has c'':=⟨m,z,hcm⟩
      obtain ⟨k'',hc''⟩:=hch c'' Adb;have hne:c''≠c:=by rintro rfl;exact hm (hwf.apart m kk c'' z zj hcm hkk)
      refine ways_recv_none (show (w.at d).heap[c'']?=_ from hc'') (partners_nil fun x y hy=>?_);rcases getElem?_stand gs i x y hy with ⟨_,rfl⟩|⟨hx,hy'⟩
      . exact offersAt_ph _ _
      . by_cases hxh:x=h
        . rw [hsa x y hxh hy'];exact KM hzs hO.recvs hne
        . exact C.noSend hxh hy' _
    have hp:partners (gs.setIfInBounds i ph) c true=[(h,k)]:=by
      rw [partners_one (stand_get (Ne.symm hjh) hgh) fun x y hxh hy=>?_,NJ hzs hO.recvs]
      . rfl
      . rcases getElem?_stand gs i x y hy with ⟨_,rfl⟩ | ⟨hx,hy'⟩
        . exact offersAt_ph _ _
        . exact C.noSend hxh hy' _
    have hrt:=Tm (sl:=sl') (P:=P) hi (hstp (w.at d) (Cd.keep i st _ hj)) hkk hno (show (w.at d).heap[c]?=_ from hc) (Ne.symm hjh) hgh hzs hp;have Cn:=Cd.note hops (hd T) hjlt (Cd.past.read (fun i=>Knows.app _) hMj (C.seats i g st _ hjh hi hj).2 hops hr (hd T) hl);have Hn:=Cn.pass (gs':=(gs.setIfInBounds h (SK.finishComm P cases shape k undef false)).setIfInBounds i (g₂.finishComm P st.cases st.shape kk v true)) hKc hMh QY hjh hj hsc kJ hc hM1 hM2 hL wJ (hA.keep E (Same.refl role) rfl (Jc.at w d) hlive) (by simp)
      (fun x hx hxj=>by rw [Array.getElem?_setIfInBounds_ne (fun e=>hxj e.symm),Array.getElem?_setIfInBounds_ne (fun e=>hx e.symm)])
      (by rw [Array.getElem?_setIfInBounds_ne hjh,Array.getElem?_setIfInBounds_self_of_lt QY]) SK.frame.fn SK.frame.place g₂.frame.fn g₂.frame.place
    refine ⟨0+1,_,_,runNT_succ_of (m₁:=crowd gs w sl) (t₁:=T) rfl (hst.trans hrt),_,g₂,_,sl',_,live,rfl,by simp,by rw [Array.getElem?_setIfInBounds_self_of_lt (by simpa using hjlt)],hhome,by rw [← Array.append_assoc];exact Hn,wI.of (Jc.at w d) hlive hc,Same.refl _,fun _ _=>rfl⟩
  . obtain ⟨gs',w',ops,r',L6,hrt,hsz,hsp,hw,_,C',hlt,k1,k2,_⟩:=Cd.by_step (sl:=sl') E (fun t u i=>Knows.app u) hi hih hg
      (fun x gx w' hx hgx hw=>by
        rw [hsa x gx hx hgx];exact Yr ((hOd.keep (Jc.Tc hw (by
          rcases hw with rfl|⟨z,rfl⟩
          . exact ⟨_,_,C.wg⟩
          . exact ⟨_,_,(show WgAt ty Wg (w.at d) _ _ from C.wg).setSt z⟩) ⟨_,_,Cd.wg⟩) ⟨_,_,C.wg⟩).open (Ph hw ⟨_,_,C.wg⟩ (show (w.at d).heap[c]?=_ from hc))))
      (fun st' n' g₂ hr hin x gx c' hx hgx hc'=>by
        rw [hsa x gx hx hgx];refine KM hzs hO.recvs ?_;by_cases hij:i=j
        . subst hij;rw [hj] at hr;cases hr
          exact absurd ⟨rfl,g₂,hin⟩ hat
        . exact Qz C hj hsc kJ hr hc' hij)
    have hr1:Jc ty Wg w w':=(Jc.at w d).trans (Jc.Tc hw ⟨_,_,C'.wg⟩ ⟨_,_,Cd.wg⟩);have eO:=Same.upd (fun st n e=>let ⟨n',x,_⟩:=(k1 st n e).1;⟨n',x⟩) k2;have hj':∃ n',upd role i r' j=.seat st (n'+1):=by
      by_cases hij:i=j
      . subst hij;obtain ⟨⟨n',hr',h0⟩,_⟩:=k1 st _ hj;rw [upd_same];cases n' with
        | zero=>exact absurd ⟨rfl,h0 rfl⟩ hat
        | succ n'=>exact ⟨n',hr'⟩
      . rw [upd_ne role _ (fun e=>hij e.symm)];exact ⟨n,hj⟩
    have gD:∀ x,(x=h\/∃ st n,role x=.seat st n)->upd live i L6 x=live x:=fun x hx=>by
      by_cases hxi:x=i
      . subst hxi;rcases hx with hx|⟨st,n,hx⟩
        . exact absurd hx hih
        . rw [upd_same];exact (k1 st n hx).2
      . rw [upd_ne live _ hxi]
    have key:∃ N m' T',runNT P N (crowd gs' w' sl') (T ++ ops)=(.next m',T')/\Got P ty Wg K Still Bd Shun Quiet Mem' Loose' h j c st kk v (upd role i r') (upd live i L6) ex rh gs'.size w' m' T':=by
      have wM:gs'[h]?=some (parked SK cases shape):=by rw [hsp h rfl];exact hgh
      have hA':=hA.keep E eO (gD h (.inl rfl)) hr1 hlive;rcases hlt with hl|⟨hl1,hl2⟩
      . exact ih1 (M1 gs'.size (upd role i r')) (by rw [hsz,← hm1];exact hl) _ rfl rfl C' wM (hO.keep hr1 hlive) hj' hA'
      . exact ih2 (M2 gs'.size (upd role i r')) (by rw [hsz,← hm2];exact hl2) (by rw [hsz,hl1,hm1]) rfl C' wM (hO.keep hr1 hlive) hj' hA'
    obtain ⟨N,m',T',q1,IW,fB,w₂,sl₂,Iu,Jd,q2,q3,q4,q5,q6,q7,q8,q9⟩:=key;refine ⟨N+1,m',T',by simp only [runNT,hst,hrt];exact q1,IW,fB,w₂,sl₂,Iu,Jd,q2,q3.trans hsz,q4,q5,q6,?_,?_,fun x hx=>?_⟩
    . obtain ⟨k',hc',hc2⟩:=q7.chan;have hcW:c≠Wg:=by rintro rfl;obtain ⟨s1,s2,hl⟩:=hlive;unfold WgAt wgBlock at hl;rw [hl] at hc;cases hc
      refine ⟨q7.tape.trans hr1.tape,q7.os.trans hr1.os,q7.output.trans hr1.output,q7.size.trans hr1.size,fun b hb hbc=>(q7.block b hb hbc).trans (hr1.block b hb),⟨k',by rw [← hr1.block c hcW];exact hc',hc2⟩,q7.live⟩
    . refine Same.trans (fun x=>?_) q8;by_cases e1:x=h
      . subst e1;rw [upd_same,upd_same];exact ⟨fun st n e=>⟨n,e⟩,fun s m d e=>⟨s,m,d,e⟩⟩
      . rw [upd_ne _ _ e1,upd_ne _ _ e1];by_cases e2:x=j
        . subst e2;rw [upd_same,upd_same];exact ⟨fun st n e=>⟨n,e⟩,fun s m d e=>⟨s,m,d,e⟩⟩
        . rw [upd_ne _ _ e2,upd_ne _ _ e2];exact eO x
    . refine (q9 x (hx.imp id fun ⟨st,n,e⟩=>?_)).trans (gD x hx);obtain ⟨n',e'⟩:=(eO x).1 st n e;exact ⟨st,n',e'⟩
end
end
section
section
variable {P:Program}{ty:TypeId}{Wg:Nat}{K:Nat->World->Prop}{Still:Nat->Loc->Prop}{Bd:Nat->Nat}{Shun:Loc->Prop}{Quiet Sp Mem Loose:Nat->Prop}{Kf:Trace->Nat->Prop}{role:Nat->Ik}{live:Nat->Nat}{ex h j:Nat}{T:Trace}{gs:Array Goroutine}{w:World}
theorem Got.back {Mem' Loose':Nat->Prop}{c kk n:Nat}{st:Seat}{v:Value}{rh:Ik}{Ia:Nat->Ik}{Iz:Nat->Nat}{w':World}{m:Machine}{T':Trace}(hS:Same role Ia)(hl:NS h role live Iz)(hr:Jc ty Wg w w')(hw:WgLive ty Wg w){kc:Nat}(hc:w.heap[c]?=some (.chan 0 #[] false kc kc false))(hG:Got P ty Wg K Still Bd Shun Quiet Mem' Loose' h j c st kk v Ia Iz ex rh n w' m T'):Got P ty Wg K Still Bd Shun Quiet Mem' Loose' h j c st kk v role live ex rh n w m T':=by
  obtain ⟨IW,fB,w₂,sl₂,Iu,Jd,q2,q3,q4,q5,q6,q7,q8,q9⟩:=hG;refine ⟨IW,fB,w₂,sl₂,Iu,Jd,q2,q3,q4,q5,q6,?_,?_,fun x hx=>?_⟩
  . obtain ⟨k',hc',hc2⟩:=q7.chan;have hcW:c≠Wg:=by rintro rfl;obtain ⟨s1,s2,hl⟩:=hw;unfold WgAt wgBlock at hl;rw [hl] at hc;cases hc
    exact ⟨q7.tape.trans hr.tape,q7.os.trans hr.os,q7.output.trans hr.output,q7.size.trans hr.size,fun b hb hbc=>(q7.block b hb hbc).trans (hr.block b hb),⟨k',by rw [← hr.block c hcW];exact hc',hc2⟩,q7.live⟩
  . refine Same.trans (fun x=>?_) q8;by_cases e1:x=h
    . subst e1;rw [upd_same,upd_same];exact ⟨fun st n e=>⟨n,e⟩,fun s m d e=>⟨s,m,d,e⟩⟩
    . rw [upd_ne _ _ e1,upd_ne _ _ e1];by_cases e2:x=j
      . subst e2;rw [upd_same,upd_same];exact ⟨fun st n e=>⟨n,e⟩,fun s m d e=>⟨s,m,d,e⟩⟩
      . rw [upd_ne _ _ e2,upd_ne _ _ e2];exact hS x
  . exact (q9 x (hx.imp id fun ⟨st,n,e⟩=>let ⟨n',e'⟩:=(hS x).1 st n e;⟨st,n',e'⟩)).trans (hl x hx)
theorem give (E:Env Wg K Still Shun)(hKc:∀ i w c k,w.heap[c]?=some (.chan 0 #[] false k k false)->K i w->K i (w.setChan c 0 #[] false (k+1) (k+1) false)){a g₂:Goroutine}{cases:Array CommCase}{shape:CommShape}{k c kk n:Nat}{v zj:Value}{st:Seat}{es:Array Event}{sl:Option (Nat × Nat)}(ha:gs[h]?=some a)(hrun:a.status=.running)(hstep:∀ w₁,Jc ty Wg w w₁->stepG P (h == 0) a w₁=.comm g₂ cases true shape w₁ es)(hes:∀ e∈es,wB Still Shun h w.heap.size e)(hO:Ml cases k c v w)(H:Held P ty Wg K Still Bd Shun Quiet Mem Loose h role live ex T gs w)(hMh:Mem h)(hjh:j≠h)(hj:role j=.seat st n)(hkk:st.cases[kk]?=some (rcase c zj))(kJ:¬ Quiet c){Mem' Loose':Nat->Prop}(hM1:∀ g,Mem' g->Mem g)(hM2:∀ g,Mem g->g≠h->Mem' g)(hL:∀ g,Loose g->g≠j->Loose' g)(wJ:¬ Loose' j){rh:Ik}(hA:After P ty Wg K Still Bd Quiet Mem' Loose' role live h c w (g₂.finishComm P cases shape k undef false) rh) :
    ∃ N m' T',runNT P N (crowd gs w sl) T=(.next m',T')/\Got P ty Wg K Still Bd Shun Quiet Mem' Loose' h j c st kk v role live ex rh gs.size w m' T':=by
  have hlive:WgLive ty Wg w:=⟨_,_,H.J9.wg⟩
  obtain ⟨kc,hc⟩:=(H.J9.seat j st n hj).2.2.2.2 c ⟨kk,zj,hkk⟩;obtain ⟨N,gs₁,w₁,d,sl₁,sl₂,T₁,Ic,Hr,p1,p2,p3,p4,p5,p6,p7,p8,_,_⟩:=picked (sl:=sl) E hrun _ _ rfl rfl ha H;have hst:=hstep _ p6;have C:=p5.J9;obtain ⟨n₁,hj₁⟩:=(p7 j).1 st n hj;obtain ⟨hjlt,hwf,hMj,hBj,hch⟩:=C.seat j st _ hj₁;have hsc:st.has c:=⟨kk,zj,hkk⟩
  have hc₁:(w₁.at d).heap[c]?=some (.chan 0 #[] false kc kc false):=OT p6 hlive hc;have qo:=hO.keep p6 hlive;obtain ⟨zs,hzs⟩:=hO.send;have QY:h < gs₁.size:=(Array.getElem?_eq_some_iff.1 p4).1;obtain ⟨gj,hgj⟩:∃ gj,gs₁[j]?=some gj:=⟨gs₁[j],Array.getElem?_eq_getElem hjlt⟩
  have oP:=hA.keep E p7 (p8 h (.inl rfl)) p6 hlive;obtain ⟨o1,o2,o3,o4⟩:=KS (h:=h) (fn:=a.frame.fn) (pos:=a.frame.place) (fun e he=>by have:=hes e he;rw [← p6.size] at this;exact this)
  have Cn:=C.note o1 (o4 T₁) QY (C.past.hold p5.tight o1 o2 (fun _=>o4 T₁) o3);have hoff:∀ x y,x≠j->(gs₁.setIfInBounds h ph)[x]?=some y->offersAt y c false=[]:=fun x y hx hy=>by
    rcases getElem?_stand gs₁ h x y hy with ⟨_,rfl⟩|⟨hxh,hy'⟩
    . exact offersAt_ph _ _
    . exact C.rY hxh hy' fun st' n' e hc'=>Qz C hj₁ hsc kJ e hc' hx rfl
  have hno:∀ (m:Nat) (c':CommCase),m≠k->cases[m]?=some c'->NoWays (w₁.at d) (gs₁.setIfInBounds h ph) c':=by
    intro m c' hm hcm;obtain ⟨q,z,kq,rfl,hq⟩:=qo.recv m c' hm hcm;refine ways_recv_none hq (partners_nil fun x y hy=>?_);rcases getElem?_stand gs₁ h x y hy with ⟨_,rfl⟩|⟨hxh,hy'⟩
    . exact offersAt_ph _ _
    . exact C.noSend hxh hy' _
  have fin:∃ N' m' T',runNT P N' (crowd gs₁ w₁ sl₁) T₁=(.next m',T')/\Got P ty Wg K Still Bd Shun Quiet Mem' Loose' h j c st kk v Ic Hr ex rh gs₁.size (w₁.at d) m' T':=by
    rcases (C.seats j gj st _ hjh hgj hj₁).1 with ⟨k',w0,hn,hG⟩|⟨_,g₀,Zd,rfl,hat⟩
    ·
      have hjr:=(Sits.status (C.keep j st _ hj₁) (.inl ⟨k',w0,hn,hG⟩)).elim (·.1) (fun z=>by omega);have hall:∀ cc∈cases,NoWays (w₁.at d) (gs₁.setIfInBounds h ph) cc:=by
        intro cc hcc;obtain ⟨m,hm,e⟩:=Array.mem_iff_getElem.1 hcc;have hm':cases[m]?=some cc:=by rw [← e];exact Array.getElem?_eq_getElem hm
        by_cases hmk:m=k
        . subst hmk;rw [hzs] at hm';obtain rfl:=Option.some.inj hm';refine ways_send_none hc₁ (by simp) (partners_nil fun x y hy=>?_);by_cases hxj:x=j
          . subst hxj;rw [stand_get hjh hgj] at hy;obtain rfl:=Option.some.inj hy;exact offersAt_of_not_blocked (by rw [hjr];simp) _ _
          . exact hoff x y hxj hy
        . exact hno m cc hmk hm'
      have hrt:=crowd_waits (sl:=sl₂) p4 hst hall;have Cf:=Cn.setH (parked g₂ cases shape);obtain ⟨N',m',T',r1,r2⟩:=flight (sl:=sl₂) E hKc hMh hjh hkk kJ hM1 hM2 hL wJ _ _ rfl rfl Cf (Array.getElem?_setIfInBounds_self_of_lt QY) qo ⟨k',hn ▸ hj₁⟩ oP;exact ⟨N'+1,m',T',by simp only [runNT,p2,hrt];exact r1,by simpa using r2⟩
    ·
      obtain ⟨_,_,_,_,hhome,_⟩:=id hat;have hp:partners (gs₁.setIfInBounds h ph) c false=[(j,kk)]:=by
        rw [partners_one (stand_get hjh hgj) fun x y hx hy=>hoff x y hx hy,offersAt_parked_at hkk fun m cc hm hcm hch'=>?_]
        . rfl
        . obtain ⟨c'',z,rfl⟩:=hwf.recvs cc (Array.mem_of_getElem? hcm);simp only [rcase,Value.chan.injEq,Option.some.injEq] at hch';subst hch';exact hm (hwf.apart m kk c'' z zj hcm hkk)
      have hrt:=Tk (sl:=sl₂) p4 hst hzs hno hc₁ hjh hgj hkk hp;have Hn:=Cn.pass (gs':=(gs₁.setIfInBounds j (Zd.finishComm P st.cases st.shape kk v true)).setIfInBounds h (g₂.finishComm P cases shape k undef false)) hKc hMh QY hjh hj₁ hsc kJ hc₁ hM1 hM2 hL wJ oP (by simp)
        (fun x hx hxj=>by rw [Array.getElem?_setIfInBounds_ne (fun e=>hx e.symm),Array.getElem?_setIfInBounds_ne (fun e=>hxj e.symm)])
        (by rw [Array.getElem?_setIfInBounds_self_of_lt (by simpa using QY)]) g₂.frame.fn g₂.frame.place Zd.frame.fn Zd.frame.place
      exact ⟨0+1,_,_,runNT_succ_of (m₁:=crowd gs₁ w₁ sl₁) (t₁:=T₁) rfl (p2.trans hrt),_,Zd,_,sl₂,_,Hr,rfl,by simp,by rw [Array.getElem?_setIfInBounds_ne (fun e=>hjh e.symm),Array.getElem?_setIfInBounds_self_of_lt hjlt],hhome,
        by rw [← Array.append_assoc];exact Hn,wI.of (.refl _) ⟨_,_,C.wg⟩ hc₁,Same.refl _,fun _ _=>rfl⟩
  obtain ⟨N',m',T',r1,r2⟩:=fin;exact ⟨N+N',m',T',runNT_then p1 r1,by rw [← p3];exact r2.back p7 p8 p6 hlive hc⟩
theorem hire (E:Env Wg K Still Shun){Still':Nat->Loc->Prop}{ql:Nat->Nat}(E':Env Wg K Still' Shun)(hKn:∀ w₁,Jc ty Wg w w₁->K h w₁)(hLn:¬ Loose gs.size)(hSt:∀ g,g≠gs.size->Still' g=Still g)(hBd:∀ g,g≠gs.size->ql g=Bd g)(hS0:∀ l,¬ Still gs.size l)(hmem:∀ g l,Still' g l->l.isMemory=true){a a' child:Goroutine}{es:Array Event}{sl:Option (Nat × Nat)}(ha:gs[h]?=some a)(hrun:a.status=.running)(hgo:∀ w₁,Jc ty Wg w w₁->stepG P (h == 0) a w₁=.spawn a' child w₁ es)(hes:∀ e∈es,wB Still Shun h w.heap.size e)(H:Held P ty Wg K Still Bd Shun Quiet Mem Loose h role live (ex+1) T gs w)(hMh:Mem h){st:Seat}{n:Nat}(hsit:Sits P (h == 0) (K h) (Still h) (Bd h) st n a')(hwf:st.Wf)(hbd:Bd h<=w.heap.size)(hch:∀ c,st.has c->∃ k,w.heap[c]?=some (.chan 0 #[] false k k false))(hown:∀ i st' n' c,i≠h->role i=.seat st' n'->st.has c->st'.has c->Quiet c) :
    ∃ N gs' w' sl' T' Ia Iz,runNT P N (crowd gs w sl) T=(.next (crowd gs' w' sl'),T')/\gs'.size=gs.size+1/\gs'[gs.size]?=some child/\
      Held P ty Wg K Still' ql Shun Quiet (fun g=>Mem g\/g=gs.size) (fun g=>Loose g\/g=h) gs.size Ia Iz ex T' gs' w'/\Jc ty Wg w w'/\Same (upd (upd role gs.size (.fin 0 0 0)) h (.seat st n)) Ia/\Iz gs.size=1/\NS h role live Iz:=by
  have hlive:WgLive ty Wg w:=⟨_,_,H.J9.wg⟩
  obtain ⟨N,gs₁,w₁,d,sl₁,sl₂,T₁,Ic,Hr,p1,p2,p3,p4,p5,p6,p7,p8,_,_⟩:=picked (sl:=sl) E hrun _ _ rfl rfl ha H;have hst:=hgo _ p6;have C:=p5.J9;have QY:h < gs₁.size:=(Array.getElem?_eq_some_iff.1 p4).1;obtain ⟨o1,o2,o3,o4⟩:=KS (h:=h) (fn:=a.frame.fn) (pos:=a.frame.place) (fun e he=>by have:=hes e he;rw [← p6.size] at this;exact this)
  have hrt:=runT_crowd_spawn (P:=P) (sl:=sl₂) p4 hst;have hpush:((MemOp.ofEvents h a.frame.fn a.frame.place es).push { g:=h,fn:=a.frame.fn,pos:=a.frame.place,act:=.go gs₁.size } |>.push { g:=gs₁.size,fn:=child.frame.fn,pos:=a.frame.place,act:=.start }) =
      MemOp.ofEvents h a.frame.fn a.frame.place es ++ #[{ g:=h,fn:=a.frame.fn,pos:=a.frame.place,act:=.go gs₁.size },{ g:=gs₁.size,fn:=child.frame.fn,pos:=a.frame.place,act:=.start }]:=by
    apply Array.ext';simp
  rw [hpush] at hrt;have Cn:=C.note o1 (o4 T₁) QY (C.past.hold p5.tight o1 o2 (fun _=>o4 T₁) o3);rw [p3] at hrt QY;have Ae7:∀ l,¬ Still gs.size l:=hS0;have hq:∀ x,Deaf (T₁ ++ MemOp.ofEvents h a.frame.fn a.frame.place es ++ #[{ g:=h,fn:=a.frame.fn,pos:=a.frame.place,act:=.go gs.size },{ g:=gs.size,fn:=child.frame.fn,pos:=a.frame.place,act:=.start }]) x=Deaf (T₁ ++ MemOp.ofEvents h a.frame.fn a.frame.place es) x:=fun x=>Deaf_quiet (fun op hop dd=>by simp only [List.mem_toArray,List.mem_cons,List.not_mem_nil,or_false] at hop;rcases hop with rfl|rfl <;> rfl)
  have pg:=(Cn.past.hire hMh (Cn.above gs.size (by rw [p3];exact Nat.le_refl _)) Ae7 a.frame.fn a.frame.place child.frame.fn)
  have hget:∀ x,x≠h->x < gs.size->((gs₁.setIfInBounds h a').push child)[x]?=gs₁[x]?:=fun x hx hlt=>by rw [Array.getElem?_push,if_neg (by simp;omega),Array.getElem?_setIfInBounds_ne (fun e=>hx e.symm)]
  have Pn:∀ {x:Nat} {st':Seat} {n':Nat},upd (upd Ic gs.size (.fin 0 0 0)) h (.seat st n) x=.seat st' n'->(x=h/\st'=st/\n'=n)\/(x≠h/\x≠gs.size/\Ic x=.seat st' n'):=fun {x st' n'} e=>by
    by_cases e1:x=h
    . subst e1;rw [upd_same] at e;cases e;exact .inl ⟨rfl,rfl,rfl⟩
    . rw [upd_ne _ _ e1] at e;by_cases e2:x=gs.size
      . subst e2;rw [upd_same] at e;cases e
      . rw [upd_ne _ _ e2] at e;exact .inr ⟨e1,e2,e⟩
  have hsum:sumTo (gs.size+1) (upd Hr gs.size 1)+ex=sumTo gs₁.size Hr+(ex+1):=by have h1:sumTo gs.size (upd Hr gs.size 1)=sumTo gs.size Hr:=Go.ConcN.sumTo_congr fun i hi=>upd_ne Hr _ (by omega);rw [p3];simp only [sumTo,upd_same,h1];omega
  have uJ:∀ c,st.has c->∃ k,(w₁.at d).heap[c]?=some (.chan 0 #[] false k k false):=fun c hc=>by obtain ⟨k,hk⟩:=hch c hc;exact ⟨k,OT p6 hlive hk⟩
  have Xo:((gs₁.setIfInBounds h a').push child).size=gs.size+1:=by simp [p3]
  refine ⟨N+1,_,_,sl₂,_,upd (upd Ic gs.size (.fin 0 0 0)) h (.seat st n),upd Hr gs.size 1,runNT_succ_of p1 (p2.trans hrt),Xo,?_,⟨⟨fun i g s m dd hi hg e=>?_,fun i g st' n' hi hg e=>?_,fun i st' n' e=>?_,fun i i' s1 s2 n1 n2 c' e1 e2 h1 h2=>?_,fun x hx=>?_,?_,fun i st' n' e=>?_,?_,?_,fun i=>?_⟩,fun st' n' e=>?_,fun z=>z.elim hLn fun z=>by omega⟩,p6,?_,upd_same _ _ _,fun x hx=>?_⟩
  . rw [← p3,Array.getElem?_push,if_pos (by simp)]
  . by_cases e1:i=h
    . subst e1;rw [upd_same] at e;cases e
    . rw [upd_ne _ _ e1,upd_ne _ _ hi] at e;have hlt:i < gs.size:=by have:=(Array.getElem?_eq_some_iff.1 hg).1;rw [Xo] at this;omega
      rw [hget i e1 hlt] at hg;obtain ⟨a1,a2,a3,a4,a5,a6⟩:=Cn.KR i g s m dd e1 hg e;exact ⟨a1,a2,by rw [← Array.append_assoc,hq];exact a3,fun hM=>hM.elim a4 hi,by rw [upd_ne _ _ hi];exact a5,a6⟩
  . rcases Pn e with ⟨rfl,rfl,rfl⟩ | ⟨e1,e2,e⟩
    . rw [Array.getElem?_push,if_neg (by simp;omega),Array.getElem?_setIfInBounds_self_of_lt (by rw [p3];exact QY)] at hg
      obtain rfl:=Option.some.inj hg;rw [hSt _ (by omega),hBd _ (by omega)];exact ⟨hsit,.inr rfl⟩
    . have hlt:i < gs.size:=by have:=(Array.getElem?_eq_some_iff.1 hg).1;rw [Xo] at this;omega
      rw [hget i e1 hlt] at hg;obtain ⟨a1,a2⟩:=Cn.seats i g st' n' e1 hg e;rw [hSt _ e2,hBd _ e2];exact ⟨a1,.inl a2⟩
  . rcases Pn e with ⟨rfl,rfl,rfl⟩ | ⟨e1,e2,e⟩
    . exact ⟨by rw [Xo];omega,hwf,.inl hMh,by rw [hBd _ (by omega),p6.size];exact hbd,uJ⟩
    . obtain ⟨a1,a2,a3,a4,a5⟩:=C.seat i st' n' e;exact ⟨by rw [Xo];omega,a2,.inl a3,by rw [hBd _ e2];exact a4,a5⟩
  . rcases Pn e1 with ⟨x0,rfl,rfl⟩ | ⟨x1,x2,e3⟩ <;> rcases Pn e2 with ⟨y0,z1,z2⟩ | ⟨y1,y2,e4⟩
    . exact .inl (x0.trans y0.symm)
    . obtain ⟨n'',e4⟩:=p7.back e4;exact .inr (hown i' s2 _ c' y1 e4 h1 h2)
    . subst z1 z2;obtain ⟨n'',e3⟩:=p7.back e3;exact .inr (hown i s1 _ c' x1 e3 h2 h1)
    . exact C.own i i' s1 s2 n1 n2 c' e3 e4 h1 h2
  . rw [← Array.append_assoc,hq];rw [Xo] at hx;exact Cn.above x (by rw [p3];omega)
  . rw [← Array.append_assoc];refine (pg.loosen (Loose':=fun g=>Loose g\/g=h) fun g hg=>.inl hg).still (fun g l hS=>?_) (fun i x hx hw g hg hS=>?_)
    . by_cases e:g=gs.size
      . subst e;exact absurd hS (hS0 l)
      . rw [hSt g e];exact hS
    . by_cases e:g=gs.size
      . subst e;right
        rcases pg.known i x hx (hmem _ _ hS) with hk|⟨h0,_⟩|⟨hs,_⟩
        . exact hk
        . rw [hw] at h0;cases h0
        . exact absurd hs (E'.apart _ _ hS)
      . left
        rw [← hSt g e];exact hS
  . rcases Pn e with ⟨rfl,rfl,rfl⟩ | ⟨e1,e2,e⟩
    . exact hKn _ p6
    . exact C.keep i st' n' e
  . rw [Xo,hsum];exact C.wg
  . rw [Xo,hsum];exact C.few
  . by_cases e:i=gs.size
    . subst e;rw [upd_same];exact Nat.le_refl _
    . rw [upd_ne _ _ e];exact C.one i
  . rcases Pn e with ⟨e1,_⟩ | ⟨_,e2,_⟩
    . omega
    . exact e2 rfl
  . intro x;by_cases e1:x=h
    . subst e1;rw [upd_same,upd_same];exact ⟨fun st n e=>⟨n,e⟩,fun s m d e=>⟨s,m,d,e⟩⟩
    . rw [upd_ne _ _ e1,upd_ne _ _ e1];by_cases e2:x=gs.size
      . subst e2;rw [upd_same,upd_same];exact ⟨fun st n e=>⟨n,e⟩,fun s m d e=>⟨s,m,d,e⟩⟩
      . rw [upd_ne _ _ e2,upd_ne _ _ e2];exact p7 x
  . have:x≠gs.size:=by
      rcases hx with rfl|⟨st',n',hx⟩
      . omega
      . have:=(H.J9.seat x st' n' hx).1;omega
    rw [upd_ne _ _ this];exact p8 x hx
end
end
end Go.LC
