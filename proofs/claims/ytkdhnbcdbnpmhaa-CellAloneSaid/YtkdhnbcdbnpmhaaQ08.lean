/-
  Part 8 of the proof that CellAlone returns true for every input and leaves its arguments as they were. No further condition.
-/
import Derived.Test.YtkdhnbcdbnpmhaaQ07
set_option linter.unusedVariables false
set_option linter.unusedSectionVars false
namespace Go.LC
open Go Go.Conc Go.LT
open Go.ConcN (WgLive sumTo upd sumTo_upd upd_ne upd_same)
open Go.ConcR (KK wgBlock WgAt stA smA rd wr mk DC0)
section
inductive WS | loop (v:Nat) | seen (v:Nat) | sem | last
inductive JK (P:Program)(ty:TypeId)(Wg n:Nat)(D:World->World->Array Event->Prop)(Stop:Nat->Goroutine->World->Prop):WS->Goroutine->World->Prop
  | step {s:WS} {g:Goroutine} {w:World} (hs:g.status=.running) (h:∀ w₁,Jc ty Wg w w₁->∃ g' w' es,stepG P true g w₁=.go g' w' es/\D w₁ w' es)
      (k:∀ w₁ g' w' es,Jc ty Wg w w₁->stepG P true g w₁=.go g' w' es->JK P ty Wg n D Stop s g' w'):JK P ty Wg n D Stop s g w
  | load {v:Nat} {g:Goroutine} {w:World} (hs:g.status=.running) (h:∀ w₁ (v':Nat),Jc ty Wg w w₁->v'<=v->v' < 2147483648->WgAt ty Wg w₁ (v' * KK) 0->∃ g',stepG P true g w₁=.go g' w₁ #[rd (stA Wg)])
      (k0:∀ w₁ g',Jc ty Wg w w₁->WgAt ty Wg w₁ 0 0->stepG P true g w₁=.go g' w₁ #[rd (stA Wg)]->Lu P true ty Wg n D Stop true 0 g' w₁)
      (k1:∀ w₁ (v':Nat) g',Jc ty Wg w w₁->v'<=v->v'≠0->v' < 2147483648->WgAt ty Wg w₁ (v' * KK) 0->stepG P true g w₁=.go g' w₁ #[rd (stA Wg)]->JK P ty Wg n D Stop (.seen v') g' w₁):JK P ty Wg n D Stop (.loop v) g w
  | cas {v:Nat} {g:Goroutine} {w:World} (hs:g.status=.running) (hv:v≠0)
      (h:∀ w₁,Jc ty Wg w w₁->WgAt ty Wg w₁ (v * KK) 0->∃ g',stepG P true g w₁=.go g' (w₁.setCell (stA Wg) (.int .u64 (v * KK+1))) #[rd (stA Wg),wr (stA Wg)])
      (kh:∀ w₁ g',Jc ty Wg w w₁->WgAt ty Wg w₁ (v * KK) 0->stepG P true g w₁=.go g' (w₁.setCell (stA Wg) (.int .u64 (v * KK+1))) #[rd (stA Wg),wr (stA Wg)]->JK P ty Wg n D Stop .sem g' (w₁.setCell (stA Wg) (.int .u64 (v * KK+1))))
      (m:∀ w₁ (v':Nat),Jc ty Wg w w₁->v' < v->WgAt ty Wg w₁ (v' * KK) 0->∃ g',stepG P true g w₁=.go g' w₁ #[rd (stA Wg)])
      (km:∀ w₁ (v':Nat) g',Jc ty Wg w w₁->v' < v->WgAt ty Wg w₁ (v' * KK) 0->stepG P true g w₁=.go g' w₁ #[rd (stA Wg)]->JK P ty Wg n D Stop (.loop v') g' w₁):JK P ty Wg n D Stop (.seen v) g w
  | acq {g:Goroutine} {w:World} (hs:g.status=.running) (ho:g.offers=none) (hb:∀ w₁,Jc ty Wg w w₁->(∃ st,WgAt ty Wg w₁ st 0)->stepG P true g w₁=.go { g with status:=.blocked } w₁ #[])
      (h:∀ w₁,Jc ty Wg w w₁->WgAt ty Wg w₁ 0 1->∃ g',stepG P true g w₁=.go g' (w₁.setCell (smA Wg) (.int .u32 0)) (semEvents (smA Wg)))
      (k:∀ w₁ g',Jc ty Wg w w₁->WgAt ty Wg w₁ 0 1->stepG P true g w₁=.go g' (w₁.setCell (smA Wg) (.int .u32 0)) (semEvents (smA Wg))->JK P ty Wg n D Stop .last g' (w₁.setCell (smA Wg) (.int .u32 0))):JK P ty Wg n D Stop .sem g w
  | last {g:Goroutine} {w:World} (hs:g.status=.running) (h:∀ w₁,Jc ty Wg w w₁->WgAt ty Wg w₁ 0 0->∃ g',stepG P true g w₁=.go g' w₁ #[rd (stA Wg)])
      (k:∀ w₁ g',Jc ty Wg w w₁->WgAt ty Wg w₁ 0 0->stepG P true g w₁=.go g' w₁ #[rd (stA Wg)]->Lu P true ty Wg n D Stop true 0 g' w₁):JK P ty Wg n D Stop .last g w
structure Acq (P:Program)(ty:TypeId)(Wg n:Nat)(D:World->World->Array Event->Prop)(Stop:Nat->Goroutine->World->Prop)(g:Goroutine)(w:World):Prop where
  hs:g.status=.running
  ho:g.offers=none
  hb:∀ w₁,Jc ty Wg w w₁->(∃ st,WgAt ty Wg w₁ st 0)->stepG P true g w₁=.go { g with status:=.blocked } w₁ #[]
  h:∀ w₁,Jc ty Wg w w₁->WgAt ty Wg w₁ 0 1->∃ g',stepG P true g w₁=.go g' (w₁.setCell (smA Wg) (.int .u32 0)) (semEvents (smA Wg))
  k:∀ w₁ g',Jc ty Wg w w₁->WgAt ty Wg w₁ 0 1->stepG P true g w₁=.go g' (w₁.setCell (smA Wg) (.int .u32 0)) (semEvents (smA Wg))->JK P ty Wg n D Stop .last g' (w₁.setCell (smA Wg) (.int .u32 0))
section
variable {P:Program}{ty:TypeId}{Wg n:Nat}{D:World->World->Array Event->Prop}{Stop:Nat->Goroutine->World->Prop}{s:WS}{g:Goroutine}{w w₁:World}
theorem JK.rely (h:JK P ty Wg n D Stop s g w)(hr:Jc ty Wg w w₁):JK P ty Wg n D Stop s g w₁:=by
  cases h with
  | step hs h k=>exact .step hs (fun w₂ h₂=>h w₂ (hr.trans h₂)) fun w₂ g' w' es h₂=>k w₂ g' w' es (hr.trans h₂)
  | load hs h k0 k1=>exact .load hs (fun w₂ v h₂=>h w₂ v (hr.trans h₂)) (fun w₂ g' h₂=>k0 w₂ g' (hr.trans h₂)) fun w₂ v g' h₂=>k1 w₂ v g' (hr.trans h₂)
  | cas hs hv h kh m km=>exact .cas hs hv (fun w₂ h₂=>h w₂ (hr.trans h₂)) (fun w₂ g' h₂=>kh w₂ g' (hr.trans h₂)) (fun w₂ v h₂=>m w₂ v (hr.trans h₂)) fun w₂ v g' h₂=>km w₂ v g' (hr.trans h₂)
  | acq hs ho hb h k=>exact .acq hs ho (fun w₂ h₂=>hb w₂ (hr.trans h₂)) (fun w₂ h₂=>h w₂ (hr.trans h₂)) fun w₂ g' h₂=>k w₂ g' (hr.trans h₂)
  | last hs h k=>exact .last hs (fun w₂ h₂=>h w₂ (hr.trans h₂)) fun w₂ g' h₂=>k w₂ g' (hr.trans h₂)
theorem Acq.rely (h:Acq P ty Wg n D Stop g w)(hr:Jc ty Wg w w₁):Acq P ty Wg n D Stop g w₁:=
  ⟨h.hs,h.ho,fun w₂ h₂=>h.hb w₂ (hr.trans h₂),fun w₂ h₂=>h.h w₂ (hr.trans h₂),fun w₂ g' h₂=>h.k w₂ g' (hr.trans h₂)⟩
theorem Acq.way (h:Acq P ty Wg n D Stop g w):JK P ty Wg n D Stop .sem g w:=.acq h.hs h.ho h.hb h.h h.k
theorem JK.run (h:JK P ty Wg n D Stop s g w):g.status=.running:=by cases h <;> assumption
end
section
variable {P:Program}{ty:TypeId}{Wg:Nat}{K:Nat->World->Prop}{Still:Nat->Loc->Prop}{Bd:Nat->Nat}{Shun:Loc->Prop}{Quiet Sp Mem Loose:Nat->Prop}{role:Nat->Ik}{v wt sm:Nat}{T:Trace}{gs:Array Goroutine}{w:World}
theorem UU.at (E:VD Wg K Still Shun)(C:UU P ty Wg K Still Shun Mem Loose role v wt sm T gs w)(d:Nat):UU P ty Wg K Still Shun Mem Loose role v wt sm T gs (w.at d):=
  ⟨fun i g s m dd h0 hg e=>let ⟨a,b,c⟩:=C.KR i g s m dd h0 hg e;⟨a.rely (PL ty Wg ⟨_,_,C.wg⟩ ⟨_,_,C.wg⟩),b,c⟩,C.all,C.zero,C.eP,C.deaf0,C.above,C.past,C.tight,C.wg,C.mode,C.few⟩
theorem UU.zV (C:UU P ty Wg K Still Shun Mem Loose role v wt sm T gs w){a a':Goroutine}{w':World}{ops:Trace}(ha:gs[0]?=some a)(hops:∀ op∈ops,op.g=0)(hsz:w.heap.size<=w'.heap.size)(hwg:w'.heap[Wg]?=w.heap[Wg]?)(hd:Deaf (T ++ ops) 0=1)(hp:Jl Still Shun Mem Loose w'.heap.size (Knows (T ++ ops) 0) (T ++ ops)):UU P ty Wg K Still Shun Mem Loose role v wt sm (T ++ ops) ((gs.map (woken P a a' w')).setIfInBounds 0 a') w'/\((gs.map (woken P a a' w')).setIfInBounds 0 a')[0]?=some a':=by
  have hlt:0 < gs.size:=(Array.getElem?_eq_some_iff.1 ha).1;have hw':WgAt ty Wg w' (v * KK+wt) sm:=by have:=C.wg;unfold WgAt at this ⊢;rw [hwg];exact this
  have hrx:=PL ty Wg ⟨_,_,C.wg⟩ ⟨_,_,hw'⟩;have hD:∀ x,x≠0->Deaf (T ++ ops) x=Deaf T x:=fun x hx=>Deaf_other T (fun z=>hx z.symm) _ hops;refine ⟨⟨fun x y s m d hx hy e=>?_,fun x hx hlx=>C.all x hx (by simpa using hlx),C.zero,C.eP,hd,fun j hj=>?_,hp,C.tight,hw',by simpa using C.mode,C.few⟩,Array.getElem?_setIfInBounds_self_of_lt (by simpa using hlt)⟩
  . rw [Array.getElem?_setIfInBounds_ne (fun z=>hx z.symm),Array.getElem?_map] at hy;obtain ⟨y0,hy0,rfl⟩:=Option.map_eq_some_iff.1 hy;obtain ⟨a1,a2,a3⟩:=C.KR x y0 s m d hx hy0 e;rw [woken_of_again (again_of_running a1.status w'),hD x hx];exact ⟨a1.rely hrx,a2,a3⟩
  . have hj':gs.size<=j:=by simpa using hj
    rw [hD j (by omega)];exact C.above j hj'
def Xq (role:Nat->Ik)(n:Nat):Prop:=∀ i,i≠0->i < n->∃ m d,role i=.fin 1 m d
theorem nJ (E:VD Wg K Still Shun){Ch:Nat->Prop}{n:Nat}{D:World->World->Array Event->Prop}{Stop:Nat->Goroutine->World->Prop}(hD:∀ w w' es,D w w' es->Zv K Still Shun Ch Wg 0 w w' es):∀ (m1 m2:Nat) (a:Goroutine) (w:World),
    (JK P ty Wg n D Stop .sem a w\/∃ a0,a={ a0 with status:=.blocked }/\Acq P ty Wg n D Stop a0 w)->∀ {role:Nat->Ik} {v wt sm:Nat} {T:Trace} {gs:Array Goroutine} {sl:Option (Nat × Nat)},M1 gs.size role=m1->M2 gs.size role=m2->gs[0]?=some a->(sm=1->a.status=.running)->
      UU P ty Wg K Still Shun Mem Loose role v wt sm T gs w->
    ∃ N gs' a' w' sl' T' Ia,runNT P N (crowd gs w sl) T=(.next (crowd gs' w' sl'),T')/\gs'.size=gs.size/\gs'[0]?=some a'/\JK P ty Wg n D Stop .last a' w'/\Held P ty Wg K Still Bd Shun Quiet Mem Loose 0 Ia (fun _=>0) 0 T' gs' w'/\Deaf T' 0=1/\Xq Ia gs.size/\∀ st n,Ia 0≠.seat st n:=by
  intro m1;induction m1 using Nat.strongRecOn with
  | _ m1 ih1=>
  intro m2;induction m2 using Nat.strongRecOn with
  | _ m2 ih2=>
  have SY:∀ (a:Goroutine) (w:World),(JK P ty Wg n D Stop .sem a w\/∃ a0,a={ a0 with status:=.blocked }/\Acq P ty Wg n D Stop a0 w)->∀ {role:Nat->Ik} {v wt sm:Nat} {T:Trace} {gs:Array Goroutine} {sl sl':Option (Nat × Nat)} {i d:Nat} {g:Goroutine},M1 gs.size role=m1->M2 gs.size role=m2->gs[0]?=some a->
      (sm=1->a.status=.running)->UU P ty Wg K Still Shun Mem Loose role v wt sm T gs w->gs[i]?=some g->i≠0->g.status=.running->stepT P (crowd gs w sl)=runT P (crowd gs (w.at d) sl') i->
      ∃ N gs' a' w' sl' T' Ia,runNT P N (crowd gs w sl) T=(.next (crowd gs' w' sl'),T')/\gs'.size=gs.size/\gs'[0]?=some a'/\JK P ty Wg n D Stop .last a' w'/\Held P ty Wg K Still Bd Shun Quiet Mem Loose 0 Ia (fun _=>0) 0 T' gs' w'/\Deaf T' 0=1/\Xq Ia gs.size/\∀ st n,Ia 0≠.seat st n:=by
    intro a w hA role v wt sm T gs sl sl' i d g hm1 hm2 ha hsm C hi h0 hrun hst;obtain ⟨g',w',ops,r',v',ku,sm',hrt,hw,C',hless,hwk⟩:=(C.at E d).by_step (sl:=sl') E hi h0 hrun;have hr:Jc ty Wg w w':=(Jc.at w d).trans (hw.RG ⟨_,_,C'.wg⟩ ⟨_,_,C.wg⟩);have ha0:((gs.map (woken P g g' w')).setIfInBounds i g')[0]?=some (woken P g g' w' a):=by rw [Array.getElem?_setIfInBounds_ne h0,Array.getElem?_map,ha];rfl
    have hA':(JK P ty Wg n D Stop .sem (woken P g g' w' a) w'\/∃ a0,woken P g g' w' a={ a0 with status:=.blocked }/\Acq P ty Wg n D Stop a0 w')/\(sm'=1->(woken P g g' w' a).status=.running):=by
      rcases hA with hA|⟨a0,rfl,hA⟩
      . have hra:=hA.run;rw [woken_of_again (again_of_running (.inl hra) w')];exact ⟨.inl (hA.rely hr),fun _=>hra⟩
      . have hag:Goroutine.again w' { a0 with status:=.blocked }=a0:=by have h1:=hA.hs;have h2:=hA.ho;obtain ⟨f1,f2,f3,f4,f5⟩:=a0;simp only at h1 h2;subst h1 h2;rfl
        by_cases hwo:(mayWake P g && g'.status != .blocked && g'.status != .waiting)=true
        . have e:woken P g g' w' { a0 with status:=.blocked }=a0:=by unfold woken;rw [if_pos hwo];exact hag
          rw [e];exact ⟨.inl (hA.rely hr).way,fun _=>hA.hs⟩
        . have e:woken P g g' w' { a0 with status:=.blocked }={ a0 with status:=.blocked }:=by unfold woken;rw [if_neg hwo]
          rw [e];refine ⟨.inr ⟨a0,rfl,hA.rely hr⟩,fun hs1=>?_⟩;by_cases hs0:sm=1
          . have:=hsm hs0;cases this
          . exfalso
            have Adc:sm=0:=by have hmo:=C.mode;cases hmo <;> first | rfl | exact absurd rfl hs0
            obtain ⟨b1,b2,b3⟩:=hwk hs1 Adc;exact hwo (by simp [b1,b2,b3])
    have hsz:((gs.map (woken P g g' w')).setIfInBounds i g').size=gs.size:=by simp
    have key:∃ N IW a₂ w₂ sl₂ T₂ Iu,runNT P N (crowd ((gs.map (woken P g g' w')).setIfInBounds i g') w' sl') (T ++ ops)=(.next (crowd IW w₂ sl₂),T₂)/\IW.size=((gs.map (woken P g g' w')).setIfInBounds i g').size/\IW[0]?=some a₂/\JK P ty Wg n D Stop .last a₂ w₂/\Held P ty Wg K Still Bd Shun Quiet Mem Loose 0 Iu (fun _=>0) 0 T₂ IW w₂/\Deaf T₂ 0=1/\Xq Iu ((gs.map (woken P g g' w')).setIfInBounds i g').size/\∀ st n,Iu 0≠.seat st n:=by
      rcases hless with hl|⟨hl1,hl2⟩
      . exact ih1 (M1 ((gs.map (woken P g g' w')).setIfInBounds i g').size (upd role i r')) (by rw [hsz,← hm1];exact hl) _ _ _ hA'.1 rfl rfl ha0 hA'.2 C'
      . exact ih2 (M2 ((gs.map (woken P g g' w')).setIfInBounds i g').size (upd role i r')) (by rw [hsz,← hm2];exact hl2) _ _ hA'.1 (by rw [hsz,hl1,hm1]) rfl ha0 hA'.2 C'
    obtain ⟨N,IW,a₂,w₂,sl₂,T₂,Iu,q1,q2,q3,q4,q5,q6,q7,q8⟩:=key;exact ⟨N+1,IW,a₂,w₂,sl₂,T₂,Iu,by simp only [runNT,hst,hrt];exact q1,q2.trans hsz,q3,q4,q5,q6,by rw [hsz] at q7;exact q7,q8⟩
  have awk:∀ {role:Nat->Ik} {v wt sm:Nat} {T:Trace} {gs:Array Goroutine} {a:Goroutine} {w:World},gs[0]?=some a->(a.status=.running\/a.status=.blocked)->UU P ty Wg K Still Shun Mem Loose role v wt sm T gs w->∀ g∈gs,awake g:=by
    intro role v wt sm T gs a w ha hra C g hg;obtain ⟨i,hi,rfl⟩:=Array.mem_iff_getElem.1 hg;by_cases h0:i=0
    . subst h0;have:gs[0]=a:=by simpa [Array.getElem?_eq_getElem hi] using ha
      rw [this];exact awake_of (hra.imp id .inl)
    . obtain ⟨s,m,d,e⟩:=C.all i h0 hi;exact awake_of ((C.KR i _ s m d h0 (Array.getElem?_eq_getElem hi) e).1.status.imp id .inr)
  have busy:∀ {s m d:Nat} {g:Goroutine} {w:World},Fs P ty Wg s m d g w->s≠1->g.status=.running:=by
    intro s m d g w h hs;cases h with
    | quit h=>exact absurd rfl hs
    | r0 h=>exact Goes.running (fun _ _ x=>x.1) w (IZ w) h
    | k1 h=>exact Goes.running (fun _ _ x=>x.1) w (IZ w) h
    | d1 h=>exact Goes.running (fun _ _ x=>x.1) w (IZ w) h
    | d2 h=>exact Goes.running (fun _ _ x=>x.1) w (IZ w) h
    | d3 h=>exact Goes.running (fun _ _ x=>x.1) w (IZ w) h
    | d4 h=>exact Goes.running (fun _ _ x=>x.1) w (IZ w) h
  have asleep:∀ (a0:Goroutine) (w:World),Acq P ty Wg n D Stop a0 w->∀ {role:Nat->Ik} {v wt sm:Nat} {T:Trace} {gs:Array Goroutine} {sl:Option (Nat × Nat)},M1 gs.size role=m1->M2 gs.size role=m2->gs[0]?=some { a0 with status:=.blocked }->sm≠1->
      UU P ty Wg K Still Shun Mem Loose role v wt sm T gs w->
      ∃ N gs' a' w' sl' T' Ia,runNT P N (crowd gs w sl) T=(.next (crowd gs' w' sl'),T')/\gs'.size=gs.size/\gs'[0]?=some a'/\JK P ty Wg n D Stop .last a' w'/\Held P ty Wg K Still Bd Shun Quiet Mem Loose 0 Ia (fun _=>0) 0 T' gs' w'/\Deaf T' 0=1/\Xq Ia gs.size/\∀ st n,Ia 0≠.seat st n:=by
    intro a0 w hA role v wt sm T gs sl hm1 hm2 ha hsm C;have hex:∃ (i:Nat) (g:Goroutine),gs[i]?=some g/\g.status=.running:=by
      have pick:∀ L,L≠0->L < gs.size->(role L).stage≠1->∃ (i:Nat) (g:Goroutine),gs[i]?=some g/\g.status=.running:=by intro L hL hLn hs;obtain ⟨s,m,d,e⟩:=C.all L hL hLn;refine ⟨L,gs[L],Array.getElem?_eq_getElem hLn,busy (C.KR L _ s m d hL (Array.getElem?_eq_getElem hLn) e).1 ?_⟩;rw [e] at hs;exact hs
      have hmo:=C.mode;cases hmo with
      | b1 hv h1 hc=>
        apply Classical.byContradiction;intro hno;have hz:(sumTo gs.size fun i=>T9 (role i))=0:=by
          have:∀ i,i < gs.size->T9 (role i)=0:=by
            intro i hi;by_cases h0:i=0
            . subst h0;exact C.zero
            . by_cases h2:(role i).stage=1
              . obtain ⟨s,m,d,e⟩:=C.all i h0 hi;rw [e] at h2 ⊢;simp only [Ik.stage] at h2;subst h2;rfl
              . exact absurd (pick i h0 hi h2) hno
          have h3:=Go.ConcN.sumTo_le (f:=fun i=>T9 (role i)) (c:=0) (j:=gs.size) fun i hi=>by rw [this i hi];exact Nat.le_refl 0
          omega
        omega
      | b2 L hL hn h1 ho=>exact pick L hL hn (by omega)
      | b3 L hL hn h1 ho=>exact pick L hL hn (by omega)
      | b4 ho=>exact absurd rfl hsm
    obtain ⟨i,g,d,sl',hi,hg,hst⟩:=crowd_pick (P:=P) (w:=w) (sl:=sl) (awk ha (.inr rfl) C) hex;have h0:i≠0:=by rintro rfl;rw [ha] at hi;obtain rfl:=Option.some.inj hi;cases hg
    exact SY _ w (.inr ⟨a0,rfl,hA⟩) hm1 hm2 ha (fun z=>absurd z hsm) C hi h0 hg hst
  have inner:∀ (s:WS) (a:Goroutine) (w:World),JK P ty Wg n D Stop s a w->s=.sem->∀ {role:Nat->Ik} {v wt sm:Nat} {T:Trace} {gs:Array Goroutine} {sl:Option (Nat × Nat)},M1 gs.size role=m1->M2 gs.size role=m2->gs[0]?=some a->
      UU P ty Wg K Still Shun Mem Loose role v wt sm T gs w->
      ∃ N gs' a' w' sl' T' Ia,runNT P N (crowd gs w sl) T=(.next (crowd gs' w' sl'),T')/\gs'.size=gs.size/\gs'[0]?=some a'/\JK P ty Wg n D Stop .last a' w'/\Held P ty Wg K Still Bd Shun Quiet Mem Loose 0 Ia (fun _=>0) 0 T' gs' w'/\Deaf T' 0=1/\Xq Ia gs.size/\∀ st n,Ia 0≠.seat st n:=by
    intro s a w hW;induction hW with
    | load=>intro e;cases e
    | cas=>intro e;cases e
    | last=>intro e;cases e
    | @step s g w hrun hstep hk ih=>
      rintro rfl role v wt sm T gs sl hm1 hm2 ha C;obtain ⟨i,gi,d,sl',hi,hg,hst⟩:=crowd_pick (P:=P) (w:=w) (sl:=sl) (awk ha (.inl hrun) C) ⟨0,g,ha,hrun⟩;by_cases h0:i=0
      . subst h0;obtain rfl:gi=g:=by rw [ha] at hi;exact (Option.some.inj hi).symm
        obtain ⟨g',w',es,hgo,hd⟩:=hstep _ (Jc.at w d);have hd':=hD _ _ _ hd;obtain ⟨o1,o2,o3,o4⟩:=KS (h:=0) (fn:=gi.frame.fn) (pos:=gi.frame.place) hd'.evs;have Cd:=C.at E d;obtain ⟨C',ha'⟩:=Cd.zV (a':=g') ha o1 hd'.size hd'.wg ((o4 T).trans C.deaf0) ((Cd.past.mono hd'.size).hold Cd.tight o1 o2 (fun z=>absurd z C.eP) o3);have hrt:=runT_crowd_go (P:=P) (sl:=sl') (i:=0) ha (show stepG P (0 == 0) gi (w.at d)=_ from hgo);have hsz:((gs.map (woken P gi g' w')).setIfInBounds 0 g').size=gs.size:=by simp
        obtain ⟨N,IW,a₂,w₂,sl₂,T₂,Iu,q1,q2,q3,q4,q5,q6,q7,q8⟩:=ih _ _ _ _ (Jc.at w d) hgo rfl (sl:=sl') (by rw [hsz];exact hm1) (by rw [hsz];exact hm2) ha' C';exact ⟨N+1,IW,a₂,w₂,sl₂,T₂,Iu,by simp only [runNT,hst,hrt];exact q1,q2.trans hsz,q3,q4,q5,q6,by rw [hsz] at q7;exact q7,q8⟩
      . exact SY g w (.inl (.step hrun hstep hk)) hm1 hm2 ha (fun _=>hrun) C hi h0 hg hst
    | @acq g w hrun ho hb hac hk ih=>
      rintro - role v wt sm T gs sl hm1 hm2 ha C;obtain ⟨i,gi,d,sl',hi,hg,hst⟩:=crowd_pick (P:=P) (w:=w) (sl:=sl) (awk ha (.inl hrun) C) ⟨0,g,ha,hrun⟩;rcases Decidable.em (i=0) with h0|h0
      rotate_left
      . exact SY g w (.inl (.acq hrun ho hb hac hk)) hm1 hm2 ha (fun _=>hrun) C hi h0 hg hst
      subst h0;obtain rfl:gi=g:=by rw [ha] at hi;exact (Option.some.inj hi).symm
      have Cd:=C.at E d;have hlt:0 < gs.size:=(Array.getElem?_eq_some_iff.1 ha).1;by_cases hs1:sm=1
      ·
        subst hs1;have hmo:=C.mode;have hwg:=C.wg;cases hmo with
        | b4 hall=>
        have ZK:WgAt ty Wg (w.at d) 0 1:=by
          have:WgAt ty Wg w 0 1:=by simpa using hwg
          exact this
        obtain ⟨g',hgo⟩:=hac _ (Jc.at w d) ZK;have hrt:=runT_crowd_go (P:=P) (sl:=sl') (i:=0) ha (show stepG P (0 == 0) gi (w.at d)=_ from hgo);have hW:=hk _ g' (Jc.at w d) ZK hgo;have hWs:Wg < w.heap.size:=(Array.getElem?_eq_some_iff.1 C.wg).1;obtain ⟨hp,hdf⟩:=Cd.past.sem (Kf:=fun T=>Knows T 0) rfl (fun t u i=>Knows.app u) C.eP E.jk E.apart (show (smA Wg).block < _ from hWs) gi.frame.fn gi.frame.place;have hz:∀ j,sumTo j (fun _=>0)=0:=fun j=>by have:=Go.ConcN.sumTo_le (f:=fun _=>0) (c:=0) (j:=j) fun _ _=>Nat.le_refl 0;omega
        have hwg':WgAt ty Wg ((w.at d).setCell (smA Wg) (.int .u32 0)) ((sumTo ((gs.map (woken P gi g' ((w.at d).setCell (smA Wg) (.int .u32 0)))).setIfInBounds 0 g').size (fun _=>0)+0:Nat) * KK) 0:=by
          rw [hz];have:=ZK.setSm 0
          simpa using this
        have hrx:=PL ty Wg (w:=w.at d) ⟨_,_,ZK⟩ ⟨_,_,hwg'⟩;have hops:∀ op∈MemOp.ofEvents 0 gi.frame.fn gi.frame.place (semEvents (smA Wg)),op.g=0:=fun op hop=>by obtain ⟨e,_,rfl⟩:=Conc.mem_ofEvents hop;rfl
        have hD':∀ x,x≠0->Deaf (T ++ MemOp.ofEvents 0 gi.frame.fn gi.frame.place (semEvents (smA Wg))) x=Deaf T x:=fun x hx=>Deaf_other T (fun z=>hx z.symm) _ hops;have hwo:LX Wg (w.at d) ((w.at d).setCell (smA Wg) (.int .u32 0)):=.inr (.inr ⟨_,rfl⟩);have hno:∀ {i st n},upd role 0 (.fin 1 0 0) i=.seat st n->i < gs.size->False:=fun {i st n} e hi=>by
          by_cases h0:i=0
          . subst h0;rw [upd_same] at e;cases e
          . rw [upd_ne _ _ h0] at e;obtain ⟨s,m,dd,e'⟩:=C.all i h0 hi;rw [e] at e';cases e'
        refine ⟨0+1,_,g',_,sl',_,fun i=>if i < gs.size then upd role 0 (.fin 1 0 0) i else .fin 1 0 0,runNT_succ_of (m₁:=crowd gs w sl) (t₁:=T) rfl (hst.trans hrt),by simp,Array.getElem?_setIfInBounds_self_of_lt (by simpa using hlt),hW,⟨⟨fun i y s m dd hi0 hy e=>?_,fun i y st n hi0 hy e=>?_,fun i st n e=>?_,fun i i' st st' n n' c e=>?_,fun j hj=>?_,by rw [hwo.size];exact hp,fun i st n e=>?_,hwg',by rw [hz];omega,fun _=>Nat.zero_le _⟩,fun st n e=>?_,Cd.tight⟩,hdf.trans C.deaf0,fun i hi0 hi=>?_,fun st n e=>?_⟩
        . have hi:i < gs.size:=by
            have:=(Array.getElem?_eq_some_iff.1 hy).1
            simpa using this
          rw [if_pos hi,upd_ne _ _ hi0] at e;rw [Array.getElem?_setIfInBounds_ne (fun z=>hi0 z.symm),Array.getElem?_map] at hy;obtain ⟨y0,hy0,rfl⟩:=Option.map_eq_some_iff.1 hy;obtain ⟨a1,a2,a3⟩:=Cd.KR i y0 s m dd hi0 hy0 e;have h1:=hall i hi0 hi;rw [e] at h1;have h1':s=1:=h1;subst h1';rw [woken_of_again (again_of_running a1.status _),hD' i hi0];exact ⟨Nat.pos_of_ne_zero hi0,a1.rely hrx,a2,a3,rfl,.inr (.inr (.inr rfl))⟩
        . have hi:i < gs.size:=by
            have:=(Array.getElem?_eq_some_iff.1 hy).1
            simpa using this
          rw [if_pos hi] at e;exact (hno e hi).elim
        . by_cases hi:i < gs.size
          . rw [if_pos hi] at e;exact (hno e hi).elim
          . rw [if_neg hi] at e;cases e
        . by_cases hi:i < gs.size
          . rw [if_pos hi] at e;exact (hno e hi).elim
          . rw [if_neg hi] at e;cases e
        . have hj':gs.size<=j:=by simpa using hj
          rw [hD' j (by omega)];exact C.above j hj'
        . by_cases hi:i < gs.size
          . rw [if_pos hi] at e;exact (hno e hi).elim
          . rw [if_neg hi] at e;cases e
        . have e':(if 0 < gs.size then upd role 0 (.fin 1 0 0) 0 else .fin 1 0 0)=.seat st n:=e;rw [if_pos hlt,upd_same] at e';cases e'
        . obtain ⟨s,m,dd,e⟩:=C.all i hi0 hi;have h1:=hall i hi0 hi;rw [e] at h1;have h1':s=1:=h1;subst h1';refine ⟨m,dd,?_⟩;show (if i < gs.size then _ else _)=_;rw [if_pos hi,upd_ne _ _ hi0];exact e
        . have e':(if 0 < gs.size then upd role 0 (.fin 1 0 0) 0 else .fin 1 0 0)=.seat st n:=e;rw [if_pos hlt,upd_same] at e';cases e'
      ·
        have hs0:sm=0:=by have hmo:=C.mode;cases hmo <;> first | rfl | exact absurd rfl hs1
        subst hs0;have hgo:=hb _ (Jc.at w d) ⟨_,Cd.wg⟩;have hrt:=runT_crowd_go (P:=P) (sl:=sl') (i:=0) ha (show stepG P (0 == 0) gi (w.at d)=_ from hgo);obtain ⟨C',ha'⟩:=Cd.zV (a':={ gi with status:=.blocked }) (ops:=MemOp.ofEvents 0 gi.frame.fn gi.frame.place #[]) ha (by simp [ofEvents_eq]) (Nat.le_refl _) rfl (by simpa [ofEvents_eq] using C.deaf0) (by simpa [ofEvents_eq] using Cd.past);have hsz:((gs.map (woken P gi { gi with status:=.blocked } (w.at d))).setIfInBounds 0 { gi with status:=.blocked }).size=gs.size:=by simp
        obtain ⟨N,IW,a₂,w₂,sl₂,T₂,Iu,q1,q2,q3,q4,q5,q6,q7,q8⟩:=asleep gi (w.at d) (Acq.rely ⟨hrun,ho,hb,hac,hk⟩ (Jc.at w d)) (sl:=sl') (by rw [hsz];exact hm1) (by rw [hsz];exact hm2) ha' (by omega) C';exact ⟨N+1,IW,a₂,w₂,sl₂,T₂,Iu,by simp only [runNT,hst,hrt];exact q1,q2.trans hsz,q3,q4,q5,q6,by rw [hsz] at q7;exact q7,q8⟩
  intro a w hA role v wt sm T gs sl hm1 hm2 ha hsm C;rcases hA with hA|⟨a0,rfl,hA⟩
  . exact inner .sem a w hA rfl hm1 hm2 ha C
  . exact asleep a0 w hA hm1 hm2 ha (fun z=>by have:=hsm z;cases this) C
theorem Held.rV {live:Nat->Nat}(H:Held P ty Wg K Still Bd Shun Quiet Mem Loose 0 role live 0 T gs w)(E:VD Wg K Still Shun)(hno:∀ i st n,role i≠.seat st n)(hM:¬ Mem 0)(hd:Deaf T 0=1)(hl0:live 0=0)(hv:sumTo gs.size live≠0){a a':Goroutine}(ha:gs[0]?=some a)(fn:FuncId)(pos:String) :
    UU P ty Wg K Still Shun Mem Loose (upd role 0 (.fin 0 0 0)) (sumTo gs.size live) 1 0 (T ++ MemOp.ofEvents 0 fn pos #[rd (stA Wg),wr (stA Wg)]) ((gs.map (woken P a a' (w.setCell (stA Wg) (.int .u64 ((sumTo gs.size live:Nat) * KK+1))))).setIfInBounds 0 a') (w.setCell (stA Wg) (.int .u64 ((sumTo gs.size live:Nat) * KK+1)))/\
      ((gs.map (woken P a a' (w.setCell (stA Wg) (.int .u64 ((sumTo gs.size live:Nat) * KK+1))))).setIfInBounds 0 a')[0]?=some a':=by
  have C:=H.J9;have hlt:0 < gs.size:=(Array.getElem?_eq_some_iff.1 ha).1;have hw:LX Wg w (w.setCell (stA Wg) (.int .u64 ((sumTo gs.size live:Nat) * KK+1))):=.inr (.inl ⟨_,rfl⟩);have hwg:WgAt ty Wg (w.setCell (stA Wg) (.int .u64 ((sumTo gs.size live:Nat) * KK+1))) ((sumTo gs.size live:Nat) * KK+1) 0:=C.wg.setSt _;have hrx:=PL ty Wg ⟨_,_,C.wg⟩ ⟨_,_,hwg⟩;have hops:∀ op∈MemOp.ofEvents 0 fn pos #[rd (stA Wg),wr (stA Wg)],op.g=0:=fun op hop=>by obtain ⟨e,_,rfl⟩:=Conc.mem_ofEvents hop;rfl
  have hD:∀ x,x≠0->Deaf (T ++ MemOp.ofEvents 0 fn pos #[rd (stA Wg),wr (stA Wg)]) x=Deaf T x:=fun x hx=>Deaf_other T (fun z=>hx z.symm) _ hops;have Wu:∀ i,i≠0->i < gs.size->∃ s m d,role i=.fin s m d:=fun i _ _=>by
    cases e:role i with
    | fin s m d=>exact ⟨s,m,d,rfl⟩
    | seat st n=>exact absurd e (hno i st n)
  refine ⟨⟨fun x y s m d hx hy e=>?_,fun x hx hlx=>?_,by rw [upd_same];rfl,hM,?_,fun j hj=>?_,?_,H.tight,by simpa using hwg,.b1 (by omega) (fun i hi hli=>?_) ?_,by have:=C.few;omega⟩,Array.getElem?_setIfInBounds_self_of_lt (by simpa using hlt)⟩
  . rw [upd_ne _ _ hx] at e;rw [Array.getElem?_setIfInBounds_ne (fun z=>hx z.symm),Array.getElem?_map] at hy;obtain ⟨y0,hy0,rfl⟩:=Option.map_eq_some_iff.1 hy;obtain ⟨_,a1,a2,a3,_⟩:=C.KR x y0 s m d hx hy0 e;rw [woken_of_again (again_of_running a1.status _),hD x hx];exact ⟨a1.rely hrx,a2,a3⟩
  . rw [upd_ne _ _ hx];exact Wu x hx (by simpa using hlx)
  . rw [Deaf_own,hd];rfl
  . have hj':gs.size<=j:=by simpa using hj
    rw [hD j (by omega)];exact C.above j hj'
  . rw [hw.size];exact C.past.OP (ad:=stA Wg) (fun i=>Knows.app _) hM E.shun E.apart (show (stA Wg).block < _ from C.Ww) (by omega) (fun e he=>by simpa [rd,wr] using he)
  . rw [upd_ne _ _ hi];have xO:i < gs.size:=by simpa using hli
    obtain ⟨s,m,d,e⟩:=Wu i hi xO;have:=(C.KR i _ s m d hi (Array.getElem?_eq_getElem xO) e).2.2.2.2.2;rw [e];exact this
  . have hsz:((gs.map (woken P a a' (w.setCell (stA Wg) (.int .u64 ((sumTo gs.size live:Nat) * KK+1))))).setIfInBounds 0 a').size=gs.size:=by simp
    rw [hsz];refine Go.ConcN.sumTo_congr fun i hi=>?_;by_cases h0:i=0
    . subst h0;rw [upd_same,hl0];rfl
    . rw [upd_ne _ _ h0];obtain ⟨s,m,d,e⟩:=Wu i h0 hi;have:=(C.KR i _ s m d h0 (Array.getElem?_eq_getElem hi) e).2.2.2.2.1;rw [e];exact this
section
variable {n:Nat}{D:World->World->Array Event->Prop}{Stop:Nat->Goroutine->World->Prop}{Ch:Nat->Prop}
def Vj (P:Program)(ty:TypeId)(Wg:Nat)(K:Nat->World->Prop)(Still:Nat->Loc->Prop)(Bd:Nat->Nat)(Shun:Loc->Prop)(Quiet Mem Loose:Nat->Prop)(Stop:Nat->Goroutine->World->Prop)(k:Nat)(m:Machine)(T':Trace):Prop:=
  ∃ gs' a' w' sl' Ia Iz ex',m=crowd gs' w' sl'/\gs'.size=k/\gs'[0]?=some a'/\Stop ex' a' w'/\Held P ty Wg K Still Bd Shun Quiet Mem Loose 0 Ia Iz ex' T' gs' w'/\(∀ x,x < gs'.size->Iz x=0)/\∀ i st n,i < gs'.size->Ia i≠.seat st n
theorem Y4 (E:VD Wg K Still Shun)(hmem:∀ g l,Still g l->l.isMemory=true/\¬ Shun l)(hMh:Mem 0)(hD:∀ w w' es,D w w' es->Zv K Still Shun Ch Wg 0 w w' es){a:Goroutine}{w:World}(hW:Lu P true ty Wg n D Stop true 0 a w){live:Nat->Nat}{sl:Option (Nat × Nat)}(hn:gs.size=n)(ha:gs[0]?=some a)(H:Held P ty Wg K Still Bd Shun Quiet (QE Mem 0 true) Loose 0 role live 0 T gs w)(hdf:Deaf T 0=1)(hno:∀ i st n,role i=.seat st n->gs.size<=i)(hz:∀ x,x < gs.size->live x=0) :
    ∃ N m' T',runNT P N (crowd gs w sl) T=(.next m',T')/\Vj P ty Wg K Still Bd Shun Quiet Mem Loose Stop gs.size m' T':=by
  have hns:∀ i st n,role i≠.seat st n:=fun i st n e=>by have h1:=hno i st n e;have h2:=(H.J9.seat i st n e).1;omega
  obtain ⟨N,gs',a',w',sl',T',Ia,Iz,ex',q1,q2,q3,q4,q5,q6,q7,q8⟩:=aV (h:=0) (sl:=sl) E.toEnv hmem hMh hD hW hn ha H (by simpa using hdf) (fun i st n c e=>absurd e (hns i st n));refine ⟨N,_,T',q1,gs',a',w',sl',Ia,Iz,ex',rfl,q2,q3,q4,q5,fun x hx=>by have:=q8 x;have:=hz x (by omega);omega,fun i st n _ e=>?_⟩;obtain ⟨n',e'⟩:=q6.back e;exact hns i st n' e'
theorem Wy {live:Nat->Nat}{j:Nat}(h:sumTo j live=0):∀ x,x < j->live x=0:=fun x hx=>by have:=Go.ConcN.le_sumTo (f:=live) hx;omega
theorem gQ (E:VD Wg K Still Shun)(hmem:∀ g l,Still g l->l.isMemory=true/\¬ Shun l)(hMh:Mem 0)(hD:∀ w w' es,D w w' es->Zv K Still Shun Ch Wg 0 w w' es):∀ (s:WS) (a:Goroutine) (w:World),JK P ty Wg n D Stop s a w->s=.last->∀ {role:Nat->Ik} {live:Nat->Nat} {T:Trace} {gs:Array Goroutine} {sl:Option (Nat × Nat)},gs.size=n->gs[0]?=some a->
    Held P ty Wg K Still Bd Shun Quiet (QE Mem 0 true) Loose 0 role live 0 T gs w->Deaf T 0=1->(∀ i st n,role i≠.seat st n)->(∀ x,x < gs.size->live x=0)->
    ∃ N m' T',runNT P N (crowd gs w sl) T=(.next m',T')/\Vj P ty Wg K Still Bd Shun Quiet Mem Loose Stop gs.size m' T':=by
  intro s a w hW;induction hW with
  | load=>intro e;cases e
  | cas=>intro e;cases e
  | acq=>intro e;cases e
  | @step s g w hrun hstep hk ih=>
    rintro rfl role live T gs sl hn ha H hdf hns hz;obtain ⟨N,gs₁,w₁,d,sl₁,sl₂,T₁,Ic,Hr,p1,p2,p3,p4,p5,p6,p7,p8,p9,Rx⟩:=picked (h:=0) (sl:=sl) E.toEnv hrun _ _ rfl rfl ha H;obtain ⟨g',w',es,hst,hd⟩:=hstep _ p6;have LH:∀ i st n,Ic i≠.seat st n:=fun i st n e=>by obtain ⟨n',e'⟩:=p7.back e;exact hns i st n' e'
    have hrt:=runT_crowd_go (P:=P) (sl:=sl₂) (i:=0) p4 (show stepG P (0 == 0) g _=_ from hst);obtain ⟨H',ha'⟩:=p5.own (fn:=g.frame.fn) (pos:=g.frame.place) (a':=g') (fun i st n c e=>absurd e (LH i st n)) p4 (hD _ _ _ hd);have KP:=((KS (h:=0) (fn:=g.frame.fn) (pos:=g.frame.place) (hD _ _ _ hd).evs).2.2.2 T₁).trans (p9.trans hdf);have hsz:((gs₁.map (woken P g g' w')).setIfInBounds 0 g').size=gs.size:=by simpa using p3
    obtain ⟨N₂,m',T',q1,q2⟩:=ih _ _ _ _ p6 hst rfl (sl:=sl₂) (hsz.trans hn) ha' H' KP LH (fun x hx=>by have:=Rx x;have:=hz x (by omega);omega);exact ⟨N+(N₂+1),m',T',runNT_then p1 (by simp only [runNT,p2,hrt];exact q1),by rw [hsz] at q2;exact q2⟩
  | @last g w hrun hld hk=>
    rintro - role live T gs sl hn ha H hdf hns hz;obtain ⟨N,gs₁,w₁,d,sl₁,sl₂,T₁,Ic,Hr,p1,p2,p3,p4,p5,p6,p7,p8,p9,Rx⟩:=picked (h:=0) (sl:=sl) E.toEnv hrun _ _ rfl rfl ha H;have LH:∀ i st n,Ic i≠.seat st n:=fun i st n e=>by obtain ⟨n',e'⟩:=p7.back e;exact hns i st n' e'
    have hz₁:sumTo gs₁.size Hr=0:=by
      have:=Go.ConcN.sumTo_le (f:=Hr) (c:=0) (j:=gs₁.size) fun i hi=>by have:=Rx i;have:=hz i (by omega);omega
      omega
    have hwg:WgAt ty Wg (w₁.at d) 0 0:=by have:=p5.J9.wg;rw [hz₁] at this;simpa using this
    obtain ⟨g',hst⟩:=hld _ p6 hwg;have hrt:=runT_crowd_go (P:=P) (sl:=sl₂) (i:=0) p4 (show stepG P (0 == 0) g _=_ from hst);have hops:∀ op∈MemOp.ofEvents 0 g.frame.fn g.frame.place #[rd (stA Wg)],op.g=0:=fun op hop=>by obtain ⟨e,_,rfl⟩:=Conc.mem_ofEvents hop;rfl
    have hM0:¬ QE Mem 0 true 0:=fun z=>z.2 rfl;obtain ⟨H',ha'⟩:=p5.plain E.toEnv (a':=g') (.inl rfl) p4 hops (p5.J9.past.OP (ad:=stA Wg) (fun i=>Knows.app _) hM0 E.shun E.apart (show (stA Wg).block < _ from p5.J9.Ww) (by rw [p9,hdf];omega) (fun e he=>by simp [rd] at he;exact .inl he)) p5.J9.wg p5.J9.few;have KP:Deaf (T₁ ++ MemOp.ofEvents 0 g.frame.fn g.frame.place #[rd (stA Wg)]) 0=1:=by rw [Deaf_own,p9,hdf];rfl
    have hsz:((gs₁.map (woken P g g' (w₁.at d))).setIfInBounds 0 g').size=gs.size:=by simpa using p3
    obtain ⟨N₂,m',T',q1,q2⟩:=Y4 (sl:=sl₂) E hmem hMh hD (hk _ _ p6 hwg hst) (hsz.trans hn) ha' H' KP (fun i st n e=>absurd e (LH i st n)) (fun x hx=>Wy hz₁ x (by omega));exact ⟨N+(N₂+1),m',T',runNT_then p1 (by simp only [runNT,p2,hrt];exact q1),by rw [hsz] at q2;exact q2⟩
theorem iT (E:VD Wg K Still Shun)(hmem:∀ g l,Still g l->l.isMemory=true/\¬ Shun l)(hMh:Mem 0)(hD:∀ w w' es,D w w' es->Zv K Still Shun Ch Wg 0 w w' es):∀ (s:WS) (a:Goroutine) (w:World),JK P ty Wg n D Stop s a w->∀ v,(s=.loop v\/s=.seen v)->∀ {role:Nat->Ik} {live:Nat->Nat} {T:Trace} {gs:Array Goroutine} {sl:Option (Nat × Nat)},gs.size=n->gs[0]?=some a->
    Held P ty Wg K Still Bd Shun Quiet (QE Mem 0 true) Loose 0 role live 0 T gs w->Deaf T 0=1->(∀ i st n,role i≠.seat st n)->live 0=0->sumTo gs.size live<=v->
    ∃ N m' T',runNT P N (crowd gs w sl) T=(.next m',T')/\Vj P ty Wg K Still Bd Shun Quiet Mem Loose Stop gs.size m' T':=by
  intro s a w hW;have hM0:¬ QE Mem 0 true 0:=fun z=>z.2 rfl;have mono:∀ {l l':Nat->Nat},(∀ x,l' x<=l x)->∀ j,sumTo j l'<=sumTo j l:=fun h j=>by
    induction j with
    | zero=>exact Nat.le_refl _
    | succ j ih=>simp only [sumTo];have:=h j;omega
  induction hW with
  | acq=>rintro v (e | e) <;> cases e
  | last=>rintro v (e | e) <;> cases e
  | @step s g w hrun hstep hk ih=>
    intro v hs role live T gs sl hn ha H hdf hns hl0 hv;obtain ⟨N,gs₁,w₁,d,sl₁,sl₂,T₁,Ic,Hr,p1,p2,p3,p4,p5,p6,p7,p8,p9,Rx⟩:=picked (h:=0) (sl:=sl) E.toEnv hrun _ _ rfl rfl ha H;obtain ⟨g',w',es,hst,hd⟩:=hstep _ p6;have LH:∀ i st n,Ic i≠.seat st n:=fun i st n e=>by obtain ⟨n',e'⟩:=p7.back e;exact hns i st n' e'
    have hrt:=runT_crowd_go (P:=P) (sl:=sl₂) (i:=0) p4 (show stepG P (0 == 0) g _=_ from hst);obtain ⟨H',ha'⟩:=p5.own (fn:=g.frame.fn) (pos:=g.frame.place) (a':=g') (fun i st n c e=>absurd e (LH i st n)) p4 (hD _ _ _ hd);have KP:=((KS (h:=0) (fn:=g.frame.fn) (pos:=g.frame.place) (hD _ _ _ hd).evs).2.2.2 T₁).trans (p9.trans hdf);have hsz:((gs₁.map (woken P g g' w')).setIfInBounds 0 g').size=gs.size:=by simpa using p3
    obtain ⟨N₂,m',T',q1,q2⟩:=ih _ _ _ _ p6 hst v hs (sl:=sl₂) (hsz.trans hn) ha' H' KP LH ((p8 0 (.inl rfl)).trans hl0) (by rw [hsz];exact Nat.le_trans (mono Rx _) hv);exact ⟨N+(N₂+1),m',T',runNT_then p1 (by simp only [runNT,p2,hrt];exact q1),by rw [hsz] at q2;exact q2⟩
  | @load v0 g w hrun hld k0 k1 ih=>
    intro v hs role live T gs sl hn ha H hdf hns hl0 hv;have hvv:v=v0:=by rcases hs with e | e <;> cases e;rfl
    subst hvv;obtain ⟨N,gs₁,w₁,d,sl₁,sl₂,T₁,Ic,Hr,p1,p2,p3,p4,p5,p6,p7,p8,p9,Rx⟩:=picked (h:=0) (sl:=sl) E.toEnv hrun _ _ rfl rfl ha H;have LH:∀ i st n,Ic i≠.seat st n:=fun i st n e=>by obtain ⟨n',e'⟩:=p7.back e;exact hns i st n' e'
    have hle:sumTo gs₁.size Hr<=v:=by rw [p3];exact Nat.le_trans (mono Rx _) hv
    have hwg:WgAt ty Wg (w₁.at d) ((sumTo gs₁.size Hr:Nat) * KK) 0:=p5.J9.wg;have Qf:sumTo gs₁.size Hr < 2147483648:=p5.J9.few;obtain ⟨g',hst⟩:=hld _ _ p6 hle Qf hwg;have hrt:=runT_crowd_go (P:=P) (sl:=sl₂) (i:=0) p4 (show stepG P (0 == 0) g _=_ from hst);have hops:∀ op∈MemOp.ofEvents 0 g.frame.fn g.frame.place #[rd (stA Wg)],op.g=0:=fun op hop=>by obtain ⟨e,_,rfl⟩:=Conc.mem_ofEvents hop;rfl
    obtain ⟨H',ha'⟩:=p5.plain E.toEnv (a':=g') (.inl rfl) p4 hops (p5.J9.past.OP (ad:=stA Wg) (fun i=>Knows.app _) hM0 E.shun E.apart (show (stA Wg).block < _ from p5.J9.Ww) (by rw [p9,hdf];omega) (fun e he=>by simp [rd] at he;exact .inl he)) p5.J9.wg p5.J9.few;have KP:Deaf (T₁ ++ MemOp.ofEvents 0 g.frame.fn g.frame.place #[rd (stA Wg)]) 0=1:=by rw [Deaf_own,p9,hdf];rfl
    have hsz:((gs₁.map (woken P g g' (w₁.at d))).setIfInBounds 0 g').size=gs.size:=by simpa using p3
    have fin:∃ N₂ m' T',runNT P N₂ (crowd ((gs₁.map (woken P g g' (w₁.at d))).setIfInBounds 0 g') (w₁.at d) sl₂) (T₁ ++ MemOp.ofEvents 0 g.frame.fn g.frame.place #[rd (stA Wg)])=(.next m',T')/\Vj P ty Wg K Still Bd Shun Quiet Mem Loose Stop ((gs₁.map (woken P g g' (w₁.at d))).setIfInBounds 0 g').size m' T':=by
      by_cases hz:sumTo gs₁.size Hr=0
      . have ZK:WgAt ty Wg (w₁.at d) 0 0:=by rw [hz] at hwg;simpa using hwg
        exact Y4 (sl:=sl₂) E hmem hMh hD (k0 _ _ p6 ZK hst) (hsz.trans hn) ha' H' KP (fun i st n e=>absurd e (LH i st n)) (fun x hx=>Wy hz x (by omega))
      . exact ih _ _ _ p6 hle hz Qf hwg hst _ (.inr rfl) (sl:=sl₂) (hsz.trans hn) ha' H' KP LH ((p8 0 (.inl rfl)).trans hl0) (by rw [hsz,p3];exact Nat.le_refl _)
    obtain ⟨N₂,m',T',q1,q2⟩:=fin;exact ⟨N+(N₂+1),m',T',runNT_then p1 (by simp only [runNT,p2,hrt];exact q1),by rw [hsz] at q2;exact q2⟩
  | @cas v0 g w hrun hv0 hit kh ms km ihh ihm=>
    intro v hs role live T gs sl hn ha H hdf hns hl0 hv;have hvv:v=v0:=by rcases hs with e | e <;> cases e;rfl
    subst hvv;obtain ⟨N,gs₁,w₁,d,sl₁,sl₂,T₁,Ic,Hr,p1,p2,p3,p4,p5,p6,p7,p8,p9,Rx⟩:=picked (h:=0) (sl:=sl) E.toEnv hrun _ _ rfl rfl ha H;have LH:∀ i st n,Ic i≠.seat st n:=fun i st n e=>by obtain ⟨n',e'⟩:=p7.back e;exact hns i st n' e'
    have hle:sumTo gs₁.size Hr<=v:=by rw [p3];exact Nat.le_trans (mono Rx _) hv
    have hwg:WgAt ty Wg (w₁.at d) ((sumTo gs₁.size Hr:Nat) * KK) 0:=p5.J9.wg;by_cases heq:sumTo gs₁.size Hr=v
    ·
      rw [heq] at hwg;obtain ⟨g',hst⟩:=hit _ p6 hwg;have hrt:=runT_crowd_go (P:=P) (sl:=sl₂) (i:=0) p4 (show stepG P (0 == 0) g _=_ from hst);obtain ⟨C',ha'⟩:=p5.rV E LH hM0 (p9.trans hdf) ((p8 0 (.inl rfl)).trans hl0) (by omega) (a':=g') p4 g.frame.fn g.frame.place;rw [heq] at C' ha';have hW:=kh _ _ p6 hwg hst;obtain ⟨N₂,IW,a₂,w₂,sl₃,T₂,Iu,q1,q2,q3,q4,q5,q6,q7,q8⟩:=nJ (Quiet:=Quiet) (Bd:=Bd) (sl:=sl₂) E hD _ _ _ _ (.inl hW) rfl rfl ha' (fun z=>by cases z) C';have hsz:((gs₁.map (woken P g g' ((w₁.at d).setCell (stA Wg) (.int .u64 ((v:Int) * KK+1))))).setIfInBounds 0 g').size=gs.size:=by simpa using p3
      rw [hsz] at q2 q7;have uG:∀ i st n,Iu i≠.seat st n:=fun i st n e=>by
        have h1:=(q5.J9.seat i st n e).1;by_cases h0:i=0
        . subst h0;exact q8 st n e
        . obtain ⟨m,d,e'⟩:=q7 i h0 (by omega);rw [e] at e';cases e'
      obtain ⟨Adl,m',T',r1,r2⟩:=gQ (sl:=sl₃) E hmem hMh hD _ _ _ q4 rfl (q2.trans hn) q3 q5 q6 uG (fun _ _=>rfl);exact ⟨N+(N₂+Adl+1),m',T',runNT_then p1 (by simp only [runNT,p2,hrt];exact runNT_then q1 r1),by rw [← q2];exact r2⟩
    ·
      have hlt:sumTo gs₁.size Hr < v:=by omega
      obtain ⟨g',hst⟩:=ms _ _ p6 hlt hwg;have hrt:=runT_crowd_go (P:=P) (sl:=sl₂) (i:=0) p4 (show stepG P (0 == 0) g _=_ from hst);have hops:∀ op∈MemOp.ofEvents 0 g.frame.fn g.frame.place #[rd (stA Wg)],op.g=0:=fun op hop=>by obtain ⟨e,_,rfl⟩:=Conc.mem_ofEvents hop;rfl
      obtain ⟨H',ha'⟩:=p5.plain E.toEnv (a':=g') (.inl rfl) p4 hops (p5.J9.past.OP (ad:=stA Wg) (fun i=>Knows.app _) hM0 E.shun E.apart (show (stA Wg).block < _ from p5.J9.Ww) (by rw [p9,hdf];omega) (fun e he=>by simp [rd] at he;exact .inl he)) p5.J9.wg p5.J9.few;have KP:Deaf (T₁ ++ MemOp.ofEvents 0 g.frame.fn g.frame.place #[rd (stA Wg)]) 0=1:=by rw [Deaf_own,p9,hdf];rfl
      have hsz:((gs₁.map (woken P g g' (w₁.at d))).setIfInBounds 0 g').size=gs.size:=by simpa using p3
      obtain ⟨N₂,m',T',q1,q2⟩:=ihm _ _ _ p6 hlt hwg hst _ (.inl rfl) (sl:=sl₂) (hsz.trans hn) ha' H' KP LH ((p8 0 (.inl rfl)).trans hl0) (by rw [hsz,p3];exact Nat.le_refl _);exact ⟨N+(N₂+1),m',T',runNT_then p1 (by simp only [runNT,p2,hrt];exact q1),by rw [hsz] at q2;exact q2⟩
end
end
end
section
abbrev RU:Nat->Loc->Prop:=fun _ _=>False
structure RI (P:Program)(Shun:Loc->Prop)(q:Nat->Nat)(T:Trace)(gs:Array Goroutine)(w:World):Prop where
  old:∀ i g,0 < i->gs[i]?=some g->QuitsD P (q i) (Deaf T i) g
  above:∀ j,gs.size<=j->Deaf T j=0
  past:Jl RU Shun (fun g=>g=0) (fun _=>False) w.heap.size (Knows T 0) T
structure qF (Shun:Loc->Prop)(w w':World)(es:Array Event):Prop where
  size:w.heap.size<=w'.heap.size
  evs:∀ e∈es,wB RU Shun 0 w'.heap.size e
theorem WM {B:Hid}{w w₁:World}(h:AtRel w w₁):Turns B w w₁:=by obtain ⟨d,rfl⟩:=h;exact ⟨rfl,rfl,fun hR=>⟨hR.hol,hR.MH⟩⟩
section
variable {P:Program}{Shun:Loc->Prop}{q:Nat->Nat}{T:Trace}{gs:Array Goroutine}{w:World}
theorem RI.at (C:RI P Shun q T gs w)(d:Nat):RI P Shun q T gs (w.at d):=⟨C.old,C.above,C.past⟩
theorem RI.own (C:RI P Shun q T gs w){a a':Goroutine}{w':World}{es:Array Event}{fn:FuncId}{pos:String}(ha:gs[0]?=some a)(hd:qF Shun w w' es) :
    RI P Shun q (T ++ MemOp.ofEvents 0 fn pos es) ((gs.map (woken P a a' w')).setIfInBounds 0 a') w'/\((gs.map (woken P a a' w')).setIfInBounds 0 a')[0]?=some a':=by
  have hlt:0 < gs.size:=(Array.getElem?_eq_some_iff.1 ha).1;obtain ⟨o1,o2,o3,o4⟩:=KS (h:=0) (fn:=fn) (pos:=pos) hd.evs;refine ⟨⟨fun i g hi hg=>?_,fun j hj=>?_,(C.past.mono hd.size).hold (fun z=>z) o1 o2 (fun _=>o4 T) o3⟩,Array.getElem?_setIfInBounds_self_of_lt (by simpa using hlt)⟩
  . rw [Array.getElem?_setIfInBounds_ne (fun z=>by omega),Array.getElem?_map] at hg;obtain ⟨y,hy,rfl⟩:=Option.map_eq_some_iff.1 hg;have hq:=C.old i y hi hy;rw [woken_quitsD hq,Deaf_other T (by omega) _ o1];exact hq
  . have hj':gs.size<=j:=by simpa using hj
    rw [Deaf_other T (g':=0) (by omega) _ o1];exact C.above j hj'
theorem RI.pick {a:Goroutine}(hrun:a.status=.running):∀ (m:Nat) {q:Nat->Nat} {T:Trace} {gs:Array Goroutine} {w:World} {sl:Option (Nat × Nat)},sumTo gs.size q=m->gs[0]?=some a->RI P Shun q T gs w->
    ∃ N gs' d d' sl' sl'' T' q',runNT P N (crowd gs w sl) T=(.next (crowd gs' (w.at d) sl'),T')/\stepT P (crowd gs' (w.at d) sl')=runT P (crowd gs' (w.at d') sl'') 0/\gs'.size=gs.size/\gs'[0]?=some a/\RI P Shun q' T' gs' (w.at d'):=by
  intro m;induction m using Nat.strongRecOn with
  | _ m ih=>
  intro q T gs w sl hm ha C;have haw:∀ g∈gs,awake g:=by
    intro g hg;obtain ⟨i,hi,rfl⟩:=Array.mem_iff_getElem.1 hg;rcases Nat.eq_zero_or_pos i with rfl|hpos
    . have:gs[0]=a:=by simpa [Array.getElem?_eq_getElem hi] using ha
      rw [this];exact awake_of (.inl hrun)
    . exact awake_of ((C.old i _ hpos (Array.getElem?_eq_getElem hi)).status.elim .inl fun x=>.inr (.inr x))
  obtain ⟨i,g,d,sl',hi,hg,hst⟩:=crowd_pick (P:=P) (w:=w) (sl:=sl) haw ⟨0,a,ha,hrun⟩;rcases Nat.eq_zero_or_pos i with rfl|hpos
  . exact ⟨0,gs,w.drawn,d,sl,sl',T,q,rfl,hst,rfl,ha,C.at d⟩
  . have hq:=C.old i g hpos hi;have hi0:(i == 0)=false:=by simp;omega
    have hlt:i < gs.size:=(Array.getElem?_eq_some_iff.1 hi).1;cases hqi:q i with
    | zero=>rw [hqi] at hq;rw [hq.1] at hg;cases hg
    | succ k=>
      rw [hqi] at hq;rcases hq with ⟨hf,_⟩|⟨_,g',es,hm',hstp,hq'⟩
      . rw [hf] at hg;cases hg
      have hrt:=runT_crowd_go (P:=P) (sl:=sl') (i:=i) hi (by rw [hi0];exact hstp (w.at d));have hops:∀ op∈MemOp.ofEvents i g.frame.fn g.frame.place es,op.g=i:=fun op hop=>by obtain ⟨e,_,rfl⟩:=Conc.mem_ofEvents hop;rfl
      have hsum:sumTo gs.size (upd q i k)+(k+1)=sumTo gs.size q+k:=by
        have:=sumTo_upd q k id hlt
        simpa [hqi] using this
      have hsz:((gs.map (woken P g g' (w.at d))).setIfInBounds i g').size=gs.size:=by simp
      have ha':((gs.map (woken P g g' (w.at d))).setIfInBounds i g')[0]?=some a:=by rw [Array.getElem?_setIfInBounds_ne (by omega),Array.getElem?_map,ha];simp [woken_of_again (again_of_running (.inl hrun) _)]
      have C':RI P Shun (upd q i k) (T ++ MemOp.ofEvents i g.frame.fn g.frame.place es) ((gs.map (woken P g g' (w.at d))).setIfInBounds i g') (w.at d):=by
        refine ⟨fun j x hj hx=>?_,fun j hj=>?_,C.past.mute (fun i=>Knows.app _) hops (fun op hop=>?_) (fun z=>absurd z (by omega)) fun op hop=>?_⟩
        . by_cases hji:i=j
          . subst hji;rw [Array.getElem?_setIfInBounds_self_of_lt (by simpa using hlt)] at hx;obtain rfl:=Option.some.inj hx;rw [upd_same,Deaf_own];exact hq'
          . rw [Array.getElem?_setIfInBounds_ne hji,Array.getElem?_map] at hx;obtain ⟨y,hy,rfl⟩:=Option.map_eq_some_iff.1 hx;have hqj:=C.old j y hj hy;rw [woken_quitsD hqj,upd_ne q k (Ne.symm hji),Deaf_other T hji _ hops];exact hqj
        . have hj':gs.size<=j:=by simpa using hj
          rw [Deaf_other T (g':=i) (by omega) _ hops];exact C.above j hj'
        . obtain ⟨e,he,rfl⟩:=Conc.mem_ofEvents hop;exact touch_mute (hm' e he)
        . obtain ⟨e,he,rfl⟩:=Conc.mem_ofEvents hop;exact low_mute (hm' e he) _
      obtain ⟨N,IW,d₁,d₂,sl₁,sl₂,T₂,q₂,r1,r2,r3,r4,r5⟩:=ih (sumTo ((gs.map (woken P g g' (w.at d))).setIfInBounds i g').size (upd q i k)) (by rw [hsz];omega) (sl:=sl') rfl ha' C';exact ⟨N+1,IW,d₁,d₂,sl₁,sl₂,T₂,q₂,by simp only [runNT,hst,hrt];exact r1,r2,r3.trans hsz,r4,r5⟩
theorem Zf {D:World->World->Array Event->Prop}{Stop:Goroutine->World->Prop}(hD:∀ w w' es,D w w' es->qF Shun w w' es){a:Goroutine}{w:World}(hW:LT.Way P true AtRel D Stop a w) :
    ∀ {q:Nat->Nat} {T:Trace} {gs:Array Goroutine} {sl:Option (Nat × Nat)},gs[0]?=some a->RI P Shun q T gs w->
    ∃ N gs' a' w' sl' T' q',runNT P N (crowd gs w sl) T=(.next (crowd gs' w' sl'),T')/\gs'.size=gs.size/\gs'[0]?=some a'/\(∀ w₁,AtRel w' w₁->Stop a' w₁)/\RI P Shun q' T' gs' w':=by
  induction hW with
  | @stop g w hs=>
    intro q T gs sl ha C;exact ⟨0,gs,_,w,sl,T,q,rfl,rfl,ha,hs,C⟩
  | @step g w hrun hstep hk ih=>
    intro q T gs sl ha C;obtain ⟨N,gs₁,d,d',sl₁,sl₂,T₁,q₁,p1,p2,p3,p4,p5⟩:=C.pick (sl:=sl) hrun _ rfl ha;obtain ⟨g',w',es,hst,hd⟩:=hstep (w.at d') ⟨d',rfl⟩;have hrt:=runT_crowd_go (P:=P) (sl:=sl₂) (i:=0) p4 (show stepG P (0 == 0) g _=_ from hst);obtain ⟨C',ha'⟩:=p5.own (fn:=g.frame.fn) (pos:=g.frame.place) (a':=g') p4 (hD _ _ _ hd);obtain ⟨N₂,IW,a₂,w₂,sl₃,T₂,q₂,r1,r2,r3,r4,r5⟩:=ih _ _ _ _ ⟨d',rfl⟩ hst (sl:=sl₂) ha' C';exact ⟨N+(N₂+1),IW,a₂,w₂,sl₃,T₂,q₂,runNT_then p1 (by simp only [runNT,p2,hrt];exact r1),by rw [r2];simpa using p3,r3,r4,r5⟩
theorem lS (P:Program)(Shun:Loc->Prop)(a:Goroutine)(w:World):RI P Shun (fun _=>0) #[] #[a] w:=
  ⟨fun i g hi hg=>by
    have:i < 1:=by simpa using (Array.getElem?_eq_some_iff.1 hg).1
    omega,fun _ _=>rfl,⟨past_nil.clean,fun i a ha=>by simp [touchAt,Trace.act?] at ha,fun i a ha=>by simp [touchAt,Trace.act?] at ha,fun i a ha=>by simp [touchAt,Trace.act?] at ha,fun g hg=>rfl,by simp⟩⟩
theorem RI.ends (C:RI P Shun q T gs w){D:World->World->Array Event->Prop}{Post:Value->World->Prop}{a:Goroutine}{sl:Option (Nat × Nat)}(ha:gs[0]?=some a)(hE:∀ w₁,AtRel w w₁->AtEnd P Shun w.heap.size Post a w₁):∃ N last o w' t',runNT P (N+1) (crowd gs w sl) T=(.ended o w',t')/\runN P N (crowd gs w sl)=.next last/\step P last=.ended o w'/\Good P Post last o w' t':=
  beside_ends (P:=P) (Shun:=Shun) (B:=w.heap.size) (D:=fun _ _ _=>False) (fun _ _ _ h=>h.elim) (n:=0) ha ⟨C.old,C.above⟩ (C.past.toPast rfl fun _ h=>h) hE
theorem RI.begin {ty:TypeId}{Wg:Nat}{K:Nat->World->Prop}(Bd:Nat->Nat)(Quiet:Nat->Prop)(C:RI P Shun q T gs w)(hwg:WgAt ty Wg w 0 0):Held P ty Wg K RU Bd Shun Quiet (fun g=>g=0) (fun _=>False) 0 (fun i=>.fin 1 (q i) (Deaf T i)) (fun _=>0) 0 T gs w:=by
  have hz:∀ j,sumTo j (fun _=>0)=0:=fun j=>by have:=Go.ConcN.sumTo_le (f:=fun _=>0) (c:=0) (j:=j) fun _ _=>Nat.le_refl 0;omega
  refine ⟨⟨fun i g s m d hi hg e=>?_,fun i g st n hi hg e=>(by cases e),fun i st n e=>(by cases e),fun i i' st st' n n' c e=>(by cases e),C.above,C.past,fun i st n e=>(by cases e),by rw [hz];simpa using hwg,by rw [hz];omega,fun _=>Nat.zero_le _⟩,fun st n e=>(by cases e),fun z=>z⟩;cases e
  have hi':i≠0:=hi;exact ⟨Nat.pos_of_ne_zero hi',.quit (C.old i g (Nat.pos_of_ne_zero hi') hg),rfl,hi',rfl,.inr (.inr (.inr rfl))⟩
theorem Held.ends {ty:TypeId}{Wg:Nat}{K:Nat->World->Prop}{Still:Nat->Loc->Prop}{Bd:Nat->Nat}{Quiet Mem Loose:Nat->Prop}{role:Nat->Ik}{live:Nat->Nat}{ex:Nat}(H:Held P ty Wg K Still Bd Shun Quiet Mem Loose 0 role live ex T gs w)(h0:Mem 0)(hL:∀ g,¬ Loose g)(hz:∀ x,x < gs.size->live x=0)(hno:∀ i st n,i < gs.size->role i≠.seat st n):∃ q,RI P Shun q T gs w:=by
  have C:=H.J9;refine ⟨fun i=>(role i).fuel,fun i g hi hg=>?_,C.above,⟨C.past.clean,fun i a ha hm=>?_,C.past.atom,fun _ _ _ _ _ _ z=>z.elim,fun g hg=>hg ▸ C.past.hears 0 h0,C.past.seen⟩⟩
  . have hlt:i < gs.size:=(Array.getElem?_eq_some_iff.1 hg).1;cases e:role i with
    | seat st n=>exact absurd e (hno i st n hlt)
    | fin s m d=>
      obtain ⟨_,hF,hD,_,hl,hs⟩:=C.KR i g s m d (by omega) hg e;have hl0:=hz i hlt;have hs1:s=1:=by rw [hl] at hl0;unfold cn at hl0;split at hl0 <;> omega
      subst hs1;cases hF with
      | quit h=>rw [hD];exact h
  . rcases C.past.known i a ha hm with hk | ⟨_,g,_,hl,_⟩ | hk
    . exact .inl hk
    . exact absurd hl (hL g)
    . exact .inr (.inr hk)
end
end
end Go.LC
namespace Go.LC
open Go Go.Conc Go.LT
open Go.ConcN (WgLive sumTo upd sumTo_upd upd_ne upd_same)
open Go.ConcR (KK wgBlock WgAt stA smA rd wr mk)
section
section
variable {P:Program}{ty:TypeId}{Wg:Nat}{K K':Nat->World->Prop}{Still Still':Nat->Loc->Prop}{Bd ql:Nat->Nat}{Shun:Loc->Prop}{Quiet Mem Loose:Nat->Prop}{role:Nat->Ik}{live:Nat->Nat}{ex h:Nat}{T:Trace}{gs:Array Goroutine}{w:World}
theorem Held.re (H:Held P ty Wg K Still Bd Shun Quiet Mem Loose h role live ex T gs w)(hK:∀ i,i≠h->K' i=K i)(hS:∀ i,i≠h->Still' i=Still i)(hB:∀ i,i≠h->ql i=Bd i)(hm:∀ l,Still' h l->l.isMemory=true/\¬ Shun l) :
    Held P ty Wg K' Still' ql Shun Quiet Mem Loose h role live ex T gs w:=by
  have C:=H.J9;have hne:∀ {i:Nat} {st:Seat} {n:Nat},role i=.seat st n->i≠h:=fun {i st n} e z=>H.NV st n (z ▸ e);refine ⟨⟨C.KR,fun i g st n hi hg e=>?_,fun i st n e=>?_,C.own,C.above,?_,fun i st n e=>?_,C.wg,C.few,C.one⟩,H.NV,H.tight⟩
  . rw [hK i hi,hS i hi,hB i hi];exact C.seats i g st n hi hg e
  . rw [hB i (hne e)];exact C.seat i st n e
  . have CP:=C.past;refine ⟨CP.clean,fun i a ha hmm=>?_,CP.atom,fun i a ha hw g hg hSt=>?_,CP.hears,CP.seen⟩
    . rcases CP.known i a ha hmm with hk | ⟨x,g,hg,hl,hs⟩ | hk
      . exact .inl hk
      . exact .inr (.inl ⟨x,g,hg,hl,by rw [hS g (fun e=>H.tight (e ▸ hl))];exact hs⟩)
      . exact .inr (.inr hk)
    . by_cases e:g=h
      . subst e;obtain ⟨h1,h2⟩:=hm _ hSt;rcases CP.known i a ha h1 with hk|⟨x,_⟩|⟨x,_⟩
        . exact hk
        . rw [hw] at x;cases x
        . exact absurd x h2
      . exact CP.wrote i a ha hw g hg (by rw [← hS g e];exact hSt)
  . rw [hK i (hne e)];exact C.keep i st n e
def DK (B:Hid)(w w':World)(es:Array Event):Prop:=Kept B w w'/\∀ e∈es,Lr B w'.heap.size e
def bY (B:Hid)(l:Loc):Prop:=∃ a,l=.cell a/\B a.block=true
def InZ (B:Hid)(l:Loc):Prop:=∃ a,l=.cell a/\B.MH a.block=true
theorem V6 {B:Hid}{n h':Nat}{e:Event}(h:Lr B n e)(hS:∀ g,g≠h'->∀ l,Still g l->bY B l\/InZ B l)(bn:∀ l,Shun l->bY B l):wB Still Shun h' n e:=by
  obtain ⟨loc,wr,sy⟩:=e;have yA:∀ l:Loc,(∀ a,l=.cell a->B a.block=false)->¬ Shun l:=fun l hl hs=>(by obtain ⟨a,rfl,ha⟩:=bn l hs;rw [hl a rfl] at ha;exact absurd ha (by simp))
  cases loc with
  | cell a=>
    obtain ⟨h1,h2,h3⟩:=h;have k2:=yA (.cell a) fun a' e=>by cases e;exact h1
    refine ⟨fun b hb=>?_,by simp,by simp,h2⟩;simp only [MemAct.ofEvent,MemAct.touch?,Option.some.injEq] at hb;subst hb;refine ⟨fun g hg hs=>?_,fun hs=>absurd hs k2⟩;rcases hS g hg _ hs with ⟨a',e,ha⟩|⟨a',e,ha⟩ <;> cases e
    . rw [h1] at ha;cases ha
    . cases hw:wr with
      | false=>rfl
      | true=>rw [h3 hw] at ha;cases ha
  | obj r=>
    obtain ⟨h1,h2⟩:=h;have k1:∀ g,g≠h'->¬ Still g (.obj r):=fun g hg hs=>by rcases hS g hg _ hs with ⟨a,e,_⟩ | ⟨a,e,_⟩ <;> cases e
    have k2:=yA (.obj r) fun a' e=>by cases e
    cases wr <;> cases sy <;>
    . refine ⟨fun b hb=>?_,by simp,by simp,h2⟩;simp only [MemAct.ofEvent,MemAct.touch?,Option.some.injEq,reduceCtorEq] at hb;try (subst hb;exact ⟨fun g hg hs=>absurd hs (k1 g hg),fun hs=>absurd hs k2⟩)
  | mark m=>
    have h:XW m:=h;cases m <;> first | exact h.elim | exact ⟨fun b hb=>(by simp [MemAct.ofEvent,MemAct.touch?] at hb),by simp,by simp,trivial⟩
  | _=>exact h.elim
theorem DK.hd {B:Hid}{h:Nat}{Ch:Nat->Prop}(hKB:∀ i,i≠h->∀ w w',(∀ b,B b=true\/B.MH b=true->w'.heap[b]?=w.heap[b]?)->K i w->K i w')(hS:∀ g,g≠h->∀ l,Still g l->bY B l\/InZ B l)(bn:∀ l,Shun l->bY B l)(hW:B Wg=true){w w':World}{es:Array Event}(hd:DK B w w' es) :
    Zv K Still Shun Ch Wg h w w' es:=
  ⟨fun i hi=>hKB i hi w w' fun b hb=>hb.elim (hd.1.block b) (hd.1.still b),fun c k _ hc=>hd.1.objs c _ hc (fun _ _ _=>by simp),hd.1.block _ hW,hd.1.size,fun e he=>V6 (hd.2 e he) hS bn⟩
end
end
end Go.LC
