/-
  Part 22 of the proof that CellMeets returns true, and leaves its arguments as they were, for every input whose reading is of bulk at most 1048576. No further condition.
-/
import Derived.Test.YticecinjcajmcaaR00
import Derived.Test.YticecinjcajmcaaR11
import Derived.Test.YticecinjcajmcaaR21
import Derived.Conc.TokenWalk
set_option linter.unusedVariables false
set_option linter.unusedSectionVars false
set_option linter.unusedSimpArgs false
set_option maxHeartbeats 1000000
noncomputable section
namespace Go.LK
open Go Go.Conc Go.LT Go.LC
open Go.ConcN (WgLive sumTo upd sumTo_upd upd_ne upd_same)
open Go.ConcR (KK wgBlock WgAt stA smA rd wr mk DC0)
section
section
variable {P:Program}{ty:TypeId}{Wg gone:Nat}{K:Nat->World->Prop}{Still:Nat->Loc->Prop}{Bd:Nat->Nat}{St:Nat->Seat}{Shun:Loc->Prop}{Loose:Nat->Prop}
def KV (P:Program)(Wg:Nat)(Φ:Trace->Array Goroutine->World->Prop)(Stop:Goroutine->Prop)(gs:Array Goroutine)(w:World)(sl:Option (Nat × Nat))(T:Trace):Prop:=
  ∃ N gs' g' w' sl' T',runNT P N (crowd gs w sl) T=(.next (crowd gs' w' sl'),T')/\gs'.size=gs.size/\gs'[0]?=some g'/\Stop g'/\Φ T' gs' w'/\Ut Wg w w'
variable {d0 d1:Nat}{Φ:Trace->Array Goroutine->World->Prop}{Stop:Goroutine->Prop}{role:Nat->EC}{pz:Bool}{v wt sm:Nat}{T:Trace}{gs:Array Goroutine}{w:World}{sl:Option (Nat × Nat)}
theorem KV.back {m:Nat}{gs₁ FY:Array Goroutine}{w₁ w₂:World}{sl₁ sl₂:Option (Nat × Nat)}{T₁ ops:Trace}(h:runNT P m (crowd gs w sl) T=(.next (crowd gs₁ w₁ sl₁),T₁))(hst:stepT P (crowd gs₁ w₁ sl₁)=(.next (crowd FY w₂ sl₂),ops))(hs:FY.size=gs.size)(hg:Ut Wg w w₂)(k:KV P Wg Φ Stop FY w₂ sl₂ (T₁ ++ ops)):KV P Wg Φ Stop gs w sl T:=by
  obtain ⟨N,gs',g',w',sl',T',q1,q2,q3,q4,q5,q6⟩:=k;exact ⟨m+(N+1),gs',g',w',sl',T',runNT_then h (by simp only [runNT,hst];exact q1),q2.trans hs,q3,q4,q5,hg.trans q6⟩
theorem Yk {m:Mark}(hm:Says Wg m)(d:Nat):deafBehind d #[mk m]=d:=by have h1:=hm.Zd;have h2:=hm.en;cases m <;> simp_all [deafBehind,mk,MemAct.ofEvent]
theorem nk (hsh:∀ a:Addr,a.block=Wg->Shun (.cell a)):∀ e∈semEvents (smA Wg),(∀ b,(MemAct.ofEvent e).touch?=some b->Shun b.loc/\b.kind≠.plain)/\(MemAct.ofEvent e).low (Wg+1)/\MemAct.ofEvent e≠.mark (.release (stA Wg)):=by
  intro e he;simp only [semEvents,List.mem_toArray,List.mem_cons,List.not_mem_nil,or_false] at he;rcases he with rfl|rfl|rfl|rfl <;> refine ⟨fun b hb=>?_,?_⟩ <;> first|exact ⟨trivial,by simp [MemAct.ofEvent]⟩|exact ⟨Nat.lt_succ_self _,by simp [MemAct.ofEvent]⟩|skip
  all_goals simp [MemAct.ofEvent,MemAct.touch?] at hb
  all_goals
    subst hb;exact ⟨hsh _ rfl,by simp⟩
theorem Xk (hsh:∀ a:Addr,a.block=Wg->Shun (.cell a)){es:Array Event}(hes:∀ e∈es,e=rd (stA Wg)\/e=wr (stA Wg)):∀ e∈es,(∀ b,(MemAct.ofEvent e).touch?=some b->Shun b.loc/\b.kind≠.plain)/\(MemAct.ofEvent e).low (Wg+1)/\MemAct.ofEvent e≠.mark (.release (stA Wg)):=by
  intro e he;rcases hes e he with rfl|rfl <;> refine ⟨fun b hb=>?_,Nat.lt_succ_self _,by simp [MemAct.ofEvent,rd,wr]⟩
  all_goals
    simp [MemAct.ofEvent,MemAct.touch?,rd,wr] at hb;subst hb;exact ⟨hsh _ rfl,by simp⟩
theorem XJ {m:Mark}(h:∀ b,(MemAct.ofEvent (mk m)).touch?=some b->Shun b.loc/\b.kind≠.plain)(hl:(MemAct.ofEvent (mk m)).low (Wg+1))(hr:m≠.release (stA Wg)):∀ e∈#[mk m],(∀ b,(MemAct.ofEvent e).touch?=some b->Shun b.loc/\b.kind≠.plain)/\(MemAct.ofEvent e).low (Wg+1)/\MemAct.ofEvent e≠.mark (.release (stA Wg)):=by intro e he;simp only [List.mem_toArray,List.mem_cons,List.not_mem_nil,or_false] at he;subst he;exact ⟨h,hl,fun z=>hr (by simpa [mk,MemAct.ofEvent] using z)⟩
structure Aq (P:Program)(ty:TypeId)(Wg:Nat)(g g':Goroutine):Prop where
  hs:g.status=.running
  ho:g.offers=none
  hb:∀ w,(∃ st,WgAt ty Wg w st 0)->stepG P true g w=.go { g with status:=.blocked } w #[]
  h:∀ w,WgAt ty Wg w 0 1->stepG P true g w=.go g' (w.setCell (smA Wg) (.int .u32 0)) (semEvents (smA Wg))
theorem tu (E:QY Wg K Still Shun)(hsh:∀ a:Addr,a.block=Wg->Shun (.cell a)){a0 g':Goroutine}(A:Aq P ty Wg a0 g'):∀ (m1 m2:Nat) {a:Goroutine} {role:Nat->EC} {v wt sm:Nat} {T:Trace} {gs:Array Goroutine} {w:World} {sl:Option (Nat × Nat)},M1 gs.size role=m1->M2 gs.size role=m2->gs[0]?=some a->
    (a=a0\/(a={ a0 with status:=.blocked }/\sm≠1))->Lp P ty Wg gone K Still Bd St Shun Loose 1 true role v wt sm T gs w->KV P Wg (fun T gs w=>∃ role,Lp P ty Wg gone K Still Bd St Shun Loose 1 false role 0 0 0 T gs w) (fun g=>g=g') gs w sl T:=by
  intro m1;induction m1 using Nat.strongRecOn with
  | _ m1 ih1=>
  intro m2;induction m2 using Nat.strongRecOn with
  | _ m2 ih2=>
  have hsb:∀ {s:GoStatus},({ a0 with status:=s }:Goroutine).offers=none:=fun {s}=>A.ho;have U2:∀ {a:Goroutine} {role:Nat->EC} {v wt sm:Nat} {T:Trace} {gs:Array Goroutine} {w:World} {sl sl':Option (Nat × Nat)} {i d:Nat} {g:Goroutine},M1 gs.size role=m1->M2 gs.size role=m2->gs[0]?=some a->
      (a=a0\/(a={ a0 with status:=.blocked }/\sm≠1))->Lp P ty Wg gone K Still Bd St Shun Loose 1 true role v wt sm T gs w->gs[i]?=some g->i≠0->g.status=.running->stepT P (crowd gs w sl)=runT P (crowd gs (w.at d) sl') i->
      KV P Wg (fun T gs w=>∃ role,Lp P ty Wg gone K Still Bd St Shun Loose 1 false role 0 0 0 T gs w) (fun g=>g=g') gs w sl T:=by
    intro a role v wt sm T gs w sl sl' i d g hm1 hm2 ha hA C hi h0 hrun hst;obtain ⟨gs',w',ops,r',v',MK,sm',hrt,hsz,hw,hops,C',hless,hcn,hz⟩:=(C.at E d).by_step (sl:=sl') E hi h0 hrun fun y c hy=>by
      rw [ha] at hy;cases hy
      have:a.offers=none:=by
        rcases hA with rfl|⟨rfl,_⟩
        . exact A.ho
        . exact hsb
      unfold offersAt;rw [this];cases a.status <;> rfl
    have hag:Goroutine.again w' { a0 with status:=.blocked }=a0:=by have h1:=A.hs;have h2:=A.ho;obtain ⟨f1,f2,f3,f4,f5⟩:=a0;simp only at h1 h2;subst h1 h2;rfl
    have ha':∃ a',gs'[0]?=some a'/\(a'=a0\/(a'={ a0 with status:=.blocked }/\sm'≠1)):=by
      rcases hz with ⟨h,hsm⟩|⟨g₂,h,hwk⟩
      . exact ⟨a,by rw [h];exact ha,by rw [hsm];exact hA⟩
      . rw [ha] at h;refine ⟨_,h,?_⟩;rcases hA with rfl|⟨rfl,hsm⟩
        . exact .inl (woken_of_again (again_of_running (.inl A.hs) w'))
        . by_cases hwo:(mayWake P g && g₂.status != .blocked && g₂.status != .waiting)=true
          . refine .inl ?_;unfold woken;rw [if_pos hwo];exact hag
          . refine .inr ⟨?_,fun hs1=>?_⟩
            . unfold woken;rw [if_neg hwo]
            . have Acl:sm=0:=by have hmo:=C.mode;cases hmo <;> first | rfl | exact absurd rfl hsm
              obtain ⟨b1,b2,b3⟩:=hwk hs1 Acl;exact hwo (by simp [b1,b2,b3])
    obtain ⟨a',ha',hA'⟩:=ha';refine KV.back (m:=0) rfl (hst.trans hrt) hsz ((Ut.at Wg w d).trans (.of hw)) ?_;rcases hless with hl|⟨hl1,hl2⟩
    . exact ih1 (M1 gs'.size (upd role i r')) (by rw [hsz,← hm1];exact hl) _ rfl rfl ha' hA' C'
    . exact ih2 (M2 gs'.size (upd role i r')) (by rw [hsz,← hm2];exact hl2) (by rw [hsz,hl1,hm1]) rfl ha' hA' C'
  have busy:∀ {i:Nat} {g:Goroutine} {s m d:Nat} {K:World->Prop} {Still:Loc->Prop} {Bd:Nat} {st:Seat} {w:World},Sw P ty Wg K Still Bd st s m d g w->s≠1->g.status=.running:=by
    intro i g s m d K Still Bd st w h hs;cases h with
    | seat hK hG=>exact Goes.running (fun _ _ ⟨_,x⟩=>x.1) w hK hG
    | leave hG=>exact Goes.running (fun _ _ x=>x.1) w (EY w) hG
    | fin _ h=>
      cases h with
      | quit h=>exact absurd rfl hs
      | r0 h=>exact Goes.running (fun _ _ x=>x.1) w (EY w) h
      | k1 h=>exact Goes.running (fun _ _ x=>x.1) w (EY w) h
      | d1 h=>exact Goes.running (fun _ _ x=>x.1) w (EY w) h
      | d2 h=>exact Goes.running (fun _ _ x=>x.1) w (EY w) h
      | d3 h=>exact Goes.running (fun _ _ x=>x.1) w (EY w) h
      | d4 h=>exact Goes.running (fun _ _ x=>x.1) w (EY w) h
  have asleep:∀ {role:Nat->EC} {v wt sm:Nat} {T:Trace} {gs:Array Goroutine} {w:World} {sl:Option (Nat × Nat)},M1 gs.size role=m1->M2 gs.size role=m2->gs[0]?=some { a0 with status:=.blocked }->sm≠1->Lp P ty Wg gone K Still Bd St Shun Loose 1 true role v wt sm T gs w->
      KV P Wg (fun T gs w=>∃ role,Lp P ty Wg gone K Still Bd St Shun Loose 1 false role 0 0 0 T gs w) (fun g=>g=g') gs w sl T:=by
    intro role v wt sm T gs w sl hm1 hm2 ha hsm C;have hex:∃ (i:Nat) (g:Goroutine),gs[i]?=some g/\g.status=.running:=by
      have pick:∀ L,L≠0->L < gs.size->(role L).stage≠1->∃ (i:Nat) (g:Goroutine),gs[i]?=some g/\g.status=.running:=by intro L hL hLn hs;obtain ⟨s,m,d,e⟩:=C.all L hL hLn;refine ⟨L,gs[L],Array.getElem?_eq_getElem hLn,busy (i:=L) (C.Gz L _ s m d hL (Array.getElem?_eq_getElem hLn) e).1 ?_⟩;rw [e] at hs;exact hs
      have hmo:=C.mode;cases hmo with
      | b1 hv h1 hc=>
        apply Classical.byContradiction;intro hno;have hz:(sumTo gs.size fun i=>IX (role i))=0:=by
          have:∀ i,i < gs.size->IX (role i)=0:=by
            intro i hi;by_cases h0:i=0
            . subst h0;exact C.zero
            . by_cases h2:(role i).stage=1
              . obtain ⟨s,m,d,e⟩:=C.all i h0 hi;rw [e] at h2 ⊢;simp only [EC.stage] at h2;subst h2;rfl
              . exact absurd (pick i h0 hi h2) hno
          have h3:=Go.ConcN.sumTo_le (f:=fun i=>IX (role i)) (c:=0) (j:=gs.size) fun i hi=>by rw [this i hi];exact Nat.le_refl 0
          omega
        omega
      | b2 L hL hn h1 ho=>exact pick L hL hn zOM
      | b3 L hL hn h1 ho=>exact pick L hL hn zOM
      | b4 ho=>exact absurd rfl hsm
    obtain ⟨i,g,d,sl',hi,hg,hst⟩:=crowd_pick (P:=P) (w:=w) (sl:=sl) (C.awake ha (.inr rfl)) hex;have h0:i≠0:=by rintro rfl;rw [ha] at hi;obtain rfl:=Option.some.inj hi;cases hg
    exact U2 hm1 hm2 ha (.inr ⟨rfl,hsm⟩) C hi h0 hg hst
  intro a role v wt sm T gs w sl hm1 hm2 ha hA C;rcases hA with rfl|⟨rfl,hsm⟩
  rotate_left
  . exact asleep hm1 hm2 ha hsm C
  obtain ⟨i,gi,d,sl',hi,hg,hst⟩:=crowd_pick (P:=P) (w:=w) (sl:=sl) (C.awake ha (.inl A.hs)) ⟨0,a,ha,A.hs⟩;rcases Decidable.em (i=0) with h0|h0
  rotate_left
  . exact U2 hm1 hm2 ha (.inl rfl) C hi h0 hg hst
  subst h0;obtain rfl:gi=a:=by rw [ha] at hi;exact (Option.some.inj hi).symm
  have Cd:=C.at E d;by_cases hs1:sm=1
  . subst hs1;have hmo:=C.mode;have hwg:=C.wg;cases hmo with
    | b4 hall=>
    have tY:WgAt ty Wg (w.at d) 0 1:=by
      have:WgAt ty Wg w 0 1:=by simpa using hwg
      exact this
    have hgo:=A.h _ tY;have hrt:=runT_crowd_go (P:=P) (sl:=sl') (i:=0) ha (show stepG P (0 == 0) gi (w.at d)=_ from hgo);have hWs:Wg < w.heap.size:=(zGE C.wg).1;obtain ⟨hp,hdf⟩:=Cd.past.sem (Kf:=fun T=>Knows T 0) rfl (fun t u i=>Knows.app u) (fun z=>z.elim) E.RA E.apart (show (smA Wg).block < _ from hWs) gi.frame.fn gi.frame.place;have hz:(sumTo gs.size fun i=>IX (role i))=0:=by
      have h3:=Go.ConcN.sumTo_le (f:=fun i=>IX (role i)) (c:=0) (j:=gs.size) fun i hi=>by
        by_cases h0:i=0
        . subst h0;rw [C.zero];exact Nat.le_refl 0
        . obtain ⟨s,m,dd,e⟩:=C.all i h0 hi;have h1:=hall i h0 hi;rw [e] at h1;simp only [EC.stage] at h1;subst h1;rw [e];exact Nat.le_refl 0
      omega
    obtain ⟨C',ha'⟩:=Cd.OT E (a':=g') (fn:=gi.frame.fn) (pos:=gi.frame.place) (v':=0) (MK:=0) (sm':=0) (zJ:=false) ha (.inr (.inr ⟨_,rfl⟩)) (nk hsh) (hdf.trans C.deaf0) (by have:=tY.setSm 0;simpa using this) (.b0 (fun i h0 hi=>.inr (hall i h0 hi)) hz.symm) zOM;exact KV.back (m:=0) rfl (hst.trans hrt) (by simp) ((Ut.at Wg w d).trans (.of (.inl (.inr (.inr ⟨_,rfl⟩))))) ⟨0,_,g',_,sl',_,rfl,rfl,ha',rfl,⟨role,C'⟩,.refl _ _⟩
  . have hs0:sm=0:=by have hmo:=C.mode;cases hmo <;> first | rfl | exact absurd rfl hs1
    subst hs0;have hgo:=A.hb _ ⟨_,Cd.wg⟩;have hrt:=runT_crowd_go (P:=P) (sl:=sl') (i:=0) ha (show stepG P (0 == 0) gi (w.at d)=_ from hgo);obtain ⟨C',ha'⟩:=Cd.OT E (a':={ gi with status:=.blocked }) (fn:=gi.frame.fn) (pos:=gi.frame.place) (es:=#[]) (d1:=1) ha (.inl rfl) (by simp) (by rw [Deaf_own];exact C.deaf0) Cd.wg Cd.mode Cd.few;have hsz:((gs.map (woken P gi { gi with status:=.blocked } (w.at d))).setIfInBounds 0 { gi with status:=.blocked }).size=gs.size:=by simp
    exact KV.back (m:=0) rfl (hst.trans hrt) hsz (.at _ _ _) (asleep (by rw [hsz];exact hm1) (by rw [hsz];exact hm2) ha' zOM C')
theorem jK {fn:FuncId}{pos:String}(C:Lp P ty Wg gone K Still Bd St Shun Loose 0 false role 0 wt sm (T ++ MemOp.ofEvents 0 fn pos #[mk (.acquire (stA Wg))]) gs w)(hd:Deaf T 0=0):∃ q,Nh P Shun q (T ++ MemOp.ofEvents 0 fn pos #[mk (.acquire (stA Wg))]) gs w:=by
  have hops:MemOp.ofEvents 0 fn pos #[mk (.acquire (stA Wg))]=#[{ g:=0,fn:=fn,pos:=pos,act:=.mark (.acquire (stA Wg)) }]:=by simp [ofEvents_eq,mk,MemAct.ofEvent]
  rw [hops] at C ⊢;have hone:∀ i,i≠0->i < gs.size->(role i).stage=1:=fun i h0 hi=>by
    obtain ⟨_,_,hs,hc⟩:=C.mode.open;rcases hs i h0 hi with h1|h1
    . exfalso
      obtain ⟨s,m,d,e⟩:=C.all i h0 hi;have:=Go.ConcN.le_sumTo (f:=fun a=>IX (role a)) hi;rw [e] at h1;simp only [EC.stage] at h1;have e1:IX (role i)=1:=by rw [e];simp [IX,cn,h1.1]
      omega
    . exact h1
  have hlast:(T ++ #[{ g:=0,fn:=fn,pos:=pos,act:=.mark (.acquire (stA Wg)) }])[T.size]?=some { g:=0,fn:=fn,pos:=pos,act:=.mark (.acquire (stA Wg)) }:=by rw [Array.getElem?_append_right (Nat.le_refl _)];simp
  generalize hx:({ g:=0,fn:=fn,pos:=pos,act:=.mark (.acquire (stA Wg)) }:MemOp)=x at *;have hxa:x.act=.mark (.acquire (stA Wg)):=by rw [← hx]
  have hxg:x.g=0:=by rw [← hx]
  refine ⟨fun i=>(role i).fuel,fun i g hi hg=>?_,C.above,⟨C.past.clean,fun j a ha hm=>?_,C.past.atom,fun _ _ _ _ _ _ z=>z.elim,fun g hg=>hg ▸ C.deaf0,C.past.seen⟩⟩
  . have hlt:i < gs.size:=(zGE hg).1;obtain ⟨s,m,d,e⟩:=C.all i zOM hlt;obtain ⟨hF,hD⟩:=C.Gz i g s m d zOM hg e;have h1:=hone i zOM hlt;rw [e] at h1 ⊢;simp only [EC.stage] at h1;subst h1;cases hF with
    | fin _ hF=>
      cases hF with
      | quit h=>rw [hD];exact h
  . rcases C.rel j a ha hm with hk | ⟨g,_,h0,hlt,h7⟩ | ⟨r,g,h1,h2,h3,h4,h5,h6⟩ | hk
    . exact .inl hk
    . have:=hone g h0 hlt;omega
    . left
      have Ac5:=lt_of_act? h3;have hrT:r < T.size:=by
        simp only [Array.size_append,List.size_toArray,List.length_cons,List.length_nil] at Ac5;rcases Nat.lt_or_ge r T.size with h|h
        . exact h
        . exfalso
          have:r=T.size:=by omega
          subst this;unfold Trace.act? at h3;rw [hlast] at h3;rw [Option.map_some,hxa] at h3;cases h3
      have hq:(T ++ #[x]).act? T.size=some (.mark (.acquire (stA Wg))):=by unfold Trace.act?;rw [hlast,Option.map_some,hxa]
      have hgq:(T ++ #[x]).g? T.size=some 0:=by unfold Trace.g?;rw [hlast,Option.map_some,hxg]
      have hh:(T ++ #[x]).heard T.size:=⟨0,hgq,by rw [deaf_old (Nat.le_refl _)];exact hd⟩
      have edge:HappensBefore (T ++ #[x]) r T.size:=.single (.inr ⟨.marked hrT (.inr h3) hq (fun k hk _=>h6 k hk),h5,hh⟩);exact ⟨T.size,x,hlast,hxg,.inr (.trans (.single (.inl ⟨h1,g,h2,h4⟩)) edge)⟩
    . exact .inr (.inr hk)
def Ph:QP->Nat->Bool->Nat->Prop
  | .pre,d,p,_=>d=0/\p=false
  | .loop u,d,p,v=>d=1/\p=false/\v<=u
  | .seen u,d,p,v=>d=1/\p=false/\v<=u
  | .sem,d,p,_=>d=1/\p=true
  | .last,d,p,v=>d=1/\p=false/\v=0
  | .out,d,p,v=>d=1/\p=false/\v=0
  | .hear,d,p,v=>d=0/\p=false/\v=0
theorem Ph.less {q:QP}{d v v':Nat}{p:Bool}(h:Ph q d p v)(hv:p=false->v'<=v):Ph q d p v':=by
  cases q <;> simp only [Ph] at h ⊢
  . exact h
  . exact ⟨h.1,h.2.1,Nat.le_trans (hv h.2.1) h.2.2⟩
  . exact ⟨h.1,h.2.1,Nat.le_trans (hv h.2.1) h.2.2⟩
  . exact h
  . exact ⟨h.1,h.2.1,by have:=hv h.2.1;omega⟩
  . exact ⟨h.1,h.2.1,by have:=hv h.2.1;omega⟩
  . exact ⟨h.1,h.2.1,by have:=hv h.2.1;omega⟩
theorem yT (E:QY Wg K Still Shun)(hsh:∀ a:Addr,a.block=Wg->Shun (.cell a)){n:Nat}:∀ (q:QP) (g:Goroutine),JM P ty Wg n Stop q g->∀ {d0:Nat} {pz:Bool} {role:Nat->EC} {v wt sm:Nat} {T:Trace} {gs:Array Goroutine} {w:World} {sl:Option (Nat × Nat)},gs.size=n->gs[0]?=some g->Ph q d0 pz v->
    Lp P ty Wg gone K Still Bd St Shun Loose d0 pz role v wt sm T gs w->KV P Wg (fun T gs w=>WgLive ty Wg w/\∃ q,Nh P Shun q T gs w) Stop gs w sl T:=by
  intro q g hq;induction hq with
  | @idle p g g' hs h k ih=>
    intro d0 pz role v wt sm T gs w sl hn ha U7 C;obtain ⟨N,gs₁,w₁,d,sl₁,sl₂,T₁,Ew,v₁,Qv,PE,p1,p2,p3,p4,p5,p6,p7⟩:=Lp.picked (sl:=sl) E hs _ _ rfl rfl ha C;have hst:=h (w₁.at d) ⟨_,_,p5.wg⟩;have hrt:=runT_crowd_go (P:=P) (sl:=sl₂) (i:=0) p4 (show stepG P (0 == 0) g _=_ from hst);obtain ⟨C',ha'⟩:=p5.OT E (a':=g') (fn:=g.frame.fn) (pos:=g.frame.place) (es:=#[]) (d1:=d0) p4 (.inl rfl) (by simp) (by rw [Deaf_own];exact p5.deaf0) p5.wg p5.mode p5.few;exact KV.back p1 (p2.trans hrt) (by simpa using p3) p6 (ih (by simpa using p3.trans hn) ha' (U7.less p7) C')
  | @said p g g' m hm hr hs h k ih=>
    intro d0 pz role v wt sm T gs w sl hn ha U7 C;obtain ⟨N,gs₁,w₁,d,sl₁,sl₂,T₁,Ew,v₁,Qv,PE,p1,p2,p3,p4,p5,p6,p7⟩:=Lp.picked (sl:=sl) E hs _ _ rfl rfl ha C;have hst:=h (w₁.at d) ⟨_,_,p5.wg⟩;have hrt:=runT_crowd_go (P:=P) (sl:=sl₂) (i:=0) p4 (show stepG P (0 == 0) g _=_ from hst);obtain ⟨C',ha'⟩:=p5.OT E (a':=g') (fn:=g.frame.fn) (pos:=g.frame.place) (es:=#[mk m]) (d1:=d0) p4 (.inl rfl) (XJ (fun b hb=>by obtain ⟨⟨x,h1,h2⟩,h3⟩:=hm.touch b hb;exact ⟨by rw [h1];exact hsh x h2,h3⟩) (hm.low _ (Nat.lt_succ_self _)) hr) (by rw [Deaf_own,Yk hm];exact p5.deaf0) p5.wg p5.mode p5.few
    exact KV.back p1 (p2.trans hrt) (by simpa using p3) p6 (ih (by simpa using p3.trans hn) ha' (U7.less p7) C')
  | @Zd g g' hs h k ih=>
    intro d0 pz role v wt sm T gs w sl hn ha U7 C;obtain ⟨rfl,rfl⟩:=U7;obtain ⟨N,gs₁,w₁,d,sl₁,sl₂,T₁,Ew,v₁,Qv,PE,p1,p2,p3,p4,p5,p6,p7⟩:=Lp.picked (sl:=sl) E hs _ _ rfl rfl ha C;have hst:=h (w₁.at d) ⟨_,_,p5.wg⟩;have hrt:=runT_crowd_go (P:=P) (sl:=sl₂) (i:=0) p4 (show stepG P (0 == 0) g _=_ from hst);obtain ⟨C',ha'⟩:=p5.OT E (a':=g') (fn:=g.frame.fn) (pos:=g.frame.place) (es:=#[mk .disable]) (d1:=1) p4 (.inl rfl) (XJ (fun b hb=>by simp [mk,MemAct.ofEvent,MemAct.touch?] at hb) trivial (by simp)) (by rw [Deaf_own,p5.deaf0];rfl) p5.wg p5.mode p5.few;have hle:v₁<=n:=by
      have h1:=p5.mode.open.2.2.2;have h2:=Go.ConcN.sumTo_le (f:=fun i=>IX (Ew i)) (c:=1) (j:=gs₁.size) fun i _=>by show IX (Ew i)<=1;unfold IX cn;split <;> first | omega | (split <;> omega)
      omega
    exact KV.back p1 (p2.trans hrt) (by simpa using p3) p6 (ih (by simpa using p3.trans hn) ha' ⟨rfl,rfl,hle⟩ C')
  | @load u g g' hs h k0 k1 ih0 ih1=>
    intro d0 pz role v wt sm T gs w sl hn ha U7 C;obtain ⟨rfl,rfl,hvu⟩:=U7;obtain ⟨N,gs₁,w₁,d,sl₁,sl₂,T₁,Ew,v₁,Qv,PE,p1,p2,p3,p4,p5,p6,p7⟩:=Lp.picked (sl:=sl) E hs _ _ rfl rfl ha C;obtain ⟨rfl,rfl,_,_⟩:=p5.mode.open;have hst:=h (w₁.at d) v₁ p5.few (by have:=p5.wg;simpa using this);have hrt:=runT_crowd_go (P:=P) (sl:=sl₂) (i:=0) p4 (show stepG P (0 == 0) g _=_ from hst);obtain ⟨C',ha'⟩:=p5.OT E (a':=g' v₁) (fn:=g.frame.fn) (pos:=g.frame.place) (es:=#[rd (stA Wg)]) (d1:=1) p4 (.inl rfl) (Xk hsh (by simp)) (by rw [Deaf_own];exact p5.deaf0) p5.wg p5.mode p5.few;refine KV.back p1 (p2.trans hrt) (by simpa using p3) p6 ?_;by_cases hv0:v₁=0
    . subst hv0;exact ih0 (by simpa using p3.trans hn) ha' ⟨rfl,rfl,rfl⟩ C'
    . exact ih1 v₁ (Nat.le_trans (p7 rfl) hvu) hv0 p5.few (by simpa using p3.trans hn) ha' ⟨rfl,rfl,Nat.le_refl _⟩ C'
  | @cas u g gh gm hs hv h hm kh km ihh ihm=>
    intro d0 pz role v wt sm T gs w sl hn ha U7 C;obtain ⟨rfl,rfl,hvu⟩:=U7;obtain ⟨N,gs₁,w₁,d,sl₁,sl₂,T₁,Ew,v₁,Qv,PE,p1,p2,p3,p4,p5,p6,p7⟩:=Lp.picked (sl:=sl) E hs _ _ rfl rfl ha C;obtain ⟨rfl,rfl,fM,hsum⟩:=p5.mode.open;have hwg:WgAt ty Wg (w₁.at d) (v₁ * KK) 0:=by have:=p5.wg;simpa using this
    by_cases heq:v₁=u
    . subst heq;have hst:=h _ hwg;have hrt:=runT_crowd_go (P:=P) (sl:=sl₂) (i:=0) p4 (show stepG P (0 == 0) g _=_ from hst);obtain ⟨C',ha'⟩:=p5.OT E (a':=gh) (fn:=g.frame.fn) (pos:=g.frame.place) (es:=#[rd (stA Wg),wr (stA Wg)]) (d1:=1) (zJ:=true) (v':=v₁) (MK:=1) (sm':=0) p4 (.inr (.inl ⟨_,rfl⟩)) (Xk hsh (by simp)) (by rw [Deaf_own];exact p5.deaf0) (by have:=hwg.setSt ((v₁:Int) * KK+1);simpa using this) (.b1 zOM fM hsum) p5.few;exact KV.back p1 (p2.trans hrt) (by simpa using p3) (p6.trans (.of (.inl (.inr (.inl ⟨_,rfl⟩))))) (ihh (by simpa using p3.trans hn) ha' ⟨rfl,rfl⟩ C')
    . have hlt:v₁ < u:=by have:=p7 rfl;omega
      have hst:=hm _ v₁ hlt hwg;have hrt:=runT_crowd_go (P:=P) (sl:=sl₂) (i:=0) p4 (show stepG P (0 == 0) g _=_ from hst);obtain ⟨C',ha'⟩:=p5.OT E (a':=gm) (fn:=g.frame.fn) (pos:=g.frame.place) (es:=#[rd (stA Wg)]) (d1:=1) p4 (.inl rfl) (Xk hsh (by simp)) (by rw [Deaf_own];exact p5.deaf0) p5.wg p5.mode p5.few;exact KV.back p1 (p2.trans hrt) (by simpa using p3) p6 (ihm v₁ hlt (by simpa using p3.trans hn) ha' ⟨rfl,rfl,Nat.le_refl _⟩ C')
  | @acq g g' hs ho hb h k ih=>
    intro d0 pz role v wt sm T gs w sl hn ha U7 C;obtain ⟨rfl,rfl⟩:=U7;obtain ⟨N,gs₁,g₁,w₁,sl₁,T₁,p1,p2,p3,rfl,⟨Ew,p5⟩,p6⟩:=tu (sl:=sl) E hsh ⟨hs,ho,hb,h⟩ _ _ rfl rfl ha (.inl rfl) C;obtain ⟨N₂,gs',g₂,w',sl',T',q1,q2,q3,q4,q5,q6⟩:=ih (sl:=sl₁) (p2.trans hn) p3 ⟨rfl,rfl,rfl⟩ p5;exact ⟨N+N₂,gs',g₂,w',sl',T',runNT_then p1 q1,q2.trans p2,q3,q4,q5,p6.trans q6⟩
  | @last g g' hs h k ih=>
    intro d0 pz role v wt sm T gs w sl hn ha U7 C;obtain ⟨rfl,rfl,rfl⟩:=U7;obtain ⟨N,gs₁,w₁,d,sl₁,sl₂,T₁,Ew,v₁,Qv,PE,p1,p2,p3,p4,p5,p6,p7⟩:=Lp.picked (sl:=sl) E hs _ _ rfl rfl ha C;obtain ⟨rfl,rfl,_,_⟩:=p5.mode.open;obtain rfl:v₁=0:=by have:=p7 rfl;omega
    have hst:=h (w₁.at d) (by have:=p5.wg;simpa using this);have hrt:=runT_crowd_go (P:=P) (sl:=sl₂) (i:=0) p4 (show stepG P (0 == 0) g _=_ from hst);obtain ⟨C',ha'⟩:=p5.OT E (a':=g') (fn:=g.frame.fn) (pos:=g.frame.place) (es:=#[rd (stA Wg)]) (d1:=1) p4 (.inl rfl) (Xk hsh (by simp)) (by rw [Deaf_own];exact p5.deaf0) p5.wg p5.mode p5.few;exact KV.back p1 (p2.trans hrt) (by simpa using p3) p6 (ih (by simpa using p3.trans hn) ha' ⟨rfl,rfl,rfl⟩ C')
  | @en g g' hs h k ih=>
    intro d0 pz role v wt sm T gs w sl hn ha U7 C;obtain ⟨rfl,rfl,rfl⟩:=U7;obtain ⟨N,gs₁,w₁,d,sl₁,sl₂,T₁,Ew,v₁,Qv,PE,p1,p2,p3,p4,p5,p6,p7⟩:=Lp.picked (sl:=sl) E hs _ _ rfl rfl ha C;obtain rfl:v₁=0:=by have:=p7 rfl;omega
    have hst:=h (w₁.at d) ⟨_,_,p5.wg⟩;have hrt:=runT_crowd_go (P:=P) (sl:=sl₂) (i:=0) p4 (show stepG P (0 == 0) g _=_ from hst);obtain ⟨C',ha'⟩:=p5.OT E (a':=g') (fn:=g.frame.fn) (pos:=g.frame.place) (es:=#[mk .enable]) (d1:=0) p4 (.inl rfl) (XJ (fun b hb=>by simp [mk,MemAct.ofEvent,MemAct.touch?] at hb) trivial (by simp)) (by rw [Deaf_own,p5.deaf0];rfl) p5.wg p5.mode p5.few;exact KV.back p1 (p2.trans hrt) (by simpa using p3) p6 (ih (by simpa using p3.trans hn) ha' ⟨rfl,rfl,rfl⟩ C')
  | @heard g g' hs h k=>
    intro d0 pz role v wt sm T gs w sl hn ha U7 C;obtain ⟨rfl,rfl,rfl⟩:=U7;obtain ⟨N,gs₁,w₁,d,sl₁,sl₂,T₁,Ew,v₁,Qv,PE,p1,p2,p3,p4,p5,p6,p7⟩:=Lp.picked (sl:=sl) E hs _ _ rfl rfl ha C;obtain rfl:v₁=0:=by have:=p7 rfl;omega
    have hst:=h (w₁.at d) ⟨_,_,p5.wg⟩;have hrt:=runT_crowd_go (P:=P) (sl:=sl₂) (i:=0) p4 (show stepG P (0 == 0) g _=_ from hst);obtain ⟨C',ha'⟩:=p5.OT E (a':=g') (fn:=g.frame.fn) (pos:=g.frame.place) (es:=#[mk (.acquire (stA Wg))]) (d1:=0) p4 (.inl rfl) (XJ (fun b hb=>by simp [mk,MemAct.ofEvent,MemAct.touch?] at hb) (Nat.lt_succ_self _) (by simp)) (by rw [Deaf_own,p5.deaf0];rfl) p5.wg p5.mode p5.few;exact KV.back p1 (p2.trans hrt) (by simpa using p3) p6 ⟨0,_,g',_,sl₂,_,rfl,rfl,ha',k,⟨⟨_,_,C'.wg⟩,jK C' p5.deaf0⟩,.refl _ _⟩
end
end
end Go.LK
namespace Go.LK
open Go Go.Conc Go.LT Go.LC
open Go.ConcN (WgLive sumTo upd sumTo_upd upd_ne upd_same)
open Go.ConcR (KK wgBlock WgAt stA smA rd wr mk)
section
section
variable {X Sg:Type}
variable {P:Program}{Fin:FE}{Ea:E5 P Fin}
variable {M:Md X Sg}{ρ:Rn}{ws:List (EK X)}{W:World}{n:Nat}{g g':Goroutine}
structure Tw (ρ:Rn)(ws:List (EK X))(W W':World):Prop where
  cell:∀ a:Addr,a.block < W.heap.size->a.block≠ρ.gone->a.block≠ρ.Wg->W'.cell? a=W.cell? a
  block:∀ b,b < W.heap.size->b≠ρ.gone->b≠ρ.Wg->ownB ws b=false->W'.heap[b]?=W.heap[b]?
  size:W.heap.size<=W'.heap.size
def GN (role:Nat->EC)(i:Nat):EC:=if i=0 then .fin 1 0 0 else match role i with
  | .seat _ n=>.fin 9 (n - 1) 0
  | r=>r
def KN (role:Nat->EC)(i:Nat):Seat:=match role i with
  | .seat st _=>st
  | _=>⟨#[],.select,fun _=>True⟩
theorem Ta {g₂:Goroutine}{cs:Array CommCase}{sh:CommShape}{w:World}{k c cap a b:Nat}{buf:Array Value}{tm:Bool}{z:Value}(hk:cs[k]?=some (rcase c z))(hc:w.heap[c]?=some (.chan cap buf true a b tm)):(parked g₂ cs sh).again w={ parked g₂ cs sh with status:=.running }:=by
  have h:cs.any (fun c=>match c.chan with
    | .chan (some r)=>(w.heap[r]? matches some (.chan _ _ true ..))
    | _=>false)=true:=by
    refine Array.any_eq_true.2 ?_;obtain ⟨hlt,e⟩:=zGE hk;exact ⟨k,hlt,by rw [e];simp [rcase,hc]⟩
  simp only [Goroutine.again,parked];split
  . rfl
  . rename_i hn;exact absurd h hn
theorem J0.shut (hsh:ρ.shut)(hcl:¬ ρ.SN)(hrun:g.status=.running)(hmw:mayWake P g=true)(hrun':g'.status=.running)(hstep:∀ w k,w.heap[ρ.gone]?=some (.chan 0 #[] false k k false)->stepG P true g w=.go g' (w.setChan ρ.gone 0 #[] true k k false) (closeEvents ρ.gone))(hQ:JM P ρ.ty ρ.Wg n (fun g=>∀ W',Tw ρ ws W W'->JW (S0 (X:=X) (Sg:=Sg) P Fin Ea).base (.Gp (fun b=>ρ.Bo b || b == ρ.Wg) n) g W') .pre g'):JW (S0 P Fin Ea).base (.Ev M ρ ws 0 false n) g W:=by
  intro w hw gs T sl role bd live hg hn C H hL hdf Jw;obtain ⟨N,gs₁,w₁,d,sl₁,sl₂,T₁,Ew,ET,p1,p2,p3,p4,p5,p6,p7,p8,p9,nA⟩:=picked (h:=0) (sl:=sl) C.env hrun _ _ rfl rfl hg H;have C₁:=C.turns p7 p6 (G6 H.JG.wg);have lG:=hL.keep C p8;have hf1:Oo Fin.b0 w (w₁.at d):=.Xg Jw.wg p6;have OE:=S0.Rk hw p6;generalize w₁.at d=w1 at *;obtain ⟨k,hk⟩:=C₁.gone hcl;have hst:=hstep _ k hk;have hrt:=runT_crowd_go (P:=P) (sl:=sl₂) (i:=0) p4 hst;have hlt:ρ.gone < w1.heap.size:=(zGE hk).1;have hne:∀ b,b≠ρ.gone->(w1.setChan ρ.gone 0 #[] true k k false).heap[b]?=w1.heap[b]?:=fun b hb=>heap_setChan_ne _ _ _ _ _ _ _ (Ne.symm hb);have hsz:(w1.setChan ρ.gone 0 #[] true k k false).heap.size=w1.heap.size:=by simp [World.setChan]
  have x9:(w1.setChan ρ.gone 0 #[] true k k false).heap[ρ.gone]?=some (.chan 0 #[] true k k false):=by simp [World.setChan,Array.getElem?_setIfInBounds,hlt]
  have V8:ρ.Wg≠ρ.gone:=fun e=>by obtain ⟨c,e',f,hc⟩:=G6 p5.JG.wg;rw [e,hk] at hc;cases hc
  have hcell:∀ {b:Nat} {c e f},w1.heap[b]?=some (.cells c e f)->b≠ρ.gone:=fun {b} {c} {e} {f} h z=>by rw [z,hk] at h;cases h
  have hf2:Oo Fin.b0 w1 (w1.setChan ρ.gone 0 #[] true k k false):=⟨rfl,rfl,Nat.le_of_eq hsz.symm,fun b o hb ho _=>by rw [hne b (by have:=Jw.gone;omega)];exact ho⟩
  generalize w1.setChan ρ.gone 0 #[] true k k false=w2 at *;have E0:=C₁.env;have lK:∀ i w w',w.heap.size<=w'.heap.size->(∀ b,b≠ρ.Wg->b < w.heap.size->w'.heap[b]?=w.heap[b]?)->Kc ρ ws i w->Kc ρ ws i w':=fun i w w' _ hb hK j v hv hi ho=>by
    have h:=hK j v hv hi ho;have hlt:∀ {b o x},w.cell? ⟨b,o,none⟩=some x->b < w.heap.size:=fun {b o x} h=>by
      rcases Nat.lt_or_ge b w.heap.size with h1|h1
      . exact h1
      . exfalso
        have:w.heap[b]?=none:=Array.getElem?_eq_none_iff.2 h1;simp [World.cell?,this] at h
    have hi2:=C₁.inside j v hv;have b1:=hlt h.1;have b2:=hlt h.2.2;exact h.blk (hb _ (C₁.own j v hv _ hi2.1).2.1 b1) (hb _ (C₁.own j v hv _ hi2.2).2.1 b2)
  have E:QY ρ.Wg (Kc ρ ws) (M7 ws) (GV ρ):={ E0 with RA:=⟨_,rfl,.inl rfl⟩,grow:=lK }
  have hK2:∀ i,Kc ρ ws i w1->Kc ρ ws i w2:=fun i hK j v hv hi ho=>by have hi2:=C₁.inside j v hv;obtain ⟨_,_,_,c,e,f,hc⟩:=C₁.own j v hv _ hi2.1;obtain ⟨_,_,_,c',e',f',hc'⟩:=C₁.own j v hv _ hi2.2;exact (hK j v hv hi ho).blk (hne _ (hcell hc)) (hne _ (hcell hc'))
  have Ac4:∀ e∈closeEvents ρ.gone,nK (M7 ws) (GV ρ) 0 w2.heap.size e:=fun e he=>by
    simp only [closeEvents,List.mem_toArray,List.mem_cons,List.not_mem_nil,or_false] at he;refine ⟨fun b hb=>⟨fun g _ hS=>?_,fun hS=>?_⟩,?_,?_,?_⟩
    . obtain ⟨j,v,hv,_,ho,hs⟩:=hS;rcases he with rfl|rfl <;> simp [MemAct.ofEvent,MemAct.touch?] at hb
      subst hb;rcases hs with hs|hs|hs <;> cases hs
    . obtain ⟨a,ha,_⟩:=hS;rcases he with rfl|rfl <;> simp [MemAct.ofEvent,MemAct.touch?] at hb
      subst hb;cases ha
    . rcases he with rfl | rfl <;> simp
    . rcases he with rfl | rfl <;> simp
    . rcases he with rfl | rfl <;> (show ρ.gone < _;omega)
  obtain ⟨hops,hr,hl,uV⟩:=Ka (h:=0) (fn:=g.frame.fn) (pos:=g.frame.place) Ac4;have htc:∀ op∈MemOp.ofEvents 0 g.frame.fn g.frame.place (closeEvents ρ.gone),∀ b,op.act.touch?=some b->∀ x,¬ M7 ws x b.loc:=fun op hop b hb x hS=>by
    obtain ⟨e,he,rfl⟩:=Conc.mem_ofEvents hop;simp only [closeEvents,List.mem_toArray,List.mem_cons,List.not_mem_nil,or_false] at he;obtain ⟨j,v,hv,_,ho,hs⟩:=hS;rcases he with rfl|rfl <;> simp [MemAct.ofEvent,MemAct.touch?] at hb
    subst hb;rcases hs with hs|hs|hs <;> cases hs
  have Aa8:Deaf (T₁ ++ MemOp.ofEvents 0 g.frame.fn g.frame.place (closeEvents ρ.gone)) 0=0:=(uV T₁).trans (p9.trans hdf);have hD:∀ x,x≠0->Deaf (T₁ ++ MemOp.ofEvents 0 g.frame.fn g.frame.place (closeEvents ρ.gone)) x=Deaf T₁ x:=fun x hx=>Deaf_other T₁ (fun z=>hx z.symm) _ hops;have F:=p5.JG;have hp:FI (M7 ws) (GV ρ) (fun _=>False) (Hw ws 0) w2.heap.size (Knows (T₁ ++ MemOp.ofEvents 0 g.frame.fn g.frame.place (closeEvents ρ.gone)) 0) (T₁ ++ MemOp.ofEvents 0 g.frame.fn g.frame.place (closeEvents ρ.gone)):=
    ((F.past.mono (Nat.le_of_eq hsz.symm)).hold p5.tight hops hr (fun _=>uV T₁) hl).fewer fun _ h=>h.elim
  generalize MemOp.ofEvents 0 g.frame.fn g.frame.place (closeEvents ρ.gone)=vS at *;have oD:WgAt ρ.ty ρ.Wg w2 ((sumTo gs₁.size ET:Nat) * KK+((0:Nat):Int)) ((0:Nat):Int):=by
    have:=F.wg;unfold WgAt at this ⊢;rw [hne _ V8]
    simpa using this
  have hrx:=Lg ρ.ty ρ.Wg ⟨_,_,F.wg⟩ ⟨_,_,oD⟩;have V9:∀ i st m,Ew i=.seat st m->∃ (j:Nat) (v:EK X),ws[j]?=some v/\v.h=i/\v.over=false/\st=Nn M ρ P v:=fun i st m e=>by
    have hlt:=(F.seat i st m e).1;have hi0:i≠0:=fun z=>p5.LZ st m (z ▸ e);obtain ⟨g',hg'⟩:∃ g',gs₁[i]?=some g':=⟨_,Array.getElem?_eq_getElem hlt⟩
    obtain ⟨_,h0|⟨j,v,hv,mo,ho⟩⟩:=(F.seats i g' st m hi0 hg' e).2
    . exact absurd h0 hi0
    . obtain ⟨⟨m',e'⟩,_⟩:=C₁.seats j v hv (by rw [mo];exact hi0) ho
      rw [mo,e] at e';cases e'
      exact ⟨j,v,hv,mo,ho,rfl⟩
  have Acu:∀ i,i≠0->i < gs₁.size->(GN Ew i).stage=9->∃ st m,Ew i=.seat st m:=fun i h0 hi h9=>by
    unfold GN at h9;rw [if_neg h0] at h9;cases e:Ew i with
    | seat st m=>exact ⟨st,m,rfl⟩
    | fin s m d=>
      rw [e] at h9;simp only [EC.stage] at h9;have:=(F.Gz i _ s m d h0 (Array.getElem?_eq_getElem hi) e).2.2.2.2.2;omega
  have hget:∀ x,x≠0->((gs₁.map (woken P g g' w2)).setIfInBounds 0 g')[x]?=(gs₁[x]?).map (woken P g g' w2):=fun x hx=>by rw [Array.getElem?_setIfInBounds_ne (fun e=>hx e.symm),Array.getElem?_map]
  have Abq:∀ i,i < gs₁.size->IX (GN Ew i)=ET i:=fun i hi=>by
    unfold GN;by_cases h0:i=0
    . subst h0;rw [if_pos rfl,lG.zero];rfl
    . rw [if_neg h0];cases e:Ew i with
      | seat st m=>
        obtain ⟨j,v,hv,mo,ho,_⟩:=V9 i st m e;have:=lG.one j v hv ho;rw [mo] at this;rw [this];rfl
      | fin s m d=>
        have:=(F.Gz i _ s m d h0 (Array.getElem?_eq_getElem hi) e).2.2.2.2.1;rw [this];rfl
  have Aca:Lp P ρ.ty ρ.Wg ρ.gone (Kc ρ ws) (M7 ws) bd (KN Ew) (GV ρ) (Hw ws 0) 0 false (GN Ew) (sumTo gs₁.size ET) 0 0 (T₁ ++ vS) ((gs₁.map (woken P g g' w2)).setIfInBounds 0 g') w2:=by
    refine ⟨fun i y s m d hi hy e=>?_,fun i hi hlt h9=>?_,⟨V8.symm,k,x9⟩,fun i hi hlt=>?_,?_,Aa8,fun j hj=>?_,hp,p5.tight,oD,.b0 (fun i hi hlt=>?_) ?_,by have:=F.few;simpa using this,fun j a ha hm=>?_⟩
    . rw [hget i hi] at hy;obtain ⟨y0,hy0,rfl⟩:=Option.map_eq_some_iff.1 hy;unfold GN at e;rw [if_neg hi] at e;cases er:Ew i with
      | fin s' m' d'=>
        rw [er] at e;cases e
        obtain ⟨_,hF,hd',_,_,hs⟩:=F.Gz i y0 s m d hi hy0 er;rw [woken_of_again (again_of_running hF.status w2),hD i hi];exact ⟨.fin zOM (hF.rely hrx),hd'⟩
      | seat st m'=>
        rw [er] at e;cases e
        obtain ⟨hS,hLo⟩:=F.seats i y0 st m' hi hy0 er;obtain ⟨_,hwf,qL,_,_⟩:=F.seat i st m' er;have hK1:=F.keep i st m' er;have hd0:Deaf (T₁ ++ vS) i=0:=by rw [hD i hi];exact F.past.hears i qL
        refine ⟨?_,hd0⟩;have hst:KN Ew i=st:=by unfold KN;rw [er]
        rw [hst];have hi0:(i == 0)=false:=by simp;omega
        rw [hi0] at hS;rcases hS with ⟨k',w₀,rfl,hG⟩|⟨rfl,g₀,g₂,rfl,hat⟩
        . have hrn:=Goes.running (fun _ _ ⟨_,x⟩=>x.1) w1 hK1 hG;rw [woken_of_again (again_of_running (.inl hrn) w2)];exact .seat (hK2 i hK1) hG
        . obtain ⟨j,v,hv,mo,ho,hsv⟩:=V9 i st 0 er;have hag:woken P g g' w2 (parked g₂ st.cases st.shape)={ parked g₂ st.cases st.shape with status:=.running }:=by unfold woken;rw [if_pos (by simp [hmw,hrun'])];exact Ta (k:=1) (c:=ρ.gone) (z:=ρ.zg) (by rw [hsv];rfl) x9
          rw [hag];exact .seat (w₀:=w2) (hK2 i hK1) (Goes.stop fun w₁ _=>⟨g₂,hat.tries _ _⟩)
    . have hlt':i < gs₁.size:=by simpa using hlt
      obtain ⟨st,m,er⟩:=Acu i hi hlt' h9;obtain ⟨_,hwf,qL,hBd,hch⟩:=F.seat i st m er;obtain ⟨_,hLo⟩:=F.seats i _ st m hi (Array.getElem?_eq_getElem hlt') er;obtain ⟨j,v,hv,mo,ho,hsv⟩:=V9 i st m er;have hst:KN Ew i=st:=by unfold KN;rw [er]
      rw [hst];refine ⟨hLo,by rw [hsz];exact hBd,sH.app (fun j a ha hw hS=>F.past.wrote j a ha hw i qL hS) fun op hop b hb _ hS=>htc op hop b hb i hS,⟨hwf,1,ρ.zg,by rw [hsv];rfl,fun g₂ hh=>?_⟩,fun c hc hne'=>?_⟩
      . rw [hsv] at hh ⊢;exact hh.2 hsh
      . obtain ⟨k2,hk2⟩:=hch c hc;refine ⟨fun z=>?_,k2,by rw [hne c hne'];exact hk2⟩;obtain ⟨c',e',f',hx⟩:=G6 F.wg;rw [← z,hk2] at hx;cases hx
    . unfold GN;rw [if_neg hi];cases er:Ew i with
      | fin s m d=>exact ⟨s,m,d,rfl⟩
      | seat st m=>exact ⟨_,_,_,rfl⟩
    . unfold GN;rw [if_pos rfl];rfl
    . have hj':gs₁.size<=j:=by simpa using hj
      have:0 < gs₁.size:=(zGE p4).1;rw [hD j zOM];exact F.above j hj'
    . have hlt':i < gs₁.size:=by simpa using hlt
      unfold GN;rw [if_neg hi];cases er:Ew i with
      | fin s m d=>
        have:=(F.Gz i _ s m d hi (Array.getElem?_eq_getElem hlt') er).2.2.2.2.2;simp only [EC.stage];omega
      | seat st m=>exact .inl ⟨by simp [EC.stage],by simp [EC.stage]⟩
    . simp only [Array.size_setIfInBounds,Array.size_map];exact (Go.ConcN.sumTo_congr fun i hi=>(Abq i hi).symm)
    . rcases hp.known j a ha hm with hk' | ⟨_,x,hx,⟨hx0,h0 | ⟨i,v,hv,hvx,ho⟩⟩,hS⟩ | hk'
      . exact .inl hk'
      . exact absurd h0 hx0
      . right;left
        obtain ⟨⟨m,er⟩,_⟩:=C₁.seats i v hv (by rw [hvx];exact hx0) ho;rw [hvx] at er;refine ⟨x,hx,hx0,by simpa using (F.seat x _ m er).1,?_⟩;unfold GN;rw [if_neg hx0,er];simp [EC.stage]
      . exact .inr (.inr (.inr hk'))
  have ha':((gs₁.map (woken P g g' w2)).setIfInBounds 0 g')[0]?=some g':=Array.getElem?_setIfInBounds_self_of_lt (by simpa using (zGE p4).1);obtain ⟨N₂,gs',g₃,w',sl',T',q1,q2,q3,q4,⟨⟨st,sm,q7⟩,q,q5⟩,q6⟩:=yT (sl:=sl₂) E (fun a ha=>⟨a,rfl,.inl ha⟩) _ _ hQ (by simp [p3,hn]) ha' ⟨rfl,rfl⟩ Aca;have hf3:Oo Fin.b0 w2 w':=⟨q6.os,q6.output,q6.size,fun b o hb ho _=>by rw [q6.block b (by have:=Jw.wg;omega) (zGE ho).1];exact ho⟩
  let B':Hid:={ hol:=fun b=>ρ.Bo b || b == ρ.Wg }
  have e:GV ρ=Y9 B':=Rx (ws:=ws);rw [e] at q5;have hrow:∀ b,(∃ c e f,w1.heap[b]?=some (Obj.cells c e f))->b≠ρ.Wg->w'.heap[b]?=w1.heap[b]?:=fun b ⟨c,e,f,hc⟩ hb=>by rw [q6.block b hb (by rw [hsz];exact (zGE hc).1),hne b (hcell hc)]
  have hs':GQ B' w' (D7 B' w'):=by
    refine ⟨.refl _,⟨fun b hb=>?_,fun b hb=>(by cases hb)⟩⟩;by_cases hbw:b=ρ.Wg
    . rw [hbw];exact ⟨_,_,_,q7⟩
    . have hr':=OE.2.hol b hb;obtain ⟨c,e,f,hc⟩:=id hr';exact ⟨c,e,f,by rw [hrow b hr' hbw];exact hc⟩
  have hTw:Tw ρ ws W (D7 B' w'):=by
    have hh:=FJ OE;have hWs:W.heap.size=w1.heap.size:=Ho OE;have hb':∀ b,b < W.heap.size->b≠ρ.gone->b≠ρ.Wg->w'.heap[b]?=w1.heap[b]?:=fun b hb h1 h2=>by rw [q6.block b h2 (by rw [hsz,← hWs];exact hb),hne b h1]
    refine ⟨fun a ha h1 h2=>?_,fun b hb h1 h2 ho=>?_,?_⟩
    . simp only [World.cell?,hh];rw [Ez,Ez,hb' _ ha h1 h2];cases w1.heap[a.block]? with
      | none=>rfl
      | some o=>
        by_cases hb:(ρ.Bo a.block || a.block == ρ.Wg)=true
        . simp only [B',EX,Option.map_some,hb,if_true]
        . simp only [B',EX,Option.map_some,hb,if_false,Bool.false_eq_true];cases o <;> rfl
    . rw [hh,Ez,Ez,hb' _ hb h1 h2];show Option.map (fun o=>if ((ρ.Bo b || b == ρ.Wg)=true) then KZ o else dep false o) _=Option.map (fun o=>if ((ρ.Bo b || b == ρ.Wg)=true) then KZ o else dep (ownB ws b) o) _;rw [ho]
    . rw [F9,hWs,← hsz];exact q6.size
  refine Ea (N+(N₂+1)) _ _ _ _ (runNT_then p1 (by simp only [runNT,p2,hrt];exact q1)) ((hf1.trans hf2).trans hf3) (q4 _ hTw w' hs' gs' T' sl' q q3 (by rw [q2];simp [p3,hn]) q5 ?_);have h1:=Jw.wg;have h2:ρ.Wg < w2.heap.size:=(zGE oD).1;have h3:=q6.size;omega
end
end
section
section
variable {P:Program}{ty:TypeId}{Wg n:Nat}{Stop:Goroutine->Prop}{W:World}{p:QP}{g g':Goroutine}
def Qi (P:Program)(ty:TypeId)(Wg n:Nat)(Stop:Goroutine->Prop):Ou P true QP where
  B:=fun _=>Qe
  J:=fun p g _=>JM P ty Wg n Stop p g
  live:=fun _=>WgLive ty Wg
  idle:=fun p g g' W hs h hJ w hw=>.idle hs h (hJ w hw)
theorem Qi.of (h:∀ W,JL (Qi P ty Wg n Stop) p g W):JM P ty Wg n Stop p g:=h (D7 Qe default) default ⟨.refl _,IU _⟩
theorem JT.said {m:Mark}(hm:Says Wg m)(hr:m≠.release (stA Wg))(hs:g.status=.running)(h:∀ w,WgLive ty Wg w->stepG P true g w=.go g' w #[mk m])(hJ:JL (Qi P ty Wg n Stop) p g' W):JL (Qi P ty Wg n Stop) p g W:=fun w hw=>.said hm hr hs h (hJ w hw)
theorem JT.Zd (hs:g.status=.running)(h:∀ w,stepG P true g w=.go g' w #[mk .disable])(hJ:JL (Qi P ty Wg n Stop) (.loop n) g' W):JL (Qi P ty Wg n Stop) .pre g W:=fun w hw=>.Zd hs (fun w _=>h w) (hJ w hw)
theorem JT.load {v:Nat}{g':Nat->Goroutine}(hs:g.status=.running)(h:∀ (w:World) (v':Nat),v' < 2147483648->WgAt ty Wg w (v' * KK) 0->stepG P true g w=.go (g' v') w #[rd (stA Wg)])(h0:JL (Qi P ty Wg n Stop) .out (g' 0) W)(h1:∀ v',v'<=v->v'≠0->v' < 2147483648->JL (Qi P ty Wg n Stop) (.seen v') (g' v') W):JL (Qi P ty Wg n Stop) (.loop v) g W:=fun w hw=>
  .load hs h (h0 w hw) fun v' a b c=>h1 v' a b c w hw
theorem JT.cas {v:Nat}{gh gm:Goroutine}(hs:g.status=.running)(hv:v≠0)(h:∀ w,WgAt ty Wg w (v * KK) 0->stepG P true g w=.go gh (w.setCell (stA Wg) (.int .u64 (v * KK+1))) #[rd (stA Wg),wr (stA Wg)])(m:∀ (w:World) (v':Nat),v' < v->WgAt ty Wg w (v' * KK) 0->stepG P true g w=.go gm w #[rd (stA Wg)])(kh:JL (Qi P ty Wg n Stop) .sem gh W)(km:∀ v',v' < v->JL (Qi P ty Wg n Stop) (.loop v') gm W):JL (Qi P ty Wg n Stop) (.seen v) g W:=fun w hw=>.cas hs hv h m (kh w hw) fun v' a=>km v' a w hw
theorem JT.acq (hs:g.status=.running)(ho:g.offers=none)(hb:∀ w,(∃ st,WgAt ty Wg w st 0)->stepG P true g w=.go { g with status:=.blocked } w #[])(h:∀ w,WgAt ty Wg w 0 1->stepG P true g w=.go g' (w.setCell (smA Wg) (.int .u32 0)) (semEvents (smA Wg)))(k:JL (Qi P ty Wg n Stop) .last g' W):JL (Qi P ty Wg n Stop) .sem g W:=fun w hw=>.acq hs ho hb h (k w hw)
theorem JT.last (hs:g.status=.running)(h:∀ w,WgAt ty Wg w 0 0->stepG P true g w=.go g' w #[rd (stA Wg)])(k:JL (Qi P ty Wg n Stop) .out g' W):JL (Qi P ty Wg n Stop) .last g W:=fun w hw=>.last hs h (k w hw)
theorem JT.en (hs:g.status=.running)(h:∀ w,stepG P true g w=.go g' w #[mk .enable])(k:JL (Qi P ty Wg n Stop) .hear g' W):JL (Qi P ty Wg n Stop) .out g W:=fun w hw=>.en hs (fun w _=>h w) (k w hw)
theorem JT.heard (hs:g.status=.running)(h:∀ w,WgLive ty Wg w->stepG P true g w=.go g' w #[mk (.acquire ⟨Wg,0,none⟩)])(k:Stop g'):JL (Qi P ty Wg n Stop) .hear g W:=fun w hw=>.heard hs h k
def Qd {Γ:Type}(S:Ou P true Γ)(γ:Γ)(Gd:World->Prop)(g:Goroutine):Prop:=∀ W',Gd W'->JL S γ g W'
end
end
end Go.LK
end
