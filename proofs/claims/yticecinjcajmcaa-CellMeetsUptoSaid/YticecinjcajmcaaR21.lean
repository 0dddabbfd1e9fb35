/-
  Part 21 of the proof that CellMeets returns true, and leaves its arguments as they were, for every input whose reading is of bulk at most 1048576. No further condition.
-/
import Derived.Test.YticecinjcajmcaaR00
import Derived.Test.YticecinjcajmcaaR20
set_option linter.unusedVariables false
set_option linter.unusedSectionVars false
set_option linter.unusedSimpArgs false
set_option maxHeartbeats 2000000
noncomputable section
namespace Go.LK
open Go Go.Conc Go.LT Go.LC
open Go.ConcN (WgLive sumTo upd sumTo_upd upd_ne upd_same)
open Go.ConcR (KK wgBlock WgAt stA smA rd wr mk DC0)
section
section
variable {P:Program}{ty:TypeId}{Wg gone d0:Nat}{K:Nat->World->Prop}{Still:Nat->Loc->Prop}{Bd:Nat->Nat}{St:Nat->Seat}{Shun:Loc->Prop}{Loose:Nat->Prop}{role:Nat->EC}{pz:Bool}{v wt sm:Nat}{T:Trace}{gs:Array Goroutine}{w:World}
def Xv (P:Program)(ty:TypeId)(Wg gone:Nat)(K:Nat->World->Prop)(Still:Nat->Loc->Prop)(Bd:Nat->Nat)(St:Nat->Seat)(Shun:Loc->Prop)(Loose:Nat->Prop)(d0:Nat)(pz:Bool)(role:Nat->EC)(sm:Nat)(T:Trace)(gs:Array Goroutine)(w:World)(sl:Option (Nat × Nat))(i:Nat)(g:Goroutine):Prop:=
  ∃ gs' w' ops r' v' MK sm',runT P (crowd gs w sl) i=(.next (crowd gs' w' sl),ops)/\gs'.size=gs.size/\Zb Wg w w'/\(∀ op∈ops,op.g=i)/\Lp P ty Wg gone K Still Bd St Shun Loose d0 pz (upd role i r') v' MK sm' (T ++ ops) gs' w'/\Less gs.size (upd role i r') role/\IX r'<=IX (role i)/\
    ((gs'[0]?=gs[0]?/\sm'=sm)\/∃ g',gs'[0]?=(gs[0]?).map (woken P g g' w')/\(sm'=1->sm=0->mayWake P g=true/\g'.status≠.blocked/\g'.status≠.waiting))
theorem Lp.go (E:QY Wg K Still Shun)(C:Lp P ty Wg gone K Still Bd St Shun Loose d0 pz role v wt sm T gs w){i:Nat}{g g':Goroutine}{sl:Option (Nat × Nat)}{s m d s' m' d' v' MK sm':Nat}{w':World}{es:Array Event}(hi:gs[i]?=some g)(h0:i≠0)(er:role i=.fin s m d)(hgo:stepG P false g w=.go g' w' es)(hw:Zb Wg w w')(hst:∀ op∈MemOp.ofEvents i g.frame.fn g.frame.place es,∀ b,op.act.touch?=some b->b.write=true->∀ x,¬ Still x b.loc)(hF:Sw P ty Wg (K i) (Still i) (Bd i) (St i) s' m' d' g' w')(h9:s'=9->s=9)(hd:Deaf (T ++ MemOp.ofEvents i g.frame.fn g.frame.place es) i=d')(hp:FI Still Shun (fun _=>False) Loose w.heap.size (Knows (T ++ MemOp.ofEvents i g.frame.fn g.frame.place es) 0) (T ++ MemOp.ofEvents i g.frame.fn g.frame.place es))(hwg:WgAt ty Wg w' (v' * KK+MK) sm')(hm:IZ gs.size (upd role i (.fin s' m' d')) pz v' MK sm')(hf:v' < 2147483648)(hless:s' < s\/(s'=s/\m' < m))(hsm:sm'=1->sm=0->mayWake P g=true/\g'.status≠.blocked/\g'.status≠.waiting)(hsx:(∀ e∈es,MemAct.ofEvent e≠.mark (.release (stA Wg)))/\(s'<=6->∀ e∈es,∀ b,(MemAct.ofEvent e).touch?=some b->b.loc=.cell (stA Wg)\/b.loc=.cell (smA Wg))/\(s'<=6->7<=s->es=#[Go.ConcR.mk (.releaseMerge (stA Wg))]):=by refine ⟨by simp [MemAct.ofEvent,rd,wr,Go.ConcR.mk,semEvents],by simp [MemAct.ofEvent,MemAct.touch?,rd,wr,Go.ConcR.mk,semEvents],fun _ _=>?_⟩;first | rfl | (exfalso;omega))(hd0:7<=s->s'<=6->Deaf T i=0:=by intro _ _;first | assumption | (exfalso;omega)) :
    Xv P ty Wg gone K Still Bd St Shun Loose d0 pz role sm T gs w sl i g:=by
  have hlt:i < gs.size:=(zGE hi).1;have hi0:(i == 0)=false:=by simp;omega
  refine ⟨_,w',_,.fin s' m' d',v',MK,sm',runT_crowd_go (sl:=sl) hi (by rw [hi0];exact hgo),by simp,hw,fun op hop=>by obtain ⟨e,_,rfl⟩:=Conc.mem_ofEvents hop;rfl,?_,Gj hlt (by rw [er];exact hless),by rw [er];unfold IX cn;dsimp only;split <;> split <;> omega,.inr ⟨g',?_,hsm⟩⟩
  . refine C.put E hw hlt h0 (fun op hop=>by obtain ⟨e,_,rfl⟩:=Conc.mem_ofEvents hop;rfl) hst (by simp) (fun x hx hx0=>?_) (Array.getElem?_setIfInBounds_self_of_lt (by simpa using hlt)) hF (fun e=>by rw [er];exact h9 e) hd hp hwg hm hf ⟨fun op hop=>?_,fun h6 op hop b hb x hS=>?_,fun h6 h7=>⟨g.frame.fn,g.frame.place,?_⟩⟩ (fun h7=>hd0 (by rw [er] at h7;exact h7))
    rotate_left
    . obtain ⟨e,he,rfl⟩:=Conc.mem_ofEvents hop;exact hsx.1 e he
    . obtain ⟨e,he,rfl⟩:=Conc.mem_ofEvents hop;rcases hsx.2.1 h6 e he b hb with hl|hl
      . rw [hl] at hS;exact E.apart x _ hS E.shun
      . rw [hl] at hS;exact E.apart x _ hS E.RA
    . rw [hsx.2.2 h6 (by rw [er] at h7;exact h7)];simp [ofEvents_eq,Go.ConcR.mk,MemAct.ofEvent]
    rw [Array.getElem?_setIfInBounds_ne (fun e=>hx e.symm),Array.getElem?_map];cases ey:gs[x]? with
    | none=>rfl
    | some y=>
      obtain ⟨s2,m2,d2,e2⟩:=C.all x hx0 (zGE ey).1;simp [woken_of_again (again_of_running (C.Gz x y s2 m2 d2 hx0 ey e2).1.status w')]
  . rw [Array.getElem?_setIfInBounds_ne h0,Array.getElem?_map]
theorem Lp.by_step (E:QY Wg K Still Shun)(C:Lp P ty Wg gone K Still Bd St Shun Loose d0 pz role v wt sm T gs w){i:Nat}{g:Goroutine}{sl:Option (Nat × Nat)}(hi:gs[i]?=some g)(h0:i≠0)(hrun:g.status=.running)(hz:∀ y c,gs[0]?=some y->offersAt y c true=[]) :
    Xv P ty Wg gone K Still Bd St Shun Loose d0 pz role sm T gs w sl i g:=by
  have hlt:i < gs.size:=(zGE hi).1;have hi0:(i == 0)=false:=by simp;omega
  obtain ⟨s,m,d,er⟩:=C.all i h0 hlt;obtain ⟨hF,hD⟩:=C.Gz i g s m d h0 hi er;have hst:(role i).stage=s:=by rw [er];rfl
  have hops:∀ (es:Array Event),∀ op∈MemOp.ofEvents i g.frame.fn g.frame.place es,op.g=i:=fun es op hop=>by obtain ⟨e,_,rfl⟩:=Conc.mem_ofEvents hop;rfl
  have hWs:Wg < w.heap.size:=(zGE C.wg).1;have Sm:∀ (t u:Trace) i,Knows t 0 i->Knows (t ++ u) 0 i:=fun t u i=>Knows.app u;have mute:∀ (es:Array Event),(∀ e∈es,(MemAct.ofEvent e).touch?=none/\(MemAct.ofEvent e).low (Wg+1))->FI Still Shun (fun _=>False) Loose w.heap.size (Knows (T ++ MemOp.ofEvents i g.frame.fn g.frame.place es) 0) (T ++ MemOp.ofEvents i g.frame.fn g.frame.place es)/\(∀ op∈MemOp.ofEvents i g.frame.fn g.frame.place es,∀ b,op.act.touch?=some b->b.write=true->∀ x,¬ Still x b.loc):=fun es hes=>by
    refine ⟨C.past.mute (Sm T _) (hops es) (fun op hop=>?_) (fun z=>z.elim) fun op hop=>?_,fun op hop b hb=>?_⟩
    . obtain ⟨e,he,rfl⟩:=Conc.mem_ofEvents hop;exact (hes e he).1
    . obtain ⟨e,he,rfl⟩:=Conc.mem_ofEvents hop;exact MemAct.low_mono hWs (hes e he).2
    . obtain ⟨e,he,rfl⟩:=Conc.mem_ofEvents hop;rw [(hes e he).1] at hb;cases hb
  have qm:∀ (ad:Addr) (es:Array Event),Shun (.cell ad)->(∀ e∈es,e=⟨.cell ad,false,true⟩\/e=⟨.cell ad,true,true⟩)->∀ op∈MemOp.ofEvents i g.frame.fn g.frame.place es,∀ b,op.act.touch?=some b->b.write=true->∀ x,¬ Still x b.loc:=fun ad es hS hes op hop b hb _ x hx=>by
    obtain ⟨e,he,rfl⟩:=Conc.mem_ofEvents hop;have hloc:b.loc=.cell ad:=by rcases hes e he with rfl|rfl <;> (simp only [MemAct.ofEvent,MemAct.touch?,Option.some.injEq] at hb;subst hb;rfl)
    rw [hloc] at hx;exact E.apart x _ hx hS
  cases hF with
  | seat hK hG=>
    obtain ⟨hL,hBd,hkn,⟨hwf,kk,z,hkk,RY⟩,hch⟩:=C.nine i h0 hlt hst;have hcase:(∃ g₂,AtIn P false (K i) (Still i) (Bd i) (St i) g g₂)\/∃ m' g' es,m=m'+1/\stepG P false g w=.go g' w es/\(∀ e∈es,EvC (Still i) (Bd i) e)/\Goes P false (RK (K i)) (DS (Still i) (Bd i)) (fun g _=>∃ g₂,AtIn P false (K i) (Still i) (Bd i) (St i) g g₂) m' g' w:=by
      cases m with
      | zero=>exact .inl (hG w hK)
      | succ m'=>
        rcases hG with hstop|⟨_,hstep⟩
        . exact .inl (hstop w hK)
        . have hs:=hstep w hK;cases hgo:stepG P false g w with
          | go g' w' es=>
            rw [hgo,goes_go] at hs;obtain ⟨⟨rfl,hes⟩,hG'⟩:=hs;exact .inr ⟨m',g',es,rfl,rfl,hes,hG'⟩
          | _=>rw [hgo] at hs;exact hs.elim
    have rd1:∀ (es:Array Event),(∀ e∈es,EvC (Still i) (Bd i) e)->FI Still Shun (fun _=>False) Loose w.heap.size (Knows (T ++ MemOp.ofEvents i g.frame.fn g.frame.place es) 0) (T ++ MemOp.ofEvents i g.frame.fn g.frame.place es)/\Deaf (T ++ MemOp.ofEvents i g.frame.fn g.frame.place es) i=0/\(∀ op∈MemOp.ofEvents i g.frame.fn g.frame.place es,∀ b,op.act.touch?=some b->b.write=true->∀ x,¬ Still x b.loc):=fun es hes=>by obtain ⟨_,hr,hl,hd⟩:=Mv (fn:=g.frame.fn) (pos:=g.frame.place) hBd E.toEnv2.toEnv hes;refine ⟨((FI.xB C.past hkn hD).read (Sm T _) rfl hL (hops es) hr (hd T) hl).fewer (fun _ h=>h.elim),(hd T).trans hD,fun op hop b hb hw=>?_⟩;rw [(hr op hop b hb).1] at hw;cases hw
    rcases hcase with ⟨g₂,hat⟩|⟨m',g',es,rfl,hgo,hes,hG'⟩
    . obtain ⟨_,_,_,_,hhome,es,hes,hstp⟩:=id hat;obtain ⟨m',hgo⟩:=RY g₂ hhome;obtain ⟨hp,hd',hw'⟩:=rd1 es hes;obtain ⟨hgw,kg,hcg⟩:=C.chan;have Aad:∀ x y c,x≠i->gs[x]?=some y->offersAt y c true=[]:=fun x y c hx hy=>by
        by_cases hx0:x=0
        . subst hx0;exact hz y c hy
        . obtain ⟨s2,m2,d2,e2⟩:=C.all x hx0 (zGE hy).1;exact offersAt_of_not_blocked (fun hb=>by rcases (C.Gz x y s2 m2 d2 hx0 hy e2).1.status with z | z <;> rw [z] at hb <;> cases hb) c true
      have hpn:∀ c,partners (gs.setIfInBounds i ph) c true=[]:=fun c=>partners_nil fun x y hy=>by
        rcases getElem?_stand gs i x y hy with ⟨_,rfl⟩|⟨hx,hy'⟩
        . exact offersAt_ph _ _
        . exact Aad x y c hx hy'
      have hno:∀ (q:Nat) (c':CommCase),q≠kk->(St i).cases[q]?=some c'->NoWays w (gs.setIfInBounds i ph) c':=fun q c' hq hcq=>by
        obtain ⟨c'',z',rfl⟩:=hwf.recvs c' (Array.mem_of_getElem? hcq);have hne:c''≠gone:=fun e=>by subst e;exact hq (hwf.apart q kk _ z' z hcq hkk)
        obtain ⟨_,k2,hc2⟩:=hch c'' ⟨q,z',hcq⟩ hne;exact ways_recv_none hc2 (hpn c'')
      have hrt:=VI (sl:=sl) (P:=P) hi (by rw [hi0];exact hstp w hK) hkk hno hcg (hpn gone);have hlast:∀ op∈(#[{ g:=i,fn:=g₂.frame.fn,pos:=g₂.frame.place,act:=.recvClosed gone }]:Trace),op={ g:=i,fn:=g₂.frame.fn,pos:=g₂.frame.place,act:=.recvClosed gone }:=fun op hop=>by simpa using hop
      have kQ:∀ op∈MemOp.ofEvents i g.frame.fn g.frame.place es ++ #[{ g:=i,fn:=g₂.frame.fn,pos:=g₂.frame.place,act:=.recvClosed gone }],op.g=i:=fun op hop=>by
        rcases Array.mem_append.1 hop with h|h
        . exact hops es op h
        . rw [hlast op h]
      have hd2:Deaf (T ++ (MemOp.ofEvents i g.frame.fn g.frame.place es ++ #[{ g:=i,fn:=g₂.frame.fn,pos:=g₂.frame.place,act:=.recvClosed gone }])) i=0:=by rw [← Array.append_assoc,Deaf_push];exact hd'
      refine ⟨_,w,_,.fin 8 m' 0,v,wt,sm,hrt,by simp,.inl (.inl rfl),kQ,?_,Gj hlt (.inl (by rw [hst];simp [EC.stage])),by rw [er];simp [IX,cn],.inl ⟨Array.getElem?_setIfInBounds_ne h0,rfl⟩⟩;refine C.put E (.inl (.inl rfl)) hlt h0 kQ (fun op hop b hb hwr x=>?_) (by simp) (fun x hx _=>Array.getElem?_setIfInBounds_ne (fun e=>hx e.symm)) (Array.getElem?_setIfInBounds_self_of_lt hlt) (.leave (hgo w ⟨_,_,C.wg⟩)) (fun e=>by omega) hd2 ?_ C.wg (C.mode.on hlt h0 er zOM zOM) C.few ⟨fun op hop=>?_,fun h=>by omega,fun h=>by omega⟩ (fun _ h=>by omega)
      rotate_right
      . rcases Array.mem_append.1 hop with h | h
        . obtain ⟨e,he,rfl⟩:=Conc.mem_ofEvents h;obtain ⟨x,rfl,_⟩:=hes e he;simp [MemAct.ofEvent]
        . rw [hlast op h];simp
      . rcases Array.mem_append.1 hop with h | h
        . exact hw' op h b hb hwr x
        . rw [hlast op h] at hb;cases hb
      . rw [← Array.append_assoc];refine hp.mute (Sm _ _) (fun op hop=>by rw [hlast op hop]) (fun op hop=>by rw [hlast op hop];rfl) (fun z=>z.elim) fun op hop=>?_;rw [hlast op hop];exact (zGE hcg).1
    . obtain ⟨hp,hd',hw'⟩:=rd1 es hes;exact C.go E hi h0 er hgo (.inl (.inl rfl)) hw' (.seat hK hG') (fun _=>rfl) hd' hp C.wg (C.mode.on hlt h0 er zOM zOM) C.few (.inr ⟨rfl,by omega⟩) (fun a b=>by omega) ⟨fun e he=>by obtain ⟨x,rfl,_⟩:=hes e he;simp [MemAct.ofEvent],fun h=>by omega,fun h=>by omega⟩
  | leave hG=>
    rcases FP (EY w) hG with ⟨_,g',hgo,m',hG'⟩|⟨n',g',w',es,rfl,hgo,⟨rfl,hDA⟩,hG'⟩
    . have hes:∀ e∈(#[Go.ConcR.mk (.releaseMerge (stA Wg))]:Array Event),(MemAct.ofEvent e).touch?=none/\(MemAct.ofEvent e).low (Wg+1):=fun e he=>by simp only [List.mem_toArray,List.mem_cons,List.not_mem_nil,or_false] at he;subst he;exact ⟨rfl,Nat.lt_succ_self _⟩
      obtain ⟨hp,hw'⟩:=mute _ hes;exact C.go E hi h0 er hgo (.inl (.inl rfl)) hw' (.fin zOM (.k1 hG')) (fun e=>by omega) (by rw [Deaf_own,hD];rfl) hp C.wg (C.mode.on hlt h0 er zOM zOM) C.few (.inl zOM) (fun a b=>by omega)
    . obtain ⟨hp,hw'⟩:=mute #[] (by simp);have hwo:Zb Wg w w':=by
        rcases hDA with rfl|⟨o,ho,rfl⟩
        . exact .inl (.inl rfl)
        . exact .inr ⟨o,ho,rfl⟩
      have hwg':WgAt ty Wg w' (v * KK+wt) sm:=by
        rcases hDA with rfl|⟨o,ho,rfl⟩
        . exact C.wg
        . have:=C.wg;unfold WgAt at this ⊢;show (w.heap.push o)[Wg]?=_;rw [Array.getElem?_push,if_neg zOM];exact this
      exact C.go E hi h0 er hgo hwo hw' (.leave hG') (fun e=>by omega) (by rw [Deaf_own,hD];rfl) hp hwg' (C.mode.on hlt h0 er zOM zOM) C.few (.inr ⟨rfl,by omega⟩) (fun a b=>by omega)
  | fin hs7 hF=>
    have dc:∀ {w':World} {es:Array Event},DC0 w w' es->w'=w/\es=#[]:=fun h=>⟨h.1,h.2⟩
    have quiet:∀ (g':Goroutine) (es:Array Event) (m':Nat),stepG P false g w=.go g' w es->Fs P ty Wg s m' (deafBehind d es) g' w->m' < m->(∀ e∈es,(MemAct.ofEvent e).touch?=none/\(MemAct.ofEvent e).low (Wg+1)/\MemAct.ofEvent e≠.mark (.release (stA Wg)))->Xv P ty Wg gone K Still Bd St Shun Loose d0 pz role sm T gs w sl i g:=fun g' es m' hgo hF' hlt' hes=>by
      obtain ⟨hp,hw'⟩:=mute es (fun e he=>⟨(hes e he).1,(hes e he).2.1⟩);refine C.go E hi h0 er hgo (.inl (.inl rfl)) hw' (.fin hs7 hF') (fun e=>e) (by rw [Deaf_own,hD]) hp C.wg (C.mode.congr fun x hx=>?_) C.few (.inr ⟨rfl,hlt'⟩) (fun a b=>by omega) ⟨fun e he=>(hes e he).2.2,fun _ e he b hb=>(by rw [(hes e he).1] at hb;cases hb),fun h6 h7=>absurd h7 zOM⟩;by_cases e:x=i
      . subst e;rw [upd_same,er];exact ⟨rfl,rfl⟩
      . rw [upd_ne _ _ e];exact ⟨rfl,rfl⟩
    have idle:∀ (g':Goroutine) (w':World) (es:Array Event) (m':Nat),stepG P false g w=.go g' w' es->DC0 w w' es->Fs P ty Wg s m' d g' w'->m' < m->Xv P ty Wg gone K Still Bd St Shun Loose d0 pz role sm T gs w sl i g:=fun g' w' es m' hgo hdc hF' hlt'=>by obtain ⟨rfl,rfl⟩:=dc hdc;exact quiet g' #[] m' hgo (by simpa [deafBehind] using hF') hlt' (by simp)
    have lone:∀ {MK sm':Nat},IZ gs.size role pz v wt sm->(s=4\/s=3\/s=2)->pz=true/\v=0/\sm=0/\((s=4\/s=3)->wt=1)/\(s=2->wt=0)/\∀ x,x≠0->x≠i->x < gs.size->(role x).stage=1:=fun {MK sm'} hmo hs=>by
      cases hmo with
      | b0 h1 hc=>exfalso;have:=h1 i h0 hlt;omega
      | b1 hv h1 hc=>exfalso;have:=h1 i h0 hlt;omega
      | b2 L hL hn h1 ho=>
        by_cases e:i=L
        . subst e;exact ⟨rfl,rfl,rfl,fun _=>rfl,fun h2=>by omega,ho⟩
        . exfalso;have:=ho i h0 e hlt;omega
      | b3 L hL hn h1 ho=>
        by_cases e:i=L
        . subst e;exact ⟨rfl,rfl,rfl,fun h2=>by omega,fun _=>rfl,ho⟩
        . exfalso;have:=ho i h0 e hlt;omega
      | b4 ho=>exfalso;have:=ho i h0 hlt;omega
    cases hF with
    | r0 h=>
      rcases FP (EY w) h with ⟨_,g',hgo,m',hG⟩|⟨n',g',w',es,rfl,hgo,Qr,hG⟩
      . have hes:∀ e∈(#[Go.ConcR.mk (.releaseMerge (stA Wg))]:Array Event),(MemAct.ofEvent e).touch?=none/\(MemAct.ofEvent e).low (Wg+1):=fun e he=>by simp only [List.mem_toArray,List.mem_cons,List.not_mem_nil,or_false] at he;subst he;exact ⟨rfl,Nat.lt_succ_self _⟩
        obtain ⟨hp,hw'⟩:=mute _ hes;exact C.go E hi h0 er hgo (.inl (.inl rfl)) hw' (.fin zOM (.k1 hG)) (fun e=>by omega) (by rw [Deaf_own,hD];rfl) hp C.wg (C.mode.on hlt h0 er zOM zOM) C.few (.inl zOM) (fun a b=>by omega)
      . exact idle g' w' es n' hgo Qr (.r0 hG) zOM
    | k1 h=>
      rcases FP (EY w) h with ⟨_,g',hgo,m',hG⟩|⟨n',g',w',es,rfl,hgo,Qr,hG⟩
      . have hes:∀ e∈(#[Go.ConcR.mk .disable]:Array Event),(MemAct.ofEvent e).touch?=none/\(MemAct.ofEvent e).low (Wg+1):=fun e he=>by simp only [List.mem_toArray,List.mem_cons,List.not_mem_nil,or_false] at he;subst he;exact ⟨rfl,trivial⟩
        obtain ⟨hp,hw'⟩:=mute _ hes;exact C.go E hi h0 er hgo (.inl (.inl rfl)) hw' (.fin zOM (.d1 hG)) (fun e=>by omega) (by rw [Deaf_own,hD];rfl) hp C.wg (C.mode.on hlt h0 er zOM zOM) C.few (.inl zOM) (fun a b=>by omega)
      . exact idle g' w' es n' hgo Qr (.k1 hG) zOM
    | d1 h=>
      rcases FP (EY w) h with ⟨_,hadd⟩|⟨n',g',w',es,rfl,hgo,Qr,hG⟩
      . have hmo:=C.mode;have VQ:=C.wg;have O1:=C.few;have hsum:=fun r'=>Nr (role:=role) (r':=r') hlt;have e1:IX (role i)=1:=by rw [er];rfl
        have hev:∀ e∈(#[rd (stA Wg),wr (stA Wg)]:Array Event),e=⟨.cell (stA Wg),false,true⟩\/e=⟨.cell (stA Wg),true,true⟩:=fun e he=>by simpa [rd,wr] using he
        have hp:=C.past.M8 (ad:=stA Wg) (Sm T (MemOp.ofEvents i g.frame.fn g.frame.place #[rd (stA Wg),wr (stA Wg)])) (fun z=>z.elim) E.shun E.apart hWs (by rw [hD];omega) (fn:=g.frame.fn) (pos:=g.frame.place) (es:=#[rd (stA Wg),wr (stA Wg)]) hev;have hw':=qm (stA Wg) #[rd (stA Wg),wr (stA Wg)] E.shun hev;have hdf:Deaf (T ++ MemOp.ofEvents i g.frame.fn g.frame.place #[rd (stA Wg),wr (stA Wg)]) i=1:=by rw [Deaf_own,hD];rfl
        have fM:∀ (h1:∀ x,x≠0->x < gs.size->(5<=(role x).stage/\(role x).stage<=9)\/(role x).stage=1) q x,x≠0->x < gs.size->(5<=(upd role i (.fin 1 q 1) x).stage/\(upd role i (.fin 1 q 1) x).stage<=9)\/(upd role i (.fin 1 q 1) x).stage=1:=fun h1 q x a c=>by
          by_cases e:x=i
          . subst e;rw [upd_same];exact .inr rfl
          . rw [upd_ne _ _ e];exact h1 x a c
        cases hmo with
        | b0 h1 hc=>
          have hpos:1<=v:=by have:=Go.ConcN.le_sumTo (f:=fun a=>IX (role a)) hlt;omega
          obtain ⟨v',rfl⟩:∃ v',v=v'+1:=⟨v - 1,by omega⟩
          obtain ⟨g',hgo,_,hq⟩:=hadd v' 0 zOM zOM (by simpa using VQ);obtain ⟨q,hq⟩:=hq zOM;have hwg':WgAt ty Wg (w.setCell (stA Wg) (.int .u64 ((v':Int) * KK+((0:Nat):Int)))) ((v':Int) * KK+((0:Nat):Int)) ((0:Nat):Int):=by have:=VQ.setSt ((v':Int) * KK+((0:Nat):Int));simpa using this
          refine C.go E hi h0 er hgo (.inl (.inr (.inl ⟨_,rfl⟩))) hw' (.fin zOM (.quit hq)) (fun e=>by omega) hdf hp hwg' (.b0 (fM h1 q) ?_) zOM (.inl zOM) (fun a b=>by omega);have:=hsum (.fin 1 q 1);have e2:IX (.fin 1 q 1)=0:=rfl;omega
        | b1 hv h1 hc=>
          obtain ⟨v',rfl⟩:∃ v',v=v'+1:=⟨v - 1,by omega⟩
          obtain ⟨g',hgo,hlast,hq⟩:=hadd v' 1 zOM zOM (by simpa using VQ);have hwg':WgAt ty Wg (w.setCell (stA Wg) (.int .u64 ((v':Int) * KK+((1:Nat):Int)))) ((v':Int) * KK+((1:Nat):Int)) ((0:Nat):Int):=by have:=VQ.setSt ((v':Int) * KK+((1:Nat):Int));simpa using this
          by_cases hz0:v'=0
          . subst hz0;obtain ⟨m',hG⟩:=hlast ⟨rfl,rfl⟩;refine C.go E hi h0 er hgo (.inl (.inr (.inl ⟨_,rfl⟩))) hw' (.fin zOM (.d2 hG)) (fun e=>by omega) hdf hp hwg' (.b2 i h0 hlt (.inl (by rw [upd_same];rfl)) fun x a b c=>?_) zOM (.inl zOM) (fun a b=>by omega);rw [upd_ne _ _ b];have hx0:IX (role x)=0:=by
              have hs2:=hsum (.fin 1 0 0);have:IX (.fin 1 0 0)=0:=rfl;have hz0:(sumTo gs.size fun a=>IX (upd role i (.fin 1 0 0) a))=0:=by omega
              have:=Go.ConcN.le_sumTo (f:=fun a=>IX (upd role i (.fin 1 0 0) a)) (i:=x) (j:=gs.size) c;simp only [upd_ne role _ b] at this;omega
            obtain ⟨s2,m2,d2,e2⟩:=C.all x a c;have h2:=h1 x a c;rw [e2] at hx0 h2 ⊢;simp only [EC.stage,IX,cn] at hx0 h2 ⊢;split at hx0 <;> omega
          . obtain ⟨q,hq⟩:=hq zOM;refine C.go E hi h0 er hgo (.inl (.inr (.inl ⟨_,rfl⟩))) hw' (.fin zOM (.quit hq)) (fun e=>by omega) hdf hp hwg' (.b1 zOM (fM h1 q) ?_) zOM (.inl zOM) (fun a b=>by omega);have:=hsum (.fin 1 q 1);have e2:IX (.fin 1 q 1)=0:=rfl;omega
        | b2 L hL hn h1 ho=>
          exfalso
          by_cases e:i=L
          . subst e;omega
          . have:=ho i h0 e hlt;omega
        | b3 L hL hn h1 ho=>
          exfalso
          by_cases e:i=L
          . subst e;omega
          . have:=ho i h0 e hlt;omega
        | b4 ho=>exfalso;have:=ho i h0 hlt;omega
      . exact idle g' w' es n' hgo Qr (.d1 hG) zOM
    | d2 h=>
      obtain ⟨rfl,rfl,rfl,hwt,_,ho⟩:=lone (MK:=0) (sm':=0) C.mode (.inl rfl);obtain rfl:=hwt (.inl rfl);rcases FP (EY w) h with ⟨_,hld⟩|⟨n',g',w',es,rfl,hgo,Qr,hG⟩
      . obtain ⟨g',hgo,m',hG⟩:=hld (by simpa using C.wg);have hev:∀ e∈(#[rd (stA Wg)]:Array Event),e=⟨.cell (stA Wg),false,true⟩\/e=⟨.cell (stA Wg),true,true⟩:=fun e he=>by simp [rd] at he;exact .inl he
        exact C.go E hi h0 er hgo (.inl (.inl rfl)) (qm (stA Wg) _ E.shun hev) (.fin zOM (.d3 hG)) (fun e=>by omega) (by rw [Deaf_own,hD];rfl) (C.past.M8 (ad:=stA Wg) (Sm T _) (fun z=>z.elim) E.shun E.apart hWs (by rw [hD];omega) hev) C.wg (.b2 i h0 hlt (.inr (by rw [upd_same];rfl)) fun x a b c=>by rw [upd_ne _ _ b];exact ho x a b c) C.few (.inl zOM) (fun a b=>by omega)
      . exact idle g' w' es n' hgo Qr (.d2 hG) zOM
    | d3 h=>
      obtain ⟨rfl,rfl,rfl,hwt,_,ho⟩:=lone (MK:=0) (sm':=0) C.mode (.inr (.inl rfl));obtain rfl:=hwt (.inr rfl);rcases FP (EY w) h with ⟨_,nJ⟩|⟨n',g',w',es,rfl,hgo,Qr,hG⟩
      . obtain ⟨g',hgo,m',hG⟩:=nJ (by simpa using C.wg);have hev:∀ e∈(#[wr (stA Wg)]:Array Event),e=⟨.cell (stA Wg),false,true⟩\/e=⟨.cell (stA Wg),true,true⟩:=fun e he=>by simp [wr] at he;exact .inr he
        exact C.go E hi h0 er hgo (.inl (.inr (.inl ⟨_,rfl⟩))) (qm (stA Wg) _ E.shun hev) (.fin zOM (.d4 hG)) (fun e=>by omega) (by rw [Deaf_own,hD];rfl) (C.past.M8 (ad:=stA Wg) (Sm T _) (fun z=>z.elim) E.shun E.apart hWs (by rw [hD];omega) hev) (by have:=C.wg.setSt 0;simpa using this) (.b3 i h0 hlt (by rw [upd_same];rfl) fun x a b c=>by rw [upd_ne _ _ b];exact ho x a b c) C.few (.inl zOM) (fun a b=>by omega)
      . exact idle g' w' es n' hgo Qr (.d3 hG) zOM
    | d4 h=>
      obtain ⟨rfl,rfl,rfl,_,hwt,ho⟩:=lone (MK:=0) (sm':=0) C.mode (.inr (.inr rfl));obtain rfl:=hwt rfl;rcases FP (EY w) h with ⟨_,hmw,hrel⟩|⟨n',g',w',es,rfl,hgo,Qr,hG⟩
      . obtain ⟨g',hgo,q,hq⟩:=hrel (by simpa using C.wg);obtain ⟨hp,hdf⟩:=C.past.sem (Kf:=fun T=>Knows T 0) rfl Sm (fun z=>z.elim) E.RA E.apart (show (smA Wg).block < _ from hWs) g.frame.fn g.frame.place;refine C.go E hi h0 er hgo (.inl (.inr (.inr ⟨_,rfl⟩))) (fun op hop b hb hwr x hx=>?_) (.fin zOM (.quit hq)) (fun e=>by omega) (by rw [hdf,hD]) hp (by have:=C.wg.setSm 1;simpa using this) (.b4 fun x a c=>?_) C.few (.inl zOM) (fun a b=>⟨hmw,by rcases hq.status with z | z <;> rw [z] <;> simp⟩)
        . obtain ⟨e,he,rfl⟩:=Conc.mem_ofEvents hop;simp only [semEvents,List.mem_toArray,List.mem_cons,List.not_mem_nil,or_false] at he;rcases he with rfl|rfl|rfl|rfl <;> simp [MemAct.ofEvent,MemAct.touch?] at hb
          all_goals
            subst hb;exact E.apart x _ hx E.RA
        . by_cases e:x=i
          . subst e;rw [upd_same];rfl
          . rw [upd_ne _ _ e];exact ho x a e c
      . exact idle g' w' es n' hgo Qr (.d4 hG) zOM
    | quit h=>
      cases m with
      | zero=>rw [h.1] at hrun;cases hrun
      | succ m=>
        rcases h with ⟨hf,_⟩|⟨_,g',es,hm,hgo,hq⟩
        . rw [hf] at hrun;cases hrun
        . exact quiet g' es m (hgo w) (.quit hq) zOM fun e he=>⟨touch_mute (hm e he),low_mute (hm e he) _,fun h=>by have:=hm e he;obtain ⟨l,a,b⟩:=e;cases l <;> cases a <;> cases b <;> simp_all [MemAct.ofEvent,Event.mute]⟩
end
end
section
inductive QP | pre | loop (v:Nat) | seen (v:Nat) | sem | last | out | hear
inductive JM (P:Program)(ty:TypeId)(Wg n:Nat)(Stop:Goroutine->Prop):QP->Goroutine->Prop
  | idle {p:QP} {g g':Goroutine} (hs:g.status=.running) (h:∀ w,WgLive ty Wg w->stepG P true g w=.go g' w #[]) (k:JM P ty Wg n Stop p g'):JM P ty Wg n Stop p g
  | said {p:QP} {g g':Goroutine} {m:Mark} (hm:Says Wg m) (hr:m≠.release (stA Wg)) (hs:g.status=.running) (h:∀ w,WgLive ty Wg w->stepG P true g w=.go g' w #[mk m]) (k:JM P ty Wg n Stop p g'):JM P ty Wg n Stop p g
  | Zd {g g':Goroutine} (hs:g.status=.running) (h:∀ w,WgLive ty Wg w->stepG P true g w=.go g' w #[mk .disable]) (k:JM P ty Wg n Stop (.loop n) g'):JM P ty Wg n Stop .pre g
  | load {v:Nat} {g:Goroutine} {g':Nat->Goroutine} (hs:g.status=.running) (h:∀ (w:World) (v':Nat),v' < 2147483648->WgAt ty Wg w (v' * KK) 0->stepG P true g w=.go (g' v') w #[rd (stA Wg)])
      (k0:JM P ty Wg n Stop .out (g' 0)) (k1:∀ v',v'<=v->v'≠0->v' < 2147483648->JM P ty Wg n Stop (.seen v') (g' v')):JM P ty Wg n Stop (.loop v) g
  | cas {v:Nat} {g gh gm:Goroutine} (hs:g.status=.running) (hv:v≠0) (h:∀ w,WgAt ty Wg w (v * KK) 0->stepG P true g w=.go gh (w.setCell (stA Wg) (.int .u64 (v * KK+1))) #[rd (stA Wg),wr (stA Wg)])
      (m:∀ (w:World) (v':Nat),v' < v->WgAt ty Wg w (v' * KK) 0->stepG P true g w=.go gm w #[rd (stA Wg)]) (kh:JM P ty Wg n Stop .sem gh) (km:∀ v',v' < v->JM P ty Wg n Stop (.loop v') gm):JM P ty Wg n Stop (.seen v) g
  | acq {g g':Goroutine} (hs:g.status=.running) (ho:g.offers=none) (hb:∀ w,(∃ st,WgAt ty Wg w st 0)->stepG P true g w=.go { g with status:=.blocked } w #[])
      (h:∀ w,WgAt ty Wg w 0 1->stepG P true g w=.go g' (w.setCell (smA Wg) (.int .u32 0)) (semEvents (smA Wg))) (k:JM P ty Wg n Stop .last g'):JM P ty Wg n Stop .sem g
  | last {g g':Goroutine} (hs:g.status=.running) (h:∀ w,WgAt ty Wg w 0 0->stepG P true g w=.go g' w #[rd (stA Wg)]) (k:JM P ty Wg n Stop .out g'):JM P ty Wg n Stop .last g
  | en {g g':Goroutine} (hs:g.status=.running) (h:∀ w,WgLive ty Wg w->stepG P true g w=.go g' w #[mk .enable]) (k:JM P ty Wg n Stop .hear g'):JM P ty Wg n Stop .out g
  | heard {g g':Goroutine} (hs:g.status=.running) (h:∀ w,WgLive ty Wg w->stepG P true g w=.go g' w #[mk (.acquire (stA Wg))]) (k:Stop g'):JM P ty Wg n Stop .hear g
structure Ut (Wg:Nat)(w w':World):Prop where
  os:w'.os=w.os
  output:w'.output=w.output
  size:w.heap.size<=w'.heap.size
  block:∀ b,b≠Wg->b < w.heap.size->w'.heap[b]?=w.heap[b]?
theorem Ut.refl (Wg:Nat)(w:World):Ut Wg w w:=⟨rfl,rfl,Nat.le_refl _,fun _ _ _=>rfl⟩
theorem Ut.trans {Wg:Nat}{a b c:World}(h:Ut Wg a b)(k:Ut Wg b c):Ut Wg a c:=⟨k.os.trans h.os,k.output.trans h.output,Nat.le_trans h.size k.size,fun x hx hl=>(k.block x hx (Nat.lt_of_lt_of_le hl h.size)).trans (h.block x hx hl)⟩
theorem Ut.of {Wg:Nat}{w w':World}(h:Zb Wg w w'):Ut Wg w w':=⟨by
  rcases h with h|⟨o,_,rfl⟩
  . rcases h with rfl | ⟨x,rfl⟩ | ⟨x,rfl⟩ <;> rfl
  . rfl,by
  rcases h with h|⟨o,_,rfl⟩
  . rcases h with rfl | ⟨x,rfl⟩ | ⟨x,rfl⟩ <;> rfl
  . rfl,h.size,fun b hb hl=>h.block hb hl⟩
theorem Ut.at (Wg:Nat)(w:World)(d:Nat):Ut Wg w (w.at d):=⟨rfl,rfl,Nat.le_refl _,fun _ _ _=>rfl⟩
section
variable {P:Program}{ty:TypeId}{Wg gone d0:Nat}{K:Nat->World->Prop}{Still:Nat->Loc->Prop}{Bd:Nat->Nat}{St:Nat->Seat}{Shun:Loc->Prop}{Loose:Nat->Prop}{role:Nat->EC}{pz:Bool}{v wt sm:Nat}{T:Trace}{gs:Array Goroutine}{w:World}
theorem Lp.at (E:QY Wg K Still Shun)(C:Lp P ty Wg gone K Still Bd St Shun Loose d0 pz role v wt sm T gs w)(d:Nat):Lp P ty Wg gone K Still Bd St Shun Loose d0 pz role v wt sm T gs (w.at d):=
  ⟨fun i g s m dd h0 hg e=>let ⟨a,b⟩:=C.Gz i g s m dd h0 hg e;⟨a.rely (E.kat i w d) (Lg ty Wg ⟨_,_,C.wg⟩ ⟨_,_,C.wg⟩),b⟩,C.nine,C.chan,C.all,C.zero,C.deaf0,C.above,C.past,C.tight,C.wg,C.mode,C.few,C.rel⟩
theorem IZ.open {n:Nat}(h:IZ n role false v wt sm):wt=0/\sm=0/\(∀ i,i≠0->i < n->(5<=(role i).stage/\(role i).stage<=9)\/(role i).stage=1)/\v=sumTo n fun i=>IX (role i):=by
  cases h with
  | b0 hs hc=>exact ⟨rfl,rfl,hs,hc⟩
theorem Lp.OT (E:QY Wg K Still Shun)(C:Lp P ty Wg gone K Still Bd St Shun Loose d0 pz role v wt sm T gs w){a a':Goroutine}{w':World}{fn:FuncId}{pos:String}{es:Array Event}{d1 v' MK sm':Nat}{zJ:Bool}(ha:gs[0]?=some a)(hw:Jf Wg w w')(hes:∀ e∈es,(∀ b,(MemAct.ofEvent e).touch?=some b->Shun b.loc/\b.kind≠.plain)/\(MemAct.ofEvent e).low (Wg+1)/\MemAct.ofEvent e≠.mark (.release (stA Wg)))(hd:Deaf (T ++ MemOp.ofEvents 0 fn pos es) 0=d1)(hwg:WgAt ty Wg w' (v' * KK+MK) sm')(hm:IZ gs.size role zJ v' MK sm')(hf:v' < 2147483648) :
    Lp P ty Wg gone K Still Bd St Shun Loose d1 zJ role v' MK sm' (T ++ MemOp.ofEvents 0 fn pos es) ((gs.map (woken P a a' w')).setIfInBounds 0 a') w'/\((gs.map (woken P a a' w')).setIfInBounds 0 a')[0]?=some a':=by
  have hlt:0 < gs.size:=(zGE ha).1;have hrx:=Lg ty Wg ⟨_,_,C.wg⟩ ⟨_,_,hwg⟩;have hops:∀ op∈MemOp.ofEvents 0 fn pos es,op.g=0:=fun op hop=>by obtain ⟨e,_,rfl⟩:=Conc.mem_ofEvents hop;rfl
  have hD:∀ x,x≠0->Deaf (T ++ MemOp.ofEvents 0 fn pos es) x=Deaf T x:=fun x hx=>Deaf_other T (fun z=>hx z.symm) _ hops;have hwo:Zb Wg w w':=.inl hw;have hWs:Wg < w.heap.size:=(zGE C.wg).1;have lt:∀ {g:Nat} {o},w.heap[g]?=some o->g < w.heap.size:=fun h=>(zGE h).1;have mh:∀ op∈MemOp.ofEvents 0 fn pos es,∀ b,op.act.touch?=some b->Shun b.loc/\b.kind≠.plain:=fun op hop b hb=>by obtain ⟨e,he,rfl⟩:=Conc.mem_ofEvents hop;exact (hes e he).1 b hb
  have hp:FI Still Shun (fun _=>False) Loose w.heap.size (Knows (T ++ MemOp.ofEvents 0 fn pos es) 0) (T ++ MemOp.ofEvents 0 fn pos es):=C.past.hold C.tight hops (fun op hop b hb=>⟨fun g _ hS=>absurd (mh op hop b hb).1 (E.apart g _ hS),fun _=>(mh op hop b hb).2⟩) (fun z=>z.elim) fun op hop=>by obtain ⟨e,he,rfl⟩:=Conc.mem_ofEvents hop;exact MemAct.low_mono hWs (hes e he).2.1
  refine ⟨⟨fun x y s m d hx hy e=>?_,fun x hx hlx eD=>?_,?_,fun x hx hlx=>C.all x hx (by simpa using hlx),C.zero,hd,fun j hj=>?_,hp.mono hwo.size,C.tight,hwg,by simpa using hm,hf,fun j b hb hmem=>?_⟩,Array.getElem?_setIfInBounds_self_of_lt (by simpa using hlt)⟩
  rotate_right
  . rcases hp.known j b hb hmem with hk | ⟨_,g,hg,hl,hS⟩ | hk
    . exact .inl hk
    . obtain ⟨x,hx,hxa⟩:=touch_of hb;rcases getElem?_append_cases hx with ⟨hlt',hx'⟩|⟨_,hxu⟩
      . rcases C.rel j b (by rw [touchAt_of hx'];exact hxa) hmem with hk | ⟨g',k1,k2,k3,k4⟩ | hk | ⟨hk,_,_⟩
        . exact .inl (hk.app _)
        . exact .inr (.inl ⟨g',by rw [g?_old _ hlt'];exact k1,k2,by simpa using k3,k4⟩)
        . refine .inr (.inr (.inl (hk.app fun op hop=>?_)));obtain ⟨e,he,rfl⟩:=Conc.mem_ofEvents hop;exact (hes e he).2.2
        . exact absurd hk (E.apart _ _ hS)
      . have:=knows_own hx;rw [hops x hxu] at this;exact .inl this
    . exact .inr (.inr (.inr hk))
  . rw [Array.getElem?_setIfInBounds_ne (fun z=>hx z.symm),Array.getElem?_map] at hy;obtain ⟨y0,hy0,rfl⟩:=Option.map_eq_some_iff.1 hy;obtain ⟨a1,a2⟩:=C.Gz x y0 s m d hx hy0 e;rw [woken_of_again (again_of_running a1.status w'),hD x hx];exact ⟨a1.rely (hwo.keep E x) hrx,a2⟩
  . obtain ⟨a1,a2,a3,a4,a5⟩:=C.nine x hx (by simpa using hlx) eD;refine ⟨a1,Nat.le_trans a2 hwo.size,a3.app fun op hop b hb _ hS=>E.apart x _ hS (mh op hop b hb).1,a4,fun c hc hne=>?_⟩;obtain ⟨b1,k,hk⟩:=a5 c hc hne;exact ⟨b1,k,by rw [hwo.block b1 (lt hk)];exact hk⟩
  . obtain ⟨h1,k,hk⟩:=C.chan;exact ⟨h1,k,by rw [hwo.block h1 (lt hk)];exact hk⟩
  . have hj':gs.size<=j:=by simpa using hj
    rw [hD j zOM];exact C.above j hj'
theorem Lp.awake (C:Lp P ty Wg gone K Still Bd St Shun Loose d0 pz role v wt sm T gs w){a:Goroutine}(ha:gs[0]?=some a)(hs:a.status=.running\/a.status=.blocked):∀ g∈gs,awake g:=by
  intro g hg;obtain ⟨i,hi,rfl⟩:=Array.mem_iff_getElem.1 hg;by_cases h0:i=0
  . subst h0;have:gs[0]=a:=by simpa [Array.getElem?_eq_getElem hi] using ha
    rw [this];exact awake_of (hs.imp id .inl)
  . obtain ⟨s,m,d,e⟩:=C.all i h0 hi;exact awake_of ((C.Gz i _ s m d h0 (Array.getElem?_eq_getElem hi) e).1.status.imp id .inr)
theorem rE {n i:Nat}{r':EC}(hi:i < n)(h:IX r'<=IX (role i)):(sumTo n fun a=>IX (upd role i r' a))<=sumTo n fun a=>IX (role a):=by have:=Nr (role:=role) (r':=r') hi;omega
theorem Lp.picked (E:QY Wg K Still Shun){a:Goroutine}(hrun:a.status=.running):∀ (m1 m2:Nat) {role:Nat->EC} {v wt sm:Nat} {T:Trace} {gs:Array Goroutine} {w:World} {sl:Option (Nat × Nat)},M1 gs.size role=m1->M2 gs.size role=m2->gs[0]?=some a->
    Lp P ty Wg gone K Still Bd St Shun Loose d0 pz role v wt sm T gs w->
    ∃ N gs' w' d sl' sl'' T' ER v' MK sm',runNT P N (crowd gs w sl) T=(.next (crowd gs' w' sl'),T')/\stepT P (crowd gs' w' sl')=runT P (crowd gs' (w'.at d) sl'') 0/\gs'.size=gs.size/\gs'[0]?=some a/\
      Lp P ty Wg gone K Still Bd St Shun Loose d0 pz ER v' MK sm' T' gs' (w'.at d)/\Ut Wg w (w'.at d)/\(pz=false->v'<=v):=by
  intro m1;induction m1 using Nat.strongRecOn with
  | _ m1 ih1=>
  intro m2;induction m2 using Nat.strongRecOn with
  | _ m2 ih2=>
  intro role v wt sm T gs w sl hm1 hm2 ha C;obtain ⟨i,g,d,sl',hi,hg,hst⟩:=crowd_pick (P:=P) (w:=w) (sl:=sl) (C.awake ha (.inl hrun)) ⟨0,a,ha,hrun⟩;rcases Nat.eq_zero_or_pos i with rfl|hpos
  . exact ⟨0,gs,w,d,sl,sl',T,role,v,wt,sm,rfl,hst,rfl,ha,C.at E d,.at _ _ _,fun _=>Nat.le_refl _⟩
  . have h0:i≠0:=by omega
    have hlt:i < gs.size:=(zGE hi).1;obtain ⟨gs',w',ops,r',v',MK,sm',hrt,hsz,hw,hops,C',hless,hcn,hz⟩:=(C.at E d).by_step (sl:=sl') E hi h0 hg fun y c hy=>by
      rw [ha] at hy;cases hy
      exact offersAt_of_not_blocked (by rw [hrun];simp) c true
    have ha':gs'[0]?=some a:=by
      rcases hz with ⟨h,_⟩|⟨g',h,_⟩
      . rw [h];exact ha
      . rw [h,ha];show some _=_;rw [woken_of_again (again_of_running (.inl hrun) w')]
    have hv:pz=false->v'<=v:=fun hp=>by subst hp;have h1:=C.mode.open.2.2.2;have h2:=C'.mode.open.2.2.2;have h3:=rE (role:=role) (r':=r') hlt hcn;rw [hsz] at h2;omega
    have key:∃ N FY w₂ d₂ sl₁ sl₂ T' ER v₂ dS dV,runNT P N (crowd gs' w' sl') (T ++ ops)=(.next (crowd FY w₂ sl₁),T')/\stepT P (crowd FY w₂ sl₁)=runT P (crowd FY (w₂.at d₂) sl₂) 0/\FY.size=gs'.size/\FY[0]?=some a/\
        Lp P ty Wg gone K Still Bd St Shun Loose d0 pz ER v₂ dS dV T' FY (w₂.at d₂)/\Ut Wg w' (w₂.at d₂)/\(pz=false->v₂<=v'):=by
      rcases hless with hl|⟨hl1,hl2⟩
      . exact ih1 (M1 gs'.size (upd role i r')) (by rw [hsz,← hm1];exact hl) _ rfl rfl ha' C'
      . exact ih2 (M2 gs'.size (upd role i r')) (by rw [hsz,← hm2];exact hl2) (by rw [hsz,hl1,hm1]) rfl ha' C'
    obtain ⟨N,FY,w₂,d₂,sl₁,sl₂,T',ER,v₂,dS,dV,q1,q2,q3,q4,q5,q6,q7⟩:=key;exact ⟨N+1,FY,w₂,d₂,sl₁,sl₂,T',ER,v₂,dS,dV,by simp only [runNT,hst,hrt];exact q1,q2,q3.trans hsz,q4,q5,((Ut.at Wg w d).trans (.of hw)).trans q6,fun h=>Nat.le_trans (q7 h) (hv h)⟩
end
end
end Go.LK
end
