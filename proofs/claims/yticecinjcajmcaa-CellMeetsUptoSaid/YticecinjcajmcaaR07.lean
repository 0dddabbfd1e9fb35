/-
  Part 7 of the proof that CellMeets returns true, and leaves its arguments as they were, for every input whose reading is of bulk at most 1048576. No further condition.
-/
import Derived.Test.YticecinjcajmcaaR00
import Derived.Test.YticecinjcajmcaaR06
set_option linter.unusedVariables false
set_option linter.unusedSectionVars false
set_option linter.unusedSimpArgs false
noncomputable section
namespace Go.LC
open Go Go.Conc Go.LT
open Go.ConcN (WgLive sumTo upd sumTo_upd upd_ne upd_same)
open Go.ConcR (KK wgBlock WgAt stA smA rd wr mk DC0)
section
section
variable {Still:Nat->Loc->Prop}{Shun:Loc->Prop}{Mem Loose:Nat->Prop}{B:Nat}{K K':Nat->Prop}{t:Trace}
theorem FI.M8 {g:Nat}(H:FI Still Shun Mem Loose B K t)(hK:∀ i,K i->K' i)(hg:¬ Mem g){ad:Addr}(hS:Shun (.cell ad))(hap:∀ g l,Still g l->¬ Shun l)(hB:ad.block < B)(hd:0 < Deaf t g){fn:FuncId}{pos:String}{es:Array Event}(hes:∀ e∈es,e=⟨.cell ad,false,true⟩\/e=⟨.cell ad,true,true⟩):FI Still Shun Mem Loose B K' (t ++ MemOp.ofEvents g fn pos es):=by
  refine H.deaf hK hg (fun op hop=>by obtain ⟨e,_,rfl⟩:=Conc.mem_ofEvents hop;rfl) (fun op hop b hb=>?_) (fun op hop dd=>?_) hd (fun op hop=>?_)
  . obtain ⟨e,he,rfl⟩:=Conc.mem_ofEvents hop;have hloc:b.loc=.cell ad/\b.kind=.atomic:=by rcases hes e he with rfl|rfl <;> (simp only [MemAct.ofEvent,MemAct.touch?,Option.some.injEq] at hb;subst hb;exact ⟨rfl,rfl⟩)
    exact ⟨by rw [hloc.1];exact hS,hloc.2,fun g' hs=>hap g' _ hs (by rw [hloc.1];exact hS)⟩
  . obtain ⟨e,he,rfl⟩:=Conc.mem_ofEvents hop;rcases hes e he with rfl|rfl <;> rfl
  . obtain ⟨e,he,rfl⟩:=Conc.mem_ofEvents hop;rcases hes e he with rfl|rfl <;> exact hB
theorem FI.Wy {g:Nat}(H:FI Still Shun Mem Loose B K t)(hK:∀ i,K i->K' i)(hg:¬ Mem g){fn:FuncId}{pos:String}{m:Mark}(hm:m=.disable\/m=.enable):FI Still Shun Mem Loose B K' (t ++ MemOp.ofEvents g fn pos #[⟨.mark m,false,true⟩]):=by
  refine H.mute hK (fun op hop=>by obtain ⟨e,_,rfl⟩:=Conc.mem_ofEvents hop;rfl) (fun op hop=>?_) (fun z=>absurd z hg) fun op hop=>?_ <;>
  . obtain ⟨e,he,rfl⟩:=Conc.mem_ofEvents hop;simp only [List.mem_toArray,List.mem_cons,List.not_mem_nil,or_false] at he;subst he;rcases hm with rfl|rfl <;> first|rfl|trivial
theorem FI.sem {g:Nat}(H:FI Still Shun Mem Loose B K t){Kf:Trace->Nat->Prop}(hKf:K=Kf t)(Sm:∀ t u i,Kf t i->Kf (t ++ u) i)(hg:¬ Mem g){ad:Addr}(hS:Shun (.cell ad))(hap:∀ g l,Still g l->¬ Shun l)(hB:ad.block < B)(fn:FuncId)(pos:String) :
    FI Still Shun Mem Loose B (Kf (t ++ MemOp.ofEvents g fn pos (semEvents ad))) (t ++ MemOp.ofEvents g fn pos (semEvents ad))/\Deaf (t ++ MemOp.ofEvents g fn pos (semEvents ad)) g=Deaf t g:=by
  have e1:MemOp.ofEvents g fn pos (semEvents ad)=MemOp.ofEvents g fn pos #[⟨.mark .disable,false,true⟩] ++ (MemOp.ofEvents g fn pos #[⟨.cell ad,false,true⟩,⟨.cell ad,true,true⟩] ++ MemOp.ofEvents g fn pos #[⟨.mark .enable,false,true⟩]):=by simp [ofEvents_eq,semEvents]
  subst hKf;have p1:=H.Wy (Sm t (MemOp.ofEvents g fn pos #[⟨.mark .disable,false,true⟩])) hg (fn:=fn) (pos:=pos) (.inl rfl);have d1:Deaf (t ++ MemOp.ofEvents g fn pos #[⟨.mark .disable,false,true⟩]) g=Deaf t g+1:=by rw [Deaf_own];rfl
  have p2:=p1.M8 (Sm _ (MemOp.ofEvents g fn pos #[⟨.cell ad,false,true⟩,⟨.cell ad,true,true⟩])) hg hS hap hB zOM (fn:=fn) (pos:=pos) (es:=#[⟨.cell ad,false,true⟩,⟨.cell ad,true,true⟩]) (fun e he=>by simpa using he);have d2:Deaf (t ++ MemOp.ofEvents g fn pos #[⟨.mark .disable,false,true⟩] ++ MemOp.ofEvents g fn pos #[⟨.cell ad,false,true⟩,⟨.cell ad,true,true⟩]) g=Deaf t g+1:=by rw [Deaf_own,d1];rfl
  have p3:=p2.Wy (Sm _ (MemOp.ofEvents g fn pos #[⟨.mark .enable,false,true⟩])) hg (fn:=fn) (pos:=pos) (.inr rfl);have d3:Deaf (t ++ MemOp.ofEvents g fn pos #[⟨.mark .disable,false,true⟩] ++ MemOp.ofEvents g fn pos #[⟨.cell ad,false,true⟩,⟨.cell ad,true,true⟩] ++ MemOp.ofEvents g fn pos #[⟨.mark .enable,false,true⟩]) g=Deaf t g:=by rw [Deaf_own,d2];rfl
  rw [e1,← Array.append_assoc,← Array.append_assoc];exact ⟨p3,d3⟩
end
def IX:EC->Nat
  | .fin s _ _=>cn s
  | _=>0
inductive L6 (n:Nat)(role:Nat->EC):Nat->Nat->Nat->Prop
  | b1 {v:Nat} (hv:1<=v) (hs:∀ i,i≠0->i < n->(role i).stage=7\/(role i).stage=6\/(role i).stage=5\/(role i).stage=1) (hc:v=sumTo n fun i=>IX (role i)):L6 n role v 1 0
  | b2 (L:Nat) (hL:L≠0) (hLn:L < n) (hs:(role L).stage=4\/(role L).stage=3) (ho:∀ i,i≠0->i≠L->i < n->(role i).stage=1):L6 n role 0 1 0
  | b3 (L:Nat) (hL:L≠0) (hLn:L < n) (hs:(role L).stage=2) (ho:∀ i,i≠0->i≠L->i < n->(role i).stage=1):L6 n role 0 0 0
  | b4 (ho:∀ i,i≠0->i < n->(role i).stage=1):L6 n role 0 0 1
structure Xa (P:Program)(ty:TypeId)(Wg:Nat)(K:Nat->World->Prop)(Still:Nat->Loc->Prop)(Shun:Loc->Prop)(Mem Loose:Nat->Prop)(role:Nat->EC)(v wt sm:Nat)(T:Trace)(gs:Array Goroutine)(w:World):Prop where
  Gz:∀ i g s m d,i≠0->gs[i]?=some g->role i=.fin s m d->Fs P ty Wg s m d g w/\Deaf T i=d/\¬ Mem i
  all:∀ i,i≠0->i < gs.size->∃ s m d,role i=.fin s m d
  zero:IX (role 0)=0
  qJ:¬ Mem 0
  deaf0:Deaf T 0=1
  above:∀ j,gs.size<=j->Deaf T j=0
  past:FI Still Shun Mem Loose w.heap.size (Knows T 0) T
  tight:¬ Loose 0
  wg:WgAt ty Wg w (v * KK+wt) sm
  mode:L6 gs.size role v wt sm
  few:v < 2147483648
def Jf (Wg:Nat)(w w':World):Prop:=w'=w\/(∃ x,w'=w.setCell (stA Wg) x)\/∃ x,w'=w.setCell (smA Wg) x
theorem Jf.size {Wg:Nat}{w w':World}(h:Jf Wg w w'):w'.heap.size=w.heap.size:=by rcases h with rfl|⟨x,rfl⟩|⟨x,rfl⟩ <;> simp [World.setCell]
theorem Jf.Xg {ty:TypeId}{Wg:Nat}{w w':World}(h:Jf Wg w w')(hl:WgLive ty Wg w')(hl0:WgLive ty Wg w):F8 ty Wg w w':=by
  refine ⟨?_,?_,?_,h.size,fun b hb=>?_,fun _=>hl,.inl hl0⟩
  . rcases h with rfl | ⟨x,rfl⟩ | ⟨x,rfl⟩ <;> rfl
  . rcases h with rfl | ⟨x,rfl⟩ | ⟨x,rfl⟩ <;> rfl
  . rcases h with rfl | ⟨x,rfl⟩ | ⟨x,rfl⟩ <;> rfl
  . rcases h with rfl | ⟨x,rfl⟩ | ⟨x,rfl⟩ <;> simp [World.setCell,stA,smA,Array.getElem?_modify,Ne.symm hb]
structure Env2 (Wg:Nat)(K:Nat->World->Prop)(Still:Nat->Loc->Prop)(Shun:Loc->Prop):Prop extends Env Wg K Still Shun where
  RA:Shun (.cell (smA Wg))
section
variable {P:Program}{ty:TypeId}{Wg:Nat}{K:Nat->World->Prop}{Still:Nat->Loc->Prop}{Bd:Nat->Nat}{Shun:Loc->Prop}{Quiet Sp Mem Loose:Nat->Prop}{role:Nat->EC}{v wt sm:Nat}{T:Trace}{gs:Array Goroutine}{w:World}
theorem Xa.put (E:Env2 Wg K Still Shun)(C:Xa P ty Wg K Still Shun Mem Loose role v wt sm T gs w){i:Nat}{g g':Goroutine}{s' m' d' v' MK sm':Nat}{w':World}{ops:Trace}(hw:Jf Wg w w')(hi:gs[i]?=some g)(h0:i≠0)(hops:∀ op∈ops,op.g=i)(hF:Fs P ty Wg s' m' d' g' w')(hd:Deaf (T ++ ops) i=d')(hp:FI Still Shun Mem Loose w.heap.size (Knows (T ++ ops) 0) (T ++ ops))(hwg:WgAt ty Wg w' (v' * KK+MK) sm')(hm:L6 gs.size (upd role i (.fin s' m' d')) v' MK sm')(hf:v' < 2147483648) :
    Xa P ty Wg K Still Shun Mem Loose (upd role i (.fin s' m' d')) v' MK sm' (T ++ ops) ((gs.map (woken P g g' w')).setIfInBounds i g') w':=by
  have hlt:i < gs.size:=(zGE hi).1;have hrx:=Lg ty Wg ⟨_,_,C.wg⟩ ⟨_,_,hwg⟩;have hD:∀ x,x≠i->Deaf (T ++ ops) x=Deaf T x:=fun x hx=>Deaf_other T (fun z=>hx z.symm) _ hops;have hM:¬ Mem i:=by obtain ⟨s,m,d,e⟩:=C.all i h0 hlt;exact (C.Gz i g s m d h0 hi e).2.2
  refine ⟨fun x y s m d hx hy e=>?_,fun x hx hlx=>?_,?_,C.qJ,by rw [hD 0 (Ne.symm h0)];exact C.deaf0,fun j hj=>?_,by rw [hw.size];exact hp,C.tight,hwg,by simpa using hm,hf⟩
  . by_cases ex:x=i
    . subst ex;rw [upd_same] at e;cases e
      rw [Array.getElem?_setIfInBounds_self_of_lt (by simpa using hlt)] at hy;obtain rfl:=Option.some.inj hy;exact ⟨hF,hd,hM⟩
    . rw [upd_ne role _ ex] at e;rw [Array.getElem?_setIfInBounds_ne (fun z=>ex z.symm),Array.getElem?_map] at hy;obtain ⟨y0,hy0,rfl⟩:=Option.map_eq_some_iff.1 hy;obtain ⟨a1,a2,a3⟩:=C.Gz x y0 s m d hx hy0 e;rw [woken_of_again (again_of_running a1.status w'),hD x ex];exact ⟨a1.rely hrx,a2,a3⟩
  . by_cases ex:x=i
    . subst ex;exact ⟨_,_,_,upd_same _ _ _⟩
    . rw [upd_ne role _ ex];exact C.all x hx (by simpa using hlx)
  . rw [upd_ne role _ (Ne.symm h0)];exact C.zero
  . have hj':gs.size<=j:=by simpa using hj
    rw [hD j zOM];exact C.above j hj'
theorem L6.congr {n:Nat}{r r':Nat->EC}{v wt sm:Nat}(h:L6 n r v wt sm)(hs:∀ i,i < n->(r' i).stage=(r i).stage/\IX (r' i)=IX (r i)):L6 n r' v wt sm:=by
  cases h with
  | b1 hv h1 hc=>exact .b1 hv (fun i h0 hi=>by rw [(hs i hi).1];exact h1 i h0 hi) (by rw [hc];exact Go.ConcN.sumTo_congr fun i hi=>((hs i hi).2).symm)
  | b2 L hL hn h1 ho=>exact .b2 L hL hn (by rw [(hs L hn).1];exact h1) fun i a b c=>by rw [(hs i c).1];exact ho i a b c
  | b3 L hL hn h1 ho=>exact .b3 L hL hn (by rw [(hs L hn).1];exact h1) fun i a b c=>by rw [(hs i c).1];exact ho i a b c
  | b4 ho=>exact .b4 fun i a c=>by rw [(hs i c).1];exact ho i a c
theorem Nr {n i:Nat}{role:Nat->EC}{r':EC}(hi:i < n):(sumTo n fun a=>IX (upd role i r' a))+IX (role i)=(sumTo n fun a=>IX (role a))+IX r':=sumTo_upd role r' IX hi
theorem Xa.by_step (E:Env2 Wg K Still Shun)(C:Xa P ty Wg K Still Shun Mem Loose role v wt sm T gs w){i:Nat}{g:Goroutine}{sl:Option (Nat × Nat)}(hi:gs[i]?=some g)(h0:i≠0)(hrun:g.status=.running) :
    ∃ g' w' ops r' v' MK sm',runT P (crowd gs w sl) i=(.next (crowd ((gs.map (woken P g g' w')).setIfInBounds i g') w' sl),ops)/\Jf Wg w w'/\Xa P ty Wg K Still Shun Mem Loose (upd role i r') v' MK sm' (T ++ ops) ((gs.map (woken P g g' w')).setIfInBounds i g') w'/\
      Less gs.size (upd role i r') role/\(sm'=1->sm=0->mayWake P g=true/\g'.status≠.blocked/\g'.status≠.waiting):=by
  have hlt:i < gs.size:=(zGE hi).1;have hi0:(i == 0)=false:=by simp;omega
  obtain ⟨s,m,d,er⟩:=C.all i h0 hlt;obtain ⟨hF,hD,hM⟩:=C.Gz i g s m d h0 hi er;have hst:(role i).stage=s:=by rw [er];rfl
  have hops:∀ (es:Array Event),∀ op∈MemOp.ofEvents i g.frame.fn g.frame.place es,op.g=i:=fun es op hop=>by obtain ⟨e,_,rfl⟩:=Conc.mem_ofEvents hop;rfl
  have hWs:Wg < w.heap.size:=(zGE C.wg).1;have Sm:∀ (t u:Trace) i,Knows t 0 i->Knows (t ++ u) 0 i:=fun t u i=>Knows.app u;have dc:∀ {w':World} {es:Array Event},DC0 w w' es->w'=w/\es=#[]:=fun h=>⟨h.1,h.2⟩
  have quiet:∀ (g':Goroutine) (es:Array Event) (m':Nat),stepG P false g w=.go g' w es->Fs P ty Wg s m' (deafBehind d es) g' w->m' < m->(∀ e∈es,(MemAct.ofEvent e).touch?=none/\(MemAct.ofEvent e).low (Wg+1))->
      ∃ g' w' ops r' v' MK sm',runT P (crowd gs w sl) i=(.next (crowd ((gs.map (woken P g g' w')).setIfInBounds i g') w' sl),ops)/\Jf Wg w w'/\Xa P ty Wg K Still Shun Mem Loose (upd role i r') v' MK sm' (T ++ ops) ((gs.map (woken P g g' w')).setIfInBounds i g') w'/\
      Less gs.size (upd role i r') role/\(sm'=1->sm=0->mayWake P g=true/\g'.status≠.blocked/\g'.status≠.waiting):=by
    intro g' es m' hgo hF' hlt' hes;refine ⟨g',w,_,.fin s m' (deafBehind d es),v,wt,sm,runT_crowd_go (sl:=sl) hi (by rw [hi0];exact hgo),.inl rfl,C.put E (.inl rfl) hi h0 (hops es) hF' (by rw [Deaf_own,hD]) ?_ C.wg (C.mode.congr fun x hx=>?_) C.few,Gj hlt (.inr ⟨hst.symm,by rw [er];exact hlt'⟩),fun a b=>by omega⟩
    . refine C.past.mute (Sm T _) (hops es) (fun op hop=>?_) (fun z=>absurd z hM) fun op hop=>?_
      . obtain ⟨e,he,rfl⟩:=Conc.mem_ofEvents hop;exact (hes e he).1
      . obtain ⟨e,he,rfl⟩:=Conc.mem_ofEvents hop;exact MemAct.low_mono hWs (hes e he).2
    . by_cases e:x=i
      . subst e;rw [upd_same,er];exact ⟨rfl,rfl⟩
      . rw [upd_ne _ _ e];exact ⟨rfl,rfl⟩
  have idle:∀ (g':Goroutine) (w':World) (es:Array Event) (m':Nat),stepG P false g w=.go g' w' es->DC0 w w' es->Fs P ty Wg s m' d g' w'->m' < m->
      ∃ g' w' ops r' v' MK sm',runT P (crowd gs w sl) i=(.next (crowd ((gs.map (woken P g g' w')).setIfInBounds i g') w' sl),ops)/\Jf Wg w w'/\Xa P ty Wg K Still Shun Mem Loose (upd role i r') v' MK sm' (T ++ ops) ((gs.map (woken P g g' w')).setIfInBounds i g') w'/\
      Less gs.size (upd role i r') role/\(sm'=1->sm=0->mayWake P g=true/\g'.status≠.blocked/\g'.status≠.waiting):=by
    intro g' w' es m' hgo hdc hF' hlt';obtain ⟨rfl,rfl⟩:=dc hdc;exact quiet g' #[] m' hgo (by simpa [deafBehind] using hF') hlt' (by simp)
  have hmark:∀ (s':Nat),(s=7/\s'=6)\/(s=6/\s'=5)->L6 gs.size role v wt sm->∀ m' d',L6 gs.size (upd role i (.fin s' m' d')) v wt sm:=by
    intro s' hs' hmo m' d';cases hmo with
    | b1 hv h1 hc=>
      refine .b1 hv (fun x a b=>?_) ?_
      . by_cases e:x=i
        . subst e;rw [upd_same];rcases hs' with ⟨_,rfl⟩ | ⟨_,rfl⟩ <;> simp [EC.stage]
        . rw [upd_ne _ _ e];exact h1 x a b
      . have:=Nr (role:=role) (r':=.fin s' m' d') hlt;have e1:IX (role i)=1:=by rw [er];rcases hs' with ⟨rfl,_⟩ | ⟨rfl,_⟩ <;> rfl
        have e2:IX (.fin s' m' d')=1:=by rcases hs' with ⟨_,rfl⟩ | ⟨_,rfl⟩ <;> rfl
        omega
    | b2 L hL hn h1 ho=>
      exfalso
      by_cases e:i=L
      . subst e;omega
      . have:=ho i h0 e hlt;omega
    | b3 L hL hn h1 ho=>
      exfalso
      by_cases e:i=L
      . subst e;omega
      . have:=ho i h0 e hlt;omega
    | b4 ho=>exfalso;have:=ho i h0 hlt;omega
  cases hF with
  | r0 h=>
    rcases FP (EY w) h with ⟨_,g',hgo,m',hG⟩|⟨n',g',w',es,rfl,hgo,Qr,hG⟩
    . refine ⟨g',w,_,.fin 6 m' 0,v,wt,sm,runT_crowd_go (sl:=sl) hi (by rw [hi0];exact hgo),.inl rfl,C.put E (.inl rfl) hi h0 (hops _) (.k1 hG) (by rw [Deaf_own,hD];rfl) ?_ C.wg (hmark 6 (.inl ⟨rfl,rfl⟩) C.mode _ _) C.few,Gj hlt (.inl (by rw [hst];simp [EC.stage])),fun a b=>by omega⟩
      refine C.past.mute (Sm T _) (hops _) (fun op hop=>?_) (fun z=>absurd z hM) fun op hop=>?_ <;>
      . obtain ⟨e,he,rfl⟩:=Conc.mem_ofEvents hop;simp only [List.mem_toArray,List.mem_cons,List.not_mem_nil,or_false] at he;subst he;first | rfl | exact hWs
    . exact idle g' w' es n' hgo Qr (.r0 hG) zOM
  | k1 h=>
    rcases FP (EY w) h with ⟨_,g',hgo,m',hG⟩|⟨n',g',w',es,rfl,hgo,Qr,hG⟩
    . refine ⟨g',w,_,.fin 5 m' 1,v,wt,sm,runT_crowd_go (sl:=sl) hi (by rw [hi0];exact hgo),.inl rfl,C.put E (.inl rfl) hi h0 (hops _) (.d1 hG) (by rw [Deaf_own,hD];rfl) ?_ C.wg (hmark 5 (.inr ⟨rfl,rfl⟩) C.mode _ _) C.few,Gj hlt (.inl (by rw [hst];simp [EC.stage])),fun a b=>by omega⟩
      exact C.past.Wy (Sm T _) hM (.inl rfl)
    . exact idle g' w' es n' hgo Qr (.k1 hG) zOM
  | d1 h=>
    rcases FP (EY w) h with ⟨_,hadd⟩|⟨n',g',w',es,rfl,hgo,Qr,hG⟩
    ·
      have hmo:=C.mode;have VQ:=C.wg;have O1:=C.few;cases hmo with
      | b1 hv h1 hc=>
        obtain ⟨v',rfl⟩:∃ v',v=v'+1:=⟨v - 1,by omega⟩
        obtain ⟨g',hgo,hlast,hq⟩:=hadd v' 1 zOM zOM (by simpa using VQ);have hwg':WgAt ty Wg (w.setCell (stA Wg) (.int .u64 ((v':Int) * KK+((1:Nat):Int)))) ((v':Int) * KK+((1:Nat):Int)) ((0:Nat):Int):=by have:=VQ.setSt ((v':Int) * KK+((1:Nat):Int));simpa using this
        have hp:=C.past.M8 (ad:=stA Wg) (Sm T (MemOp.ofEvents i g.frame.fn g.frame.place #[rd (stA Wg),wr (stA Wg)])) hM E.shun E.apart hWs (by rw [hD];omega) (fn:=g.frame.fn) (pos:=g.frame.place) (es:=#[rd (stA Wg),wr (stA Wg)]) (fun e he=>by simpa [rd,wr] using he);have hdf:Deaf (T ++ MemOp.ofEvents i g.frame.fn g.frame.place #[rd (stA Wg),wr (stA Wg)]) i=1:=by rw [Deaf_own,hD];rfl
        have hsum:=fun r'=>Nr (role:=role) (r':=r') hlt;have e1:IX (role i)=1:=by rw [er];rfl
        by_cases hz:v'=0
        . subst hz;obtain ⟨m',hG⟩:=hlast ⟨rfl,rfl⟩;refine ⟨g',_,_,.fin 4 m' 1,0,1,0,runT_crowd_go (sl:=sl) hi (by rw [hi0];exact hgo),.inr (.inl ⟨_,rfl⟩),C.put E (.inr (.inl ⟨_,rfl⟩)) hi h0 (hops _) (.d2 hG) hdf hp hwg' (.b2 i h0 hlt (.inl (by rw [upd_same];rfl)) fun x a b c=>?_) zOM,Gj hlt (.inl (by rw [hst];simp [EC.stage])),fun a b=>by omega⟩;rw [upd_ne _ _ b];have hx0:IX (role x)=0:=by
            have hs2:=hsum (.fin 1 0 0);have:IX (.fin 1 0 0)=0:=rfl;have hz0:(sumTo gs.size fun a=>IX (upd role i (.fin 1 0 0) a))=0:=by omega
            have:=Go.ConcN.le_sumTo (f:=fun a=>IX (upd role i (.fin 1 0 0) a)) (i:=x) (j:=gs.size) c;simp only [upd_ne role _ b] at this;omega
          obtain ⟨s2,m2,d2,e2⟩:=C.all x a c;have h2:=h1 x a c;rw [e2] at hx0 h2 ⊢;simp only [EC.stage,IX,cn] at hx0 h2 ⊢;split at hx0 <;> omega
        . obtain ⟨q,hq⟩:=hq zOM;refine ⟨g',_,_,.fin 1 q 1,v',1,0,runT_crowd_go (sl:=sl) hi (by rw [hi0];exact hgo),.inr (.inl ⟨_,rfl⟩),C.put E (.inr (.inl ⟨_,rfl⟩)) hi h0 (hops _) (.quit hq) hdf hp hwg' (.b1 zOM (fun x a c=>?_) ?_) zOM,Gj hlt (.inl (by rw [hst];simp [EC.stage])),fun a b=>by omega⟩
          . by_cases e:x=i
            . subst e;rw [upd_same];simp [EC.stage]
            . rw [upd_ne _ _ e];exact h1 x a c
          . have:=hsum (.fin 1 q 1);have e2:IX (.fin 1 q 1)=0:=rfl;omega
      | b2 L hL hn h1 ho=>
        exfalso
        by_cases e:i=L
        . subst e;omega
        . have:=ho i h0 e hlt;omega
      | b3 L hL hn h1 ho=>
        exfalso
        by_cases e:i=L
        . subst e;omega
        . have:=ho i h0 e hlt;omega
      | b4 ho=>exfalso;have:=ho i h0 hlt;omega
    . exact idle g' w' es n' hgo Qr (.d1 hG) zOM
  | d2 h=>
    have hmo:wt=1/\v=0/\sm=0/\∀ x,x≠0->x≠i->x < gs.size->(role x).stage=1:=by
      have hmo:=C.mode;cases hmo with
      | b1 hv h1 hc=>exfalso;have:=h1 i h0 hlt;omega
      | b2 L hL hn h1 ho=>
        by_cases e:i=L
        . subst e;exact ⟨rfl,rfl,rfl,ho⟩
        . exfalso;have:=ho i h0 e hlt;omega
      | b3 L hL hn h1 ho=>
        exfalso
        by_cases e:i=L
        . subst e;omega
        . have:=ho i h0 e hlt;omega
      | b4 ho=>exfalso;have:=ho i h0 hlt;omega
    obtain ⟨rfl,rfl,rfl,ho⟩:=hmo;rcases FP (EY w) h with ⟨_,hld⟩|⟨n',g',w',es,rfl,hgo,Qr,hG⟩
    . obtain ⟨g',hgo,m',hG⟩:=hld (by simpa using C.wg);refine ⟨g',w,_,.fin 3 m' 1,0,1,0,runT_crowd_go (sl:=sl) hi (by rw [hi0];exact hgo),.inl rfl,C.put E (.inl rfl) hi h0 (hops _) (.d3 hG) (by rw [Deaf_own,hD];rfl) ?_ C.wg (.b2 i h0 hlt (.inr (by rw [upd_same];rfl)) fun x a b c=>by rw [upd_ne _ _ b];exact ho x a b c) C.few,Gj hlt (.inl (by rw [hst];simp [EC.stage])),fun a b=>by omega⟩;exact C.past.M8 (ad:=stA Wg) (Sm T _) hM E.shun E.apart hWs (by rw [hD];omega) (fun e he=>by simp [rd] at he;exact .inl he)
    . exact idle g' w' es n' hgo Qr (.d2 hG) zOM
  | d3 h=>
    have hmo:wt=1/\v=0/\sm=0/\∀ x,x≠0->x≠i->x < gs.size->(role x).stage=1:=by
      have hmo:=C.mode;cases hmo with
      | b1 hv h1 hc=>exfalso;have:=h1 i h0 hlt;omega
      | b2 L hL hn h1 ho=>
        by_cases e:i=L
        . subst e;exact ⟨rfl,rfl,rfl,ho⟩
        . exfalso;have:=ho i h0 e hlt;omega
      | b3 L hL hn h1 ho=>
        exfalso
        by_cases e:i=L
        . subst e;omega
        . have:=ho i h0 e hlt;omega
      | b4 ho=>exfalso;have:=ho i h0 hlt;omega
    obtain ⟨rfl,rfl,rfl,ho⟩:=hmo;rcases FP (EY w) h with ⟨_,nJ⟩|⟨n',g',w',es,rfl,hgo,Qr,hG⟩
    . obtain ⟨g',hgo,m',hG⟩:=nJ (by simpa using C.wg);refine ⟨g',_,_,.fin 2 m' 1,0,0,0,runT_crowd_go (sl:=sl) hi (by rw [hi0];exact hgo),.inr (.inl ⟨_,rfl⟩),C.put E (.inr (.inl ⟨_,rfl⟩)) hi h0 (hops _) (.d4 hG) (by rw [Deaf_own,hD];rfl) ?_ (by have:=C.wg.setSt 0;simpa using this) (.b3 i h0 hlt (by rw [upd_same];rfl) fun x a b c=>by rw [upd_ne _ _ b];exact ho x a b c) C.few,Gj hlt (.inl (by rw [hst];simp [EC.stage])),fun a b=>by omega⟩;exact C.past.M8 (ad:=stA Wg) (Sm T _) hM E.shun E.apart hWs (by rw [hD];omega) (fun e he=>by simp [wr] at he;exact .inr he)
    . exact idle g' w' es n' hgo Qr (.d3 hG) zOM
  | d4 h=>
    have hmo:wt=0/\v=0/\sm=0/\∀ x,x≠0->x≠i->x < gs.size->(role x).stage=1:=by
      have hmo:=C.mode;cases hmo with
      | b1 hv h1 hc=>exfalso;have:=h1 i h0 hlt;omega
      | b2 L hL hn h1 ho=>
        exfalso
        by_cases e:i=L
        . subst e;omega
        . have:=ho i h0 e hlt;omega
      | b3 L hL hn h1 ho=>
        by_cases e:i=L
        . subst e;exact ⟨rfl,rfl,rfl,ho⟩
        . exfalso;have:=ho i h0 e hlt;omega
      | b4 ho=>exfalso;have:=ho i h0 hlt;omega
    obtain ⟨rfl,rfl,rfl,ho⟩:=hmo;rcases FP (EY w) h with ⟨_,hmw,hrel⟩|⟨n',g',w',es,rfl,hgo,Qr,hG⟩
    . obtain ⟨g',hgo,q,hq⟩:=hrel (by simpa using C.wg);obtain ⟨hp,hdf⟩:=C.past.sem (Kf:=fun T=>Knows T 0) rfl Sm hM E.RA E.apart (show (smA Wg).block < _ from hWs) g.frame.fn g.frame.place;refine ⟨g',_,_,.fin 1 q 1,0,0,1,runT_crowd_go (sl:=sl) hi (by rw [hi0];exact hgo),.inr (.inr ⟨_,rfl⟩),C.put E (.inr (.inr ⟨_,rfl⟩)) hi h0 (hops _) (.quit hq) (by rw [hdf,hD]) hp (by have:=C.wg.setSm 1;simpa using this) (.b4 fun x a c=>?_) C.few,Gj hlt (.inl (by rw [hst];simp [EC.stage])),fun a b=>⟨hmw,by rcases hq.status with z | z <;> rw [z] <;> simp⟩⟩
      . by_cases e:x=i
        . subst e;rw [upd_same];rfl
        . rw [upd_ne _ _ e];exact ho x a e c
    . exact idle g' w' es n' hgo Qr (.d4 hG) zOM
  | quit h=>
    cases m with
    | zero=>rw [h.1] at hrun;cases hrun
    | succ m=>
      rcases h with ⟨hf,_⟩|⟨_,g',es,hm,hgo,hq⟩
      . rw [hf] at hrun;cases hrun
      . exact quiet g' es m (hgo w) (.quit hq) zOM fun e he=>⟨touch_mute (hm e he),low_mute (hm e he) _⟩
end
end
section
inductive WS | loop (v:Nat) | seen (v:Nat) | sem | last
inductive Mi (P:Program)(ty:TypeId)(Wg n:Nat)(D:World->World->Array Event->Prop)(Stop:Nat->Goroutine->World->Prop):WS->Goroutine->World->Prop
  | step {s:WS} {g:Goroutine} {w:World} (hs:g.status=.running) (h:∀ w₁,F8 ty Wg w w₁->∃ g' w' es,stepG P true g w₁=.go g' w' es/\D w₁ w' es)
      (k:∀ w₁ g' w' es,F8 ty Wg w w₁->stepG P true g w₁=.go g' w' es->Mi P ty Wg n D Stop s g' w'):Mi P ty Wg n D Stop s g w
  | load {v:Nat} {g:Goroutine} {w:World} (hs:g.status=.running) (h:∀ w₁ (v':Nat),F8 ty Wg w w₁->v'<=v->v' < 2147483648->WgAt ty Wg w₁ (v' * KK) 0->∃ g',stepG P true g w₁=.go g' w₁ #[rd (stA Wg)])
      (k0:∀ w₁ g',F8 ty Wg w w₁->WgAt ty Wg w₁ 0 0->stepG P true g w₁=.go g' w₁ #[rd (stA Wg)]->KS P true ty Wg n D Stop true 0 g' w₁)
      (k1:∀ w₁ (v':Nat) g',F8 ty Wg w w₁->v'<=v->v'≠0->v' < 2147483648->WgAt ty Wg w₁ (v' * KK) 0->stepG P true g w₁=.go g' w₁ #[rd (stA Wg)]->Mi P ty Wg n D Stop (.seen v') g' w₁):Mi P ty Wg n D Stop (.loop v) g w
  | cas {v:Nat} {g:Goroutine} {w:World} (hs:g.status=.running) (hv:v≠0)
      (h:∀ w₁,F8 ty Wg w w₁->WgAt ty Wg w₁ (v * KK) 0->∃ g',stepG P true g w₁=.go g' (w₁.setCell (stA Wg) (.int .u64 (v * KK+1))) #[rd (stA Wg),wr (stA Wg)])
      (kh:∀ w₁ g',F8 ty Wg w w₁->WgAt ty Wg w₁ (v * KK) 0->stepG P true g w₁=.go g' (w₁.setCell (stA Wg) (.int .u64 (v * KK+1))) #[rd (stA Wg),wr (stA Wg)]->Mi P ty Wg n D Stop .sem g' (w₁.setCell (stA Wg) (.int .u64 (v * KK+1))))
      (m:∀ w₁ (v':Nat),F8 ty Wg w w₁->v' < v->WgAt ty Wg w₁ (v' * KK) 0->∃ g',stepG P true g w₁=.go g' w₁ #[rd (stA Wg)])
      (km:∀ w₁ (v':Nat) g',F8 ty Wg w w₁->v' < v->WgAt ty Wg w₁ (v' * KK) 0->stepG P true g w₁=.go g' w₁ #[rd (stA Wg)]->Mi P ty Wg n D Stop (.loop v') g' w₁):Mi P ty Wg n D Stop (.seen v) g w
  | acq {g:Goroutine} {w:World} (hs:g.status=.running) (ho:g.offers=none) (hb:∀ w₁,F8 ty Wg w w₁->(∃ st,WgAt ty Wg w₁ st 0)->stepG P true g w₁=.go { g with status:=.blocked } w₁ #[])
      (h:∀ w₁,F8 ty Wg w w₁->WgAt ty Wg w₁ 0 1->∃ g',stepG P true g w₁=.go g' (w₁.setCell (smA Wg) (.int .u32 0)) (semEvents (smA Wg)))
      (k:∀ w₁ g',F8 ty Wg w w₁->WgAt ty Wg w₁ 0 1->stepG P true g w₁=.go g' (w₁.setCell (smA Wg) (.int .u32 0)) (semEvents (smA Wg))->Mi P ty Wg n D Stop .last g' (w₁.setCell (smA Wg) (.int .u32 0))):Mi P ty Wg n D Stop .sem g w
  | last {g:Goroutine} {w:World} (hs:g.status=.running) (h:∀ w₁,F8 ty Wg w w₁->WgAt ty Wg w₁ 0 0->∃ g',stepG P true g w₁=.go g' w₁ #[rd (stA Wg)])
      (k:∀ w₁ g',F8 ty Wg w w₁->WgAt ty Wg w₁ 0 0->stepG P true g w₁=.go g' w₁ #[rd (stA Wg)]->KS P true ty Wg n D Stop true 0 g' w₁):Mi P ty Wg n D Stop .last g w
structure Acq (P:Program)(ty:TypeId)(Wg n:Nat)(D:World->World->Array Event->Prop)(Stop:Nat->Goroutine->World->Prop)(g:Goroutine)(w:World):Prop where
  hs:g.status=.running
  ho:g.offers=none
  hb:∀ w₁,F8 ty Wg w w₁->(∃ st,WgAt ty Wg w₁ st 0)->stepG P true g w₁=.go { g with status:=.blocked } w₁ #[]
  h:∀ w₁,F8 ty Wg w w₁->WgAt ty Wg w₁ 0 1->∃ g',stepG P true g w₁=.go g' (w₁.setCell (smA Wg) (.int .u32 0)) (semEvents (smA Wg))
  k:∀ w₁ g',F8 ty Wg w w₁->WgAt ty Wg w₁ 0 1->stepG P true g w₁=.go g' (w₁.setCell (smA Wg) (.int .u32 0)) (semEvents (smA Wg))->Mi P ty Wg n D Stop .last g' (w₁.setCell (smA Wg) (.int .u32 0))
section
variable {P:Program}{ty:TypeId}{Wg n:Nat}{D:World->World->Array Event->Prop}{Stop:Nat->Goroutine->World->Prop}{s:WS}{g:Goroutine}{w w₁:World}
theorem Mi.rely (h:Mi P ty Wg n D Stop s g w)(hr:F8 ty Wg w w₁):Mi P ty Wg n D Stop s g w₁:=by
  cases h with
  | step hs h k=>exact .step hs (fun w₂ h₂=>h w₂ (hr.trans h₂)) fun w₂ g' w' es h₂=>k w₂ g' w' es (hr.trans h₂)
  | load hs h k0 k1=>exact .load hs (fun w₂ v h₂=>h w₂ v (hr.trans h₂)) (fun w₂ g' h₂=>k0 w₂ g' (hr.trans h₂)) fun w₂ v g' h₂=>k1 w₂ v g' (hr.trans h₂)
  | cas hs hv h kh m km=>exact .cas hs hv (fun w₂ h₂=>h w₂ (hr.trans h₂)) (fun w₂ g' h₂=>kh w₂ g' (hr.trans h₂)) (fun w₂ v h₂=>m w₂ v (hr.trans h₂)) fun w₂ v g' h₂=>km w₂ v g' (hr.trans h₂)
  | acq hs ho hb h k=>exact .acq hs ho (fun w₂ h₂=>hb w₂ (hr.trans h₂)) (fun w₂ h₂=>h w₂ (hr.trans h₂)) fun w₂ g' h₂=>k w₂ g' (hr.trans h₂)
  | last hs h k=>exact .last hs (fun w₂ h₂=>h w₂ (hr.trans h₂)) fun w₂ g' h₂=>k w₂ g' (hr.trans h₂)
theorem Acq.rely (h:Acq P ty Wg n D Stop g w)(hr:F8 ty Wg w w₁):Acq P ty Wg n D Stop g w₁:=
  ⟨h.hs,h.ho,fun w₂ h₂=>h.hb w₂ (hr.trans h₂),fun w₂ h₂=>h.h w₂ (hr.trans h₂),fun w₂ g' h₂=>h.k w₂ g' (hr.trans h₂)⟩
theorem Acq.way (h:Acq P ty Wg n D Stop g w):Mi P ty Wg n D Stop .sem g w:=.acq h.hs h.ho h.hb h.h h.k
theorem Mi.run (h:Mi P ty Wg n D Stop s g w):g.status=.running:=by cases h <;> assumption
end
section
variable {P:Program}{ty:TypeId}{Wg:Nat}{K:Nat->World->Prop}{Still:Nat->Loc->Prop}{Bd:Nat->Nat}{Shun:Loc->Prop}{Quiet Sp Mem Loose:Nat->Prop}{role:Nat->EC}{v wt sm:Nat}{T:Trace}{gs:Array Goroutine}{w:World}
theorem Xa.at (E:Env2 Wg K Still Shun)(C:Xa P ty Wg K Still Shun Mem Loose role v wt sm T gs w)(d:Nat):Xa P ty Wg K Still Shun Mem Loose role v wt sm T gs (w.at d):=
  ⟨fun i g s m dd h0 hg e=>let ⟨a,b,c⟩:=C.Gz i g s m dd h0 hg e;⟨a.rely (Lg ty Wg ⟨_,_,C.wg⟩ ⟨_,_,C.wg⟩),b,c⟩,C.all,C.zero,C.qJ,C.deaf0,C.above,C.past,C.tight,C.wg,C.mode,C.few⟩
theorem Xa.OT (C:Xa P ty Wg K Still Shun Mem Loose role v wt sm T gs w){a a':Goroutine}{w':World}{ops:Trace}(ha:gs[0]?=some a)(hops:∀ op∈ops,op.g=0)(hsz:w.heap.size<=w'.heap.size)(hwg:w'.heap[Wg]?=w.heap[Wg]?)(hd:Deaf (T ++ ops) 0=1)(hp:FI Still Shun Mem Loose w'.heap.size (Knows (T ++ ops) 0) (T ++ ops)):Xa P ty Wg K Still Shun Mem Loose role v wt sm (T ++ ops) ((gs.map (woken P a a' w')).setIfInBounds 0 a') w'/\((gs.map (woken P a a' w')).setIfInBounds 0 a')[0]?=some a':=by
  have hlt:0 < gs.size:=(zGE ha).1;have hw':WgAt ty Wg w' (v * KK+wt) sm:=by have:=C.wg;unfold WgAt at this ⊢;rw [hwg];exact this
  have hrx:=Lg ty Wg ⟨_,_,C.wg⟩ ⟨_,_,hw'⟩;have hD:∀ x,x≠0->Deaf (T ++ ops) x=Deaf T x:=fun x hx=>Deaf_other T (fun z=>hx z.symm) _ hops;refine ⟨⟨fun x y s m d hx hy e=>?_,fun x hx hlx=>C.all x hx (by simpa using hlx),C.zero,C.qJ,hd,fun j hj=>?_,hp,C.tight,hw',by simpa using C.mode,C.few⟩,Array.getElem?_setIfInBounds_self_of_lt (by simpa using hlt)⟩
  . rw [Array.getElem?_setIfInBounds_ne (fun z=>hx z.symm),Array.getElem?_map] at hy;obtain ⟨y0,hy0,rfl⟩:=Option.map_eq_some_iff.1 hy;obtain ⟨a1,a2,a3⟩:=C.Gz x y0 s m d hx hy0 e;rw [woken_of_again (again_of_running a1.status w'),hD x hx];exact ⟨a1.rely hrx,a2,a3⟩
  . have hj':gs.size<=j:=by simpa using hj
    rw [hD j zOM];exact C.above j hj'
section
variable {n:Nat}{D:World->World->Array Event->Prop}{Stop:Nat->Goroutine->World->Prop}{Ch:Nat->Prop}
end
end
end
section
abbrev Pn:Nat->Loc->Prop:=fun _ _=>False
structure Nh (P:Program)(Shun:Loc->Prop)(q:Nat->Nat)(T:Trace)(gs:Array Goroutine)(w:World):Prop where
  old:∀ i g,0 < i->gs[i]?=some g->QuitsD P (q i) (Deaf T i) g
  above:∀ j,gs.size<=j->Deaf T j=0
  past:FI Pn Shun (fun g=>g=0) (fun _=>False) w.heap.size (Knows T 0) T
structure qI (Shun:Loc->Prop)(w w':World)(es:Array Event):Prop where
  size:w.heap.size<=w'.heap.size
  evs:∀ e∈es,nK Pn Shun 0 w'.heap.size e
theorem Uh {B:Hid}{w w₁:World}(h:AtRel w w₁):Turns B w w₁:=by obtain ⟨d,rfl⟩:=h;exact ⟨rfl,rfl,fun hR=>⟨hR.hol,hR.JJ⟩⟩
section
variable {P:Program}{Shun:Loc->Prop}{q:Nat->Nat}{T:Trace}{gs:Array Goroutine}{w:World}
theorem Nh.at (C:Nh P Shun q T gs w)(d:Nat):Nh P Shun q T gs (w.at d):=⟨C.old,C.above,C.past⟩
theorem Nh.own (C:Nh P Shun q T gs w){a a':Goroutine}{w':World}{es:Array Event}{fn:FuncId}{pos:String}(ha:gs[0]?=some a)(hd:qI Shun w w' es) :
    Nh P Shun q (T ++ MemOp.ofEvents 0 fn pos es) ((gs.map (woken P a a' w')).setIfInBounds 0 a') w'/\((gs.map (woken P a a' w')).setIfInBounds 0 a')[0]?=some a':=by
  have hlt:0 < gs.size:=(zGE ha).1;obtain ⟨o1,o2,o3,o4⟩:=Ka (h:=0) (fn:=fn) (pos:=pos) hd.evs;refine ⟨⟨fun i g hi hg=>?_,fun j hj=>?_,(C.past.mono hd.size).hold (fun z=>z) o1 o2 (fun _=>o4 T) o3⟩,Array.getElem?_setIfInBounds_self_of_lt (by simpa using hlt)⟩
  . rw [Array.getElem?_setIfInBounds_ne (fun z=>by omega),Array.getElem?_map] at hg;obtain ⟨y,hy,rfl⟩:=Option.map_eq_some_iff.1 hg;have hq:=C.old i y hi hy;rw [woken_quitsD hq,Deaf_other T zOM _ o1];exact hq
  . have hj':gs.size<=j:=by simpa using hj
    rw [Deaf_other T (g':=0) zOM _ o1];exact C.above j hj'
theorem Nh.pick {a:Goroutine}(hrun:a.status=.running):∀ (m:Nat) {q:Nat->Nat} {T:Trace} {gs:Array Goroutine} {w:World} {sl:Option (Nat × Nat)},sumTo gs.size q=m->gs[0]?=some a->Nh P Shun q T gs w->
    ∃ N gs' d d' sl' sl'' T' q',runNT P N (crowd gs w sl) T=(.next (crowd gs' (w.at d) sl'),T')/\stepT P (crowd gs' (w.at d) sl')=runT P (crowd gs' (w.at d') sl'') 0/\gs'.size=gs.size/\gs'[0]?=some a/\Nh P Shun q' T' gs' (w.at d'):=by
  intro m;induction m using Nat.strongRecOn with
  | _ m ih=>
  intro q T gs w sl hm ha C;have haw:∀ g∈gs,awake g:=by
    intro g hg;obtain ⟨i,hi,rfl⟩:=Array.mem_iff_getElem.1 hg;rcases Nat.eq_zero_or_pos i with rfl|hpos
    . have:gs[0]=a:=by simpa [Array.getElem?_eq_getElem hi] using ha
      rw [this];exact awake_of (.inl hrun)
    . exact awake_of ((C.old i _ hpos (Array.getElem?_eq_getElem hi)).status.elim .inl fun x=>.inr (.inr x))
  obtain ⟨i,g,d,sl',hi,hg,hst⟩:=crowd_pick (P:=P) (w:=w) (sl:=sl) haw ⟨0,a,ha,hrun⟩;rcases Nat.eq_zero_or_pos i with rfl|hpos
  . exact ⟨0,gs,w.drawn,d,sl,sl',T,q,rfl,hst,rfl,ha,C.at d⟩
  . have hq:=C.old i g hpos hi;have hi0:(i == 0)=false:=by simp;omega
    have hlt:i < gs.size:=(zGE hi).1;cases hqi:q i with
    | zero=>rw [hqi] at hq;rw [hq.1] at hg;cases hg
    | succ k=>
      rw [hqi] at hq;rcases hq with ⟨hf,_⟩|⟨_,g',es,hm',hstp,hq'⟩
      . rw [hf] at hg;cases hg
      have hrt:=runT_crowd_go (P:=P) (sl:=sl') (i:=i) hi (by rw [hi0];exact hstp (w.at d));have hops:∀ op∈MemOp.ofEvents i g.frame.fn g.frame.place es,op.g=i:=fun op hop=>by obtain ⟨e,_,rfl⟩:=Conc.mem_ofEvents hop;rfl
      have hsum:sumTo gs.size (upd q i k)+(k+1)=sumTo gs.size q+k:=by
        have:=sumTo_upd q k id hlt
        simpa [hqi] using this
      have hsz:((gs.map (woken P g g' (w.at d))).setIfInBounds i g').size=gs.size:=by simp
      have ha':((gs.map (woken P g g' (w.at d))).setIfInBounds i g')[0]?=some a:=by rw [Array.getElem?_setIfInBounds_ne zOM,Array.getElem?_map,ha];simp [woken_of_again (again_of_running (.inl hrun) _)]
      have C':Nh P Shun (upd q i k) (T ++ MemOp.ofEvents i g.frame.fn g.frame.place es) ((gs.map (woken P g g' (w.at d))).setIfInBounds i g') (w.at d):=by
        refine ⟨fun j x hj hx=>?_,fun j hj=>?_,C.past.mute (fun i=>Knows.app _) hops (fun op hop=>?_) (fun z=>absurd z zOM) fun op hop=>?_⟩
        . by_cases hji:i=j
          . subst hji;rw [Array.getElem?_setIfInBounds_self_of_lt (by simpa using hlt)] at hx;obtain rfl:=Option.some.inj hx;rw [upd_same,Deaf_own];exact hq'
          . rw [Array.getElem?_setIfInBounds_ne hji,Array.getElem?_map] at hx;obtain ⟨y,hy,rfl⟩:=Option.map_eq_some_iff.1 hx;have hqj:=C.old j y hj hy;rw [woken_quitsD hqj,upd_ne q k (Ne.symm hji),Deaf_other T hji _ hops];exact hqj
        . have hj':gs.size<=j:=by simpa using hj
          rw [Deaf_other T (g':=i) zOM _ hops];exact C.above j hj'
        . obtain ⟨e,he,rfl⟩:=Conc.mem_ofEvents hop;exact touch_mute (hm' e he)
        . obtain ⟨e,he,rfl⟩:=Conc.mem_ofEvents hop;exact low_mute (hm' e he) _
      obtain ⟨N,FY,d₁,d₂,sl₁,sl₂,T₂,q₂,r1,r2,r3,r4,r5⟩:=ih (sumTo ((gs.map (woken P g g' (w.at d))).setIfInBounds i g').size (upd q i k)) (by rw [hsz];omega) (sl:=sl') rfl ha' C';exact ⟨N+1,FY,d₁,d₂,sl₁,sl₂,T₂,q₂,by simp only [runNT,hst,hrt];exact r1,r2,r3.trans hsz,r4,r5⟩
theorem XI {D:World->World->Array Event->Prop}{Stop:Goroutine->World->Prop}(hD:∀ w w' es,D w w' es->qI Shun w w' es){a:Goroutine}{w:World}(hW:LT.Way P true AtRel D Stop a w) :
    ∀ {q:Nat->Nat} {T:Trace} {gs:Array Goroutine} {sl:Option (Nat × Nat)},gs[0]?=some a->Nh P Shun q T gs w->
    ∃ N gs' a' w' sl' T' q',runNT P N (crowd gs w sl) T=(.next (crowd gs' w' sl'),T')/\gs'.size=gs.size/\gs'[0]?=some a'/\(∀ w₁,AtRel w' w₁->Stop a' w₁)/\Nh P Shun q' T' gs' w':=by
  induction hW with
  | @stop g w hs=>
    intro q T gs sl ha C;exact ⟨0,gs,_,w,sl,T,q,rfl,rfl,ha,hs,C⟩
  | @step g w hrun hstep hk ih=>
    intro q T gs sl ha C;obtain ⟨N,gs₁,d,d',sl₁,sl₂,T₁,q₁,p1,p2,p3,p4,p5⟩:=C.pick (sl:=sl) hrun _ rfl ha;obtain ⟨g',w',es,hst,hd⟩:=hstep (w.at d') ⟨d',rfl⟩;have hrt:=runT_crowd_go (P:=P) (sl:=sl₂) (i:=0) p4 (show stepG P (0 == 0) g _=_ from hst);obtain ⟨C',ha'⟩:=p5.own (fn:=g.frame.fn) (pos:=g.frame.place) (a':=g') p4 (hD _ _ _ hd);obtain ⟨N₂,FY,a₂,w₂,sl₃,T₂,q₂,r1,r2,r3,r4,r5⟩:=ih _ _ _ _ ⟨d',rfl⟩ hst (sl:=sl₂) ha' C';exact ⟨N+(N₂+1),FY,a₂,w₂,sl₃,T₂,q₂,runNT_then p1 (by simp only [runNT,p2,hrt];exact r1),by rw [r2];simpa using p3,r3,r4,r5⟩
theorem iH (P:Program)(Shun:Loc->Prop)(a:Goroutine)(w:World):Nh P Shun (fun _=>0) #[] #[a] w:=
  ⟨fun i g hi hg=>by
    have:i < 1:=by simpa using (zGE hg).1
    omega,fun _ _=>rfl,⟨past_nil.clean,fun i a ha=>by simp [touchAt,Trace.act?] at ha,fun i a ha=>by simp [touchAt,Trace.act?] at ha,fun i a ha=>by simp [touchAt,Trace.act?] at ha,fun g hg=>rfl,by simp⟩⟩
theorem Nh.ends (C:Nh P Shun q T gs w){D:World->World->Array Event->Prop}{Post:Value->World->Prop}{a:Goroutine}{sl:Option (Nat × Nat)}(ha:gs[0]?=some a)(hE:∀ w₁,AtRel w w₁->AtEnd P Shun w.heap.size Post a w₁):∃ N last o w' t',runNT P (N+1) (crowd gs w sl) T=(.ended o w',t')/\runN P N (crowd gs w sl)=.next last/\step P last=.ended o w'/\Good P Post last o w' t':=
  beside_ends (P:=P) (Shun:=Shun) (B:=w.heap.size) (D:=fun _ _ _=>False) (fun _ _ _ h=>h.elim) (n:=0) ha ⟨C.old,C.above⟩ (C.past.toPast rfl fun _ h=>h) hE
theorem Nh.fresh (C:Nh P Shun q T gs w){b:Nat}(hb:w.heap.size<=b):Nh P (fun l=>Shun l\/∃ o,l=.cell ⟨b,o,none⟩) q T gs w:=by
  refine ⟨C.old,C.above,C.past.shun (fun l h=>.inl h) fun i a ha hs=>?_⟩;rcases hs with hs|⟨o,ho⟩
  . exact .inl hs
  . exfalso
    obtain ⟨x,hx,hxa⟩:=touch_of ha;have hlow:=C.past.seen x (Array.mem_of_getElem? hx);have:(MemAct.low w.heap.size x.act)->b < w.heap.size:=by
      intro hl;cases hact:x.act with
      | access e=>
        rw [hact] at hl hxa;simp only [MemAct.touch?,Option.some.injEq] at hxa;subst hxa;simp only at ho;have:e.loc.low w.heap.size:=hl;rw [ho] at this;exact this
      | mark m=>
        rw [hact] at hl hxa;cases m <;> simp only [MemAct.touch?,Option.some.injEq,reduceCtorEq] at hxa
        all_goals (subst hxa;simp only [Loc.cell.injEq] at ho;subst ho;exact hl)
      | _=>rw [hact] at hxa;simp [MemAct.touch?] at hxa
    have:=this hlow;omega
theorem Nh.begin {ty:TypeId}{Wg:Nat}{K:Nat->World->Prop}(Bd:Nat->Nat)(Quiet:Nat->Prop)(C:Nh P Shun q T gs w)(hwg:WgAt ty Wg w 0 0):Held P ty Wg K Pn Bd Shun Quiet (fun g=>g=0) (fun _=>False) 0 (fun i=>.fin 1 (q i) (Deaf T i)) (fun _=>0) 0 T gs w:=by
  have hz:∀ j,sumTo j (fun _=>0)=0:=fun j=>by have:=Go.ConcN.sumTo_le (f:=fun _=>0) (c:=0) (j:=j) fun _ _=>Nat.le_refl 0;omega
  refine ⟨⟨fun i g s m d hi hg e=>?_,fun i g st n hi hg e=>(by cases e),fun i st n e=>(by cases e),fun i i' st st' n n' c e=>(by cases e),C.above,C.past,fun i st n e=>(by cases e),by rw [hz];simpa using hwg,by rw [hz];omega,fun _=>Nat.zero_le _⟩,fun st n e=>(by cases e),fun z=>z⟩;cases e
  have hi':i≠0:=hi;exact ⟨Nat.pos_of_ne_zero hi',.quit (C.old i g (Nat.pos_of_ne_zero hi') hg),rfl,hi',rfl,.inr (.inr (.inr rfl))⟩
theorem Held.ends {ty:TypeId}{Wg:Nat}{K:Nat->World->Prop}{Still:Nat->Loc->Prop}{Bd:Nat->Nat}{Quiet Mem Loose:Nat->Prop}{role:Nat->EC}{live:Nat->Nat}{ex:Nat}(H:Held P ty Wg K Still Bd Shun Quiet Mem Loose 0 role live ex T gs w)(h0:Mem 0)(hL:∀ g,¬ Loose g)(hz:∀ x,x < gs.size->live x=0)(hno:∀ i st n,i < gs.size->role i≠.seat st n):∃ q,Nh P Shun q T gs w:=by
  have C:=H.JG;refine ⟨fun i=>(role i).fuel,fun i g hi hg=>?_,C.above,⟨C.past.clean,fun i a ha hm=>?_,C.past.atom,fun _ _ _ _ _ _ z=>z.elim,fun g hg=>hg ▸ C.past.hears 0 h0,C.past.seen⟩⟩
  . have hlt:i < gs.size:=(zGE hg).1;cases e:role i with
    | seat st n=>exact absurd e (hno i st n hlt)
    | fin s m d=>
      obtain ⟨_,hF,hD,_,hl,hs⟩:=C.Gz i g s m d zOM hg e;have hl0:=hz i hlt;have hs1:s=1:=by rw [hl] at hl0;unfold cn at hl0;split at hl0 <;> omega
      subst hs1;cases hF with
      | quit h=>rw [hD];exact h
  . rcases C.past.known i a ha hm with hk | ⟨_,g,_,hl,_⟩ | hk
    . exact .inl hk
    . exact absurd hl (hL g)
    . exact .inr (.inr hk)
end
end
end Go.LC
namespace Go.LC
open Go Go.Conc Go.LT
open Go.ConcN (WgLive sumTo upd sumTo_upd upd_ne upd_same)
open Go.ConcR (KK wgBlock WgAt stA smA rd wr mk)
section
section
variable {P:Program}{ty:TypeId}{Wg:Nat}{K K':Nat->World->Prop}{Still Still':Nat->Loc->Prop}{Bd ko:Nat->Nat}{Shun:Loc->Prop}{Quiet Mem Loose:Nat->Prop}{role:Nat->EC}{live:Nat->Nat}{ex h:Nat}{T:Trace}{gs:Array Goroutine}{w:World}
theorem Held.re (H:Held P ty Wg K Still Bd Shun Quiet Mem Loose h role live ex T gs w)(hK:∀ i,i≠h->K' i=K i)(hS:∀ i,i≠h->Still' i=Still i)(hB:∀ i,i≠h->ko i=Bd i)(hm:∀ l,Still' h l->l.isMemory=true/\¬ Shun l) :
    Held P ty Wg K' Still' ko Shun Quiet Mem Loose h role live ex T gs w:=by
  have C:=H.JG;have hne:∀ {i:Nat} {st:Seat} {n:Nat},role i=.seat st n->i≠h:=fun {i st n} e z=>H.LZ st n (z ▸ e);refine ⟨⟨C.Gz,fun i g st n hi hg e=>?_,fun i st n e=>?_,C.own,C.above,?_,fun i st n e=>?_,C.wg,C.few,C.one⟩,H.LZ,H.tight⟩
  . rw [hK i hi,hS i hi,hB i hi];exact C.seats i g st n hi hg e
  . rw [hB i (hne e)];exact C.seat i st n e
  . have CP:=C.past;refine ⟨CP.clean,fun i a ha hmm=>?_,CP.atom,fun i a ha hw g hg hSt=>?_,CP.hears,CP.seen⟩
    . rcases CP.known i a ha hmm with hk | ⟨x,g,hg,hl,hs⟩ | hk
      . exact .inl hk
      . exact .inr (.inl ⟨x,g,hg,hl,by rw [hS g (fun e=>H.tight (e ▸ hl))];exact hs⟩)
      . exact .inr (.inr hk)
    . by_cases e:g=h
      . subst e;obtain ⟨h1,h2⟩:=hm _ hSt;rcases CP.known i a ha h1 with hk|⟨x,_⟩|⟨x,_⟩
        . exact hk
        . rw [hw] at x;cases x
        . exact absurd x h2
      . exact CP.wrote i a ha hw g hg (by rw [← hS g e];exact hSt)
  . rw [hK i (hne e)];exact C.keep i st n e
def DK (B:Hid)(w w':World)(es:Array Event):Prop:=Kept B w w'/\∀ e∈es,IG B w'.heap.size e
def Y9 (B:Hid)(l:Loc):Prop:=∃ a,l=.cell a/\B a.block=true
def InZ (B:Hid)(l:Loc):Prop:=∃ a,l=.cell a/\B.JJ a.block=true
theorem Uf {B:Hid}{n h':Nat}{e:Event}(h:IG B n e)(hS:∀ g,g≠h'->∀ l,Still g l->Y9 B l\/InZ B l)(YO:∀ l,Shun l->Y9 B l):nK Still Shun h' n e:=by
  obtain ⟨loc,wr,sy⟩:=e;have uZ:∀ l:Loc,(∀ a,l=.cell a->B a.block=false)->¬ Shun l:=fun l hl hs=>(by obtain ⟨a,rfl,ha⟩:=YO l hs;rw [hl a rfl] at ha;exact absurd ha (by simp))
  cases loc with
  | cell a=>
    obtain ⟨h1,h2,h3⟩:=h;have k2:=uZ (.cell a) fun a' e=>by cases e;exact h1
    refine ⟨fun b hb=>?_,by simp,by simp,h2⟩;simp only [MemAct.ofEvent,MemAct.touch?,Option.some.injEq] at hb;subst hb;refine ⟨fun g hg hs=>?_,fun hs=>absurd hs k2⟩;rcases hS g hg _ hs with ⟨a',e,ha⟩|⟨a',e,ha⟩ <;> cases e
    . rw [h1] at ha;cases ha
    . cases hw:wr with
      | false=>rfl
      | true=>rw [h3 hw] at ha;cases ha
  | obj r=>
    obtain ⟨h1,h2⟩:=h;have k1:∀ g,g≠h'->¬ Still g (.obj r):=fun g hg hs=>by rcases hS g hg _ hs with ⟨a,e,_⟩ | ⟨a,e,_⟩ <;> cases e
    have k2:=uZ (.obj r) fun a' e=>by cases e
    cases wr <;> cases sy <;>
    . refine ⟨fun b hb=>?_,by simp,by simp,h2⟩;simp only [MemAct.ofEvent,MemAct.touch?,Option.some.injEq,reduceCtorEq] at hb;try (subst hb;exact ⟨fun g hg hs=>absurd hs (k1 g hg),fun hs=>absurd hs k2⟩)
  | mark m=>
    have h:WO m:=h;cases m <;> first | exact h.elim | exact ⟨fun b hb=>(by simp [MemAct.ofEvent,MemAct.touch?] at hb),by simp,by simp,trivial⟩
  | _=>exact h.elim
theorem DK.hd {B:Hid}{h:Nat}{Ch:Nat->Prop}(hKB:∀ i,i≠h->∀ w w',(∀ b,B b=true\/B.JJ b=true->w'.heap[b]?=w.heap[b]?)->K i w->K i w')(hS:∀ g,g≠h->∀ l,Still g l->Y9 B l\/InZ B l)(YO:∀ l,Shun l->Y9 B l)(hW:B Wg=true){w w':World}{es:Array Event}(hd:DK B w w' es) :
    oV K Still Shun Ch Wg h w w' es:=
  ⟨fun i hi=>hKB i hi w w' fun b hb=>hb.elim (hd.1.block b) (hd.1.still b),fun c k _ hc=>hd.1.objs c _ hc (fun _ _ _=>by simp),hd.1.block _ hW,hd.1.size,fun e he=>Uf (hd.2 e he) hS YO⟩
end
end
end Go.LC
end
