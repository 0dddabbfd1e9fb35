/-
  Part 4 of the proof that CellOrders is true of every input of bulk at most 1048576.
-/
import Derived.Test.YtdkfdedgfilhbaaQ03
set_option linter.unusedVariables false
set_option linter.unusedSectionVars false
set_option linter.unusedSimpArgs false
set_option maxHeartbeats 1000000
noncomputable section
namespace Go.LC
open Go Go.Conc Go.LT
open Go.ConcN (WgLive sumTo upd sumTo_upd upd_ne upd_same)
open Go.ConcR (KK wgBlock WgAt stA smA rd wr mk DC0)
section
section
variable {Still:Nat->Loc->Prop}{Shun:Loc->Prop}{Mem Loose:Nat->Prop}{B:Nat}{K K':Nat->Prop}{t:Trace}
theorem Gr.Ob{g:Nat}(H:Gr Still Shun Mem Loose B K t)(hK:∀i,K i->K' i)(hg:¬ Mem g){ad:Addr}(hS:Shun (.cell ad))(hap:∀g l,Still g l->¬ Shun l)(hB:ad.block<B)(hd:0<Deaf t g){fn:FuncId}{pos:String}{es:Array Event}(hes:∀e∈es,e=⟨.cell ad,false,true⟩\/e=⟨.cell ad,true,true⟩):Gr Still Shun Mem Loose B K' (t++MemOp.ofEvents g fn pos es):=by
 refine H.deaf hK hg (fun op hop=>by obtain⟨e,_,rfl⟩:=Conc.mem_ofEvents hop;rfl) (fun op hop b hb=>?_) (fun op hop dd=>?_) hd (fun op hop=>?_)
 . obtain⟨e,he,rfl⟩:=Conc.mem_ofEvents hop;have hloc:b.loc=.cell ad/\b.kind=.atomic:=by rcases hes e he with rfl|rfl<;>(simp only[MemAct.ofEvent,MemAct.touch?,Option.some.injEq]at hb;subst hb;exact⟨rfl,rfl⟩)
   exact⟨by rw[hloc.1];exact hS,hloc.2,fun g' hs=>hap g' _ hs (by rw[hloc.1];exact hS)⟩
 . obtain⟨e,he,rfl⟩:=Conc.mem_ofEvents hop;rcases hes e he with rfl|rfl<;>rfl
 . obtain⟨e,he,rfl⟩:=Conc.mem_ofEvents hop;rcases hes e he with rfl|rfl<;>exact hB
theorem Gr.Xb{g:Nat}(H:Gr Still Shun Mem Loose B K t)(hK:∀i,K i->K' i)(hg:¬ Mem g){fn:FuncId}{pos:String}{m:Mark}(hm:m=.disable\/m=.enable):Gr Still Shun Mem Loose B K' (t++MemOp.ofEvents g fn pos #[⟨.mark m,false,true⟩]):=by
 refine H.mute hK (fun op hop=>by obtain⟨e,_,rfl⟩:=Conc.mem_ofEvents hop;rfl) (fun op hop=>?_) (fun z=>absurd z hg) fun op hop=>?_ <;>
 . obtain⟨e,he,rfl⟩:=Conc.mem_ofEvents hop;simp only[List.mem_toArray,List.mem_cons,List.not_mem_nil,or_false]at he;subst he;rcases hm with rfl|rfl<;>first|rfl|trivial
theorem Gr.sem{g:Nat}(H:Gr Still Shun Mem Loose B K t){Kf:Trace->Nat->Prop}(hKf:K=Kf t)(TT:∀t u i,Kf t i->Kf (t++u) i)(hg:¬ Mem g){ad:Addr}(hS:Shun (.cell ad))(hap:∀g l,Still g l->¬ Shun l)(hB:ad.block<B)(fn:FuncId)(pos:String) :
  Gr Still Shun Mem Loose B (Kf (t++MemOp.ofEvents g fn pos (semEvents ad))) (t++MemOp.ofEvents g fn pos (semEvents ad))/\Deaf (t++MemOp.ofEvents g fn pos (semEvents ad)) g=Deaf t g:=by
 have e1:MemOp.ofEvents g fn pos (semEvents ad)=MemOp.ofEvents g fn pos #[⟨.mark .disable,false,true⟩]++(MemOp.ofEvents g fn pos #[⟨.cell ad,false,true⟩,⟨.cell ad,true,true⟩]++MemOp.ofEvents g fn pos #[⟨.mark .enable,false,true⟩]):=by simp[ofEvents_eq,semEvents]
 subst hKf;have p1:=H.Xb (TT t (MemOp.ofEvents g fn pos #[⟨.mark .disable,false,true⟩])) hg (fn:=fn) (pos:=pos) (.inl rfl);have d1:Deaf (t++MemOp.ofEvents g fn pos #[⟨.mark .disable,false,true⟩]) g=Deaf t g+1:=by rw[Deaf_own];rfl
 have p2:=p1.Ob (TT _ (MemOp.ofEvents g fn pos #[⟨.cell ad,false,true⟩,⟨.cell ad,true,true⟩])) hg hS hap hB zOM (fn:=fn) (pos:=pos) (es:=#[⟨.cell ad,false,true⟩,⟨.cell ad,true,true⟩]) (fun e he=>by simpa using he);have d2:Deaf (t++MemOp.ofEvents g fn pos #[⟨.mark .disable,false,true⟩]++MemOp.ofEvents g fn pos #[⟨.cell ad,false,true⟩,⟨.cell ad,true,true⟩]) g=Deaf t g+1:=by rw[Deaf_own,d1];rfl
 have p3:=p2.Xb (TT _ (MemOp.ofEvents g fn pos #[⟨.mark .enable,false,true⟩])) hg (fn:=fn) (pos:=pos) (.inr rfl);have d3:Deaf (t++MemOp.ofEvents g fn pos #[⟨.mark .disable,false,true⟩]++MemOp.ofEvents g fn pos #[⟨.cell ad,false,true⟩,⟨.cell ad,true,true⟩]++MemOp.ofEvents g fn pos #[⟨.mark .enable,false,true⟩]) g=Deaf t g:=by rw[Deaf_own,d2];rfl
 rw[e1,← Array.append_assoc,← Array.append_assoc];exact⟨p3,d3⟩
end
def JE:Fv->Nat
 | .fin s _ _=>cn s
 | _=>0
inductive Nf(n:Nat)(role:Nat->Fv):Nat->Nat->Nat->Prop
 | b1 {v:Nat} (hv:1<=v) (hs:∀i,i≠0->i<n->(role i).stage=7\/(role i).stage=6\/(role i).stage=5\/(role i).stage=1) (hc:v=sumTo n fun i=>JE (role i)):Nf n role v 1 0
 | b2 (L:Nat) (hL:L≠0) (hLn:L<n) (hs:(role L).stage=4\/(role L).stage=3) (ho:∀i,i≠0->i≠L->i<n->(role i).stage=1):Nf n role 0 1 0
 | b3 (L:Nat) (hL:L≠0) (hLn:L<n) (hs:(role L).stage=2) (ho:∀i,i≠0->i≠L->i<n->(role i).stage=1):Nf n role 0 0 0
 | b4 (ho:∀i,i≠0->i<n->(role i).stage=1):Nf n role 0 0 1
structure YR(P:Program)(ty:TypeId)(Wg:Nat)(K:Nat->World->Prop)(Still:Nat->Loc->Prop)(Shun:Loc->Prop)(Mem Loose:Nat->Prop)(role:Nat->Fv)(v wt sm:Nat)(T:Trace)(gs:Array Goroutine)(w:World):Prop where
 Ie:∀i g s m d,i≠0->gs[i]?=some g->role i=.fin s m d->Fs P ty Wg s m d g w/\Deaf T i=d/\¬ Mem i
 all:∀i,i≠0->i<gs.size->∃s m d,role i=.fin s m d
 zero:JE (role 0)=0
 sZ:¬ Mem 0
 deaf0:Deaf T 0=1
 above:∀j,gs.size<=j->Deaf T j=0
 past:Gr Still Shun Mem Loose w.heap.size (Knows T 0) T
 tight:¬ Loose 0
 wg:WgAt ty Wg w (v*KK+wt) sm
 mode:Nf gs.size role v wt sm
 few:v<2147483648
def JY(Wg:Nat)(w w':World):Prop:=w'=w\/(∃x,w'=w.setCell (stA Wg) x)\/∃x,w'=w.setCell (smA Wg) x
theorem JY.size{Wg:Nat}{w w':World}(h:JY Wg w w'):w'.heap.size=w.heap.size:=by rcases h with rfl|⟨x,rfl⟩|⟨x,rfl⟩<;>simp[World.setCell]
theorem JY.Yk{ty:TypeId}{Wg:Nat}{w w':World}(h:JY Wg w w')(hl:WgLive ty Wg w')(hl0:WgLive ty Wg w):G9 ty Wg w w':=by
 refine⟨?_,?_,?_,h.size,fun b hb=>?_,fun _=>hl,.inl hl0⟩
 . rcases h with rfl | ⟨x,rfl⟩ | ⟨x,rfl⟩<;>rfl
 . rcases h with rfl | ⟨x,rfl⟩ | ⟨x,rfl⟩<;>rfl
 . rcases h with rfl | ⟨x,rfl⟩ | ⟨x,rfl⟩<;>rfl
 . rcases h with rfl | ⟨x,rfl⟩ | ⟨x,rfl⟩<;>simp[World.setCell,stA,smA,Array.getElem?_modify,Ne.symm hb]
structure Env2(Wg:Nat)(K:Nat->World->Prop)(Still:Nat->Loc->Prop)(Shun:Loc->Prop):Prop extends Env Wg K Still Shun where
 SB:Shun (.cell (smA Wg))
section
variable {P:Program}{ty:TypeId}{Wg:Nat}{K:Nat->World->Prop}{Still:Nat->Loc->Prop}{Bd:Nat->Nat}{Shun:Loc->Prop}{Quiet Sp Mem Loose:Nat->Prop}{role:Nat->Fv}{v wt sm:Nat}{T:Trace}{gs:Array Goroutine}{w:World}
theorem YR.put(E:Env2 Wg K Still Shun)(C:YR P ty Wg K Still Shun Mem Loose role v wt sm T gs w){i:Nat}{g g':Goroutine}{s' m' d' v' Nr sm':Nat}{w':World}{ops:Trace}(hw:JY Wg w w')(hi:gs[i]?=some g)(h0:i≠0)(hops:∀op∈ops,op.g=i)(hF:Fs P ty Wg s' m' d' g' w')(hd:Deaf (T++ops) i=d')(hp:Gr Still Shun Mem Loose w.heap.size (Knows (T++ops) 0) (T++ops))(hwg:WgAt ty Wg w' (v'*KK+Nr) sm')(hm:Nf gs.size (upd role i (.fin s' m' d')) v' Nr sm')(hf:v'<2147483648) :
   YR P ty Wg K Still Shun Mem Loose (upd role i (.fin s' m' d')) v' Nr sm' (T++ops) ((gs.map (woken P g g' w')).setIfInBounds i g') w':=by
 have hlt:i<gs.size:=(zGE hi).1;have hrx:=Mw ty Wg ⟨_,_,C.wg⟩ ⟨_,_,hwg⟩;have hD:∀x,x≠i->Deaf (T++ops) x=Deaf T x:=fun x hx=>Deaf_other T (fun z=>hx z.symm) _ hops;have hM:¬ Mem i:=by obtain⟨s,m,d,e⟩:=C.all i h0 hlt;exact(C.Ie i g s m d h0 hi e).2.2
 refine⟨fun x y s m d hx hy e=>?_,fun x hx hlx=>?_,?_,C.sZ,by rw[hD 0 (Ne.symm h0)];exact C.deaf0,fun j hj=>?_,by rw[hw.size];exact hp,C.tight,hwg,by simpa using hm,hf⟩
 . by_cases ex:x=i
   . subst ex;rw[upd_same]at e;cases e
     rw[Array.getElem?_setIfInBounds_self_of_lt (by simpa using hlt)]at hy;obtain rfl:=Option.some.inj hy;exact⟨hF,hd,hM⟩
   . rw[upd_ne role _ ex]at e;rw[Array.getElem?_setIfInBounds_ne (fun z=>ex z.symm),Array.getElem?_map]at hy;obtain⟨y0,hy0,rfl⟩:=Option.map_eq_some_iff.1 hy;obtain⟨a1,a2,a3⟩:=C.Ie x y0 s m d hx hy0 e;rw[woken_of_again (again_of_running a1.status w'),hD x ex];exact⟨a1.rely hrx,a2,a3⟩
 . by_cases ex:x=i
   . subst ex;exact⟨_,_,_,upd_same _ _ _⟩
   . rw[upd_ne role _ ex];exact C.all x hx (by simpa using hlx)
 . rw[upd_ne role _ (Ne.symm h0)];exact C.zero
 . have hj':gs.size<=j:=by simpa using hj
   rw[hD j zOM];exact C.above j hj'
theorem Nf.congr{n:Nat}{r r':Nat->Fv}{v wt sm:Nat}(h:Nf n r v wt sm)(hs:∀i,i<n->(r' i).stage=(r i).stage/\JE (r' i)=JE (r i)):Nf n r' v wt sm:=by
 cases h with
 | b1 hv h1 hc=>exact .b1 hv (fun i h0 hi=>by rw[(hs i hi).1];exact h1 i h0 hi) (by rw[hc];exact Go.ConcN.sumTo_congr fun i hi=>((hs i hi).2).symm)
 | b2 L hL hn h1 ho=>exact .b2 L hL hn (by rw[(hs L hn).1];exact h1) fun i a b c=>by rw[(hs i c).1];exact ho i a b c
 | b3 L hL hn h1 ho=>exact .b3 L hL hn (by rw[(hs L hn).1];exact h1) fun i a b c=>by rw[(hs i c).1];exact ho i a b c
 | b4 ho=>exact .b4 fun i a c=>by rw[(hs i c).1];exact ho i a c
theorem OE{n i:Nat}{role:Nat->Fv}{r':Fv}(hi:i<n):(sumTo n fun a=>JE (upd role i r' a))+JE (role i)=(sumTo n fun a=>JE (role a))+JE r':=sumTo_upd role r' JE hi
theorem YR.by_step(E:Env2 Wg K Still Shun)(C:YR P ty Wg K Still Shun Mem Loose role v wt sm T gs w){i:Nat}{g:Goroutine}{sl:Option (Nat × Nat)}(hi:gs[i]?=some g)(h0:i≠0)(hrun:g.status=.running) :
  ∃g' w' ops r' v' Nr sm',runT P (crowd gs w sl) i=(.next (crowd ((gs.map (woken P g g' w')).setIfInBounds i g') w' sl),ops)/\JY Wg w w'/\YR P ty Wg K Still Shun Mem Loose (upd role i r') v' Nr sm' (T++ops) ((gs.map (woken P g g' w')).setIfInBounds i g') w'/\
    Less gs.size (upd role i r') role/\(sm'=1->sm=0->mayWake P g=true/\g'.status≠.blocked/\g'.status≠.waiting):=by
 have hlt:i<gs.size:=(zGE hi).1;have hi0:(i==0)=false:=by simp;omega
 obtain⟨s,m,d,er⟩:=C.all i h0 hlt;obtain⟨hF,hD,hM⟩:=C.Ie i g s m d h0 hi er;have hst:(role i).stage=s:=by rw[er];rfl
 have hops:∀(es:Array Event),∀op∈MemOp.ofEvents i g.frame.fn g.frame.place es,op.g=i:=fun es op hop=>by obtain⟨e,_,rfl⟩:=Conc.mem_ofEvents hop;rfl
 have hWs:Wg<w.heap.size:=(zGE C.wg).1;have TT:∀(t u:Trace) i,Knows t 0 i->Knows (t++u) 0 i:=fun t u i=>Knows.app u;have dc:∀{w':World} {es:Array Event},DC0 w w' es->w'=w/\es=#[]:=fun h=>⟨h.1,h.2⟩
 have quiet:∀(g':Goroutine) (es:Array Event) (m':Nat),stepG P false g w=.go g' w es->Fs P ty Wg s m' (deafBehind d es) g' w->m'<m->(∀e∈es,(MemAct.ofEvent e).touch?=none/\(MemAct.ofEvent e).low (Wg+1))->
    ∃g' w' ops r' v' Nr sm',runT P (crowd gs w sl) i=(.next (crowd ((gs.map (woken P g g' w')).setIfInBounds i g') w' sl),ops)/\JY Wg w w'/\YR P ty Wg K Still Shun Mem Loose (upd role i r') v' Nr sm' (T++ops) ((gs.map (woken P g g' w')).setIfInBounds i g') w'/\
    Less gs.size (upd role i r') role/\(sm'=1->sm=0->mayWake P g=true/\g'.status≠.blocked/\g'.status≠.waiting):=by
  intro g' es m' hgo hF' hlt' hes;refine⟨g',w,_,.fin s m' (deafBehind d es),v,wt,sm,runT_crowd_go (sl:=sl) hi (by rw[hi0];exact hgo),.inl rfl,C.put E (.inl rfl) hi h0 (hops es) hF' (by rw[Deaf_own,hD]) ?_ C.wg (C.mode.congr fun x hx=>?_) C.few,Hu hlt (.inr ⟨hst.symm,by rw[er];exact hlt'⟩),fun a b=>by omega⟩
  . refine C.past.mute (TT T _) (hops es) (fun op hop=>?_) (fun z=>absurd z hM) fun op hop=>?_
    . obtain⟨e,he,rfl⟩:=Conc.mem_ofEvents hop;exact(hes e he).1
    . obtain⟨e,he,rfl⟩:=Conc.mem_ofEvents hop;exact MemAct.low_mono hWs (hes e he).2
  . by_cases e:x=i
    . subst e;rw[upd_same,er];exact⟨rfl,rfl⟩
    . rw[upd_ne _ _ e];exact⟨rfl,rfl⟩
 have idle:∀(g':Goroutine) (w':World) (es:Array Event) (m':Nat),stepG P false g w=.go g' w' es->DC0 w w' es->Fs P ty Wg s m' d g' w'->m'<m->
    ∃g' w' ops r' v' Nr sm',runT P (crowd gs w sl) i=(.next (crowd ((gs.map (woken P g g' w')).setIfInBounds i g') w' sl),ops)/\JY Wg w w'/\YR P ty Wg K Still Shun Mem Loose (upd role i r') v' Nr sm' (T++ops) ((gs.map (woken P g g' w')).setIfInBounds i g') w'/\
    Less gs.size (upd role i r') role/\(sm'=1->sm=0->mayWake P g=true/\g'.status≠.blocked/\g'.status≠.waiting):=by
  intro g' w' es m' hgo hdc hF' hlt';obtain⟨rfl,rfl⟩:=dc hdc;exact quiet g' #[] m' hgo (by simpa [deafBehind]using hF') hlt' (by simp)
 have hmark:∀(s':Nat),(s=7/\s'=6)\/(s=6/\s'=5)->Nf gs.size role v wt sm->∀m' d',Nf gs.size (upd role i (.fin s' m' d')) v wt sm:=by
  intro s' hs' hmo m' d';cases hmo with
  | b1 hv h1 hc=>
    refine .b1 hv (fun x a b=>?_) ?_
    . by_cases e:x=i
      . subst e;rw[upd_same];rcases hs' with⟨_,rfl⟩ | ⟨_,rfl⟩<;>simp[Fv.stage]
      . rw[upd_ne _ _ e];exact h1 x a b
    . have:=OE (role:=role) (r':=.fin s' m' d') hlt;have e1:JE (role i)=1:=by rw[er];rcases hs' with⟨rfl,_⟩ | ⟨rfl,_⟩<;>rfl
      have e2:JE (.fin s' m' d')=1:=by rcases hs' with⟨_,rfl⟩ | ⟨_,rfl⟩<;>rfl
      omega
  | b2 L hL hn h1 ho=>
    exfalso
    by_cases e:i=L
    . subst e;omega
    . have:=ho i h0 e hlt;omega
  | b3 L hL hn h1 ho=>
    exfalso
    by_cases e:i=L
    . subst e;omega
    . have:=ho i h0 e hlt;omega
  | b4 ho=>exfalso;have:=ho i h0 hlt;omega
 cases hF with
 | r0 h=>
  rcases Gy (FT w) h with⟨_,g',hgo,m',hG⟩|⟨n',g',w',es,rfl,hgo,Rv,hG⟩
  . refine⟨g',w,_,.fin 6 m' 0,v,wt,sm,runT_crowd_go (sl:=sl) hi (by rw[hi0];exact hgo),.inl rfl,C.put E (.inl rfl) hi h0 (hops _) (.k1 hG) (by rw[Deaf_own,hD];rfl) ?_ C.wg (hmark 6 (.inl ⟨rfl,rfl⟩) C.mode _ _) C.few,Hu hlt (.inl (by rw[hst];simp[Fv.stage])),fun a b=>by omega⟩
    refine C.past.mute (TT T _) (hops _) (fun op hop=>?_) (fun z=>absurd z hM) fun op hop=>?_ <;>
    . obtain⟨e,he,rfl⟩:=Conc.mem_ofEvents hop;simp only[List.mem_toArray,List.mem_cons,List.not_mem_nil,or_false]at he;subst he;first | rfl | exact hWs
  . exact idle g' w' es n' hgo Rv (.r0 hG) zOM
 | k1 h=>
  rcases Gy (FT w) h with⟨_,g',hgo,m',hG⟩|⟨n',g',w',es,rfl,hgo,Rv,hG⟩
  . refine⟨g',w,_,.fin 5 m' 1,v,wt,sm,runT_crowd_go (sl:=sl) hi (by rw[hi0];exact hgo),.inl rfl,C.put E (.inl rfl) hi h0 (hops _) (.d1 hG) (by rw[Deaf_own,hD];rfl) ?_ C.wg (hmark 5 (.inr ⟨rfl,rfl⟩) C.mode _ _) C.few,Hu hlt (.inl (by rw[hst];simp[Fv.stage])),fun a b=>by omega⟩
    exact C.past.Xb (TT T _) hM (.inl rfl)
  . exact idle g' w' es n' hgo Rv (.k1 hG) zOM
 | d1 h=>
  rcases Gy (FT w) h with⟨_,hadd⟩|⟨n',g',w',es,rfl,hgo,Rv,hG⟩
  ·
    have hmo:=C.mode;have WW:=C.wg;have Qe:=C.few;cases hmo with
    | b1 hv h1 hc=>
      obtain⟨v',rfl⟩:∃v',v=v'+1:=⟨v-1,by omega⟩
      obtain⟨g',hgo,hlast,hq⟩:=hadd v' 1 zOM zOM (by simpa using WW);have hwg':WgAt ty Wg (w.setCell (stA Wg) (.int .u64 ((v':Int)*KK+((1:Nat):Int)))) ((v':Int)*KK+((1:Nat):Int)) ((0:Nat):Int):=by have:=WW.setSt ((v':Int)*KK+((1:Nat):Int));simpa using this
      have hp:=C.past.Ob (ad:=stA Wg) (TT T (MemOp.ofEvents i g.frame.fn g.frame.place #[rd (stA Wg),wr (stA Wg)])) hM E.shun E.apart hWs (by rw[hD];omega) (fn:=g.frame.fn) (pos:=g.frame.place) (es:=#[rd (stA Wg),wr (stA Wg)]) (fun e he=>by simpa [rd,wr]using he);have hdf:Deaf (T++MemOp.ofEvents i g.frame.fn g.frame.place #[rd (stA Wg),wr (stA Wg)]) i=1:=by rw[Deaf_own,hD];rfl
      have hsum:=fun r'=>OE (role:=role) (r':=r') hlt;have e1:JE (role i)=1:=by rw[er];rfl
      by_cases hz:v'=0
      . subst hz;obtain⟨m',hG⟩:=hlast ⟨rfl,rfl⟩;refine⟨g',_,_,.fin 4 m' 1,0,1,0,runT_crowd_go (sl:=sl) hi (by rw[hi0];exact hgo),.inr (.inl ⟨_,rfl⟩),C.put E (.inr (.inl ⟨_,rfl⟩)) hi h0 (hops _) (.d2 hG) hdf hp hwg' (.b2 i h0 hlt (.inl (by rw[upd_same];rfl)) fun x a b c=>?_) zOM,Hu hlt (.inl (by rw[hst];simp[Fv.stage])),fun a b=>by omega⟩;rw[upd_ne _ _ b];have hx0:JE (role x)=0:=by
          have hs2:=hsum (.fin 1 0 0);have:JE (.fin 1 0 0)=0:=rfl;have hz0:(sumTo gs.size fun a=>JE (upd role i (.fin 1 0 0) a))=0:=by omega
          have:=Go.ConcN.le_sumTo (f:=fun a=>JE (upd role i (.fin 1 0 0) a)) (i:=x) (j:=gs.size) c;simp only[upd_ne role _ b]at this;omega
        obtain⟨s2,m2,d2,e2⟩:=C.all x a c;have h2:=h1 x a c;rw[e2]at hx0 h2 ⊢;simp only[Fv.stage,JE,cn]at hx0 h2 ⊢;split at hx0<;>omega
      . obtain⟨q,hq⟩:=hq zOM;refine⟨g',_,_,.fin 1 q 1,v',1,0,runT_crowd_go (sl:=sl) hi (by rw[hi0];exact hgo),.inr (.inl ⟨_,rfl⟩),C.put E (.inr (.inl ⟨_,rfl⟩)) hi h0 (hops _) (.quit hq) hdf hp hwg' (.b1 zOM (fun x a c=>?_) ?_) zOM,Hu hlt (.inl (by rw[hst];simp[Fv.stage])),fun a b=>by omega⟩
        . by_cases e:x=i
          . subst e;rw[upd_same];simp[Fv.stage]
          . rw[upd_ne _ _ e];exact h1 x a c
        . have:=hsum (.fin 1 q 1);have e2:JE (.fin 1 q 1)=0:=rfl;omega
    | b2 L hL hn h1 ho=>
      exfalso
      by_cases e:i=L
      . subst e;omega
      . have:=ho i h0 e hlt;omega
    | b3 L hL hn h1 ho=>
      exfalso
      by_cases e:i=L
      . subst e;omega
      . have:=ho i h0 e hlt;omega
    | b4 ho=>exfalso;have:=ho i h0 hlt;omega
  . exact idle g' w' es n' hgo Rv (.d1 hG) zOM
 | d2 h=>
  have hmo:wt=1/\v=0/\sm=0/\∀x,x≠0->x≠i->x<gs.size->(role x).stage=1:=by
    have hmo:=C.mode;cases hmo with
    | b1 hv h1 hc=>exfalso;have:=h1 i h0 hlt;omega
    | b2 L hL hn h1 ho=>
      by_cases e:i=L
      . subst e;exact⟨rfl,rfl,rfl,ho⟩
      . exfalso;have:=ho i h0 e hlt;omega
    | b3 L hL hn h1 ho=>
      exfalso
      by_cases e:i=L
      . subst e;omega
      . have:=ho i h0 e hlt;omega
    | b4 ho=>exfalso;have:=ho i h0 hlt;omega
  obtain⟨rfl,rfl,rfl,ho⟩:=hmo;rcases Gy (FT w) h with⟨_,hld⟩|⟨n',g',w',es,rfl,hgo,Rv,hG⟩
  . obtain⟨g',hgo,m',hG⟩:=hld (by simpa using C.wg);refine⟨g',w,_,.fin 3 m' 1,0,1,0,runT_crowd_go (sl:=sl) hi (by rw[hi0];exact hgo),.inl rfl,C.put E (.inl rfl) hi h0 (hops _) (.d3 hG) (by rw[Deaf_own,hD];rfl) ?_ C.wg (.b2 i h0 hlt (.inr (by rw[upd_same];rfl)) fun x a b c=>by rw[upd_ne _ _ b];exact ho x a b c) C.few,Hu hlt (.inl (by rw[hst];simp[Fv.stage])),fun a b=>by omega⟩;exact C.past.Ob (ad:=stA Wg) (TT T _) hM E.shun E.apart hWs (by rw[hD];omega) (fun e he=>by simp[rd]at he;exact .inl he)
  . exact idle g' w' es n' hgo Rv (.d2 hG) zOM
 | d3 h=>
  have hmo:wt=1/\v=0/\sm=0/\∀x,x≠0->x≠i->x<gs.size->(role x).stage=1:=by
    have hmo:=C.mode;cases hmo with
    | b1 hv h1 hc=>exfalso;have:=h1 i h0 hlt;omega
    | b2 L hL hn h1 ho=>
      by_cases e:i=L
      . subst e;exact⟨rfl,rfl,rfl,ho⟩
      . exfalso;have:=ho i h0 e hlt;omega
    | b3 L hL hn h1 ho=>
      exfalso
      by_cases e:i=L
      . subst e;omega
      . have:=ho i h0 e hlt;omega
    | b4 ho=>exfalso;have:=ho i h0 hlt;omega
  obtain⟨rfl,rfl,rfl,ho⟩:=hmo;rcases Gy (FT w) h with⟨_,tX⟩|⟨n',g',w',es,rfl,hgo,Rv,hG⟩
  . obtain⟨g',hgo,m',hG⟩:=tX (by simpa using C.wg);refine⟨g',_,_,.fin 2 m' 1,0,0,0,runT_crowd_go (sl:=sl) hi (by rw[hi0];exact hgo),.inr (.inl ⟨_,rfl⟩),C.put E (.inr (.inl ⟨_,rfl⟩)) hi h0 (hops _) (.d4 hG) (by rw[Deaf_own,hD];rfl) ?_ (by have:=C.wg.setSt 0;simpa using this) (.b3 i h0 hlt (by rw[upd_same];rfl) fun x a b c=>by rw[upd_ne _ _ b];exact ho x a b c) C.few,Hu hlt (.inl (by rw[hst];simp[Fv.stage])),fun a b=>by omega⟩;exact C.past.Ob (ad:=stA Wg) (TT T _) hM E.shun E.apart hWs (by rw[hD];omega) (fun e he=>by simp[wr]at he;exact .inr he)
  . exact idle g' w' es n' hgo Rv (.d3 hG) zOM
 | d4 h=>
  have hmo:wt=0/\v=0/\sm=0/\∀x,x≠0->x≠i->x<gs.size->(role x).stage=1:=by
    have hmo:=C.mode;cases hmo with
    | b1 hv h1 hc=>exfalso;have:=h1 i h0 hlt;omega
    | b2 L hL hn h1 ho=>
      exfalso
      by_cases e:i=L
      . subst e;omega
      . have:=ho i h0 e hlt;omega
    | b3 L hL hn h1 ho=>
      by_cases e:i=L
      . subst e;exact⟨rfl,rfl,rfl,ho⟩
      . exfalso;have:=ho i h0 e hlt;omega
    | b4 ho=>exfalso;have:=ho i h0 hlt;omega
  obtain⟨rfl,rfl,rfl,ho⟩:=hmo;rcases Gy (FT w) h with⟨_,hmw,hrel⟩|⟨n',g',w',es,rfl,hgo,Rv,hG⟩
  . obtain⟨g',hgo,q,hq⟩:=hrel (by simpa using C.wg);obtain⟨hp,hdf⟩:=C.past.sem (Kf:=fun T=>Knows T 0) rfl TT hM E.SB E.apart (show(smA Wg).block<_ from hWs) g.frame.fn g.frame.place;refine⟨g',_,_,.fin 1 q 1,0,0,1,runT_crowd_go (sl:=sl) hi (by rw[hi0];exact hgo),.inr (.inr ⟨_,rfl⟩),C.put E (.inr (.inr ⟨_,rfl⟩)) hi h0 (hops _) (.quit hq) (by rw[hdf,hD]) hp (by have:=C.wg.setSm 1;simpa using this) (.b4 fun x a c=>?_) C.few,Hu hlt (.inl (by rw[hst];simp[Fv.stage])),fun a b=>⟨hmw,by rcases hq.status with z | z<;>rw[z]<;>simp⟩⟩
    . by_cases e:x=i
      . subst e;rw[upd_same];rfl
      . rw[upd_ne _ _ e];exact ho x a e c
  . exact idle g' w' es n' hgo Rv (.d4 hG) zOM
 | quit h=>
  cases m with
  | zero=>rw[h.1]at hrun;cases hrun
  | succ m=>
    rcases h with⟨hf,_⟩|⟨_,g',es,hm,hgo,hq⟩
    . rw[hf]at hrun;cases hrun
    . exact quiet g' es m (hgo w) (.quit hq) zOM fun e he=>⟨touch_mute (hm e he),low_mute (hm e he) _⟩
end
end
section
inductive WS | loop (v:Nat) | seen (v:Nat) | sem | last
inductive M8(P:Program)(ty:TypeId)(Wg n:Nat)(D:World->World->Array Event->Prop)(Stop:Nat->Goroutine->World->Prop):WS->Goroutine->World->Prop
 | step {s:WS} {g:Goroutine} {w:World} (hs:g.status=.running) (h:∀w₁,G9 ty Wg w w₁->∃g' w' es,stepG P true g w₁=.go g' w' es/\D w₁ w' es)
   (k:∀w₁ g' w' es,G9 ty Wg w w₁->stepG P true g w₁=.go g' w' es->M8 P ty Wg n D Stop s g' w'):M8 P ty Wg n D Stop s g w
 | load {v:Nat} {g:Goroutine} {w:World} (hs:g.status=.running) (h:∀w₁ (v':Nat),G9 ty Wg w w₁->v'<=v->v'<2147483648->WgAt ty Wg w₁ (v'*KK) 0->∃g',stepG P true g w₁=.go g' w₁ #[rd (stA Wg)])
   (k0:∀w₁ g',G9 ty Wg w w₁->WgAt ty Wg w₁ 0 0->stepG P true g w₁=.go g' w₁ #[rd (stA Wg)]->LV P true ty Wg n D Stop true 0 g' w₁)
   (k1:∀w₁ (v':Nat) g',G9 ty Wg w w₁->v'<=v->v'≠0->v'<2147483648->WgAt ty Wg w₁ (v'*KK) 0->stepG P true g w₁=.go g' w₁ #[rd (stA Wg)]->M8 P ty Wg n D Stop (.seen v') g' w₁):M8 P ty Wg n D Stop (.loop v) g w
 | cas {v:Nat} {g:Goroutine} {w:World} (hs:g.status=.running) (hv:v≠0)
   (h:∀w₁,G9 ty Wg w w₁->WgAt ty Wg w₁ (v*KK) 0->∃g',stepG P true g w₁=.go g' (w₁.setCell (stA Wg) (.int .u64 (v*KK+1))) #[rd (stA Wg),wr (stA Wg)])
   (kh:∀w₁ g',G9 ty Wg w w₁->WgAt ty Wg w₁ (v*KK) 0->stepG P true g w₁=.go g' (w₁.setCell (stA Wg) (.int .u64 (v*KK+1))) #[rd (stA Wg),wr (stA Wg)]->M8 P ty Wg n D Stop .sem g' (w₁.setCell (stA Wg) (.int .u64 (v*KK+1))))
   (m:∀w₁ (v':Nat),G9 ty Wg w w₁->v'<v->WgAt ty Wg w₁ (v'*KK) 0->∃g',stepG P true g w₁=.go g' w₁ #[rd (stA Wg)])
   (km:∀w₁ (v':Nat) g',G9 ty Wg w w₁->v'<v->WgAt ty Wg w₁ (v'*KK) 0->stepG P true g w₁=.go g' w₁ #[rd (stA Wg)]->M8 P ty Wg n D Stop (.loop v') g' w₁):M8 P ty Wg n D Stop (.seen v) g w
 | acq {g:Goroutine} {w:World} (hs:g.status=.running) (ho:g.offers=none) (hb:∀w₁,G9 ty Wg w w₁->(∃st,WgAt ty Wg w₁ st 0)->stepG P true g w₁=.go { g with status:=.blocked } w₁ #[])
   (h:∀w₁,G9 ty Wg w w₁->WgAt ty Wg w₁ 0 1->∃g',stepG P true g w₁=.go g' (w₁.setCell (smA Wg) (.int .u32 0)) (semEvents (smA Wg)))
   (k:∀w₁ g',G9 ty Wg w w₁->WgAt ty Wg w₁ 0 1->stepG P true g w₁=.go g' (w₁.setCell (smA Wg) (.int .u32 0)) (semEvents (smA Wg))->M8 P ty Wg n D Stop .last g' (w₁.setCell (smA Wg) (.int .u32 0))):M8 P ty Wg n D Stop .sem g w
 | last {g:Goroutine} {w:World} (hs:g.status=.running) (h:∀w₁,G9 ty Wg w w₁->WgAt ty Wg w₁ 0 0->∃g',stepG P true g w₁=.go g' w₁ #[rd (stA Wg)])
   (k:∀w₁ g',G9 ty Wg w w₁->WgAt ty Wg w₁ 0 0->stepG P true g w₁=.go g' w₁ #[rd (stA Wg)]->LV P true ty Wg n D Stop true 0 g' w₁):M8 P ty Wg n D Stop .last g w
structure Acq(P:Program)(ty:TypeId)(Wg n:Nat)(D:World->World->Array Event->Prop)(Stop:Nat->Goroutine->World->Prop)(g:Goroutine)(w:World):Prop where
 hs:g.status=.running
 ho:g.offers=none
 hb:∀w₁,G9 ty Wg w w₁->(∃st,WgAt ty Wg w₁ st 0)->stepG P true g w₁=.go { g with status:=.blocked } w₁ #[]
 h:∀w₁,G9 ty Wg w w₁->WgAt ty Wg w₁ 0 1->∃g',stepG P true g w₁=.go g' (w₁.setCell (smA Wg) (.int .u32 0)) (semEvents (smA Wg))
 k:∀w₁ g',G9 ty Wg w w₁->WgAt ty Wg w₁ 0 1->stepG P true g w₁=.go g' (w₁.setCell (smA Wg) (.int .u32 0)) (semEvents (smA Wg))->M8 P ty Wg n D Stop .last g' (w₁.setCell (smA Wg) (.int .u32 0))
section
variable {P:Program}{ty:TypeId}{Wg n:Nat}{D:World->World->Array Event->Prop}{Stop:Nat->Goroutine->World->Prop}{s:WS}{g:Goroutine}{w w₁:World}
theorem M8.rely(h:M8 P ty Wg n D Stop s g w)(hr:G9 ty Wg w w₁):M8 P ty Wg n D Stop s g w₁:=by
 cases h with
 | step hs h k=>exact .step hs (fun w₂ h₂=>h w₂ (hr.trans h₂)) fun w₂ g' w' es h₂=>k w₂ g' w' es (hr.trans h₂)
 | load hs h k0 k1=>exact .load hs (fun w₂ v h₂=>h w₂ v (hr.trans h₂)) (fun w₂ g' h₂=>k0 w₂ g' (hr.trans h₂)) fun w₂ v g' h₂=>k1 w₂ v g' (hr.trans h₂)
 | cas hs hv h kh m km=>exact .cas hs hv (fun w₂ h₂=>h w₂ (hr.trans h₂)) (fun w₂ g' h₂=>kh w₂ g' (hr.trans h₂)) (fun w₂ v h₂=>m w₂ v (hr.trans h₂)) fun w₂ v g' h₂=>km w₂ v g' (hr.trans h₂)
 | acq hs ho hb h k=>exact .acq hs ho (fun w₂ h₂=>hb w₂ (hr.trans h₂)) (fun w₂ h₂=>h w₂ (hr.trans h₂)) fun w₂ g' h₂=>k w₂ g' (hr.trans h₂)
 | last hs h k=>exact .last hs (fun w₂ h₂=>h w₂ (hr.trans h₂)) fun w₂ g' h₂=>k w₂ g' (hr.trans h₂)
theorem Acq.rely(h:Acq P ty Wg n D Stop g w)(hr:G9 ty Wg w w₁):Acq P ty Wg n D Stop g w₁:=
 ⟨h.hs,h.ho,fun w₂ h₂=>h.hb w₂ (hr.trans h₂),fun w₂ h₂=>h.h w₂ (hr.trans h₂),fun w₂ g' h₂=>h.k w₂ g' (hr.trans h₂)⟩
theorem Acq.way(h:Acq P ty Wg n D Stop g w):M8 P ty Wg n D Stop .sem g w:=.acq h.hs h.ho h.hb h.h h.k
theorem M8.run(h:M8 P ty Wg n D Stop s g w):g.status=.running:=by cases h<;>assumption
end
section
variable {P:Program}{ty:TypeId}{Wg:Nat}{K:Nat->World->Prop}{Still:Nat->Loc->Prop}{Bd:Nat->Nat}{Shun:Loc->Prop}{Quiet Sp Mem Loose:Nat->Prop}{role:Nat->Fv}{v wt sm:Nat}{T:Trace}{gs:Array Goroutine}{w:World}
theorem YR.at(E:Env2 Wg K Still Shun)(C:YR P ty Wg K Still Shun Mem Loose role v wt sm T gs w)(d:Nat):YR P ty Wg K Still Shun Mem Loose role v wt sm T gs (w.at d):=
 ⟨fun i g s m dd h0 hg e=>let⟨a,b,c⟩:=C.Ie i g s m dd h0 hg e;⟨a.rely (Mw ty Wg ⟨_,_,C.wg⟩ ⟨_,_,C.wg⟩),b,c⟩,C.all,C.zero,C.sZ,C.deaf0,C.above,C.past,C.tight,C.wg,C.mode,C.few⟩
theorem YR.Qi(C:YR P ty Wg K Still Shun Mem Loose role v wt sm T gs w){a a':Goroutine}{w':World}{ops:Trace}(ha:gs[0]?=some a)(hops:∀op∈ops,op.g=0)(hsz:w.heap.size<=w'.heap.size)(hwg:w'.heap[Wg]?=w.heap[Wg]?)(hd:Deaf (T++ops) 0=1)(hp:Gr Still Shun Mem Loose w'.heap.size (Knows (T++ops) 0) (T++ops)):YR P ty Wg K Still Shun Mem Loose role v wt sm (T++ops) ((gs.map (woken P a a' w')).setIfInBounds 0 a') w'/\((gs.map (woken P a a' w')).setIfInBounds 0 a')[0]?=some a':=by
 have hlt:0<gs.size:=(zGE ha).1;have hw':WgAt ty Wg w' (v*KK+wt) sm:=by have:=C.wg;unfold WgAt at this ⊢;rw[hwg];exact this
 have hrx:=Mw ty Wg ⟨_,_,C.wg⟩ ⟨_,_,hw'⟩;have hD:∀x,x≠0->Deaf (T++ops) x=Deaf T x:=fun x hx=>Deaf_other T (fun z=>hx z.symm) _ hops;refine⟨⟨fun x y s m d hx hy e=>?_,fun x hx hlx=>C.all x hx (by simpa using hlx),C.zero,C.sZ,hd,fun j hj=>?_,hp,C.tight,hw',by simpa using C.mode,C.few⟩,Array.getElem?_setIfInBounds_self_of_lt (by simpa using hlt)⟩
 . rw[Array.getElem?_setIfInBounds_ne (fun z=>hx z.symm),Array.getElem?_map]at hy;obtain⟨y0,hy0,rfl⟩:=Option.map_eq_some_iff.1 hy;obtain⟨a1,a2,a3⟩:=C.Ie x y0 s m d hx hy0 e;rw[woken_of_again (again_of_running a1.status w'),hD x hx];exact⟨a1.rely hrx,a2,a3⟩
 . have hj':gs.size<=j:=by simpa using hj
   rw[hD j zOM];exact C.above j hj'
section
variable {n:Nat}{D:World->World->Array Event->Prop}{Stop:Nat->Goroutine->World->Prop}{Ch:Nat->Prop}
end
end
end
section
abbrev Qy:Nat->Loc->Prop:=fun _ _=>False
structure Om(P:Program)(Shun:Loc->Prop)(q:Nat->Nat)(T:Trace)(gs:Array Goroutine)(w:World):Prop where
 old:∀i g,0<i->gs[i]?=some g->QuitsD P (q i) (Deaf T i) g
 above:∀j,gs.size<=j->Deaf T j=0
 past:Gr Qy Shun (fun g=>g=0) (fun _=>False) w.heap.size (Knows T 0) T
structure wR(Shun:Loc->Prop)(w w':World)(es:Array Event):Prop where
 size:w.heap.size<=w'.heap.size
 evs:∀e∈es,vK Qy Shun 0 w'.heap.size e
theorem Wt{B:Hid}{w w₁:World}(h:AtRel w w₁):Turns B w w₁:=by obtain⟨d,rfl⟩:=h;exact⟨rfl,rfl,fun hR=>⟨hR.hol,hR.KH⟩⟩
section
variable {P:Program}{Shun:Loc->Prop}{q:Nat->Nat}{T:Trace}{gs:Array Goroutine}{w:World}
theorem Om.at(C:Om P Shun q T gs w)(d:Nat):Om P Shun q T gs (w.at d):=⟨C.old,C.above,C.past⟩
theorem Om.own(C:Om P Shun q T gs w){a a':Goroutine}{w':World}{es:Array Event}{fn:FuncId}{pos:String}(ha:gs[0]?=some a)(hd:wR Shun w w' es) :
   Om P Shun q (T++MemOp.ofEvents 0 fn pos es) ((gs.map (woken P a a' w')).setIfInBounds 0 a') w'/\((gs.map (woken P a a' w')).setIfInBounds 0 a')[0]?=some a':=by
 have hlt:0<gs.size:=(zGE ha).1;obtain⟨o1,o2,o3,o4⟩:=Lb (h:=0) (fn:=fn) (pos:=pos) hd.evs;refine⟨⟨fun i g hi hg=>?_,fun j hj=>?_,(C.past.mono hd.size).hold (fun z=>z) o1 o2 (fun _=>o4 T) o3⟩,Array.getElem?_setIfInBounds_self_of_lt (by simpa using hlt)⟩
 . rw[Array.getElem?_setIfInBounds_ne (fun z=>by omega),Array.getElem?_map]at hg;obtain⟨y,hy,rfl⟩:=Option.map_eq_some_iff.1 hg;have hq:=C.old i y hi hy;rw[woken_quitsD hq,Deaf_other T zOM _ o1];exact hq
 . have hj':gs.size<=j:=by simpa using hj
   rw[Deaf_other T (g':=0) zOM _ o1];exact C.above j hj'
theorem Om.pick{a:Goroutine}(hrun:a.status=.running):∀(m:Nat) {q:Nat->Nat} {T:Trace} {gs:Array Goroutine} {w:World} {sl:Option (Nat × Nat)},sumTo gs.size q=m->gs[0]?=some a->Om P Shun q T gs w->
   ∃N gs' d d' sl' sl'' T' q',runNT P N (crowd gs w sl) T=(.next (crowd gs' (w.at d) sl'),T')/\stepT P (crowd gs' (w.at d) sl')=runT P (crowd gs' (w.at d') sl'') 0/\gs'.size=gs.size/\gs'[0]?=some a/\Om P Shun q' T' gs' (w.at d'):=by
 intro m;induction m using Nat.strongRecOn with
 | _ m ih=>
 intro q T gs w sl hm ha C;have haw:∀g∈gs,awake g:=by
   intro g hg;obtain⟨i,hi,rfl⟩:=Array.mem_iff_getElem.1 hg;rcases Nat.eq_zero_or_pos i with rfl|hpos
   . have:gs[0]=a:=by simpa [Array.getElem?_eq_getElem hi]using ha
     rw[this];exact awake_of (.inl hrun)
   . exact awake_of ((C.old i _ hpos (Array.getElem?_eq_getElem hi)).status.elim .inl fun x=>.inr (.inr x))
 obtain⟨i,g,d,sl',hi,hg,hst⟩:=crowd_pick (P:=P) (w:=w) (sl:=sl) haw ⟨0,a,ha,hrun⟩;rcases Nat.eq_zero_or_pos i with rfl|hpos
 . exact⟨0,gs,w.drawn,d,sl,sl',T,q,rfl,hst,rfl,ha,C.at d⟩
 . have hq:=C.old i g hpos hi;have hi0:(i==0)=false:=by simp;omega
   have hlt:i<gs.size:=(zGE hi).1;cases hqi:q i with
   | zero=>rw[hqi]at hq;rw[hq.1]at hg;cases hg
   | succ k=>
     rw[hqi]at hq;rcases hq with⟨hf,_⟩|⟨_,g',es,hm',hstp,hq'⟩
     . rw[hf]at hg;cases hg
     have hrt:=runT_crowd_go (P:=P) (sl:=sl') (i:=i) hi (by rw[hi0];exact hstp (w.at d));have hops:∀op∈MemOp.ofEvents i g.frame.fn g.frame.place es,op.g=i:=fun op hop=>by obtain⟨e,_,rfl⟩:=Conc.mem_ofEvents hop;rfl
     have hsum:sumTo gs.size (upd q i k)+(k+1)=sumTo gs.size q+k:=by
       have:=sumTo_upd q k id hlt
       simpa [hqi]using this
     have hsz:((gs.map (woken P g g' (w.at d))).setIfInBounds i g').size=gs.size:=by simp
     have ha':((gs.map (woken P g g' (w.at d))).setIfInBounds i g')[0]?=some a:=by rw[Array.getElem?_setIfInBounds_ne zOM,Array.getElem?_map,ha];simp[woken_of_again (again_of_running (.inl hrun) _)]
     have C':Om P Shun (upd q i k) (T++MemOp.ofEvents i g.frame.fn g.frame.place es) ((gs.map (woken P g g' (w.at d))).setIfInBounds i g') (w.at d):=by
       refine⟨fun j x hj hx=>?_,fun j hj=>?_,C.past.mute (fun i=>Knows.app _) hops (fun op hop=>?_) (fun z=>absurd z zOM) fun op hop=>?_⟩
       . by_cases hji:i=j
         . subst hji;rw[Array.getElem?_setIfInBounds_self_of_lt (by simpa using hlt)]at hx;obtain rfl:=Option.some.inj hx;rw[upd_same,Deaf_own];exact hq'
         . rw[Array.getElem?_setIfInBounds_ne hji,Array.getElem?_map]at hx;obtain⟨y,hy,rfl⟩:=Option.map_eq_some_iff.1 hx;have hqj:=C.old j y hj hy;rw[woken_quitsD hqj,upd_ne q k (Ne.symm hji),Deaf_other T hji _ hops];exact hqj
       . have hj':gs.size<=j:=by simpa using hj
         rw[Deaf_other T (g':=i) zOM _ hops];exact C.above j hj'
       . obtain⟨e,he,rfl⟩:=Conc.mem_ofEvents hop;exact touch_mute (hm' e he)
       . obtain⟨e,he,rfl⟩:=Conc.mem_ofEvents hop;exact low_mute (hm' e he) _
     obtain⟨N,GN,d₁,d₂,sl₁,sl₂,T₂,q₂,r1,r2,r3,r4,r5⟩:=ih (sumTo ((gs.map (woken P g g' (w.at d))).setIfInBounds i g').size (upd q i k)) (by rw[hsz];omega) (sl:=sl') rfl ha' C';exact⟨N+1,GN,d₁,d₂,sl₁,sl₂,T₂,q₂,by simp only[runNT,hst,hrt];exact r1,r2,r3.trans hsz,r4,r5⟩
theorem Yx{D:World->World->Array Event->Prop}{Stop:Goroutine->World->Prop}(hD:∀w w' es,D w w' es->wR Shun w w' es){a:Goroutine}{w:World}(hW:LT.Way P true AtRel D Stop a w) :
  ∀{q:Nat->Nat} {T:Trace} {gs:Array Goroutine} {sl:Option (Nat × Nat)},gs[0]?=some a->Om P Shun q T gs w->
  ∃N gs' a' w' sl' T' q',runNT P N (crowd gs w sl) T=(.next (crowd gs' w' sl'),T')/\gs'.size=gs.size/\gs'[0]?=some a'/\(∀w₁,AtRel w' w₁->Stop a' w₁)/\Om P Shun q' T' gs' w':=by
 induction hW with
 | @stop g w hs=>
  intro q T gs sl ha C;exact⟨0,gs,_,w,sl,T,q,rfl,rfl,ha,hs,C⟩
 | @step g w hrun hstep hk ih=>
  intro q T gs sl ha C;obtain⟨N,gs₁,d,d',sl₁,sl₂,T₁,q₁,p1,p2,p3,p4,p5⟩:=C.pick (sl:=sl) hrun _ rfl ha;obtain⟨g',w',es,hst,hd⟩:=hstep (w.at d') ⟨d',rfl⟩;have hrt:=runT_crowd_go (P:=P) (sl:=sl₂) (i:=0) p4 (show stepG P (0==0) g _=_ from hst);obtain⟨C',ha'⟩:=p5.own (fn:=g.frame.fn) (pos:=g.frame.place) (a':=g') p4 (hD _ _ _ hd);obtain⟨N₂,GN,a₂,w₂,sl₃,T₂,q₂,r1,r2,r3,r4,r5⟩:=ih _ _ _ _ ⟨d',rfl⟩ hst (sl:=sl₂) ha' C';exact⟨N+(N₂+1),GN,a₂,w₂,sl₃,T₂,q₂,runNT_then p1 (by simp only[runNT,p2,hrt];exact r1),by rw[r2];simpa using p3,r3,r4,r5⟩
theorem nC(P:Program)(Shun:Loc->Prop)(a:Goroutine)(w:World):Om P Shun (fun _=>0) #[] #[a] w:=
 ⟨fun i g hi hg=>by
  have:i<1:=by simpa using(zGE hg).1
  omega,fun _ _=>rfl,⟨past_nil.clean,fun i a ha=>by simp[touchAt,Trace.act?]at ha,fun i a ha=>by simp[touchAt,Trace.act?]at ha,fun i a ha=>by simp[touchAt,Trace.act?]at ha,fun g hg=>rfl,by simp⟩⟩
theorem Om.ends(C:Om P Shun q T gs w){D:World->World->Array Event->Prop}{Post:Value->World->Prop}{a:Goroutine}{sl:Option (Nat × Nat)}(ha:gs[0]?=some a)(hE:∀w₁,AtRel w w₁->AtEnd P Shun w.heap.size Post a w₁):∃N last o w' t',runNT P (N+1) (crowd gs w sl) T=(.ended o w',t')/\runN P N (crowd gs w sl)=.next last/\step P last=.ended o w'/\Good P Post last o w' t':=
 beside_ends (P:=P) (Shun:=Shun) (B:=w.heap.size) (D:=fun _ _ _=>False) (fun _ _ _ h=>h.elim) (n:=0) ha ⟨C.old,C.above⟩ (C.past.toPast rfl fun _ h=>h) hE
theorem Om.fresh(C:Om P Shun q T gs w){b:Nat}(hb:w.heap.size<=b):Om P (fun l=>Shun l\/∃o,l=.cell ⟨b,o,none⟩) q T gs w:=by
 refine⟨C.old,C.above,C.past.shun (fun l h=>.inl h) fun i a ha hs=>?_⟩;rcases hs with hs|⟨o,ho⟩
 . exact .inl hs
 . exfalso
   obtain⟨x,hx,hxa⟩:=touch_of ha;have hlow:=C.past.seen x (Array.mem_of_getElem? hx);have:(MemAct.low w.heap.size x.act)->b<w.heap.size:=by
    intro hl;cases hact:x.act with
    | access e=>
     rw[hact]at hl hxa;simp only[MemAct.touch?,Option.some.injEq]at hxa;subst hxa;simp only at ho;have:e.loc.low w.heap.size:=hl;rw[ho]at this;exact this
    | mark m=>
     rw[hact]at hl hxa;cases m<;>simp only[MemAct.touch?,Option.some.injEq,reduceCtorEq]at hxa
     all_goals(subst hxa;simp only[Loc.cell.injEq]at ho;subst ho;exact hl)
    | _=>rw[hact]at hxa;simp[MemAct.touch?]at hxa
   have:=this hlow;omega
theorem Om.begin{ty:TypeId}{Wg:Nat}{K:Nat->World->Prop}(Bd:Nat->Nat)(Quiet:Nat->Prop)(C:Om P Shun q T gs w)(hwg:WgAt ty Wg w 0 0):Held P ty Wg K Qy Bd Shun Quiet (fun g=>g=0) (fun _=>False) 0 (fun i=>.fin 1 (q i) (Deaf T i)) (fun _=>0) 0 T gs w:=by
 have hz:∀j,sumTo j (fun _=>0)=0:=fun j=>by have:=Go.ConcN.sumTo_le (f:=fun _=>0) (c:=0) (j:=j) fun _ _=>Nat.le_refl 0;omega
 refine⟨⟨fun i g s m d hi hg e=>?_,fun i g st n hi hg e=>(by cases e),fun i st n e=>(by cases e),fun i i' st st' n n' c e=>(by cases e),C.above,C.past,fun i st n e=>(by cases e),by rw[hz];simpa using hwg,by rw[hz];omega,fun _=>Nat.zero_le _⟩,fun st n e=>(by cases e),fun z=>z⟩;cases e
 have hi':i≠0:=hi;exact⟨Nat.pos_of_ne_zero hi',.quit (C.old i g (Nat.pos_of_ne_zero hi') hg),rfl,hi',rfl,.inr (.inr (.inr rfl))⟩
theorem Held.ends{ty:TypeId}{Wg:Nat}{K:Nat->World->Prop}{Still:Nat->Loc->Prop}{Bd:Nat->Nat}{Quiet Mem Loose:Nat->Prop}{role:Nat->Fv}{live:Nat->Nat}{ex:Nat}(H:Held P ty Wg K Still Bd Shun Quiet Mem Loose 0 role live ex T gs w)(h0:Mem 0)(hL:∀g,¬ Loose g)(hz:∀x,x<gs.size->live x=0)(hno:∀i st n,i<gs.size->role i≠.seat st n):∃q,Om P Shun q T gs w:=by
 have C:=H.KS;refine⟨fun i=>(role i).fuel,fun i g hi hg=>?_,C.above,⟨C.past.clean,fun i a ha hm=>?_,C.past.atom,fun _ _ _ _ _ _ z=>z.elim,fun g hg=>hg ▸ C.past.hears 0 h0,C.past.seen⟩⟩
 . have hlt:i<gs.size:=(zGE hg).1;cases e:role i with
   | seat st n=>exact absurd e (hno i st n hlt)
   | fin s m d=>
     obtain⟨_,hF,hD,_,hl,hs⟩:=C.Ie i g s m d zOM hg e;have hl0:=hz i hlt;have hs1:s=1:=by rw[hl]at hl0;unfold cn at hl0;split at hl0<;>omega
     subst hs1;cases hF with
     | quit h=>rw[hD];exact h
 . rcases C.past.known i a ha hm with hk | ⟨_,g,_,hl,_⟩ | hk
   . exact .inl hk
   . exact absurd hl (hL g)
   . exact .inr (.inr hk)
end
end
end Go.LC
namespace Go.LC
open Go Go.Conc Go.LT
open Go.ConcN (WgLive sumTo upd sumTo_upd upd_ne upd_same)
open Go.ConcR (KK wgBlock WgAt stA smA rd wr mk)
section
section
variable {P:Program}{ty:TypeId}{Wg:Nat}{K K':Nat->World->Prop}{Still Still':Nat->Loc->Prop}{Bd pJ:Nat->Nat}{Shun:Loc->Prop}{Quiet Mem Loose:Nat->Prop}{role:Nat->Fv}{live:Nat->Nat}{ex h:Nat}{T:Trace}{gs:Array Goroutine}{w:World}
theorem Held.re(H:Held P ty Wg K Still Bd Shun Quiet Mem Loose h role live ex T gs w)(hK:∀i,i≠h->K' i=K i)(hS:∀i,i≠h->Still' i=Still i)(hB:∀i,i≠h->pJ i=Bd i)(hm:∀l,Still' h l->l.isMemory=true/\¬ Shun l) :
   Held P ty Wg K' Still' pJ Shun Quiet Mem Loose h role live ex T gs w:=by
 have C:=H.KS;have hne:∀{i:Nat} {st:Seat} {n:Nat},role i=.seat st n->i≠h:=fun{i st n} e z=>H.M4 st n (z ▸ e);refine⟨⟨C.Ie,fun i g st n hi hg e=>?_,fun i st n e=>?_,C.own,C.above,?_,fun i st n e=>?_,C.wg,C.few,C.one⟩,H.M4,H.tight⟩
 . rw[hK i hi,hS i hi,hB i hi];exact C.seats i g st n hi hg e
 . rw[hB i (hne e)];exact C.seat i st n e
 . have CP:=C.past;refine⟨CP.clean,fun i a ha hmm=>?_,CP.atom,fun i a ha hw g hg hSt=>?_,CP.hears,CP.seen⟩
   . rcases CP.known i a ha hmm with hk | ⟨x,g,hg,hl,hs⟩ | hk
     . exact .inl hk
     . exact .inr (.inl ⟨x,g,hg,hl,by rw[hS g (fun e=>H.tight (e ▸ hl))];exact hs⟩)
     . exact .inr (.inr hk)
   . by_cases e:g=h
     . subst e;obtain⟨h1,h2⟩:=hm _ hSt;rcases CP.known i a ha h1 with hk|⟨x,_⟩|⟨x,_⟩
       . exact hk
       . rw[hw]at x;cases x
       . exact absurd x h2
     . exact CP.wrote i a ha hw g hg (by rw[← hS g e];exact hSt)
 . rw[hK i (hne e)];exact C.keep i st n e
def DK(B:Hid)(w w':World)(es:Array Event):Prop:=Kept B w w'/\∀e∈es,Jv B w'.heap.size e
def aL(B:Hid)(l:Loc):Prop:=∃a,l=.cell a/\B a.block=true
def InZ(B:Hid)(l:Loc):Prop:=∃a,l=.cell a/\B.KH a.block=true
theorem Vj{B:Hid}{n h':Nat}{e:Event}(h:Jv B n e)(hS:∀g,g≠h'->∀l,Still g l->aL B l\/InZ B l)(Zr:∀l,Shun l->aL B l):vK Still Shun h' n e:=by
 obtain⟨loc,wr,sy⟩:=e;have zw:∀l:Loc,(∀a,l=.cell a->B a.block=false)->¬ Shun l:=fun l hl hs=>(by obtain⟨a,rfl,ha⟩:=Zr l hs;rw[hl a rfl]at ha;exact absurd ha (by simp))
 cases loc with
 | cell a=>
  obtain⟨h1,h2,h3⟩:=h;have k2:=zw (.cell a) fun a' e=>by cases e;exact h1
  refine⟨fun b hb=>?_,by simp,by simp,h2⟩;simp only[MemAct.ofEvent,MemAct.touch?,Option.some.injEq]at hb;subst hb;refine⟨fun g hg hs=>?_,fun hs=>absurd hs k2⟩;rcases hS g hg _ hs with⟨a',e,ha⟩|⟨a',e,ha⟩<;>cases e
  . rw[h1]at ha;cases ha
  . cases hw:wr with
    | false=>rfl
    | true=>rw[h3 hw]at ha;cases ha
 | obj r=>
  obtain⟨h1,h2⟩:=h;have k1:∀g,g≠h'->¬ Still g (.obj r):=fun g hg hs=>by rcases hS g hg _ hs with⟨a,e,_⟩ | ⟨a,e,_⟩<;>cases e
  have k2:=zw (.obj r) fun a' e=>by cases e
  cases wr<;>cases sy <;>
  . refine⟨fun b hb=>?_,by simp,by simp,h2⟩;simp only[MemAct.ofEvent,MemAct.touch?,Option.some.injEq,reduceCtorEq]at hb;try(subst hb;exact⟨fun g hg hs=>absurd hs (k1 g hg),fun hs=>absurd hs k2⟩)
 | mark m=>
  have h:Xx m:=h;cases m<;>first | exact h.elim | exact⟨fun b hb=>(by simp[MemAct.ofEvent,MemAct.touch?]at hb),by simp,by simp,trivial⟩
 | _=>exact h.elim
theorem DK.hd{B:Hid}{h:Nat}{Ch:Nat->Prop}(hKB:∀i,i≠h->∀w w',(∀b,B b=true\/B.KH b=true->w'.heap[b]?=w.heap[b]?)->K i w->K i w')(hS:∀g,g≠h->∀l,Still g l->aL B l\/InZ B l)(Zr:∀l,Shun l->aL B l)(hW:B Wg=true){w w':World}{es:Array Event}(hd:DK B w w' es) :
  vO K Still Shun Ch Wg h w w' es:=
 ⟨fun i hi=>hKB i hi w w' fun b hb=>hb.elim (hd.1.block b) (hd.1.still b),fun c k _ hc=>hd.1.objs c _ hc (fun _ _ _=>by simp),hd.1.block _ hW,hd.1.size,fun e he=>Vj (hd.2 e he) hS Zr⟩
end
end
end Go.LC
namespace Go.LK
open Go Go.Conc Go.LT Go.LC
open Go.ConcN (WgLive sumTo upd sumTo_upd upd_ne upd_same)
open Go.ConcR (KK wgBlock WgAt stA smA rd wr mk)
section
def L8(w w':World)(b:Nat):Prop:=(w'.heap[b]?).map depend=(w.heap[b]?).map depend
theorem L8.refl(w:World)(b:Nat):L8 w w b:=rfl
theorem L8.of{w w':World}{b:Nat}(h:w'.heap[b]?=w.heap[b]?):L8 w w' b:=by unfold L8;rw[h]
theorem L8.trans{w w' w'':World}{b:Nat}(h:L8 w w' b)(h':L8 w' w'' b):L8 w w'' b:=Eq.trans h' h
theorem L8.symm{w w':World}{b:Nat}(h:L8 w w' b):L8 w' w b:=Eq.symm h
theorem PY(o:Obj):depend (depend o)=depend o:=by cases o<;>rfl
theorem L8.view{B:Hid}{w:World}{b:Nat}(h:B b=false)(hz:B.KH b=false):L8 w (EF B w) b:=by
 unfold L8;rw[Fu h,hz,JN];cases w.heap[b]? with
 | none=>rfl
 | some o=>simp[PY]
theorem L8.cells{w w':World}{b:Nat}(h:L8 w w' b){c:Array Value}{e:TypeId}{f:Nat × Nat}(hc:w.heap[b]?=some (.cells c e f)):w'.heap[b]?=some (.cells c e f):=by
 unfold L8 at h;rw[hc]at h;cases ho:w'.heap[b]? with
 | none=>rw[ho]at h;cases h
 | some o=>rw[ho]at h;cases o<;>simp[depend]at h ⊢;exact h
structure Md(X Sg:Type) where
 hold:X->Nat->Sg->X × Sg × Bool
 Sh:Nat->Prop
 Inv:Sg->World->Prop
 Rec:Nat->X->Nat->(Nat->Prop)->World->Prop
 RH:∀s w b,Sh b->Inv s w->∃c e f,w.heap[b]?=some (.cells c e f)
 inv_eq:∀s w w',(∀b,Sh b->L8 w w' b)->Inv s w->Inv s w'
 rec_eq:∀k x b o w w',(∀b',o b'->L8 w w' b')->Rec k x b o w->Rec k x b o w'
structure Rn where
 ty:TypeId
 Wg:Nat
 come:Nat
 gone:Nat
 zi:Value
 zg:Value
 Bo:Nat->Bool
 shut:Prop
 UM:Prop
structure FE(X:Type) where
 h:Nat
 k:Nat
 b:Nat
 t:Nat
 pb:Nat
 own:Nat->Prop
 x:X
 wy:World
 over:Bool
 r:Nat
structure Gw(X Sg:Type) where
 v:FE X
 B:Nat->Bool
 n0:Nat
 tgt:X × Sg × Bool
structure Po(b0:Nat)(w w':World):Prop where
 os:w'.os=w.os
 output:w'.output=w.output
 size:w.heap.size<=w'.heap.size
 objs:∀(b:Nat) (o:Obj),b<b0->w.heap[b]?=some o->(∀c e f,o≠Obj.cells c e f)->w'.heap[b]?=some o
theorem Po.refl(b0:Nat)(w:World):Po b0 w w:=⟨rfl,rfl,Nat.le_refl _,fun _ _ _ h _=>h⟩
theorem Po.trans{b0:Nat}{a b c:World}(h:Po b0 a b)(k:Po b0 b c):Po b0 a c:=⟨k.os.trans h.os,k.output.trans h.output,Nat.le_trans h.size k.size,fun x o hx ho hn=>k.objs x o hx (h.objs x o hx ho hn) hn⟩
theorem Po.dk{b0:Nat}{B:Hid}{w w':World}{es:Array Event}(h:DK B w w' es):Po b0 w w':=⟨h.1.os,h.1.output,h.1.size,fun x o _ ho hn=>h.1.objs x o ho hn⟩
theorem Po.Yk{b0:Nat}{ty:TypeId}{Wg:Nat}{w w':World}(hb:b0<=Wg)(h:G9 ty Wg w w'):Po b0 w w':=⟨h.os,h.output,Nat.le_of_eq h.size.symm,fun x o hx ho _=>by rw[h.block x zOM];exact ho⟩
theorem Po.rgv{b0:Nat}{ty:TypeId}{Wg c:Nat}{w w':World}(hb:b0<=Wg)(hc:b0<=c)(h:xD ty Wg c w w'):Po b0 w w':=⟨h.os,h.output,Nat.le_of_eq h.size.symm,fun x o hx ho _=>by rw[h.block x zOM zOM];exact ho⟩
theorem Po.rel{b0:Nat}{w w':World}(h:AtRel w w'):Po b0 w w':=by obtain⟨d,rfl⟩:=h;exact⟨rfl,rfl,Nat.le_refl _,fun _ _ _ h _=>h⟩
structure Gb where
 F:Machine->Trace->Prop
 b0:Nat
instance:CoeFun Gb (fun _=>Machine->Trace->Prop):=⟨Gb.F⟩
abbrev FM(P:Program)(Fin:Gb):Prop:=∀N m m' T T',runNT P N m T=(.next m',T')->Po Fin.b0 m.world m'.world->Fin m' T'->Fin m T
structure Lw{X:Type}(b0:Nat)(ρ:Rn)(ws:List (FE X)):Prop where
 wg:b0<=ρ.Wg
 come:b0<=ρ.come
 gone:b0<=ρ.gone
 turn:∀(i:Nat) (v:FE X),ws[i]?=some v->b0<=v.t
section
variable {X Sg:Type}
def Ho(ρ:Rn)(t:Nat):Array CommCase:=#[rcase t ρ.zi,rcase ρ.gone ρ.zg]
def IG(ρ:Rn)(k:Nat):Array CommCase:=#[scase ρ.come (.int .i64 k) ρ.zi,rcase ρ.gone ρ.zg]
def Kv(ρ:Rn)(v:FE X)(w:World):Prop:=
 w.cell? ⟨v.b,2,none⟩=some (.chan (some v.t))/\w.cell? ⟨v.b,4,none⟩=some (.chan (some ρ.gone))/\w.cell? ⟨v.pb,0,none⟩=some (.pointer (some ⟨v.b,0,none⟩))
def Stv(v:FE X)(l:Loc):Prop:=l=.cell ⟨v.b,2,none⟩\/l=.cell ⟨v.b,4,none⟩\/l=.cell ⟨v.pb,0,none⟩
def aT(v:FE X):Nat:=max v.b v.pb+1
structure dX(M:Md X Sg)(ρ:Rn)(v:FE X)(B:Nat->Bool)(n0:Nat):Prop where
 wg:B ρ.Wg=true
 own:∀b,v.own b->B b=false
 sh:∀b,M.Sh b->B b=false
 low:∀b,B b=true->b<n0
def fZ(M:Md X Sg)(ρ:Rn)(P:Program)(nx:Gw X Sg->Goroutine->World->Prop)(v:FE X)(g:Goroutine):Prop:=
 ∀(s:Nat) (σ:Sg) (w:World) (B:Nat->Bool),dX M ρ v B w.heap.size->LT.Rows B w->(∀b,v.own b->L8 v.wy w b)->v.wy.heap.size<=w.heap.size->M.Inv σ w->
  nx ⟨v,B,w.heap.size,M.hold v.x s σ⟩ (g.finishComm P (Ho ρ v.t) .select 0 (.int .i64 s) true) w
def DA(w w':World)(es:Array Event):Prop:=es=#[]/\(w'=w\/∃o,Rw o/\w'={ w with heap:=w.heap.push o })
def Yp(ρ:Rn)(P:Program)(t:Nat)(g:Goroutine):Prop:=
 ∃m,∀w',WgLive ρ.ty ρ.Wg w'->Goes P false (RX ρ.ty ρ.Wg) DA (Lr P ρ.ty ρ.Wg) m (g.finishComm P (Ho ρ t) .select (1:Nat) ρ.zg false) w'
def Ma(M:Md X Sg)(ρ:Rn)(P:Program)(nx:Gw X Sg->Goroutine->World->Prop)(v:FE X):Seat:={ cases:=Ho ρ v.t,shape:=.select,home:=fun g=>fZ M ρ P nx v g/\(ρ.shut->Yp ρ P v.t g) }
structure iF(M:Md X Sg)(ρ:Rn)(P:Program)(r:Nat)(nx:Gw X Sg->Goroutine->World->Prop)(γ:Gw X Sg)(g:Goroutine)(w:World):Prop where
 run:g.status=.running
 ex:∃(g₂:Goroutine) (v':FE X),(∀w₁,G9 ρ.ty ρ.Wg w w₁->stepG P false g w₁=.comm g₂ (IG ρ γ.v.k) true .select w₁ #[])/\
  v'.h=γ.v.h/\v'.k=γ.v.k/\v'.b=γ.v.b/\v'.t=γ.v.t/\v'.x=γ.tgt.1/\v'.over=γ.tgt.2.2/\v'.r=r/\v'.wy=w/\M.Inv γ.tgt.2.1 w/\M.Rec γ.v.k v'.x γ.v.b v'.own w/\
  v'.own v'.pb/\(∀b,γ.v.own b->v'.own b)/\(∀b,v'.own b->γ.v.own b\/γ.n0<=b)/\(∀b,v'.own b->¬ M.Sh b/\∃c e f,w.heap[b]?=some (.cells c e f))/\
  (if γ.tgt.2.2 then ∃m,∀w',WgLive ρ.ty ρ.Wg w'->Fs P ρ.ty ρ.Wg 7 m 0 (g₂.finishComm P (IG ρ γ.v.k) .select 0 undef false) w'
   else Kv ρ v' w/\∃n,Sits P false (Kv ρ v') (Stv v') (aT v') (Ma M ρ P nx v') n (g₂.finishComm P (IG ρ γ.v.k) .select 0 undef false))
def WJ(M:Md X Sg)(ρ:Rn)(P:Program):Nat->Gw X Sg->Goroutine->World->Prop
 | 0=>fun γ g w=>LT.Way P false (G9 ρ.ty ρ.Wg) (DK γ.B) (iF M ρ P 0 (fun _ _ _=>True) γ) g w
 | r+1=>fun γ g w=>LT.Way P false (G9 ρ.ty ρ.Wg) (DK γ.B) (iF M ρ P (r+1) (WJ M ρ P r) γ) g w
def Z9(M:Md X Sg)(ρ:Rn)(P:Program):Nat->Gw X Sg->Goroutine->World->Prop
 | 0=>fun _ _ _=>True
 | r+1=>WJ M ρ P r
theorem Yi(M:Md X Sg)(ρ:Rn)(P:Program)(r:Nat)(γ:Gw X Sg)(g:Goroutine)(w:World):WJ M ρ P r γ g w=LT.Way P false (G9 ρ.ty ρ.Wg) (DK γ.B) (iF M ρ P r (Z9 M ρ P r) γ) g w:=by cases r<;>rfl
variable (M:Md X Sg)(ρ:Rn)(P:Program)(ws:List (FE X))(hd:Nat)
def Kc(i:Nat)(w:World):Prop:=∀(j:Nat) (v:FE X),ws[j]?=some v->v.h=i->v.over=false->Kv ρ v w
def Oj(i:Nat)(l:Loc):Prop:=∃(j:Nat) (v:FE X),ws[j]?=some v/\v.h=i/\v.over=false/\Stv v l
def Nl(i:Nat):Prop:=i=0\/i=hd\/∃(j:Nat) (v:FE X),ws[j]?=some v/\v.h=i/\v.over=false
def IW(i:Nat):Prop:=i≠hd/\(i=0\/∃(j:Nat) (v:FE X),ws[j]?=some v/\v.h=i/\v.over=false)
def Iq(l:Loc):Prop:=∃a,l=.cell a/\(a.block=ρ.Wg\/ρ.Bo a.block=true)
def OY(v:FE X):Seat:=Ma M ρ P (Z9 M ρ P v.r) v
structure MP(role:Nat->Fv)(bd:Nat->Nat)(w:World):Prop where
 apart:∀(i j:Nat) (v v':FE X),ws[i]?=some v->ws[j]?=some v'->(v.h=v'.h\/v.t=v'.t\/(∃b,v.own b/\v'.own b))->i=j
 pos:∀(i:Nat) (v:FE X),ws[i]?=some v->0<v.h/\v.k=i
 seats:∀(i:Nat) (v:FE X),ws[i]?=some v->v.h≠hd->v.over=false->(∃n,role v.h=.seat (OY M ρ P v) n)/\bd v.h=aT v
 known:∀(i:Nat) (st:Seat) (n c:Nat),role i=.seat st n->st.has c->c=ρ.gone\/(i=0/\c=ρ.come)\/∃(j:Nat) (v:FE X),ws[j]?=some v/\v.h=i/\c=v.t
 keep:∀(i:Nat) (v:FE X),ws[i]?=some v->v.h≠hd->(∀b,v.own b->L8 v.wy w b)/\M.Rec v.k v.x v.b v.own v.wy/\v.wy.heap.size<=w.heap.size
 own:∀(i:Nat) (v:FE X),ws[i]?=some v->∀b,v.own b->¬ M.Sh b/\b≠ρ.Wg/\ρ.Bo b=false/\∃c e f,w.heap[b]?=some (.cells c e f)
 inside:∀(i:Nat) (v:FE X),ws[i]?=some v->v.own v.b/\v.own v.pb
 chan:∀(i:Nat) (v:FE X),ws[i]?=some v->v.t≠ρ.come/\v.t≠ρ.gone/\∃k,w.heap[v.t]?=some (.chan 0 #[] false k k false)
 come:ρ.come≠ρ.gone/\∃k,w.heap[ρ.come]?=some (.chan 0 #[] false k k false)
 gone:¬ ρ.UM->∃k,w.heap[ρ.gone]?=some (.chan 0 #[] false k k false)
 sh:∀b,M.Sh b->b≠ρ.Wg/\ρ.Bo b=false
 old:∀b,ρ.Bo b=true->b≠ρ.Wg/\∃c e f,w.heap[b]?=some (.cells c e f)
 wO:bd 0=0
end
structure Rel(B:Nat->Bool)(Wg:Nat)(w w':World):Prop where
 block:∀b,B b=true->b≠Wg->w'.heap[b]?=w.heap[b]?
 size:w.heap.size<=w'.heap.size
 objs:∀(b:Nat) (o:Obj),b≠Wg->w.heap[b]?=some o->(∀c e f,o≠.cells c e f)->w'.heap[b]?=some o
theorem Rel.refl(B:Nat->Bool)(Wg:Nat)(w:World):Rel B Wg w w:=⟨fun _ _ _=>rfl,Nat.le_refl _,fun _ _ _ h _=>h⟩
theorem Rel.trans{B:Nat->Bool}{Wg:Nat}{w w' w'':World}(h:Rel B Wg w w')(k:Rel B Wg w' w''):Rel B Wg w w'':=
 ⟨fun b hb hw=>(k.block b hb hw).trans (h.block b hb hw),Nat.le_trans h.size k.size,fun b o hb ho hn=>k.objs b o hb (h.objs b o hb ho hn) hn⟩
theorem Rel.Yk{B:Nat->Bool}{ty:TypeId}{Wg:Nat}{w w':World}(h:G9 ty Wg w w'):Rel B Wg w w':=⟨fun b _ hb=>h.block b hb,Nat.le_of_eq h.size.symm,fun b o hb ho _=>by rw[h.block b hb];exact ho⟩
theorem Rel.dk{B:Nat->Bool}{Wg:Nat}{w w':World}{es:Array Event}(h:DK B w w' es):Rel B Wg w w':=⟨fun b hb _=>h.1.block b hb,h.1.size,fun b o _ ho hn=>h.1.objs b o ho hn⟩
theorem Uh{P:Program}{main:Bool}{R:World->World->Prop}{D:World->World->Array Event->Prop}{Stop:Goroutine->World->Prop}{Re:World->World->Prop}(hR:∀a b,R a b->Re a b)(hD:∀a b es,D a b es->Re a b)(tr:∀a b c,Re a b->Re b c->Re a c){g:Goroutine}{w:World}(h:LT.Way P main R D Stop g w):∀w0,Re w0 w->LT.Way P main R D (fun g w=>Stop g w/\Re w0 w) g w:=by
 induction h with
 | @stop g w h=>exact fun w0 h0=>.stop fun w₁ h₁=>⟨h w₁ h₁,tr _ _ _ h0 (hR _ _ h₁)⟩
 | @step g w hs h k ih=>
  intro w0 h0;refine .one hs fun w₁ h₁=>?_;obtain⟨g',w',es,e,d⟩:=h w₁ h₁;exact⟨g',w',es,e,d,ih _ _ _ _ h₁ e w0 (tr _ _ _ h0 (tr _ _ _ (hR _ _ h₁) (hD _ _ _ d)))⟩
theorem cell_of{w w':World}{a:Addr}(h:w'.heap[a.block]?=w.heap[a.block]?):w'.cell? a=w.cell? a:=by simp[World.cell?,h]
section
variable {X Sg:Type}{M:Md X Sg}{ρ:Rn}{P:Program}{ws:List (FE X)}{hd:Nat}{role:Nat->Fv}{bd:Nat->Nat}{w:World}
theorem Kv.blk{v:FE X}{w w':World}(h:Kv ρ v w)(hb:w'.heap[v.b]?=w.heap[v.b]?)(hp:w'.heap[v.pb]?=w.heap[v.pb]?):Kv ρ v w':=by obtain⟨h1,h2,h3⟩:=h;exact⟨by rw[cell_of hb];exact h1,by rw[cell_of hb];exact h2,by rw[cell_of hp];exact h3⟩
theorem Vp(hb:∀(j:Nat) (v:FE X),ws[j]?=some v->v.over=false->v.b≠ρ.Wg/\v.pb≠ρ.Wg/\ρ.Bo v.b=false/\ρ.Bo v.pb=false):Env ρ.Wg (Kc ρ ws) (Oj ws) (Iq ρ):=by
 refine⟨fun i w w' hw hK j v hv hi ho=>?_,⟨_,rfl,.inl rfl⟩,fun g l hS hsh=>?_⟩
 . obtain⟨h1,h2,_⟩:=hb j v hv ho;exact(hK j v hv hi ho).blk (hw _ h1) (hw _ h2)
 . obtain⟨j,v,hv,_,ho,hs⟩:=hS;obtain⟨h1,h2,h3,h4⟩:=hb j v hv ho;obtain⟨a,rfl,ha⟩:=hsh;rcases hs with hs|hs|hs<;>(simp only[Loc.cell.injEq]at hs;subst hs;rcases ha with ha|ha<;>simp_all)
end
end
section
section
variable {X Sg:Type}{M:Md X Sg}{ρ:Rn}{P:Program}{ws:List (FE X)}{hd:Nat}{role:Nat->Fv}{bd:Nat->Nat}{w:World}
theorem TY{i j:Nat}{v v' u:FE X}(hv:ws[i]?=some v)(h:(ws.set i v')[j]?=some u):(j=i/\u=v')\/(j≠i/\ws[j]?=some u):=by
 rw[List.getElem?_set]at h;by_cases e:i=j
 . subst e;simp only[if_true]at h;split at h
   . exact .inl ⟨rfl,(Option.some.inj h).symm⟩
   . cases h
 . rw[if_neg e]at h;exact .inr ⟨fun z=>e z.symm,h⟩
theorem set_self{i:Nat}{v v':FE X}(hv:ws[i]?=some v):(ws.set i v')[i]?=some v':=by have hlt:i<ws.length:=(List.getElem?_eq_some_iff.1 hv).1;rw[List.getElem?_set];simp[hlt]
theorem Pj{i j:Nat}{v':FE X}(h:j≠i):(ws.set i v')[j]?=ws[j]?:=by rw[List.getElem?_set,if_neg (fun e=>h e.symm)]
theorem MP.env(C:MP M ρ P ws hd role bd w):Env ρ.Wg (Kc ρ ws) (Oj ws) (Iq ρ):=Vp fun j v hv _=>by obtain⟨h1,h2⟩:=C.inside j v hv;obtain⟨_,a1,a2,_⟩:=C.own j v hv _ h1;obtain⟨_,b1,b2,_⟩:=C.own j v hv _ h2;exact⟨a1,b1,a2,b2⟩
theorem hKc:∀i w c k,w.heap[c]?=some (.chan 0 #[] false k k false)->Kc ρ ws i w->Kc ρ ws i (w.setChan c 0 #[] false (k+1) (k+1) false):=by
 intro i w c k hc hK j v hv hi ho;have hh:=hK j v hv hi ho;have ne:∀{a:Addr} {x:Value},w.cell? a=some x->c≠a.block:=fun{a x} h e=>by subst e;simp[World.cell?,hc]at h
 exact hh.blk (heap_setChan_ne _ _ _ _ _ _ _ (ne hh.1)) (heap_setChan_ne _ _ _ _ _ _ _ (ne hh.2.2))
theorem Zi{M:Md X Sg}{nx:Gw X Sg->Goroutine->World->Prop}{v:FE X}(h:v.t≠ρ.gone):(Ma M ρ P nx v).Wf:=by
 have get:∀(k c:Nat) (z:Value),(Ho ρ v.t)[k]?=some (rcase c z)->(k=0/\c=v.t)\/(k=1/\c=ρ.gone):=by
   intro k c z e;rcases k with _|_|k
   . simp only[Ho,List.getElem?_toArray,List.getElem?_cons_zero,Option.some.injEq,rcase,CommCase.mk.injEq,Value.chan.injEq]at e;exact .inl ⟨rfl,e.1.symm⟩
   . simp only[Ho,List.getElem?_toArray,List.getElem?_cons_succ,List.getElem?_cons_zero,Option.some.injEq,rcase,CommCase.mk.injEq,Value.chan.injEq]at e;exact .inr ⟨rfl,e.1.symm⟩
   . simp[Ho]at e
 refine⟨fun cc hcc=>?_,fun k m c z z' h1 h2=>?_⟩
 . simp only[Ma,Ho,List.mem_toArray,List.mem_cons,List.not_mem_nil,or_false]at hcc;rcases hcc with rfl|rfl
   . exact⟨_,_,rfl⟩
   . exact⟨_,_,rfl⟩
 . rcases get k c z h1 with⟨rfl,e⟩ | ⟨rfl,e⟩<;>rcases get m c z' h2 with⟨rfl,e'⟩ | ⟨rfl,e'⟩<;>first | rfl | (exact absurd (e.symm.trans e') h) | (exact absurd (e'.symm.trans e) h)
theorem RA{M:Md X Sg}{nx:Gw X Sg->Goroutine->World->Prop}{v:FE X}{c:Nat}(h:(Ma M ρ P nx v).has c):c=v.t\/c=ρ.gone:=by
 obtain⟨k,z,e⟩:=h;rcases k with _|_|k
 . simp only[Ma,Ho,List.getElem?_toArray,List.getElem?_cons_zero,Option.some.injEq,rcase,CommCase.mk.injEq,Value.chan.injEq]at e;exact .inl e.1.symm
 . simp only[Ma,Ho,List.getElem?_toArray,List.getElem?_cons_succ,List.getElem?_cons_zero,Option.some.injEq,rcase,CommCase.mk.injEq,Value.chan.injEq]at e;exact .inr e.1.symm
 . simp[Ma,Ho]at e
abbrev PU(M:Md X Sg)(ρ:Rn)(P:Program)(ws:List (FE X))(hd:Nat)(bd:Nat->Nat)(role:Nat->Fv)(live:Nat->Nat)(ex:Nat)(T:Trace)(gs:Array Goroutine)(w:World):Prop:=
 Held P ρ.ty ρ.Wg (Kc ρ ws) (Oj ws) bd (Iq ρ) (fun c=>c=ρ.gone) (Nl ws hd) (IW ws hd) hd role live ex T gs w
structure Lv(ws:List (FE X))(n:Nat)(live:Nat->Nat):Prop where
 lt:∀(i:Nat) (v:FE X),ws[i]?=some v->v.h<n
 zero:live 0=0
 one:∀(i:Nat) (v:FE X),ws[i]?=some v->v.over=false->live v.h=1
theorem TB(hcl:¬ ρ.UM){i:Nat}{v:FE X}{γ:Gw X Sg}{r:Nat}{ME:Goroutine->Prop}{n0 ex:Nat}{live:Nat->Nat}{T:Trace}{gs:Array Goroutine}{sl:Option (Nat × Nat)}{g:Goroutine}(hv:ws[i]?=some v)(hov:v.over=false)(hγ:γ.v=v)(C:MP M ρ P ws v.h role bd w)(H:PU M ρ P ws v.h bd role live ex T gs w)(hL:Lv ws gs.size live)(NJ:dX M ρ v γ.B γ.n0)(hRB:LT.Rows γ.B w)(WY:∀b,ρ.Bo b=true->γ.B b=true)(Mx:∀(j:Nat) (u:FE X),ws[j]?=some u->j≠i->∀b,u.own b->γ.B b=true)(hg:gs[v.h]?=some g)(hW:WJ M ρ P r γ g w)(h0:role 0=.seat (Seat.one ρ.come ρ.zi false ME) n0) :
   ∃N gs' w' sl' T' FK aS Gc v' g0,runNT P N (crowd gs w sl) T=(.next (crowd gs' w' sl'),T')/\gs'.size=gs.size/\gs'[0]?=some (g0.finishComm P #[rcase ρ.come ρ.zi] (.recv false) 0 (.int .i64 v.k) true)/\ME g0/\
     MP M ρ P (ws.set i v') 0 FK aS w'/\PU M ρ P (ws.set i v') 0 aS FK Gc ex T' gs' w'/\Lv (ws.set i v') gs.size Gc/\
     v'.h=v.h/\v'.k=v.k/\v'.b=v.b/\v'.t=v.t/\v'.x=γ.tgt.1/\v'.over=γ.tgt.2.2/\v'.r=r/\M.Inv γ.tgt.2.1 w'/\(∀b,γ.B b=true->b≠ρ.Wg->w'.heap[b]?=w.heap[b]?)/\w.heap.size<=w'.heap.size/\(∀b,v'.own b->v.own b\/γ.n0<=b)/\(∀b0,b0<=ρ.Wg->b0<=ρ.come->Po b0 w w'):=by
 subst hγ;have E:=C.env;obtain⟨hpos,hk⟩:=C.pos i _ hv;have hmain:(γ.v.h==0)=false:=by simp;omega
 have other:∀{j:Nat} {u:FE X},ws[j]?=some u->u.h≠γ.v.h->j≠i:=fun{j u} hu hne e=>by subst e;rw[hu]at hv;cases hv;exact hne rfl
 rw[Yi]at hW;have hW2:=Uh (Re:=fun a b=>Rel γ.B ρ.Wg a b/\∀b0,b0<=ρ.Wg->Po b0 a b) (fun a b h=>⟨.Yk h,fun b0 hb=>.Yk hb h⟩) (fun a b es h=>⟨.dk h,fun b0 _=>.dk h⟩) (fun a b c h k=>⟨h.1.trans k.1,fun b0 hb=>(h.2 b0 hb).trans (k.2 b0 hb)⟩) hW w ⟨.refl _ _ _,fun b0 _=>.refl _ _⟩;have hD:∀w w' es,DK γ.B w w' es->vO (Kc ρ ws) (Oj ws) (Iq ρ) (fun _=>True) ρ.Wg γ.v.h w w' es:=fun w w' es hd=>by
   refine DK.hd (fun x hx w w' hb hK j u hu Iu ho=>?_) (fun x hx l hl=>?_) (fun l hl=>?_) NJ.wg hd
   . have hne:=other hu (by rw[Iu];exact hx)
     have hi:=C.inside j u hu;exact(hK j u hu Iu ho).blk (hb _ (.inl (Mx j u hu hne _ hi.1))) (hb _ (.inl (Mx j u hu hne _ hi.2)))
   . obtain⟨j,u,hu,Iu,ho,hs⟩:=hl;have hne:=other hu (by rw[Iu];exact hx);have hi:=C.inside j u hu;rcases hs with hs|hs|hs
     . exact .inl ⟨_,hs,Mx j u hu hne _ hi.1⟩
     . exact .inl ⟨_,hs,Mx j u hu hne _ hi.1⟩
     . exact .inl ⟨_,hs,Mx j u hu hne _ hi.2⟩
   . obtain⟨a,rfl,ha⟩:=hl;refine⟨a,rfl,?_⟩;rcases ha with ha|ha
     . rw[ha];exact NJ.wg
     . exact WY _ ha
 obtain⟨N1,gs1,a1,w1,sl1,T1,PK,QZ,p1,p2,p3,⟨p4,p5,p5f⟩,p6,p7,p8,_,_⟩:=U6 (sl:=sl) E (Ch:=fun _=>True) hD (by rw[hmain];exact hW2) hg H (fun _ _ _ _ _ _=>trivial);obtain⟨hrun,g₂,v',hstep,e1,e2,e3,e4,e5,e6,e7,e8,hInv,iP,hpb,hown1,hown2,hown3,hend⟩:=p4;have qF:WgLive ρ.ty ρ.Wg w1:=⟨_,_,p6.KS.wg⟩
 have Q8:∀{c k:Nat},w.heap[c]?=some (.chan 0 #[] false k k false)->w1.heap[c]?=some (.chan 0 #[] false k k false):=fun{c k} hc=>by refine p5.objs c _ (fun e=>?_) hc (fun _ _ _=>by simp);have:=H.KS.wg;unfold WgAt wgBlock at this;rw[e,this]at hc;cases hc
 have Vb:∀b,v'.own b->b≠ρ.Wg/\ρ.Bo b=false:=fun b hb=>by
   rcases hown2 b hb with hb|hb
   . obtain⟨_,a,b,_⟩:=C.own i _ hv b hb;exact⟨a,b⟩
   . have h1:=NJ.low _ NJ.wg;refine⟨by omega,?_⟩;cases hB:ρ.Bo b with
     | false=>rfl
     | true=>have:=NJ.low _ (WY b hB);omega
 have Tj:v'.own v'.b:=by rw[e3];exact hown1 _ (C.inside i _ hv).1
 have hset:=fun{j:Nat} {u:FE X} (h:(ws.set i v')[j]?=some u)=>TY hv h;have RG:∀{j:Nat} {u:FE X},ws[j]?=some u->u.h=γ.v.h->j=i:=fun{j u} hu he=>C.apart j i u γ.v hu hv (.inl he);have Agw:∀x,x≠γ.v.h->Kc ρ (ws.set i v') x=Kc ρ ws x:=fun x hx=>by
   funext z
   apply propext;constructor
   . intro h j u hu Iu ho;have hne:=other hu (by rw[Iu];exact hx);exact h j u (by rw[Pj hne];exact hu) Iu ho
   . intro h j u hu Iu ho;rcases hset hu with⟨rfl,rfl⟩|⟨hne,hu⟩
     . exact absurd (e1.symm.trans Iu).symm hx
     . exact h j u hu Iu ho
 have Aeg:∀x,x≠γ.v.h->Oj (ws.set i v') x=Oj ws x:=fun x hx=>by
   funext z
   apply propext;constructor
   . rintro⟨j,u,hu,Iu,ho,hs⟩;rcases hset hu with⟨rfl,rfl⟩|⟨hne,hu⟩
     . exact absurd (e1.symm.trans Iu).symm hx
     . exact⟨j,u,hu,Iu,ho,hs⟩
   . rintro⟨j,u,hu,Iu,ho,hs⟩;have hne:=other hu (by rw[Iu];exact hx);exact⟨j,u,by rw[Pj hne];exact hu,Iu,ho,hs⟩
 have hKv:v'.over=false->Kc ρ (ws.set i v') γ.v.h=Kv ρ v':=fun ho=>by
   funext z
   apply propext;constructor
   . exact fun h=>h i v' (set_self hv) e1 ho
   . intro h j u hu Iu ho';rcases hset hu with⟨rfl,rfl⟩|⟨hne,hu⟩
     . exact h
     . exact absurd (RG hu Iu) hne
 have hSv:v'.over=false->Oj (ws.set i v') γ.v.h=Stv v':=fun ho=>by
   funext z
   apply propext;constructor
   . rintro⟨j,u,hu,Iu,ho',hs⟩;rcases hset hu with⟨rfl,rfl⟩|⟨hne,hu⟩
     . exact hs
     . exact absurd (RG hu Iu) hne
   . exact fun h=>⟨i,v',set_self hv,e1,ho,h⟩
 have XW:∀b,v'.own b->∀o,¬ Iq ρ (.cell ⟨b,o,none⟩):=fun b hb o=>by
   rintro⟨a,ha,h⟩;cases ha
   obtain⟨h1,h2⟩:=Vb b hb;rcases h with h|h
   . exact h1 h
   . rw[h2]at h;cases h
 have kK:∀l,Oj (ws.set i v') γ.v.h l->l.isMemory=true/\¬ Iq ρ l:=by
   rintro l ⟨j,u,hu,Iu,ho',hs⟩;rcases hset hu with⟨_,hu'⟩|⟨hne,hu⟩
   . rw[hu']at hs;rcases hs with rfl|rfl|rfl
     . exact⟨rfl,XW _ Tj _⟩
     . exact⟨rfl,XW _ Tj _⟩
     . exact⟨rfl,XW _ hpb _⟩
   . exact absurd (RG hu Iu) hne
 have H1:=p6.re (K':=Kc ρ (ws.set i v')) (Still':=Oj (ws.set i v')) (pJ:=upd bd γ.v.h (aT v')) Agw Aeg (fun x hx=>upd_ne bd _ hx) kK;have E1:Env ρ.Wg (Kc ρ (ws.set i v')) (Oj (ws.set i v')) (Iq ρ):=Vp fun j u hu ho=>by
   rcases hset hu with⟨_,hu'⟩|⟨hne,hu⟩
   . rw[hu'];exact⟨(Vb _ Tj).1,(Vb _ hpb).1,(Vb _ Tj).2,(Vb _ hpb).2⟩
   . obtain⟨h1,h2⟩:=C.inside j u hu;obtain⟨_,a1,a2,_⟩:=C.own j u hu _ h1;obtain⟨_,b1,b2,_⟩:=C.own j u hu _ h2;exact⟨a1,b1,a2,b2⟩
 obtain⟨n1,hr0⟩:=(p7 0).1 _ _ h0;obtain⟨kc,OD⟩:=C.come.2;obtain⟨kg,TA⟩:=C.gone hcl;have gL:∀{b:Nat},v'.own b->b<w1.heap.size:=fun{b} hb=>by obtain⟨_,c,e,f,hc⟩:=hown3 b hb;exact(zGE hc).1
 have hlv1:QZ γ.v.h=1:=(p8 γ.v.h (.inl rfl)).trans (hL.one i _ hv hov);have YG:∀(x:Nat) (st:Seat) (n c:Nat),PK x=.seat st n->st.has c->c=ρ.gone\/(x=0/\c=ρ.come)\/∃(j:Nat) (u:FE X),ws[j]?=some u/\u.h=x/\c=u.t:=fun x st n c e hc=>by obtain⟨n',e'⟩:=p7.back e;exact C.known x st n' c e' hc
 obtain⟨rh,hA,hrh⟩:∃rh,After P ρ.ty ρ.Wg (Kc ρ (ws.set i v')) (Oj (ws.set i v')) (upd bd γ.v.h (aT v')) (fun c=>c=ρ.gone) (Nl (ws.set i v') 0) (IW (ws.set i v') 0) PK QZ γ.v.h ρ.come w1 (g₂.finishComm P (IG ρ γ.v.k) .select (0:Nat) undef false) rh/\
     ((v'.over=true/\∃m,rh=.fin 7 m 0)\/(v'.over=false/\∃n,rh=.seat (OY M ρ P v') n)):=by
   have hwf:(OY M ρ P v').Wf:=Zi (by rw[e4];exact(C.chan i _ hv).2.1);cases mG:γ.tgt.2.2 with
   | true=>
     rw[mG]at hend e6;simp only[if_true]at hend;obtain⟨m,hF⟩:=hend;refine⟨.fin 7 m 0,⟨fun s m' d e=>?_,fun st n e=>(by cases e)⟩,.inl ⟨e6,m,rfl⟩⟩;cases e
     refine⟨hpos,hF,rfl,?_,hlv1,.inl rfl⟩;rintro(h|h|⟨j,u,hu,Iu,ho⟩)
     . omega
     . omega
     . rcases hset hu with⟨_,hu'⟩ | ⟨hne,hu⟩
       . rw[hu',e6]at ho;cases ho
       . exact hne (RG hu Iu)
   | false=>
     rw[mG]at hend e6;simp only[Bool.false_eq_true,if_false]at hend;obtain⟨Aey,n,hS⟩:=hend;have QI:Ma M ρ P (Z9 M ρ P r) v'=OY M ρ P v':=by unfold OY;rw[e7]
     rw[QI]at hS;refine⟨.seat (OY M ρ P v') n,⟨fun s m' d e=>(by cases e),fun st n' e=>?_⟩,.inr ⟨e6,n,rfl⟩⟩;cases e
     rw[hKv e6,hSv e6,upd_same,hmain];refine⟨hS,⟨by omega,.inr ⟨i,v',set_self hv,e1,e6⟩⟩,hwf,.inr (.inr ⟨i,v',set_self hv,e1,e6⟩),?_,fun c hc=>?_,fun x st' n' c hx hr hc hc'=>?_,Aey⟩
     . have h1:=gL Tj;have h2:=gL hpb;unfold aT;omega
     . rcases RA hc with rfl | rfl
       . obtain⟨k,hk⟩:=(C.chan i _ hv).2.2;rw[e4];exact⟨(C.chan i _ hv).1,k,Q8 hk⟩
       . exact⟨fun z=>C.come.1 z.symm,kg,Q8 TA⟩
     . rcases RA hc with rfl | rfl
       . rcases YG x st' n' _ hr hc' with h | ⟨_,h⟩ | ⟨j,u,hu,Iu,h⟩
         . exact h
         . rw[e4]at h;exact absurd h (C.chan i _ hv).1
         . exfalso
           have:=C.apart j i u γ.v hu hv (.inr (.inl (h.symm.trans e4)));subst this;rw[hu]at hv;cases hv
           exact hx Iu.symm
       . rfl
 have hO:Kj (IG ρ γ.v.k) 0 ρ.come (.int .i64 γ.v.k) w1:=⟨⟨ρ.zi,rfl⟩,fun m cc hm hc=>by
   rcases m with _|_|m
   . exact absurd rfl hm
   . simp only[IG,List.getElem?_toArray,List.getElem?_cons_succ,List.getElem?_cons_zero,Option.some.injEq]at hc;subst hc;exact⟨ρ.gone,ρ.zg,kg,rfl,Q8 TA⟩
   . simp[IG]at hc⟩
 have hM1:∀g,Nl (ws.set i v') 0 g->Nl ws γ.v.h g:=by
   rintro x (h|h|⟨j,u,hu,Iu,ho⟩)
   . exact .inl h
   . exact .inl h
   . rcases hset hu with⟨_,hu'⟩ | ⟨hne,hu⟩
     . rw[hu']at Iu;exact .inr (.inl (Iu.symm.trans e1))
     . exact .inr (.inr ⟨j,u,hu,Iu,ho⟩)
 have hM2:∀g,Nl ws γ.v.h g->g≠γ.v.h->Nl (ws.set i v') 0 g:=by
   rintro x (h|h|⟨j,u,hu,Iu,ho⟩) hx
   . exact .inl h
   . exact absurd h hx
   . have hne:=other hu (by rw[Iu];exact hx)
     exact .inr (.inr ⟨j,u,by rw[Pj hne];exact hu,Iu,ho⟩)
 have hLo:∀g,IW ws γ.v.h g->g≠0->IW (ws.set i v') 0 g:=by
   rintro x ⟨hx,h⟩ hx0;refine⟨hx0,?_⟩;rcases h with h|⟨j,u,hu,Iu,ho⟩
   . exact .inl h
   . have hne:=other hu (by rw[Iu];exact hx)
     exact .inr ⟨j,u,by rw[Pj hne];exact hu,Iu,ho⟩
 obtain⟨N2,m2,T2,q1,gs2,g0,w2,sl2,Tv,VY,rfl,q3,q4,q5,q6,q7,q8,q9⟩:=give (sl:=sl1) (h:=γ.v.h) (j:=0) (c:=ρ.come) (k:=0) (kk:=0) (v:=.int .i64 γ.v.k) (es:=#[]) (Mem':=Nl (ws.set i v') 0) (Loose':=IW (ws.set i v') 0) E1 hKc p3 hrun (by rw[hmain];exact hstep) (by simp) hO H1 (.inr (.inl rfl)) zOM hr0 (zj:=ρ.zi) rfl C.come.1
   hM1 hM2 hLo (fun h=>h.1 rfl) hA
 have hblk2:∀{b:Nat},b≠ρ.Wg->(∃c e f,w1.heap[b]?=some (.cells c e f))->w2.heap[b]?=w1.heap[b]?:=fun{b} hb ⟨c,e,f,hc⟩=>q7.block b hb fun z=>by subst z;rw[Q8 OD]at hc;cases hc
 have Uk:∀{c k:Nat},w.heap[c]?=some (.chan 0 #[] false k k false)->∃k',w2.heap[c]?=some (.chan 0 #[] false k' k' false):=fun{c k} hc=>by
   have h1:=Q8 hc;by_cases e:c=ρ.come
   . subst e;obtain⟨k',_,h⟩:=q7.chan;exact⟨k'+1,h⟩
   . refine⟨k,?_⟩;rw[q7.block c (fun z=>?_) e]
     . exact h1
     . subst z;obtain⟨st,sm,hl⟩:=qF;unfold WgAt wgBlock at hl;rw[hl]at h1;cases h1
 have dI:w.heap.size<=w2.heap.size:=by rw[q7.size];exact p5.size
 have Aif:∀{b:Nat},(∃c e f,w.heap[b]?=some (.cells c e f))->γ.B b=true->b≠ρ.Wg->∃c e f,w1.heap[b]?=some (.cells c e f):=fun{b} ⟨c,e,f,hc⟩ hB hb=>⟨c,e,f,by rw[p5.block b hB hb];exact hc⟩
 have uX:γ.B ρ.come=false:=by
   cases hB:γ.B ρ.come with
   | false=>rfl
   | true=>obtain⟨c,e,f,hc⟩:=hRB _ hB;rw[OD]at hc;cases hc
 have TK:∀{b:Nat},γ.B b=true->b≠ρ.Wg->w2.heap[b]?=w.heap[b]?:=fun{b} hB hb=>by rw[q7.block b hb fun z=>by subst z;rw[uX]at hB;cases hB];exact p5.block b hB hb
 have Ab1:∀b,v'.own b->w2.heap[b]?=w1.heap[b]?:=fun b hb=>hblk2 (Vb b hb).1 (hown3 b hb).2;have Aat:∀{x:Nat} {st:Seat} {n:Nat},Tv x=.seat st n->(x=γ.v.h/\v'.over=false/\st=OY M ρ P v')\/(x≠γ.v.h/\x≠0/\∃n',PK x=.seat st n'):=fun{x st n} e=>by
   obtain⟨n',e'⟩:=q8.back e;by_cases hx:x=γ.v.h
   . subst hx;rw[upd_same]at e';rcases hrh with⟨_,m,h⟩|⟨ho,m,h⟩
     . rw[h]at e';cases e'
     . rw[h]at e';cases e';exact .inl ⟨rfl,ho,rfl⟩
   . rw[upd_ne _ _ hx]at e';by_cases hx0:x=0
     . subst hx0;rw[upd_same]at e';cases e'
     . rw[upd_ne _ _ hx0]at e';exact .inr ⟨hx,hx0,n',e'⟩
 have hother:∀{j:Nat} {u:FE X},ws[j]?=some u->j≠i->u.h≠γ.v.h:=fun{j u} hu hne h=>hne (RG hu h);refine⟨N1+N2,gs2,w2,sl2,T2,Tv,upd bd γ.v.h (aT v'),VY,v',g0,runNT_then p1 q1,q3.trans p2,q4,q5,⟨?_,?_,?_,?_,?_,?_,?_,?_,?_,?_,?_,?_,?_⟩,q6,⟨?_,?_,?_⟩,e1,e2,e3,e4,e5,e6,e7,?_,fun b hB hb=>TK hB hb,dI,hown2,fun b0 h1 h2=>(p5f b0 h1).trans (.rgv h1 h2 q7)⟩
 ·
   intro j j' u u' hu hu' h;have key:∀{j:Nat} {u:FE X},ws[j]?=some u->j≠i->(v'.h=u.h\/v'.t=u.t\/∃b,v'.own b/\u.own b)->False:=fun{j u} hu hne h=>by
     rcases h with h|h|⟨b,h1,h2⟩
     . exact hne (RG hu (h.symm.trans e1))
     . exact hne (C.apart j i u γ.v hu hv (.inr (.inl (h.symm.trans e4))))
     . rcases hown2 b h1 with h1 | h1
       . exact hne (C.apart j i u γ.v hu hv (.inr (.inr ⟨b,h2,h1⟩)))
       . have:=NJ.low _ (Mx j u hu hne b h2);omega
   rcases hset hu with⟨rfl,hh⟩|⟨hne,hu1⟩<;>rcases hset hu' with⟨rfl,hh'⟩|⟨hne',fu⟩
   . rfl
   . rw[hh]at h;exact(key fu hne' h).elim
   . rw[hh']at h;exact(key hu1 hne (h.imp Eq.symm (Or.imp Eq.symm fun⟨b,x,y⟩=>⟨b,y,x⟩))).elim
   . exact C.apart j j' u u' hu1 fu h
 . intro j u hu;rcases hset hu with⟨rfl,hh⟩|⟨hne,hu⟩
   . rw[hh,e1,e2];exact⟨hpos,hk⟩
   . exact C.pos j u hu
 ·
   intro j u hu h0' ho;rcases hset hu with⟨_,hh⟩|⟨hne,hu⟩
   . subst hh;rw[e1];rcases hrh with⟨ho',_⟩|⟨_,m,h⟩
     . rw[ho]at ho';cases ho'
     . obtain⟨n',h'⟩:=(q8 γ.v.h).1 _ m (by rw[upd_same];exact h)
       exact⟨⟨n',h'⟩,upd_same _ _ _⟩
   . have hn:=hother hu hne;obtain⟨⟨n',h⟩,hb⟩:=C.seats j u hu hn ho;obtain⟨n'',h⟩:=(p7 u.h).1 _ n' h;obtain⟨n3,h⟩:=(q8 u.h).1 _ n'' (by rw[upd_ne _ _ hn,upd_ne _ _ h0'];exact h);exact⟨⟨n3,h⟩,by rw[upd_ne _ _ hn];exact hb⟩
 ·
   intro x st n c e hc;rcases Aat e with⟨rfl,ho,hs⟩|⟨hx,hx0,n',e'⟩
   . subst hs;rcases RA hc with h|h
     . exact .inr (.inr ⟨i,v',set_self hv,e1,h⟩)
     . exact .inl h
   . rcases YG x st n' c e' hc with h | ⟨h,_⟩ | ⟨j,u,hu,Iu,h⟩
     . exact .inl h
     . exact absurd h hx0
     . have hne:=other hu (by rw[Iu];exact hx)
       exact .inr (.inr ⟨j,u,by rw[Pj hne];exact hu,Iu,h⟩)
 ·
   intro j u hu h0';rcases hset hu with⟨_,hh⟩|⟨hne,hu⟩
   . subst hh;rw[e8,e2,e3];exact⟨fun b hb=>.of (Ab1 b hb),iP,by rw[q7.size];exact Nat.le_refl _⟩
   . obtain⟨k1,k2,k3⟩:=C.keep j u hu (hother hu hne);refine⟨fun b hb=>(k1 b hb).trans (.of (TK (Mx j u hu hne b hb) (C.own j u hu b hb).2.1)),k2,Nat.le_trans k3 dI⟩
 ·
   intro j u hu b hb;rcases hset hu with⟨_,hh⟩|⟨hne,hu⟩
   . subst hh;obtain⟨a1',c,e,f,hc⟩:=hown3 b hb;exact⟨a1',(Vb b hb).1,(Vb b hb).2,c,e,f,by rw[Ab1 b hb];exact hc⟩
   . obtain⟨a1',a2',a3',c,e,f,hc⟩:=C.own j u hu b hb;exact⟨a1',a2',a3',c,e,f,by rw[TK (Mx j u hu hne b hb) a2'];exact hc⟩
 . intro j u hu;rcases hset hu with⟨_,hh⟩|⟨hne,hu⟩
   . subst hh;exact⟨Tj,hpb⟩
   . exact C.inside j u hu
 . intro j u hu;rcases hset hu with⟨_,hh⟩|⟨hne,hu⟩
   . subst hh;obtain⟨c1,c2,k,hk⟩:=C.chan i _ hv;rw[e4];exact⟨c1,c2,Uk hk⟩
   . obtain⟨c1,c2,k,hk⟩:=C.chan j u hu;exact⟨c1,c2,Uk hk⟩
 . exact⟨C.come.1,Uk OD⟩
 . exact fun _=>Uk TA
 . exact C.sh
 . intro b hb;obtain⟨h1,c,e,f,hc⟩:=C.old b hb;exact⟨h1,c,e,f,by rw[TK (WY b hb) h1];exact hc⟩
 . rw[upd_ne _ _ zOM];exact C.wO
 . intro j u hu;rcases hset hu with⟨_,hh⟩|⟨hne,hu⟩
   . rw[hh,e1];exact hL.lt i _ hv
   . exact hL.lt j u hu
 . rw[q9 0 (.inr ⟨_,_,hr0⟩),p8 0 (.inr ⟨_,_,h0⟩)];exact hL.zero
 . intro j u hu ho;rcases hset hu with⟨_,hh⟩|⟨hne,hu⟩
   . subst hh;rw[e1,q9 _ (.inl rfl)];exact hlv1
   . have hn:=hother hu hne;obtain⟨⟨n',h⟩,_⟩:=C.seats j u hu hn ho;obtain⟨n'',h'⟩:=(p7 u.h).1 _ n' h;rw[q9 _ (.inr ⟨_,_,h'⟩),p8 _ (.inr ⟨_,_,h⟩)];exact hL.one j u hu ho
 . refine M.inv_eq _ _ _ (fun b hb=>.of (hblk2 (C.sh b hb).1 (M.RH _ _ b hb hInv))) hInv
end
end
section
section
variable {X Sg:Type}{M:Md X Sg}{ρ:Rn}{P:Program}{ws:List (FE X)}{hd:Nat}{role:Nat->Fv}{bd:Nat->Nat}{w:World}
def holdB(M:Md X Sg)(v:FE X)(w:World)(b:Nat):Bool:=@decide ((∃c e f,w.heap[b]?=some (.cells c e f))/\¬ v.own b/\¬ M.Sh b) (Classical.propDecidable _)
theorem Hy{v:FE X}{b:Nat}:holdB M v w b=true↔(∃c e f,w.heap[b]?=some (.cells c e f))/\¬ v.own b/\¬ M.Sh b:=by unfold holdB;exact @decide_eq_true_iff _ (Classical.propDecidable _)
theorem Mt{v:FE X}:LT.Rows (holdB M v w) w:=⟨fun b hb=>(Hy.1 hb).1,fun b hb=>(by cases hb)⟩
theorem VL{v:FE X}(hW:∃c e f,w.heap[ρ.Wg]?=some (.cells c e f))(h1:¬ v.own ρ.Wg)(h2:¬ M.Sh ρ.Wg):dX M ρ v (holdB M v w) w.heap.size:=by
 refine⟨Hy.2 ⟨hW,h1,h2⟩,fun b hb=>?_,fun b hb=>?_,fun b hb=>?_⟩
 . cases e:holdB M v w b with
   | false=>rfl
   | true=>exact absurd hb (Hy.1 e).2.1
 . cases e:holdB M v w b with
   | false=>rfl
   | true=>exact absurd hb (Hy.1 e).2.2
 . obtain⟨⟨c,e,f,hc⟩,_⟩:=Hy.1 hb;exact(zGE hc).1
theorem IB{st sm:Int}(h:WgAt ρ.ty ρ.Wg w st sm):∃c e f,w.heap[ρ.Wg]?=some (.cells c e f):=by unfold WgAt wgBlock at h;exact⟨_,_,_,h⟩
theorem K0(C:MP M ρ P ws hd role bd w):Kc ρ ws 0=fun _=>True:=by
 funext z
 apply propext;constructor
 . exact fun _=>trivial
 . intro _ j u hu Iu;have:=(C.pos j u hu).1;omega
theorem St0(C:MP M ρ P ws hd role bd w):Oj ws 0=fun _=>False:=by
 funext z
 apply propext;constructor
 . rintro⟨j,u,hu,Iu,_⟩;have:=(C.pos j u hu).1;omega
 . exact fun h=>h.elim
theorem MP.turn{hd':Nat}{FK:Nat->Fv}{w':World}(C:MP M ρ P ws hd role bd w)(hhd:hd'≠0->∃(i:Nat) (v:FE X),ws[i]?=some v/\v.h=hd')(QI:∀(i:Nat) (v:FE X),ws[i]?=some v->v.h≠hd'->v.over=false->(∃n,FK v.h=.seat (OY M ρ P v) n)/\bd v.h=aT v)(vg:∀(i:Nat) (st:Seat) (n c:Nat),FK i=.seat st n->st.has c->c=ρ.gone\/(i=0/\c=ρ.come)\/∃(j:Nat) (v:FE X),ws[j]?=some v/\v.h=i/\c=v.t)(hkeep:∀(i:Nat) (v:FE X),ws[i]?=some v->v.h≠hd'->v.h≠hd)(hblk:∀b,b≠ρ.Wg->(∃c e f,w.heap[b]?=some (.cells c e f))->w'.heap[b]?=w.heap[b]?)(hsz:w.heap.size<=w'.heap.size)(hch:∀c k:Nat,w.heap[c]?=some (Obj.chan 0 #[] false k k false)->∃k':Nat,w'.heap[c]?=some (Obj.chan 0 #[] false k' k' false)):MP M ρ P ws hd' FK bd w':=by
 refine⟨C.apart,C.pos,QI,vg,fun i v hv hn=>?_,fun i v hv b hb=>?_,C.inside,fun i v hv=>?_,?_,?_,C.sh,fun b hb=>?_,C.wO⟩
 . obtain⟨k1,k2,k3⟩:=C.keep i v hv (hkeep i v hv hn);refine⟨fun b hb=>(k1 b hb).trans (.of ?_),k2,Nat.le_trans k3 hsz⟩;obtain⟨_,a2,_,a4⟩:=C.own i v hv b hb;exact hblk b a2 a4
 . obtain⟨a1,a2,a3,c,e,f,hc⟩:=C.own i v hv b hb;exact⟨a1,a2,a3,c,e,f,by rw[hblk b a2 ⟨c,e,f,hc⟩];exact hc⟩
 . obtain⟨c1,c2,k,hk⟩:=C.chan i v hv;exact⟨c1,c2,hch _ _ hk⟩
 . obtain⟨c1,k,hk⟩:=C.come;exact⟨c1,hch _ _ hk⟩
 . intro hcl;obtain⟨k,hk⟩:=C.gone hcl;exact hch _ _ hk
 . obtain⟨h1,c,e,f,hc⟩:=C.old b hb;exact⟨h1,c,e,f,by rw[hblk b h1 ⟨c,e,f,hc⟩];exact hc⟩
theorem Za(hcl:¬ ρ.UM){i:Nat}{v:FE X}{r s:Nat}{σ:Sg}{ME:Goroutine->Prop}{n ex:Nat}{live:Nat->Nat}{T:Trace}{gs:Array Goroutine}{sl:Option (Nat × Nat)}{g g₂:Goroutine}{zs:Value}(hv:ws[i]?=some v)(hov:v.over=false)(hr:v.r=r+1)(C:MP M ρ P ws 0 role bd w)(H:PU M ρ P ws 0 bd role live ex T gs w)(hL:Lv ws gs.size live)(hInv:M.Inv σ w)(hg:gs[0]?=some g)(hrun:g.status=.running)(hstep:∀w₁,G9 ρ.ty ρ.Wg w w₁->stepG P true g w₁=.comm g₂ #[scase v.t (.int .i64 s) zs] true .send w₁ #[])(hS:Sits P true (fun _=>True) (fun _=>False) 0 (Seat.one ρ.come ρ.zi false ME) n (g₂.finishComm P #[scase v.t (.int .i64 s) zs] .send (0:Nat) undef false)) :
  ∃N gs' w' sl' T' FK aS Gc v' g0,runNT P N (crowd gs w sl) T=(.next (crowd gs' w' sl'),T')/\gs'.size=gs.size/\gs'[0]?=some (g0.finishComm P #[rcase ρ.come ρ.zi] (.recv false) 0 (.int .i64 v.k) true)/\ME g0/\
    MP M ρ P (ws.set i v') 0 FK aS w'/\PU M ρ P (ws.set i v') 0 aS FK Gc ex T' gs' w'/\Lv (ws.set i v') gs.size Gc/\
    v'.h=v.h/\v'.k=v.k/\v'.b=v.b/\v'.t=v.t/\v'.x=(M.hold v.x s σ).1/\v'.over=(M.hold v.x s σ).2.2/\v'.r=r/\M.Inv (M.hold v.x s σ).2.1 w'/\(∀b,b≠ρ.Wg->(∃c e f,w.heap[b]?=some (.cells c e f))->¬ v.own b->¬ M.Sh b->w'.heap[b]?=w.heap[b]?)/\
    w.heap.size<=w'.heap.size/\(∀b,v'.own b->v.own b\/w.heap.size<=b)/\(∀b0,b0<=ρ.Wg->b0<=ρ.come->b0<=v.t->Po b0 w w'):=by
 obtain⟨hpos,hk⟩:=C.pos i v hv;have E:=C.env;obtain⟨⟨nv,hrv⟩,hbd⟩:=C.seats i v hv zOM hov;obtain⟨ht1,ht2,kt,hkt⟩:=C.chan i v hv;obtain⟨kc,OD⟩:=C.come.2;have RG:∀{j:Nat} {u:FE X},ws[j]?=some u->u.h=v.h->j=i:=fun{j u} hu he=>C.apart j i u v hu hv (.inl he);have hA:After P ρ.ty ρ.Wg (Kc ρ ws) (Oj ws) bd (fun c=>c=ρ.gone) (Nl ws v.h) (IW ws v.h) role live 0 v.t w (g₂.finishComm P #[scase v.t (.int .i64 s) zs] .send (0:Nat) undef false) (.seat (Seat.one ρ.come ρ.zi false ME) n):=by
  refine⟨fun s m d e=>(by cases e),fun st n' e=>?_⟩;cases e
  rw[K0 C,St0 C,C.wO];refine⟨hS,⟨by omega,.inl rfl⟩,Seat.one_wf _ _ _ _,.inl rfl,Nat.zero_le _,fun c hc=>?_,fun x st' n' c hx hr' hc hc'=>?_,trivial⟩
  . rw[Seat.one_has.1 hc];exact⟨fun z=>ht1 z.symm,kc,OD⟩
  . rw[Seat.one_has.1 hc]at hc' ⊢;rcases C.known x st' n' _ hr' hc' with h|⟨h,_⟩|⟨j,u,hu,_,h⟩
    . exact h
    . exact absurd h hx
    . exact absurd h.symm (C.chan j u hu).1
 have hO:Kj #[scase v.t (.int .i64 s) zs] 0 v.t (.int .i64 s) w:=⟨⟨zs,rfl⟩,fun m cc hm hc=>by
  rcases m with _|m
  . exact absurd rfl hm
  . simp at hc⟩
 obtain⟨N1,m1,T1,q1,gs1,gj,w1,sl1,PK,QZ,rfl,q3,q4,q5,q6,q7,q8,q9⟩:=give (sl:=sl) (h:=0) (j:=v.h) (c:=v.t) (k:=0) (kk:=0) (v:=.int .i64 s) (es:=#[]) (Mem':=Nl ws v.h) (Loose':=IW ws v.h) (zj:=ρ.zi) E hKc hg hrun hstep (by simp) hO H (.inl rfl) zOM hrv rfl ht2
  (fun x hx=>by
    rcases hx with h|h|h
    . exact .inl h
    . exact .inr (.inr ⟨i,v,hv,h.symm,hov⟩)
    . exact .inr (.inr h))
  (fun x hx _=>by
    rcases hx with h|h|h
    . exact .inl h
    . exact .inl h
    . exact .inr (.inr h))
  (fun x hx hxj=>⟨hxj,hx.2⟩) (fun h=>h.1 rfl) hA
 have hblk1:∀b,b≠ρ.Wg->(∃c e f,w.heap[b]?=some (.cells c e f))->w1.heap[b]?=w.heap[b]?:=fun b hb ⟨c,e,f,hc⟩=>q7.block b hb fun z=>by subst z;rw[hkt]at hc;cases hc
 have SL:∀{c k:Nat},w.heap[c]?=some (.chan 0 #[] false k k false)->c≠ρ.Wg:=fun{c k} hc z=>by subst z;obtain⟨c',e,f,h⟩:=IB H.KS.wg;rw[hc]at h;cases h
 have C1:MP M ρ P ws v.h PK bd w1:=by
  refine C.turn (fun _=>⟨i,v,hv,rfl⟩) (fun j u hu hn ho=>?_) (fun x st n' c e hc=>?_) (fun j u hu _=>by have:=(C.pos j u hu).1;omega) hblk1 (Nat.le_of_eq q7.size.symm) (fun c k hc=>?_)
  . have hu0:u.h≠0:=by have:=(C.pos j u hu).1;omega
    obtain⟨⟨n',h⟩,hb⟩:=C.seats j u hu hu0 ho;exact⟨(q8 u.h).1 _ n' (by rw[upd_ne _ _ hu0,upd_ne _ _ hn];exact h),hb⟩
  . obtain⟨n'',e'⟩:=q8.back e;by_cases hx0:x=0
    . subst hx0;rw[upd_same]at e';cases e'
      exact .inr (.inl ⟨rfl,Seat.one_has.1 hc⟩)
    . rw[upd_ne _ _ hx0]at e';by_cases hxv:x=v.h
      . subst hxv;rw[upd_same]at e';cases e'
      . rw[upd_ne _ _ hxv]at e';exact C.known x st n'' c e' hc
  . by_cases e:c=v.t
    . subst e;obtain⟨k',_,h⟩:=q7.chan;exact⟨k'+1,h⟩
    . exact⟨k,by rw[q7.block c (SL hc) e];exact hc⟩
 have Acx:M.Inv σ w1:=M.inv_eq _ _ _ (fun b hb=>.of (hblk1 b (C.sh b hb).1 (M.RH _ _ b hb hInv))) hInv;have NJ:dX M ρ v (holdB M v w1) w1.heap.size:=VL (IB q6.KS.wg) (fun h=>(C1.own i v hv _ h).2.1 rfl) (fun h=>(C1.sh _ h).1 rfl);have Mx:∀(j:Nat) (u:FE X),ws[j]?=some u->j≠i->∀b,u.own b->holdB M v w1 b=true:=fun j u hu hne b hb=>by obtain⟨a1,a2,a3,a4⟩:=C1.own j u hu b hb;exact Hy.2 ⟨a4,fun h=>hne (C.apart j i u v hu hv (.inr (.inr ⟨b,hb,h⟩))),a1⟩
 have WY:∀b,ρ.Bo b=true->holdB M v w1 b=true:=fun b hb=>by
  obtain⟨h1,h2⟩:=C1.old b hb;refine Hy.2 ⟨h2,fun h=>?_,fun h=>?_⟩
  . have:=(C1.own i v hv b h).2.2.1;rw[hb]at this;cases this
  . have:=(C1.sh b h).2;rw[hb]at this;cases this
 have hkeep:=C.keep i v hv zOM;have hJ:WJ M ρ P r ⟨v,holdB M v w1,w1.heap.size,M.hold v.x s σ⟩ (gj.finishComm P (Ho ρ v.t) .select 0 (.int .i64 s) true) w1:=by have hh:fZ M ρ P (Z9 M ρ P v.r) v gj:=q5.1;rw[hr]at hh;exact hh s σ w1 (holdB M v w1) NJ Mt (fun b hb=>(hkeep.1 b hb).trans (.of (hblk1 b (C.own i v hv b hb).2.1 (C.own i v hv b hb).2.2.2))) (Nat.le_trans hkeep.2.2 (Nat.le_of_eq q7.size.symm)) Acx
 have hL1:Lv ws gs1.size QZ:=⟨fun j u hu=>by rw[q3];exact hL.lt j u hu,by rw[q9 0 (.inl rfl)];exact hL.zero,fun j u hu ho=>by
  have hu0:u.h≠0:=by have:=(C.pos j u hu).1;omega
  obtain⟨⟨n',h⟩,_⟩:=C.seats j u hu hu0 ho;rw[q9 _ (.inr ⟨_,_,h⟩)];exact hL.one j u hu ho⟩
 obtain⟨n0,h0⟩:=(q8 0).1 _ n (upd_same _ _ _);obtain⟨N2,gs2,w2,sl2,T2,Tv,bd2,VY,v',g0,r1,r2,r3,r4,r5,r6,r7,a1,a2,a3,a4,a5,a6,a7,a8,a9,uT,jw,a12⟩:=TB (hcl:=hcl) (sl:=sl1) (γ:=⟨v,holdB M v w1,w1.heap.size,M.hold v.x s σ⟩) hv hov rfl C1 q6 hL1 NJ Mt WY Mx q4 hJ h0;refine⟨N1+N2,gs2,w2,sl2,T2,Tv,bd2,VY,v',g0,runNT_then q1 r1,r2.trans q3,r3,r4,r5,r6,by rw[← q3];exact r7,a1,a2,a3,a4,a5,a6,a7,a8,fun b hb hrow ho hs=>?_,by rw[← q7.size];exact uT,fun b hb=>by rw[← q7.size];exact jw b hb,fun b0 h1 h2 h3=>(Po.rgv h1 h3 q7).trans (a12 b0 h1 h2)⟩;have h1:=hblk1 b hb hrow;obtain⟨c,e,f,hc⟩:=hrow;rw[a9 b (Hy.2 ⟨⟨c,e,f,h1.trans hc⟩,ho,hs⟩) hb];exact h1
end
end
end Go.LK
end
