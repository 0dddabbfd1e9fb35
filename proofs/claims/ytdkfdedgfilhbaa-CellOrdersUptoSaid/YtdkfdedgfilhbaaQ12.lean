/-
  Part 12 of the proof that CellOrders is true of every input of bulk at most 1048576.
-/
import Derived.Test.YtdkfdedgfilhbaaQ11
import Derived.Conc.WgGenN3
import Derived.Conc.SmallLaws
set_option linter.unusedVariables false
set_option linter.unusedSectionVars false
set_option linter.unusedSimpArgs false
set_option maxHeartbeats 8000000
set_option maxRecDepth 100000
noncomputable section
namespace Go.LK
open Go Go.Conc Go.LT Go.LC
open Go.ConcN (WgLive sumTo upd sumTo_upd upd_ne upd_same)
open Go.ConcR (KK wgBlock WgAt stA smA rd wr mk)
section
section
variable {X Sg:Type}
variable {P:Program}{Fin:Gb}{EH:FM P Fin}
variable {M:Md X Sg}{ρ:Rn}{ws:List (FE X)}{W:World}{n:Nat}{g g':Goroutine}
structure Tw(ρ:Rn)(ws:List (FE X))(W W':World):Prop where
 cell:∀a:Addr,a.block<W.heap.size->a.block≠ρ.gone->a.block≠ρ.Wg->W'.cell? a=W.cell? a
 block:∀b,b<W.heap.size->b≠ρ.gone->b≠ρ.Wg->ownB ws b=false->W'.heap[b]?=W.heap[b]?
 size:W.heap.size<=W'.heap.size
def Il(role:Nat->Fv)(i:Nat):Fv:=if i=0 then .fin 1 0 0 else match role i with
 | .seat _ n=>.fin 9 (n-1) 0
 | r=>r
def L6(role:Nat->Fv)(i:Nat):Seat:=match role i with
 | .seat st _=>st
 | _=>⟨#[],.select,fun _=>True⟩
theorem UJ{g₂:Goroutine}{cs:Array CommCase}{sh:CommShape}{w:World}{k c cap a b:Nat}{buf:Array Value}{tm:Bool}{z:Value}(hk:cs[k]?=some (rcase c z))(hc:w.heap[c]?=some (.chan cap buf true a b tm)):(parked g₂ cs sh).again w={ parked g₂ cs sh with status:=.running }:=by
 have h:cs.any (fun c=>match c.chan with
   | .chan (some r)=>(w.heap[r]? matches some (.chan _ _ true ..))
   | _=>false)=true:=by
   refine Array.any_eq_true.2 ?_;obtain⟨hlt,e⟩:=zGE hk;exact⟨k,hlt,by rw[e];simp[rcase,hc]⟩
 simp only[Goroutine.again,parked];split
 . rfl
 . rename_i hn;exact absurd h hn
theorem J0.shut(hsh:ρ.shut)(hcl:¬ ρ.UM)(hrun:g.status=.running)(hmw:mayWake P g=true)(hrun':g'.status=.running)(hstep:∀w k,w.heap[ρ.gone]?=some (.chan 0 #[] false k k false)->stepG P true g w=.go g' (w.setChan ρ.gone 0 #[] true k k false) (closeEvents ρ.gone))(hQ:KR P ρ.ty ρ.Wg n (fun g=>∀W',Tw ρ ws W W'->JW (S0 (X:=X) (Sg:=Sg) P Fin EH).base (.Gj (fun b=>ρ.Bo b||b==ρ.Wg) n) g W') .pre g'):JW (S0 P Fin EH).base (.Fg M ρ ws 0 false n) g W:=by
 intro w hw gs T sl role bd live hg hn C H hL hdf Kl;obtain⟨N,gs₁,w₁,d,sl₁,sl₂,T₁,Fj,FQ,p1,p2,p3,p4,p5,p6,p7,p8,p9,uK⟩:=picked (h:=0) (sl:=sl) C.env hrun _ _ rfl rfl hg H;have C₁:=C.turns p7 p6 (IB H.KS.wg);have oI:=hL.keep C p8;have hf1:Po Fin.b0 w (w₁.at d):=.Yk Kl.wg p6;have PS:=S0.Tx hw p6;generalize w₁.at d=w1 at *;obtain⟨k,hk⟩:=C₁.gone hcl;have hst:=hstep _ k hk;have hrt:=runT_crowd_go (P:=P) (sl:=sl₂) (i:=0) p4 hst;have hlt:ρ.gone<w1.heap.size:=(zGE hk).1;have hne:∀b,b≠ρ.gone->(w1.setChan ρ.gone 0 #[] true k k false).heap[b]?=w1.heap[b]?:=fun b hb=>heap_setChan_ne _ _ _ _ _ _ _ (Ne.symm hb);have hsz:(w1.setChan ρ.gone 0 #[] true k k false).heap.size=w1.heap.size:=by simp[World.setChan]
 have Abb:(w1.setChan ρ.gone 0 #[] true k k false).heap[ρ.gone]?=some (.chan 0 #[] true k k false):=by simp[World.setChan,Array.getElem?_setIfInBounds,hlt]
 have XA:ρ.Wg≠ρ.gone:=fun e=>by obtain⟨c,e',f,hc⟩:=IB p5.KS.wg;rw[e,hk]at hc;cases hc
 have hcell:∀{b:Nat} {c e f},w1.heap[b]?=some (.cells c e f)->b≠ρ.gone:=fun{b} {c} {e} {f} h z=>by rw[z,hk]at h;cases h
 have hf2:Po Fin.b0 w1 (w1.setChan ρ.gone 0 #[] true k k false):=⟨rfl,rfl,Nat.le_of_eq hsz.symm,fun b o hb ho _=>by rw[hne b (by have:=Kl.gone;omega)];exact ho⟩
 generalize w1.setChan ρ.gone 0 #[] true k k false=w2 at *;have E0:=C₁.env;have tL:∀i w w',w.heap.size<=w'.heap.size->(∀b,b≠ρ.Wg->b<w.heap.size->w'.heap[b]?=w.heap[b]?)->Kc ρ ws i w->Kc ρ ws i w':=fun i w w' _ hb hK j v hv hi ho=>by
  have h:=hK j v hv hi ho;have hlt:∀{b o x},w.cell? ⟨b,o,none⟩=some x->b<w.heap.size:=fun{b o x} h=>by
    rcases Nat.lt_or_ge b w.heap.size with h1|h1
    . exact h1
    . exfalso
      have:w.heap[b]?=none:=Array.getElem?_eq_none_iff.2 h1;simp[World.cell?,this]at h
  have hi2:=C₁.inside j v hv;have b1:=hlt h.1;have b2:=hlt h.2.2;exact h.blk (hb _ (C₁.own j v hv _ hi2.1).2.1 b1) (hb _ (C₁.own j v hv _ hi2.2).2.1 b2)
 have E:Sj ρ.Wg (Kc ρ ws) (Oj ws) (Iq ρ):={ E0 with SB:=⟨_,rfl,.inl rfl⟩,grow:=tL }
 have hK2:∀i,Kc ρ ws i w1->Kc ρ ws i w2:=fun i hK j v hv hi ho=>by have hi2:=C₁.inside j v hv;obtain⟨_,_,_,c,e,f,hc⟩:=C₁.own j v hv _ hi2.1;obtain⟨_,_,_,c',e',f',hc'⟩:=C₁.own j v hv _ hi2.2;exact(hK j v hv hi ho).blk (hne _ (hcell hc)) (hne _ (hcell hc'))
 have Afa:∀e∈closeEvents ρ.gone,vK (Oj ws) (Iq ρ) 0 w2.heap.size e:=fun e he=>by
  simp only[closeEvents,List.mem_toArray,List.mem_cons,List.not_mem_nil,or_false]at he;refine⟨fun b hb=>⟨fun g _ hS=>?_,fun hS=>?_⟩,?_,?_,?_⟩
  . obtain⟨j,v,hv,_,ho,hs⟩:=hS;rcases he with rfl|rfl<;>simp[MemAct.ofEvent,MemAct.touch?]at hb
    subst hb;rcases hs with hs|hs|hs<;>cases hs
  . obtain⟨a,ha,_⟩:=hS;rcases he with rfl|rfl<;>simp[MemAct.ofEvent,MemAct.touch?]at hb
    subst hb;cases ha
  . rcases he with rfl | rfl<;>simp
  . rcases he with rfl | rfl<;>simp
  . rcases he with rfl | rfl<;>(show ρ.gone<_;omega)
 obtain⟨hops,hr,hl,zD⟩:=Lb (h:=0) (fn:=g.frame.fn) (pos:=g.frame.place) Afa;have htc:∀op∈MemOp.ofEvents 0 g.frame.fn g.frame.place (closeEvents ρ.gone),∀b,op.act.touch?=some b->∀x,¬ Oj ws x b.loc:=fun op hop b hb x hS=>by
  obtain⟨e,he,rfl⟩:=Conc.mem_ofEvents hop;simp only[closeEvents,List.mem_toArray,List.mem_cons,List.not_mem_nil,or_false]at he;obtain⟨j,v,hv,_,ho,hs⟩:=hS;rcases he with rfl|rfl<;>simp[MemAct.ofEvent,MemAct.touch?]at hb
  subst hb;rcases hs with hs|hs|hs<;>cases hs
 have Afl:Deaf (T₁++MemOp.ofEvents 0 g.frame.fn g.frame.place (closeEvents ρ.gone)) 0=0:=(zD T₁).trans (p9.trans hdf);have hD:∀x,x≠0->Deaf (T₁++MemOp.ofEvents 0 g.frame.fn g.frame.place (closeEvents ρ.gone)) x=Deaf T₁ x:=fun x hx=>Deaf_other T₁ (fun z=>hx z.symm) _ hops;have F:=p5.KS;have hp:Gr (Oj ws) (Iq ρ) (fun _=>False) (IW ws 0) w2.heap.size (Knows (T₁++MemOp.ofEvents 0 g.frame.fn g.frame.place (closeEvents ρ.gone)) 0) (T₁++MemOp.ofEvents 0 g.frame.fn g.frame.place (closeEvents ρ.gone)):=
  ((F.past.mono (Nat.le_of_eq hsz.symm)).hold p5.tight hops hr (fun _=>zD T₁) hl).fewer fun _ h=>h.elim
 generalize MemOp.ofEvents 0 g.frame.fn g.frame.place (closeEvents ρ.gone)=Aan at *;have qV:WgAt ρ.ty ρ.Wg w2 ((sumTo gs₁.size FQ:Nat)*KK+((0:Nat):Int)) ((0:Nat):Int):=by
  have:=F.wg;unfold WgAt at this ⊢;rw[hne _ XA]
  simpa using this
 have hrx:=Mw ρ.ty ρ.Wg ⟨_,_,F.wg⟩ ⟨_,_,qV⟩;have WT:∀i st m,Fj i=.seat st m->∃(j:Nat) (v:FE X),ws[j]?=some v/\v.h=i/\v.over=false/\st=OY M ρ P v:=fun i st m e=>by
  have hlt:=(F.seat i st m e).1;have hi0:i≠0:=fun z=>p5.M4 st m (z ▸ e);obtain⟨g',hg'⟩:∃g',gs₁[i]?=some g':=⟨_,Array.getElem?_eq_getElem hlt⟩
  obtain⟨_,h0|⟨j,v,hv,um,ho⟩⟩:=(F.seats i g' st m hi0 hg' e).2
  . exact absurd h0 hi0
  . obtain⟨⟨m',e'⟩,_⟩:=C₁.seats j v hv (by rw[um];exact hi0) ho
    rw[um,e]at e';cases e'
    exact⟨j,v,hv,um,ho,rfl⟩
 have Agu:∀i,i≠0->i<gs₁.size->(Il Fj i).stage=9->∃st m,Fj i=.seat st m:=fun i h0 hi h9=>by
  unfold Il at h9;rw[if_neg h0]at h9;cases e:Fj i with
  | seat st m=>exact⟨st,m,rfl⟩
  | fin s m d=>
    rw[e]at h9;simp only[Fv.stage]at h9;have:=(F.Ie i _ s m d h0 (Array.getElem?_eq_getElem hi) e).2.2.2.2.2;omega
 have hget:∀x,x≠0->((gs₁.map (woken P g g' w2)).setIfInBounds 0 g')[x]?=(gs₁[x]?).map (woken P g g' w2):=fun x hx=>by rw[Array.getElem?_setIfInBounds_ne (fun e=>hx e.symm),Array.getElem?_map]
 have Ags:∀i,i<gs₁.size->JE (Il Fj i)=FQ i:=fun i hi=>by
  unfold Il;by_cases h0:i=0
  . subst h0;rw[if_pos rfl,oI.zero];rfl
  . rw[if_neg h0];cases e:Fj i with
    | seat st m=>
      obtain⟨j,v,hv,um,ho,_⟩:=WT i st m e;have:=oI.one j v hv ho;rw[um]at this;rw[this];rfl
    | fin s m d=>
      have:=(F.Ie i _ s m d h0 (Array.getElem?_eq_getElem hi) e).2.2.2.2.1;rw[this];rfl
 have Ae1:MJ P ρ.ty ρ.Wg ρ.gone (Kc ρ ws) (Oj ws) bd (L6 Fj) (Iq ρ) (IW ws 0) 0 false (Il Fj) (sumTo gs₁.size FQ) 0 0 (T₁++Aan) ((gs₁.map (woken P g g' w2)).setIfInBounds 0 g') w2:=by
  refine⟨fun i y s m d hi hy e=>?_,fun i hi hlt h9=>?_,⟨XA.symm,k,Abb⟩,fun i hi hlt=>?_,?_,Afl,fun j hj=>?_,hp,p5.tight,qV,.b0 (fun i hi hlt=>?_) ?_,by have:=F.few;simpa using this,fun j a ha hm=>?_⟩
  . rw[hget i hi]at hy;obtain⟨y0,hy0,rfl⟩:=Option.map_eq_some_iff.1 hy;unfold Il at e;rw[if_neg hi]at e;cases er:Fj i with
    | fin s' m' d'=>
      rw[er]at e;cases e
      obtain⟨_,hF,hd',_,_,hs⟩:=F.Ie i y0 s m d hi hy0 er;rw[woken_of_again (again_of_running hF.status w2),hD i hi];exact⟨.fin zOM (hF.rely hrx),hd'⟩
    | seat st m'=>
      rw[er]at e;cases e
      obtain⟨hS,hLo⟩:=F.seats i y0 st m' hi hy0 er;obtain⟨_,hwf,vS,_,_⟩:=F.seat i st m' er;have hK1:=F.keep i st m' er;have hd0:Deaf (T₁++Aan) i=0:=by rw[hD i hi];exact F.past.hears i vS
      refine⟨?_,hd0⟩;have hst:L6 Fj i=st:=by unfold L6;rw[er]
      rw[hst];have hi0:(i==0)=false:=by simp;omega
      rw[hi0]at hS;rcases hS with⟨k',w₀,rfl,hG⟩|⟨rfl,g₀,g₂,rfl,hat⟩
      . have hrn:=Goes.running (fun _ _ ⟨_,x⟩=>x.1) w1 hK1 hG;rw[woken_of_again (again_of_running (.inl hrn) w2)];exact .seat (hK2 i hK1) hG
      . obtain⟨j,v,hv,um,ho,hsv⟩:=WT i st 0 er;have hag:woken P g g' w2 (parked g₂ st.cases st.shape)={ parked g₂ st.cases st.shape with status:=.running }:=by unfold woken;rw[if_pos (by simp[hmw,hrun'])];exact UJ (k:=1) (c:=ρ.gone) (z:=ρ.zg) (by rw[hsv];rfl) Abb
        rw[hag];exact .seat (w₀:=w2) (hK2 i hK1) (Goes.stop fun w₁ _=>⟨g₂,hat.tries _ _⟩)
  . have hlt':i<gs₁.size:=by simpa using hlt
    obtain⟨st,m,er⟩:=Agu i hi hlt' h9;obtain⟨_,hwf,vS,hBd,hch⟩:=F.seat i st m er;obtain⟨_,hLo⟩:=F.seats i _ st m hi (Array.getElem?_eq_getElem hlt') er;obtain⟨j,v,hv,um,ho,hsv⟩:=WT i st m er;have hst:L6 Fj i=st:=by unfold L6;rw[er]
    rw[hst];refine⟨hLo,by rw[hsz];exact hBd,xq.app (fun j a ha hw hS=>F.past.wrote j a ha hw i vS hS) fun op hop b hb _ hS=>htc op hop b hb i hS,⟨hwf,1,ρ.zg,by rw[hsv];rfl,fun g₂ hh=>?_⟩,fun c hc hne'=>?_⟩
    . rw[hsv]at hh ⊢;exact hh.2 hsh
    . obtain⟨k2,hk2⟩:=hch c hc;refine⟨fun z=>?_,k2,by rw[hne c hne'];exact hk2⟩;obtain⟨c',e',f',hx⟩:=IB F.wg;rw[← z,hk2]at hx;cases hx
  . unfold Il;rw[if_neg hi];cases er:Fj i with
    | fin s m d=>exact⟨s,m,d,rfl⟩
    | seat st m=>exact⟨_,_,_,rfl⟩
  . unfold Il;rw[if_pos rfl];rfl
  . have hj':gs₁.size<=j:=by simpa using hj
    have:0<gs₁.size:=(zGE p4).1;rw[hD j zOM];exact F.above j hj'
  . have hlt':i<gs₁.size:=by simpa using hlt
    unfold Il;rw[if_neg hi];cases er:Fj i with
    | fin s m d=>
      have:=(F.Ie i _ s m d hi (Array.getElem?_eq_getElem hlt') er).2.2.2.2.2;simp only[Fv.stage];omega
    | seat st m=>exact .inl ⟨by simp[Fv.stage],by simp[Fv.stage]⟩
  . simp only[Array.size_setIfInBounds,Array.size_map];exact(Go.ConcN.sumTo_congr fun i hi=>(Ags i hi).symm)
  . rcases hp.known j a ha hm with hk' | ⟨_,x,hx,⟨hx0,h0 | ⟨i,v,hv,hvx,ho⟩⟩,hS⟩ | hk'
    . exact .inl hk'
    . exact absurd h0 hx0
    . right;left
      obtain⟨⟨m,er⟩,_⟩:=C₁.seats i v hv (by rw[hvx];exact hx0) ho;rw[hvx]at er;refine⟨x,hx,hx0,by simpa using(F.seat x _ m er).1,?_⟩;unfold Il;rw[if_neg hx0,er];simp[Fv.stage]
    . exact .inr (.inr (.inr hk'))
 have ha':((gs₁.map (woken P g g' w2)).setIfInBounds 0 g')[0]?=some g':=Array.getElem?_setIfInBounds_self_of_lt (by simpa using(zGE p4).1);obtain⟨N₂,gs',Al3,w',sl',T',q1,q2,q3,q4,⟨⟨st,sm,q7⟩,q,q5⟩,q6⟩:=Aao (sl:=sl₂) E (fun a ha=>⟨a,rfl,.inl ha⟩) _ _ hQ (by simp[p3,hn]) ha' ⟨rfl,rfl⟩ Ae1;have hf3:Po Fin.b0 w2 w':=⟨q6.os,q6.output,q6.size,fun b o hb ho _=>by rw[q6.block b (by have:=Kl.wg;omega) (zGE ho).1];exact ho⟩
 let B':Hid:={ hol:=fun b=>ρ.Bo b||b==ρ.Wg }
 have e:Iq ρ=aL B':=Td (ws:=ws);rw[e]at q5;have hrow:∀b,(∃c e f,w1.heap[b]?=some (Obj.cells c e f))->b≠ρ.Wg->w'.heap[b]?=w1.heap[b]?:=fun b ⟨c,e,f,hc⟩ hb=>by rw[q6.block b hb (by rw[hsz];exact(zGE hc).1),hne b (hcell hc)]
 have hs':Io B' w' (EF B' w'):=by
  refine⟨.refl _,⟨fun b hb=>?_,fun b hb=>(by cases hb)⟩⟩;by_cases hbw:b=ρ.Wg
  . rw[hbw];exact⟨_,_,_,q7⟩
  . have hr':=PS.2.hol b hb;obtain⟨c,e,f,hc⟩:=id hr';exact⟨c,e,f,by rw[hrow b hr' hbw];exact hc⟩
 have hTw:Tw ρ ws W (EF B' w'):=by
  have hh:=Gu PS;have hWs:W.heap.size=w1.heap.size:=IV PS;have hb':∀b,b<W.heap.size->b≠ρ.gone->b≠ρ.Wg->w'.heap[b]?=w1.heap[b]?:=fun b hb h1 h2=>by rw[q6.block b h2 (by rw[hsz,← hWs];exact hb),hne b h1]
  refine⟨fun a ha h1 h2=>?_,fun b hb h1 h2 ho=>?_,?_⟩
  . simp only[World.cell?,hh];rw[Fq,Fq,hb' _ ha h1 h2];cases w1.heap[a.block]? with
    | none=>rfl
    | some o=>
      by_cases hb:(ρ.Bo a.block||a.block==ρ.Wg)=true
      . simp only[B',FR,Option.map_some,hb,if_true]
      . simp only[B',FR,Option.map_some,hb,if_false,Bool.false_eq_true];cases o<;>rfl
  . rw[hh,Fq,Fq,hb' _ hb h1 h2];show Option.map (fun o=>if((ρ.Bo b||b==ρ.Wg)=true)then Mk o else dep false o) _=Option.map (fun o=>if((ρ.Bo b||b==ρ.Wg)=true)then Mk o else dep (ownB ws b) o) _;rw[ho]
  . rw[Hl,hWs,← hsz];exact q6.size
 refine EH (N+(N₂+1)) _ _ _ _ (runNT_then p1 (by simp only[runNT,p2,hrt];exact q1)) ((hf1.trans hf2).trans hf3) (q4 _ hTw w' hs' gs' T' sl' q q3 (by rw[q2];simp[p3,hn]) q5 ?_);have h1:=Kl.wg;have h2:ρ.Wg<w2.heap.size:=(zGE qV).1;have h3:=q6.size;omega
end
end
section
section
variable {P:Program}{ty:TypeId}{Wg n:Nat}{Stop:Goroutine->Prop}{W:World}{p:QP}{g g':Goroutine}
def Rm(P:Program)(ty:TypeId)(Wg n:Nat)(Stop:Goroutine->Prop):O8 P true QP where
 B:=fun _=>RJ
 J:=fun p g _=>KR P ty Wg n Stop p g
 live:=fun _=>WgLive ty Wg
 idle:=fun p g g' W hs h hJ w hw=>.idle hs h (hJ w hw)
theorem Rm.of(h:∀W,JL (Rm P ty Wg n Stop) p g W):KR P ty Wg n Stop p g:=h (EF RJ default) default ⟨.refl _,JB _⟩
theorem JT.said{m:Mark}(hm:Says Wg m)(hr:m≠.release (stA Wg))(hs:g.status=.running)(h:∀w,WgLive ty Wg w->stepG P true g w=.go g' w #[mk m])(hJ:JL (Rm P ty Wg n Stop) p g' W):JL (Rm P ty Wg n Stop) p g W:=fun w hw=>.said hm hr hs h (hJ w hw)
theorem JT.aU(hs:g.status=.running)(h:∀w,stepG P true g w=.go g' w #[mk .disable])(hJ:JL (Rm P ty Wg n Stop) (.loop n) g' W):JL (Rm P ty Wg n Stop) .pre g W:=fun w hw=>.aU hs (fun w _=>h w) (hJ w hw)
theorem JT.load{v:Nat}{g':Nat->Goroutine}(hs:g.status=.running)(h:∀(w:World) (v':Nat),v'<2147483648->WgAt ty Wg w (v'*KK) 0->stepG P true g w=.go (g' v') w #[rd (stA Wg)])(h0:JL (Rm P ty Wg n Stop) .out (g' 0) W)(h1:∀v',v'<=v->v'≠0->v'<2147483648->JL (Rm P ty Wg n Stop) (.seen v') (g' v') W):JL (Rm P ty Wg n Stop) (.loop v) g W:=fun w hw=>
 .load hs h (h0 w hw) fun v' a b c=>h1 v' a b c w hw
theorem JT.cas{v:Nat}{gh gm:Goroutine}(hs:g.status=.running)(hv:v≠0)(h:∀w,WgAt ty Wg w (v*KK) 0->stepG P true g w=.go gh (w.setCell (stA Wg) (.int .u64 (v*KK+1))) #[rd (stA Wg),wr (stA Wg)])(m:∀(w:World) (v':Nat),v'<v->WgAt ty Wg w (v'*KK) 0->stepG P true g w=.go gm w #[rd (stA Wg)])(kh:JL (Rm P ty Wg n Stop) .sem gh W)(km:∀v',v'<v->JL (Rm P ty Wg n Stop) (.loop v') gm W):JL (Rm P ty Wg n Stop) (.seen v) g W:=fun w hw=>.cas hs hv h m (kh w hw) fun v' a=>km v' a w hw
theorem JT.acq(hs:g.status=.running)(ho:g.offers=none)(hb:∀w,(∃st,WgAt ty Wg w st 0)->stepG P true g w=.go { g with status:=.blocked } w #[])(h:∀w,WgAt ty Wg w 0 1->stepG P true g w=.go g' (w.setCell (smA Wg) (.int .u32 0)) (semEvents (smA Wg)))(k:JL (Rm P ty Wg n Stop) .last g' W):JL (Rm P ty Wg n Stop) .sem g W:=fun w hw=>.acq hs ho hb h (k w hw)
theorem JT.last(hs:g.status=.running)(h:∀w,WgAt ty Wg w 0 0->stepG P true g w=.go g' w #[rd (stA Wg)])(k:JL (Rm P ty Wg n Stop) .out g' W):JL (Rm P ty Wg n Stop) .last g W:=fun w hw=>.last hs h (k w hw)
theorem JT.en(hs:g.status=.running)(h:∀w,stepG P true g w=.go g' w #[mk .enable])(k:JL (Rm P ty Wg n Stop) .hear g' W):JL (Rm P ty Wg n Stop) .out g W:=fun w hw=>.en hs (fun w _=>h w) (k w hw)
theorem JT.heard(hs:g.status=.running)(h:∀w,WgLive ty Wg w->stepG P true g w=.go g' w #[mk (.acquire ⟨Wg,0,none⟩)])(k:Stop g'):JL (Rm P ty Wg n Stop) .hear g W:=fun w hw=>.heard hs h k
def Qd{Γ:Type}(S:O8 P true Γ)(γ:Γ)(Gd:World->Prop)(g:Goroutine):Prop:=∀W',Gd W'->JL S γ g W'
end
end
end Go.LK
namespace Go.LK
open Go Go.Conc Go.LT Go.LC Go.Conc.Lib Go.ConcR.Gen Go.RowKit
open Go.ConcN (WgLive sumTo upd sumTo_upd upd_ne upd_same)
open Go.ConcR (KK wgBlock WgAt stA smA rd wr mk)
section
section
variable {P:Program}{L:WgLink}{Γ:Type}{S:O8 P true Γ}{γ:Γ}{Gd:World->Prop}
variable {ρ:Rn}{W:World}{n:Nat}{b₀:Frame}{a₀:Act}{ops₀:Array Oper}{i₀:Nat}{rest₀:List Nat}{k₀:List Item}{cs:List Frame}
theorem xP{Γ:Type}{γ:Γ}{S:O8 P true Γ}{b:Frame}{a:Act}{it:Item}{k:List Item}(h:∀k',YP k k'->JL S γ (G (b.at a (it :: k')) cs) W):JL S γ (G (b.at a (it :: k)) cs) W:=h k .mk
theorem waitLoop(H:WgLib P L)(hT:∀W',Gd W'->JL S γ (G (b₀.at (a₀.put ((ops₀[i₀]?).bind (·.dst)) (.tuple #[])) (.inRegion ops₀ rest₀ :: k₀)) cs) W') :
   ∀v,∀T:Array Value,T.size=84->T[0]?=some (.pointer (some ⟨ρ.Wg,0,none⟩))->JL (Rm P ρ.ty ρ.Wg n (Qd S γ Gd)) (.loop v) (G ((base L.wait).at ⟨T,[]⟩ [.code (L7 L),.inLoop (L7 L),.inBlock 0]) (b₀.at a₀ (.inRegion ops₀ (i₀ :: rest₀) :: k₀) :: cs)) W:=by
 intro v;induction v using Nat.strongRecOn with
 | _ v ih=>
 intro T hT84 t0
 lib_facts
 obtain⟨v0,v1,v2,v3,v4,v5,v6,v7,v8,v9,Aa,Ab,Ac,Ae,Af,Ah,Ai,Aj,Ak,Al,Am,Ao,Ap,Ar,Au,Av,Aw,Ay,Az,AA,AB,AJ,AL,AO,AP,AQ,AU,AV,AX,AY,AZ,A8,A9,Ba,Bb,Bc,Bf,Bh,Bj,Bl,Bp,Bq,Br,Bu,Bv,Bw,Bz,BD,BF,BG,BH,BI,BJ,BK,BL,BM,BN,BO,BP,BQ,BR,BS,BU,BX,BZ,Ca,Cb,Cc,Ce,Cg,Ci,Cj,Ck,Cm,rfl⟩:=array84 T hT84;simp only[List.getElem?_toArray,List.getElem?_cons_zero,Option.some.injEq]at t0;subst t0;clear hT84;refine xP fun K hK=>?_;simp only[L7,body_wait,waitFn,Option.getD_some];refine EU stepG_block ?_;refine EO ?_;refine E9 fun _ hkk=>?_;iterate 3(refine ET ?_;walk_nrm)
 refine JL.call rfl rfl (by first|exact cK|exact eT|decide|assumption) rfl H.f_uLoad (nm_uLoad L) rfl ?_;walk_nrm;simp only[uLoadFn];walk_nrm;refine EO ?_;refine E9 fun _ hkk=>?_
 (refine ET ?_;walk_nrm)
 refine E5 ?_;cases hkk;refine EO ?_;refine E9 fun _ hkk=>?_;iterate 3(refine ET ?_;walk_nrm)
 apply JT.load rfl
 . intro w v' hv' hw;exact stepG_load_atomic (v:=(v':Int)*KK) rfl rfl (by k_ne) rfl H.f_loadU64 (x_loadU64_n L) (x_loadU64_b L) (x_loadU64_x L) .u64 (x_loadU64_f L) rfl (show w.cell? (stA ρ.Wg)=_ from hw.cellSt)
 ·
   have z:((0:Nat):Int)*KK=0:=by simp
   simp only[z];walk_nrm
   (refine ET ?_;walk_nrm)
   refine E5 ?_;cases hkk;refine EU stepG_ret' ?_;refine JL.leave1 rfl rfl H.f_uLoad rfl ?_;walk_nrm
   (refine ET ?_;walk_nrm)
   refine E5 ?_;cases hkk;refine EO ?_;refine E9 fun _ hkk=>?_;iterate 4(refine ET ?_;walk_nrm)
   refine E5 ?_;cases hkk;refine EO ?_;refine E9 fun _ hkk=>?_;iterate 4(refine ET ?_;walk_nrm)
   refine E5 ?_;cases hkk;refine EO ?_;refine EO ?_;refine E9 fun _ hkk=>?_;iterate 2(refine ET ?_;walk_nrm)
   refine E5 ?_;cases hkk;refine JL.F3 rfl ?_;refine EO ?_;refine JL.F3 rfl ?_;refine EO ?_;refine E9 fun _ hkk=>?_;refine JT.en rfl (fun w=>stepG_mark0 .enable (by simp) rfl rfl (by k_ne) rfl H.f_enable (x_enable_n L) (x_enable_b L) (x_enable_x L) (x_enable_f L)) ?_;walk_nrm;refine E5 ?_;cases hkk;refine E9 fun _ hkk=>?_
   (refine ET ?_;walk_nrm)
   refine JL.value (.pointer (some ⟨ρ.Wg,0,none⟩)) rfl rfl (by k_ne) (fun w hl=>by
     have hcv:=run_convert_to_unsafe (P:=P) H.underlying_tWgP H.underlying_tUP H.room_tWg (ConcN.Gen.WgLive.cell0 (show WgLive ρ.ty ρ.Wg w from hl)).choose_spec;go_simp) (fun w hl e he=>by
     have hce:=fun es=>events_convert_to_unsafe (P:=P) H.underlying_tWgP H.underlying_tUP H.room_tWg (ConcN.Gen.WgLive.cell0 (show WgLive ρ.ty ρ.Wg w from hl)).choose_spec es;simp[go_sem,hce]at he) ?_
   walk_nrm;refine JT.heard rfl (fun w _=>stepG_markAt .acquire (by simp) rfl rfl (by k_ne) rfl H.f_acquire (x_acquire_n L) (x_acquire_b L) (x_acquire_x L) (x_acquire_f L) (by simp[Act.eval])) fun W' hW'=>?_;walk_nrm;refine E5 ?_;cases hkk;refine EO ?_;refine EO ?_;refine E9 fun _ hkk=>?_;iterate 8(refine ET ?_;walk_nrm)
   refine EU (stepG_unwanted rfl rfl) ?_;walk_nrm;refine EU (stepG_unwanted rfl rfl) ?_;walk_nrm
   (refine ET ?_;walk_nrm)
   refine E5 ?_;cases hkk;refine JL.EX rfl ?_;refine EU stepG_skip ?_;refine EU stepG_ret' ?_;refine JL.leave0 rfl rfl H.f_wait rfl ?_;exact hT W' hW'
 . intro v' hle hne hv';obtain⟨S,hS⟩:∃S:Int,(v':Int)*KK=S:=⟨_,rfl⟩
   have a1:S / 4294967296=(v':Int):=by rw[← hS];simp only[KK];omega
   have b1:bits .and .u64 S 2147483648=0:=by rw[← hS];have:=ConcN.st_flag v' 0 zOM zOM;simpa [KK]using this
   have b2:bits .and .u64 S 2147483647=0:=by rw[← hS];have:=ConcN.st_waiters v' 0 zOM zOM;simpa [KK]using this
   have c1:IntKind.i32.wrap (v':Int)=(v':Int):=by rw[IntKind.wrap_i32];omega
   have w1:IntKind.u64.wrap (S+1)=S+1:=by rw[IntKind.wrap_u64,← hS];simp only[KK];omega
   have q3:decide ((v':Int)<0)=false:=decide_eq_false zOM;have q4:decide (0<(v':Int))=true:=decide_eq_true zOM;have q5:((v':Int)==0)=false:=by simp;omega
   have q6:decide ((v':Int)=0)=false:=decide_eq_false zOM;simp only[hS];walk_nrm
   (refine ET ?_;walk_nrm)
   refine E5 ?_;cases hkk;refine EU stepG_ret' ?_;refine JL.leave1 rfl rfl H.f_uLoad rfl ?_;walk_nrm
   (refine ET ?_;walk_nrm)
   refine E5 ?_;cases hkk;refine EO ?_;refine E9 fun _ hkk=>?_;iterate 4(refine ET ?_;walk_nrm)
   refine E5 ?_;cases hkk;refine EO ?_;refine E9 fun _ hkk=>?_;iterate 4(refine ET ?_;walk_nrm)
   refine E5 ?_;cases hkk;refine EO ?_;refine EO ?_;refine E9 fun _ hkk=>?_;iterate 2(refine ET ?_;walk_nrm)
   refine E5 ?_;cases hkk;refine JL.EX rfl ?_;refine EU stepG_skip ?_;refine EO ?_;refine E9 fun _ hkk=>?_;iterate 6(refine ET ?_;walk_nrm)
   refine JL.call rfl rfl (by first|exact cK|exact eT|decide|assumption) rfl H.f_uCas (nm_uCas L) rfl ?_;walk_nrm;simp only[uCasFn];walk_nrm;refine EO ?_;refine E9 fun _ hkk=>?_
   (refine ET ?_;walk_nrm)
   refine E5 ?_;cases hkk;refine EO ?_;refine E9 fun _ hkk=>?_;iterate 5(refine ET ?_;walk_nrm)
   apply JT.cas rfl hne
   . intro w hw;rw[hS]at hw ⊢;exact(stepG_cas_hit (v:=S) (n:=S+1) rfl rfl (by k_ne) rfl H.f_casU64 (x_casU64_n L) (x_casU64_b L) (x_casU64_x L) .u64 (x_casU64_f L) rfl rfl rfl (show w.cell? (stA ρ.Wg)=_ from hw.cellSt) (hw.thaw 0)).trans (by rfl)
   . intro w v'' hlt hw;exact stepG_cas_miss (v:=(v'':Int)*KK) (old:=S) (n:=S+1) rfl rfl (by k_ne) rfl H.f_casU64 (x_casU64_n L) (x_casU64_b L) (x_casU64_x L) .u64 (x_casU64_f L) rfl rfl rfl (show w.cell? (stA ρ.Wg)=_ from hw.cellSt) (hw.thaw 0) (by rw[← hS];simp only[KK];omega)
   . walk_nrm
     (refine ET ?_;walk_nrm)
     refine E5 ?_;cases hkk;refine EU stepG_ret' ?_;refine JL.leave1 rfl rfl H.f_uCas rfl ?_;walk_nrm;refine E5 ?_;cases hkk;refine JL.F3 rfl ?_;refine EO ?_;refine EO ?_;refine E9 fun _ hkk=>?_;iterate 4(refine ET ?_;walk_nrm)
     refine E5 ?_;cases hkk;refine JL.F3 rfl ?_;refine E9 fun _ hkk=>?_;iterate 3(refine ET ?_;walk_nrm)
     refine JL.value (.pointer (some ⟨ρ.Wg,1,none⟩)) rfl rfl (by k_ne) (fun w hl=>by
       have hcv:=run_convert_to_unsafe (P:=P) H.underlying_tPU32 H.underlying_tUP H.room_tU32 (ConcN.Gen.WgLive.cell1 (show WgLive ρ.ty ρ.Wg w from hl)).choose_spec;go_simp) (fun w hl e he=>by
       have hce:=fun es=>events_convert_to_unsafe (P:=P) H.underlying_tPU32 H.underlying_tUP H.room_tU32 (ConcN.Gen.WgLive.cell1 (show WgLive ρ.ty ρ.Wg w from hl)).choose_spec es;simp[go_sem,hce]at he) ?_
     walk_nrm;refine JT.said (Xz ρ.Wg 1) (by simp) rfl (fun w _=>stepG_markAt .write (by simp) rfl rfl (by k_ne) rfl H.f_raceWrite (x_raceWrite_n L) (x_raceWrite_b L) (x_raceWrite_x L) (x_raceWrite_f L) (ad:=⟨ρ.Wg,1,none⟩) (by simp[Act.eval])) ?_;walk_nrm;refine E5 ?_;cases hkk;refine EO ?_;refine E9 fun _ hkk=>?_
     (refine ET ?_;walk_nrm)
     refine E5 ?_;cases hkk;refine EO ?_;refine EO ?_;refine E9 fun _ hkk=>?_;iterate 4(refine ET ?_;walk_nrm)
     refine EU (stepG_unwanted rfl rfl) ?_;walk_nrm
     (refine ET ?_;walk_nrm)
     refine E5 ?_;cases hkk;refine JL.EX rfl ?_;refine EU stepG_skip ?_;refine EO ?_;refine E9 fun _ hkk=>?_;iterate 4(refine ET ?_;walk_nrm)
     apply JT.acq rfl rfl
     . rintro w ⟨st,hw⟩;exact stepG_semacquire_wait rfl rfl rfl H.f_semacquire (x_semacquire_n L) (x_semacquire_b L) (x_semacquire_x L) (x_semacquire_f L) (by simp[Act.eval,smA]) hw.cellSm
     . intro w hf;exact(stepG_semacquire (n:=1) rfl rfl (by k_ne) rfl H.f_semacquire (x_semacquire_n L) (x_semacquire_b L) (x_semacquire_x L) (x_semacquire_f L) (by simp[Act.eval,smA]) hf.cellSm (by k_ne) (hf.thaw 1)).trans (by rfl)
     walk_nrm;refine E5 ?_;cases hkk;refine EO ?_;refine E9 fun _ hkk=>?_;iterate 3(refine ET ?_;walk_nrm)
     refine JL.call rfl rfl (by first|exact cK|exact eT|decide|assumption) rfl H.f_uLoad (nm_uLoad L) rfl ?_;walk_nrm;simp only[uLoadFn];walk_nrm;refine EO ?_;refine E9 fun _ hkk=>?_
     (refine ET ?_;walk_nrm)
     refine E5 ?_;cases hkk;refine EO ?_;refine E9 fun _ hkk=>?_;iterate 3(refine ET ?_;walk_nrm)
     apply JT.last rfl
     . intro w hw;exact stepG_load_atomic (v:=0) rfl rfl (by k_ne) rfl H.f_loadU64 (x_loadU64_n L) (x_loadU64_b L) (x_loadU64_x L) .u64 (x_loadU64_f L) rfl (show w.cell? (stA ρ.Wg)=_ from hw.cellSt)
     walk_nrm
     (refine ET ?_;walk_nrm)
     refine E5 ?_;cases hkk;refine EU stepG_ret' ?_;refine JL.leave1 rfl rfl H.f_uLoad rfl ?_;walk_nrm;iterate 2(refine ET ?_;walk_nrm)
     refine E5 ?_;cases hkk;refine EO ?_;refine JL.F3 rfl ?_;refine EO ?_;refine E9 fun _ hkk=>?_;refine JT.en rfl (fun w=>stepG_mark0 .enable (by simp) rfl rfl (by k_ne) rfl H.f_enable (x_enable_n L) (x_enable_b L) (x_enable_x L) (x_enable_f L)) ?_;walk_nrm;refine E5 ?_;cases hkk;refine E9 fun _ hkk=>?_
     (refine ET ?_;walk_nrm)
     refine JL.value (.pointer (some ⟨ρ.Wg,0,none⟩)) rfl rfl (by k_ne) (fun w hl=>by
       have hcv:=run_convert_to_unsafe (P:=P) H.underlying_tWgP H.underlying_tUP H.room_tWg (ConcN.Gen.WgLive.cell0 (show WgLive ρ.ty ρ.Wg w from hl)).choose_spec;go_simp) (fun w hl e he=>by
       have hce:=fun es=>events_convert_to_unsafe (P:=P) H.underlying_tWgP H.underlying_tUP H.room_tWg (ConcN.Gen.WgLive.cell0 (show WgLive ρ.ty ρ.Wg w from hl)).choose_spec es;simp[go_sem,hce]at he) ?_
     walk_nrm;refine JT.heard rfl (fun w _=>stepG_markAt .acquire (by simp) rfl rfl (by k_ne) rfl H.f_acquire (x_acquire_n L) (x_acquire_b L) (x_acquire_x L) (x_acquire_f L) (by simp[Act.eval])) fun W' hW'=>?_;walk_nrm;refine E5 ?_;cases hkk;refine EO ?_;refine EO ?_;refine E9 fun _ hkk=>?_
     (refine ET ?_;walk_nrm)
     refine E5 ?_;cases hkk;refine JL.EX rfl ?_;refine EU stepG_skip ?_;refine EU stepG_ret' ?_;refine JL.leave0 rfl rfl H.f_wait rfl ?_;exact hT W' hW'
   . intro v'' hlt;walk_nrm
     (refine ET ?_;walk_nrm)
     refine E5 ?_;cases hkk;refine EU stepG_ret' ?_;refine JL.leave1 rfl rfl H.f_uCas rfl ?_;walk_nrm;refine E5 ?_;cases hkk;refine JL.EX rfl ?_;refine EU stepG_skip ?_;refine EU stepG_inBlock ?_;cases hK
     refine EU stepG_inLoop ?_;exact ih v'' zOM _ rfl rfl
end
end
end Go.LK
namespace Go.Proofs.Ytdkfdedgfilhbaa
open Go
abbrev link:Go.Conc.Lib.WgLink:={ add:=27,done:=29,wait:=32,relMerge:=42,disable:=43,enable:=44,inBubble:=45,associate:=46,fatal:=47,uOr:=48,uAdd:=49,raceRead:=50,uLoad:=51,uStore:=52,disassociate:=53,semrelease:=54,acquire:=62,isAssociated:=63,uCas:=64,raceWrite:=65,semacquire:=66,orU64:=70,addU64:=71,loadU64:=72,storeU64:=73,casU64:=78,tWgP:=105,tUP:=107,tAssoc:=108,tWg:=87,tAU:=84,tU64:=82,tUint:=112,tU32:=85,tPU32:=113,tPAU:=135,tPU64:=137,tNoCopy:=81,tANoCopy:=73,tAlign64:=74 }
theorem fP:Go.Conc.Lib.WgLib Try.prog link:=
 ⟨Try.func27,Try.func29,Try.func32,Try.func42,Try.func43,Try.func44,Try.func45,Try.func46,Try.func47,Try.func48,Try.func49,Try.func50,Try.func51,Try.func52,Try.func53,Try.func54,Try.func62,Try.func63,Try.func64,Try.func65,Try.func66,Try.func70,Try.func71,Try.func72,Try.func73,Try.func78,Try.underlying105,Try.runUnderlying105,Try.sizeOf105,Try.isAgg105,Try.zeroValue105,Try.underlying107,Try.runUnderlying107,Try.sizeOf107,Try.isAgg107,Try.zeroValue107,Try.underlying108,Try.runUnderlying108,Try.sizeOf108,Try.isAgg108,Try.zeroValue108,Try.underlying87,Try.runUnderlying87,Try.sizeOf87,Try.isAgg87,Try.zeroValue87,Try.underlying84,Try.runUnderlying84,Try.sizeOf84,Try.isAgg84,Try.zeroValue84,Try.underlying82,Try.runUnderlying82,Try.sizeOf82,Try.isAgg82,Try.zeroValue82,Try.underlying112,Try.runUnderlying112,Try.sizeOf112,Try.isAgg112,Try.zeroValue112,Try.underlying85,Try.runUnderlying85,Try.sizeOf85,Try.isAgg85,Try.zeroValue85,Try.underlying113,Try.runUnderlying113,Try.sizeOf113,Try.isAgg113,Try.zeroValue113,Try.underlying135,Try.runUnderlying135,Try.sizeOf135,Try.isAgg135,Try.zeroValue135,Try.underlying137,Try.runUnderlying137,Try.sizeOf137,Try.isAgg137,Try.zeroValue137,Try.underlying0,Try.runUnderlying0,Try.sizeOf0,Try.isAgg0,Try.zeroValue0,Try.underlying3,Try.runUnderlying3,Try.sizeOf3,Try.isAgg3,Try.zeroValue3,Try.underlying4,Try.runUnderlying4,Try.sizeOf4,Try.isAgg4,Try.zeroValue4,Try.underlying9,Try.runUnderlying9,Try.sizeOf9,Try.isAgg9,Try.zeroValue9,Try.underlying20,Try.runUnderlying20,Try.sizeOf20,Try.isAgg20,Try.zeroValue20,Try.underlying21,Try.runUnderlying21,Try.sizeOf21,Try.isAgg21,Try.zeroValue21,zKR,zKR⟩
end Go.Proofs.Ytdkfdedgfilhbaa
namespace Go.LK
open Go Go.Conc Go.LT Go.LC Go.Conc.Lib Go.ConcR.Gen Go.RowKit
open Go.ConcN (WgLive sumTo upd sumTo_upd upd_ne upd_same)
open Go.ConcR (KK wgBlock WgAt stA smA rd wr mk)
section
section
variable {X Sg:Type}
variable {P:Program}{L:WgLink}{Fin:Gb}{EH:FM P Fin}
variable {M:Md X Sg}{ρ:Rn}{ws:List (FE X)}{W:World}{ex n:Nat}{b:Frame}{a:Act}{ops:Array Oper}{i:Nat}{rest:List Nat}{k:List Item}{cs:List Frame}{o:Oper}
def W0(L:WgLink):Code:=match body_wait L with | .seq c _=>c | _=>.skip
theorem aD(L:WgLink):body_wait L=.seq (W0 L) (.block 0 (.loop (L7 L))):=rfl
theorem yI(H:WgLib P L){Γ:Type}{S:O8 P true Γ}{γ:Γ}{Gd:World->Prop}(hT:∀W',Gd W'->JL S γ (G (b.at (a.put ((ops[i]?).bind (·.dst)) (.tuple #[])) (.inRegion ops rest :: k)) cs) W') :
  JL (Rm P ρ.ty ρ.Wg n (Qd S γ Gd)) .pre (G ((base L.wait).at ⟨#[.pointer (some ⟨ρ.Wg,0,none⟩)]++Array.replicate 83 undef,[]⟩ [.code (body_wait L)]) (b.at a (.inRegion ops (i :: rest) :: k) :: cs)) W:=by
 lib_facts
 rw[aD];walk_nrm;refine EO ?_;simp only[W0,body_wait,waitFn,Option.getD_some];refine JL.F3 rfl ?_;refine E9 fun _ hkk=>?_;refine JT.aU rfl (fun w=>stepG_mark0 .disable (by simp) rfl rfl (by k_ne) rfl H.f_disable (x_disable_n L) (x_disable_b L) (x_disable_x L) (x_disable_f L)) ?_;walk_nrm;refine E5 ?_;cases hkk;refine EU stepG_block ?_;refine EU stepG_loop ?_;exact waitLoop H hT n _ rfl rfl
theorem J0.kE(H:WgLib P L)(hty:ρ.ty=L.tWg)(hcap:n+ex+1<2147483648){x y:Operand}{ats:Array TypeId}(ho:ops[i]?=some o)(hw:Region.wanted o (yielded ops a.tmps)=true)(hk:b.kind≠.early)(hop:o.op=.call { callee:=.value (.func L.add),args:=#[x,y],argTypes:=ats })(hx:a.eval x=.pointer (some ⟨ρ.Wg,0,none⟩))(hy:a.eval y=.int .i64 1)(hT:JL (jA (X:=X) (Sg:=Sg) P Fin EH) (.Fg M ρ ws (ex+1) false n) (G (b.at (a.put ((ops[i]?).bind (·.dst)) (.tuple #[])) (.inRegion ops rest :: k)) cs) W) :
  JL (jA (X:=X) (Sg:=Sg) P Fin EH) (.Fg M ρ ws ex false n) (G (b.at a (.inRegion ops (i :: rest) :: k)) cs) W:=by
 refine JL.call (c:=body_add L) ho hw hk hop H.f_add (nm_add L) rfl ?_;have hn:(addFn L).ntmps=117:=rfl;rw[hn];simp only[List.map_toArray,List.map_cons,List.map_nil,hx,hy,List.size_toArray,List.length_cons,List.length_nil,Nat.reduceAdd,Nat.reduceSub];exact add1 H hty hcap hT
theorem JT.iW(H:WgLib P L){Γ:Type}{S:O8 P true Γ}{γ:Γ}{Gd:World->Prop}{x:Operand}{ats:Array TypeId}(ho:ops[i]?=some o)(hw:Region.wanted o (yielded ops a.tmps)=true)(hk:b.kind≠.early)(hop:o.op=.call { callee:=.value (.func L.wait),args:=#[x],argTypes:=ats })(hx:a.eval x=.pointer (some ⟨ρ.Wg,0,none⟩))(hT:∀W',Gd W'->JL S γ (G (b.at (a.put ((ops[i]?).bind (·.dst)) (.tuple #[])) (.inRegion ops rest :: k)) cs) W') :
  JL (Rm P ρ.ty ρ.Wg n (Qd S γ Gd)) .pre (G (b.at a (.inRegion ops (i :: rest) :: k)) cs) W:=by
 refine JL.call (c:=body_wait L) ho hw hk hop H.f_wait (nm_wait L) rfl ?_;have hn:(waitFn L).ntmps=84:=rfl;rw[hn];simp only[List.map_toArray,List.map_cons,List.map_nil,hx,List.size_toArray,List.length_cons,List.length_nil,Nat.reduceAdd,Nat.reduceSub];exact yI H hT
end
end
end Go.LK
namespace Go.Proofs.Ytdkfdedgfilhbaa
open Go Go.Conc Go.LT Go.LC Go.LK Go.RowKit
open Go.ConcN (WgLive)
section
def SX:Code:=match Try.f16.body with | some (.seq _ (.seq _ c))=>c | _=>.skip
def rn0:Code:=match Try.f16.body with | some (.seq c _)=>c | _=>.skip
def rn1:Code:=match Try.f16.body with | some (.seq _ (.seq c _))=>c | _=>.skip
def rn4:Code:=match SX with | .seq c _=>c | _=>.skip
def rn5:Code:=match SX with | .seq _ (.seq c _)=>c | _=>.skip
def yB:Code:=match SX with | .seq _ (.seq _ (.seq c _))=>c | _=>.skip
def rn7:Code:=match SX with | .seq _ (.seq _ (.seq _ (.seq (.seq c _) _)))=>c | _=>.skip
def Sm:Code:=match SX with | .seq _ (.seq _ (.seq _ (.seq (.seq _ (.block _ (.loop c))) _)))=>c | _=>.skip
def Pv:Code:=match SX with | .seq _ (.seq _ (.seq _ (.seq _ c)))=>c | _=>.skip
theorem YQ:Try.f16.body=some (.seq rn0 (.seq rn1 (.seq rn4 (.seq rn5 (.seq yB (.seq (.seq rn7 (.block 0 (.loop Sm))) Pv)))))):=rfl
def rn8:Code:=match Sm with | .seq c _=>c | _=>.skip
def rn9:Code:=match Sm with | .seq _ (.seq _ (.seq (.block _ (.seq c _)) _))=>c | _=>.skip
def kF:Code:=match Sm with | .seq _ (.seq _ (.seq (.block _ (.seq _ (.seq c _))) _))=>c | _=>.skip
def oq:Code:=match Sm with | .seq _ (.seq _ (.seq (.block _ (.seq _ (.seq _ (.seq c _)))) _))=>c | _=>.skip
def mW:Code:=match Sm with | .seq _ (.seq _ (.seq (.block _ (.seq _ (.seq _ (.seq _ (.seq c _))))) _))=>c | _=>.skip
def cB:Code:=match Sm with | .seq _ (.seq _ (.seq (.block _ (.seq _ (.seq _ (.seq _ (.seq _ (.seq c _)))))) _))=>c | _=>.skip
def Yb:Code:=match Sm with | .seq _ (.seq _ (.seq (.block _ (.seq _ (.seq _ (.seq _ (.seq _ (.seq _ c)))))) _))=>c | _=>.skip
def vW:Code:=match Sm with | .seq _ (.seq _ (.seq _ c))=>c | _=>.skip
theorem WV:Sm=.seq rn8 (.seq (.cond (.tmp 27) .skip (.exit 0)) (.seq (.block 1 (.seq rn9 (.seq kF (.seq oq (.seq mW (.seq cB Yb)))))) vW)):=rfl
def ku:Array Oper:=match cB with | .region _ ops _=>ops | _=>#[]
def kX:Array Oper:=match Yb with | .region _ ops _=>ops | _=>#[]
theorem mR:∃id,cB=.region id ku false:=⟨_,rfl⟩
theorem kL:∃id,Yb=.region id kX false:=⟨_,rfl⟩
def Ra(Wg bw bd bc:Nat):Deferred:={ target:=.fn (.func 28) #[.pointer (some ⟨Wg,0,none⟩),.pointer (some ⟨bw,0,none⟩),.pointer (some ⟨bd,0,none⟩),.pointer (some ⟨bc,0,none⟩)],args:=#[] }
def Sr(bp bd br co go Wg:Nat)(lv Gi Ia wv u25 u26:Value)(tm:Array Value):Prop:=∃v0 v1 v5 v6 Ab Af Ah Ai Aj Ak Al Am Ao Ap Ar Ay Az AA AB AJ AL AO AP AQ AU AV AX AY AZ A8 A9 Ba Bb Bc Bf Bh Bj Bl Bp Bq Br,tm=#[v0,v1,.pointer (some ⟨bp,0,none⟩),.pointer (some ⟨bd,0,none⟩),.pointer (some ⟨br,0,none⟩),v5,v6,.chan (some co),.chan (some go),.pointer (some ⟨Wg,0,none⟩),lv,Ab,Gi,Ia,Af,Ah,Ai,Aj,Ak,Al,Am,Ao,Ap,Ar,wv,u25,u26,Ay,Az,AA,AB,AJ,AL,AO,AP,AQ,AU,AV,AX,AY,AZ,A8,A9,Ba,Bb,Bc,Bf,Bh,Bj,Bl,Bp,Bq,Br]
section
variable {X Sg:Type}
variable {Fin:Gb}{EH:FM Try.prog Fin}
variable {M:Md X Sg}{ρ:Rn}{ws:List (FE X)}{W:World}{n bp bd br:Nat}{lv Gi Ia wv u25 u26:Value}{ds:List Deferred}{K:List Item}{cs:List Frame}
theorem wE(hcl:¬ ρ.UM)(hzi:ρ.zi=.int .i64 0){v:FE X}{r:Nat}{tgt:X × Sg × Bool}{bw bc:Nat}{tm:Array Value}(hs:Sr bp bd br ρ.come ρ.gone ρ.Wg lv (.pointer (some ⟨bc,0,none⟩)) (.pointer (some ⟨bw,0,none⟩)) wv u25 u26 tm)(jm:v.h=n)(hvk:v.k=ws.length)(hov:v.over=false)(hown:∀b,v.own b->¬ M.Sh b/\b≠ρ.Wg/\ρ.Bo b=false/\(∃c e f,W.heap[b]?=some (.cells c e f))/\∀(j:Nat) (u:FE X),ws[j]?=some u->¬ u.own b)(hin:v.own v.b/\v.own v.pb)(hch:v.t≠ρ.come/\v.t≠ρ.gone/\(∃k,W.heap[v.t]?=some (.chan 0 #[] false k k false))/\∀(j:Nat) (u:FE X),ws[j]?=some u->u.t≠v.t)(hlow:Fin.b0<=v.t)(hJ:∀w,Io (FR ρ ws) w W->∀B,dX M ρ v B w.heap.size->LT.Rows B w->WJ M ρ Try.prog r ⟨v,B,w.heap.size,tgt⟩ (born Try.prog (Ra ρ.Wg bw bd bc)) w)(hK:∀v' W' tm',Sr bp bd br ρ.come ρ.gone ρ.Wg lv (.pointer (some ⟨bc,0,none⟩)) (.pointer (some ⟨bw,0,none⟩)) wv u25 u26 tm'->jd M ρ ws v tgt r W v' W'->JL (S0 Try.prog Fin EH).L (.Fg M ρ (ws++[v']) 0 false (n+1)) (G ((base 16).at ⟨tm',ds⟩ K) cs) W') :
   JL (S0 Try.prog Fin EH).L (.Fg M ρ ws 1 false n) (G ((base 16).at ⟨tm,ds⟩ (.code (.seq cB Yb) :: K)) cs) W:=by
 obtain⟨v0,v1,v5,v6,Ab,Af,Ah,Ai,Aj,Ak,Al,Am,Ao,Ap,Ar,Ay,Az,AA,AB,AJ,AL,AO,AP,AQ,AU,AV,AX,AY,AZ,A8,A9,Ba,Bb,Bc,Bf,Bh,Bj,Bl,Bp,Bq,Br,rfl⟩:=hs;refine EO ?_;obtain⟨id1,e1⟩:=mR;obtain⟨id2,e2⟩:=kL;rw[e1];refine JL.region (l:=[0,1]) rfl fun _ hkk=>?_;cases hkk;have s42:(ku[0]?)=some ⟨some 42,.makeFunc (.func 28) #[] #[.tmp 9,.tmp 13,.tmp 3,.tmp 12],_,_,_,_⟩:=rfl;refine JL.Jc (.func (.func 28) #[] #[.pointer (some ⟨ρ.Wg,0,none⟩),.pointer (some ⟨bw,0,none⟩),.pointer (some ⟨bd,0,none⟩),.pointer (some ⟨bc,0,none⟩)]) s42 rfl nE (fun _=>by kernel_rfl) ?_;dsimp only;walk_nrm;have sgo:(ku[1]?)=some ⟨none,.go { callee:=.value (.tmp 42),args:=#[],argTypes:=_ },_,_,_,_⟩:=rfl
 obtain⟨nq,hS⟩:=Qu (P:=Try.prog) (main:=true) (K:=fun _=>True) (Still:=fun _=>False) (Bd:=0) (st:=Seat.one ρ.come ρ.zi false (·=G ((base 16).at ⟨#[v0,v1,.pointer (some ⟨bp,0,none⟩),.pointer (some ⟨bd,0,none⟩),.pointer (some ⟨br,0,none⟩),v5,v6,.chan (some ρ.come),.chan (some ρ.gone),.pointer (some ⟨ρ.Wg,0,none⟩),lv,Ab,.pointer (some ⟨bc,0,none⟩),.pointer (some ⟨bw,0,none⟩),Af,Ah,Ai,Aj,Ak,Al,Am,Ao,Ap,Ar,wv,u25,u26,Ay,Az,AA,AB,AJ,AL,AO,AP,AQ,AU,AV,AX,AY,AZ,A8,.func (.func 28) #[] #[.pointer (some ⟨ρ.Wg,0,none⟩),.pointer (some ⟨bw,0,none⟩),.pointer (some ⟨bd,0,none⟩),.pointer (some ⟨bc,0,none⟩)],.chan (some ρ.come),Bb,Bc,Bf,Bh,Bj,Bl,Bp,Bq,Br],ds⟩ (.inRegion kX [1] :: K)) cs)) (g:=G ((base 16).at ⟨#[v0,v1,.pointer (some ⟨bp,0,none⟩),.pointer (some ⟨bd,0,none⟩),.pointer (some ⟨br,0,none⟩),v5,v6,.chan (some ρ.come),.chan (some ρ.gone),.pointer (some ⟨ρ.Wg,0,none⟩),lv,Ab,.pointer (some ⟨bc,0,none⟩),.pointer (some ⟨bw,0,none⟩),Af,Ah,Ai,Aj,Ak,Al,Am,Ao,Ap,Ar,wv,u25,u26,Ay,Az,AA,AB,AJ,AL,AO,AP,AQ,AU,AV,AX,AY,AZ,A8,.func (.func 28) #[] #[.pointer (some ⟨ρ.Wg,0,none⟩),.pointer (some ⟨bw,0,none⟩),.pointer (some ⟨bd,0,none⟩),.pointer (some ⟨bc,0,none⟩)],Ba,Bb,Bc,Bf,Bh,Bj,Bl,Bp,Bq,Br],ds⟩ (.inRegion ku [] :: .code Yb :: K)) cs) fun EG=>by
   refine EU stepG_region_end ?_;rw[e2];refine JL.region (l:=[0,1]) rfl fun _ hk2=>?_;cases hk2
   simp only[kX,Yb,Sm,SX,Try.f16]
   (refine ET ?_;walk_nrm)
   refine JQ.sit rfl rfl nE (fun w=>?_) (fun w=>?_) rfl
   . go_simp
     simp[Seat.one,rcase,hzi]
   . simp[go_sem]
 refine J0.hire (EH:=EH) (ex:=0) hcl rfl (fun w=>?_) hS jm hvk hov hown hin hch hJ hlow fun v' W' hG=>?_
 . rw[stepG_spawn (d:=Ra ρ.Wg bw bd bc) (w':=w) sgo rfl nE (by unfold execOp;go_simp;rfl) rfl,listed_none (by simp[go_sem])]
   rfl
 . rw[Hr];have s44:(kX[1]?).bind (·.dst)=some 44:=by kernel_rfl
   rw[s44];walk_nrm;show JL (S0 Try.prog Fin EH).L _ _ _;refine EU stepG_region_end ?_;exact hK v' W' _ ⟨_,_,_,_,_,_,_,_,_,_,_,_,_,_,_,_,_,_,_,_,_,_,_,_,_,_,_,_,_,_,.func (.func 28) #[] #[.pointer (some ⟨ρ.Wg,0,none⟩),.pointer (some ⟨bw,0,none⟩),.pointer (some ⟨bd,0,none⟩),.pointer (some ⟨bc,0,none⟩)],.chan (some ρ.come),_,_,_,_,_,_,_,_,_,rfl⟩ hG
end
end
end Go.Proofs.Ytdkfdedgfilhbaa
namespace Go.LT
open Go Go.Conc
section
variable {P:Program}{main:Bool}{Γ:Type}{S:O8 P main Γ}{γ:Γ}{W:World}
theorem JL.defers{f g : FuncId}{fn : Func}{b : Code}(hg : P.funcs[g]? = some fn)(hn : (fn.name == "runtime.NumGoroutine") = false)(hb : fn.body = some b){tm : Array Value}{Y : List Item}{args captured : Array Value}{ds : List Deferred}{mode : FrameMode}(hm : mode ≠ .run){κ : CallKind}{cs : List Frame}(h:JL S γ (G (Frame.enter P g (args++captured) .deferred) (GH f tm Y ds mode κ :: cs)) W):JL S γ (G (GH f tm Y ({ target:=.fn (.func g) captured,args } :: ds) mode κ) cs) W:=
 .ctl rfl (fun w=>by
  have hc:(invoke (.fn (.func g) captured) args).runT P w #[]=(.ok (.enter g (args++captured)) w,#[]):=Kr hg hn hb _ _ _;cases mode with
  | run=>exact absurd rfl hm
  | _=>simp[G,GH,stepG,unwind,callDeferred,hc,GStep.after,seen,-Sem.runT_eq]) h
theorem JL.Ya{f:FuncId}{fn:Func}{tm:Array Value}{Y:List Item}{c:Frame}{cs:List Frame}(hf:P.funcs[f]?=some fn)(hr:fn.results=#[])(h:JL S γ (G (behind c) cs) W):JL S γ (G (GH f tm Y [] .returning .deferred) (c :: cs)) W:=
 .ctl rfl (fun w=>by
  have h1:(results fn tm).runT P w #[]=(.ok (.tuple #[]) w,#[]):=by rw[Sem.runT_eq,results_none hr,events_results_none hr]
  simp only[G,GH,stepG,unwind,hf,h1];rfl) h
end
end Go.LT
namespace Go.LK
open Go Go.Conc Go.LT
theorem XR{P:Program}{κ:CallKind}(W:World):JL (WL P 0) () (G (GH P.funcs.size #[] [] [] (.panicking [goexitEntry]) κ) []) W:=by
 refine JL.ctl (g':={ frame:=GH P.funcs.size #[] [] [] (.panicking [goexitEntry]) κ,callers:=[],status:=.finished,dying:=none }) rfl (fun w=>?_) fun w _=>⟨0,rfl,rfl⟩
 simp[G,GH,stepG,unwind,Frame.catches,goexitEntry]
end Go.LK
namespace Go.Proofs.Ytdkfdedgfilhbaa
open Go Go.Conc Go.LT Go.LC Go.LK Go.RowKit
open Go.Conc.Lib Go.ConcR.Gen
open Go.ConcN (WgLive)
def ru0:Code:=match Try.f28.body with | some (.seq c _)=>c | _=>.skip
def ru1:Code:=match Try.f28.body with | some (.seq _ c)=>c | _=>.skip
theorem kJ:Try.f28.body=some (.seq ru0 ru1):=rfl
section
variable {Cs Sg:Type}{D:Dr EP Cs Sg}{m:Mem Sg}{ρ:Rn}{b k:Nat}{W:World}{σ:Sg}
variable {dv cv:Value}
theorem VG.alike{x:Wx (Wk EP Cs) Sg ρ}{own:Nat->Prop}{z:Wk EP Cs}(h:VG D m b k x own z σ W){W':World}(hh:W'.heap=W.heap):VG D m b k x own z σ W':=
  { h with row:=by have:=h.row;unfold F9 at this ⊢;rw [hh];exact this
           inv:=m.eq σ W W' (fun g _=>.of (by rw[hh])) h.inv
           size:=by rw[hh];exact h.size
           o3:=fun g hg=>by rw[hh];exact h.o3 g hg }
theorem ZR{x:Wx (Wk EP Cs) Sg ρ}{own:Nat->Prop}{z:Wk EP Cs}{Qb:FuncId}{recv:Value}(hD:P9 (KO D m ρ b k) dv Qb recv)(hdv:∃t v,dv=.iface t v)(h:VG D m b k x own z σ W)(hcur:z.cur=none)(hbg:z.bg=0)(MC:x.1.1.tgt=({ z with over:=z.todo.isEmpty },σ,z.todo.isEmpty))(hcs:∀σ W,m.Inv σ W->Lg W cv z.todo)(hty:ρ.ty=link.tWg){bw bd bc:Nat}(h1:W.cell? ⟨bw,0,none⟩=some (.pointer (some ⟨b,0,none⟩)))(h2:W.cell? ⟨bd,0,none⟩=some dv)(h3:W.cell? ⟨bc,0,none⟩=some cv) :
  JW (SW (Fe D m) ρ Try.prog).base x (born Try.prog (Ra ρ.Wg bw bd bc)) W:=by
 obtain⟨p,cap,hcv,hcl,_⟩:=hcs σ W h.inv;obtain⟨dt,dw,rfl⟩:=hdv;show JW (SW (Fe D m) ρ Try.prog).base x (G (GH Try.prog.funcs.size #[] [] [Ra ρ.Wg bw bd bc] (.panicking [goexitEntry]) (default:Frame).kind) []) W;refine JW.defers (S:=(SW (Fe D m) ρ Try.prog).base) Try.func28 zKR rfl (by simp) ?_;rw[enter_atD _ Try.func28 kJ];have ht:#[]++#[.pointer (some ⟨ρ.Wg,0,none⟩),.pointer (some ⟨bw,0,none⟩),.pointer (some ⟨bd,0,none⟩),.pointer (some ⟨bc,0,none⟩)]++Array.replicate (Try.f28.ntmps-(#[]++#[.pointer (some ⟨ρ.Wg,0,none⟩),.pointer (some ⟨bw,0,none⟩),.pointer (some ⟨bd,0,none⟩),.pointer (some ⟨bc,0,none⟩)]:Array Value).size) undef=#[.pointer (some ⟨ρ.Wg,0,none⟩),.pointer (some ⟨bw,0,none⟩),.pointer (some ⟨bd,0,none⟩),.pointer (some ⟨bc,0,none⟩),undef,undef,undef,undef]:=by
  have:Try.f28.ntmps=8:=by kernel_rfl
  rw[this];walk_nrm
 rw[ht];show JL (SW (Fe D m) ρ Try.prog).L x _ W;generalize hroot:(GH Try.prog.funcs.size #[] [] [] (.panicking [goexitEntry]) (default:Frame).kind:Frame)=root;refine EO ?_;simp only[ru0,Try.f28];refine E9 fun _ hkk=>?_;refine JL.Xq rfl rfl nE rfl rfl ?_;walk_nrm;refine E5 ?_;cases hkk;simp only[ru1,Try.f28];refine E9 fun _ hkk=>?_;have HH:=Lib.hid (zAI hD (zAI h (zAI MC (zAI hcs hty))));clear hD h MC hcs;refine Fp.Kk (S:=SW (Fe D m) ρ Try.prog) (b:=baseD 28) 0 3 [] (by simp) zKR nE (rest:=[3]) rfl zKR fun EG ha=>?_;have hcell:∀a,EG.cell? a=W.cell? a:=fun a=>by obtain⟨τ,d,rfl⟩:=ha;rfl
 rw[← hcell]at h1 h2 h3;subst hcv;clear hcell;dsimp only[List.drop,List.take];gi_wp2;refine⟨rfl,?_⟩;obtain⟨hD,h,MC,hcs,hty⟩:=HH.out;clear HH;show JL (SW (Fe D m) ρ Try.prog).L x _ EG;try dsimp only
 refine JL.enter rfl rfl nE rfl Try.func30 zKR zKR ?_;walk_nrm;cases hkk;have hA1:VG D m b k x own z σ EG:=h.alike (FP ha);refine bq hD ⟨dt,dw,rfl⟩ hA1 hcur hbg MC hcs fun W'=>?_;rw[Frame.finish_at];walk_nrm;refine EU stepG_region_end ?_;refine EU stepG_end ?_;refine JL.defers Try.func29 zKR rfl (by simp) ?_;rw[enter_atD _ Try.func29 rfl];rw[hty];have ht2:#[.pointer (some ⟨ρ.Wg,0,none⟩)]++#[]++Array.replicate (Try.f29.ntmps-(#[.pointer (some ⟨ρ.Wg,0,none⟩)]++#[]:Array Value).size) undef=#[.pointer (some ⟨ρ.Wg,0,none⟩),undef,undef,undef]:=by
  have:Try.f29.ntmps=4:=by kernel_rfl
  rw[this];walk_nrm
 rw[ht2];subst hroot;refine yH (L:=link) fP rfl (fun W=>?_) W';exact JL.Ya Try.func28 rfl (XR W)
end
end Go.Proofs.Ytdkfdedgfilhbaa
namespace Go.Proofs.Ytdkfdedgfilhbaa
open Go Go.Conc Go.LT Go.LC Go.LK Go.RowKit
open Go.ConcN (WgLive)
section
section
variable {X Sg:Type}
variable {Fin:Gb}{EH:FM Try.prog Fin}
variable {M:Md X Sg}{ρ:Rn}{ws:List (FE X)}{W:World}{n bp bd br:Nat}{lv Gi Ia wv u25 u26:Value}{ds:List Deferred}{K:List Item}{cs:List Frame}
theorem Vo:(Try.prog.info? 3).map (fun i=>(i.zero,i.size,i.bytes))=some (some (.int .i64 0),1,8):=by kernel_rfl
theorem Ab0{i pg po pn Ga:Nat}{ca:Option Addr}{cn cc:Nat}{tm:Array Value}(hs:Sr bp bd br ρ.come ρ.gone ρ.Wg lv Gi Ia (.slice (some ⟨pg,po,none⟩) pn Ga) u25 (.int .i64 i) tm)(hi:i<pn)(hpn:pn<=1000000)(hc:W.cell? ⟨pg,po+i,none⟩=some (.slice ca cn cc))(hK:∀W' tm',Sr bp bd br ρ.come ρ.gone ρ.Wg lv (.pointer (some ⟨W.heap.size,0,none⟩)) Ia (.slice (some ⟨pg,po,none⟩) pn Ga) u25 (.int .i64 i) tm'->tm'[11]?=some (.int .i64 i)->W'.heap=W.heap.push (.cells #[.slice ca cn cc] 52 (0,0))->JL (S0 Try.prog Fin EH).L (.Fg M ρ ws 0 false n) (G ((base 16).at ⟨tm',ds⟩ K) cs) W') :
   JL (S0 Try.prog Fin EH).L (.Fg M ρ ws 0 false n) (G ((base 16).at ⟨tm,ds⟩ (.code rn9 :: K)) cs) W:=by
 obtain⟨v0,v1,v5,v6,Ab,Af,Ah,Ai,Aj,Ak,Al,Am,Ao,Ap,Ar,Ay,Az,AA,AB,AJ,AL,AO,AP,AQ,AU,AV,AX,AY,AZ,A8,A9,Ba,Bb,Bc,Bf,Bh,Bj,Bl,Bp,Bq,Br,rfl⟩:=hs;refine Fp.Fz (S:=S0 Try.prog Fin EH) (b:=base 16) [] (by simp) zKR nE zKR fun EG ha=>?_;have hh:EG.heap=W.heap:=by obtain⟨τ,d,rfl⟩:=ha;rfl
 have hc1:EG.cell? ⟨pg,po+i,none⟩=some (.slice ca cn cc):=by simp only[World.cell?,hh]at hc ⊢;exact hc
 have HH:=Lib.hid (zAI hK hh);clear hK hc hh;dsimp only;simp only[rn9,Sm,SX,Try.f16];gi_wp2;obtain⟨hK,hh⟩:=HH.out;clear HH;refine hK _ _ ?_ ?_ ?_
 . rw[← hh];exact⟨_,_,_,_,_,_,_,_,_,_,_,_,_,_,_,_,_,_,_,_,_,_,_,_,_,_,_,_,_,_,_,_,_,_,_,_,_,_,_,_,_,rfl⟩
 . rfl
 . rw[← hh];rfl
theorem OZ(w:World):(Instr.makeChan 79 (.int .i64 0)).run Try.prog w=.ok (.chan (some w.heap.size)) (w.alloc (.chan 0 #[] false 0 0 false)):=by obtain⟨i,hi,h0,h1,h2⟩:=info_parts Vo;exact run_makeChan (P:=Try.prog) (t:=79) (e:=3) (dir:=.both) (i:=i) (w:=w) zKR hi .i64 0 (by decide) (by simp)
theorem qQ{i:Nat}{tm:Array Value}(hs:Sr bp bd br ρ.come ρ.gone ρ.Wg lv Gi Ia wv u25 u26 tm)(h11:tm[11]?=some (.int .i64 i))(hK:∀W' tm',Sr bp bd br ρ.come ρ.gone ρ.Wg lv Gi (.pointer (some ⟨W.heap.size+2,0,none⟩)) wv u25 u26 tm'->W'.heap=((W.heap.push (.chan 0 #[] false 0 0 false)).push (.cells #[.int .i64 i,.bool true,.chan (some W.heap.size),.chan (some ρ.come),.chan (some ρ.gone),.bool false,.int .i64 0,.int .i64 0,.int .i64 0,.slice none 0 0,.bool false,.bool false] 92 (0,0))).push (.cells #[.pointer (some ⟨W.heap.size+1,0,none⟩)] 63 (0,0))->JL (S0 Try.prog Fin EH).L (.Fg M ρ ws 0 false n) (G ((base 16).at ⟨tm',ds⟩ K) cs) W') :
   JL (S0 Try.prog Fin EH).L (.Fg M ρ ws 0 false n) (G ((base 16).at ⟨tm,ds⟩ (.code kF :: K)) cs) W:=by
 obtain⟨v0,v1,v5,v6,Ab,Af,Ah,Ai,Aj,Ak,Al,Am,Ao,Ap,Ar,Ay,Az,AA,AB,AJ,AL,AO,AP,AQ,AU,AV,AX,AY,AZ,A8,A9,Ba,Bb,Bc,Bf,Bh,Bj,Bl,Bp,Bq,Br,rfl⟩:=hs;have Ahg:some Ab=some (.int .i64 (i:Int)):=h11;cases Ahg
 clear h11;have hmk:∀w:World,(Instr.makeChan 79 (.int .i64 0)).run Try.prog w=.ok (.chan (some w.heap.size)) (w.alloc (.chan 0 #[] false 0 0 false)):=OZ;refine Fp.Fz (S:=S0 Try.prog Fin EH) (b:=base 16) [] (by simp) zKR nE zKR fun EG ha=>?_;have hh:EG.heap=W.heap:=by obtain⟨τ,d,rfl⟩:=ha;rfl
 have HH:=Lib.hid (zAI hK hh);clear hK hh;dsimp only;simp only[kF,Sm,SX,Try.f16];gi_wp2;obtain⟨hK,hh⟩:=HH.out;clear HH;refine hK _ _ ?_ ?_
 . rw[← hh];exact⟨_,_,_,_,_,_,_,_,_,_,_,_,_,_,_,_,_,_,_,_,_,_,_,_,_,_,_,_,_,_,_,_,_,_,_,_,_,_,_,_,_,rfl⟩
 . rw[← hh];rfl
theorem kQ:(Try.prog.info? 63).map (fun i=>(i.zero,i.size,i.bytes))=some (some (.pointer none),1,8):=by kernel_rfl
theorem sK{bw b k:Nat}{xs:List Value}{tm:Array Value}(hs:Sr bp bd br ρ.come ρ.gone ρ.Wg lv Gi (.pointer (some ⟨bw,0,none⟩)) wv u25 u26 tm)(hb:W.cell? ⟨bw,0,none⟩=some (.pointer (some ⟨b,0,none⟩)))(hown:BA.FY W 0 1 lv k xs)(hk:k<=1000000)(hK:∀J2 W' tm',Sr bp bd br ρ.come ρ.gone ρ.Wg J2 Gi (.pointer (some ⟨bw,0,none⟩)) wv u25 u26 tm'->BA.FY W' 0 1 J2 (k+1) (xs++[.pointer (some ⟨b,0,none⟩)])->(∀g,g<W.heap.size->lv.ownBlock≠some g->W'.heap[g]?=W.heap[g]?)->(J2.ownBlock=lv.ownBlock\/((∀g,J2.ownBlock=some g->W.heap.size<=g)/\∀g,g<W.heap.size->W'.heap[g]?=W.heap[g]?))->W.heap.size<=W'.heap.size->JL (S0 Try.prog Fin EH).L (.Fg M ρ ws 0 false n) (G ((base 16).at ⟨tm',ds⟩ K) cs) W') :
   JL (S0 Try.prog Fin EH).L (.Fg M ρ ws 0 false n) (G ((base 16).at ⟨tm,ds⟩ (.code oq :: K)) cs) W:=by
 obtain⟨v0,v1,v5,v6,Ab,Af,Ah,Ai,Aj,Ak,Al,Am,Ao,Ap,Ar,Ay,Az,AA,AB,AJ,AL,AO,AP,AQ,AU,AV,AX,AY,AZ,A8,A9,Ba,Bb,Bc,Bf,Bh,Bj,Bl,Bp,Bq,Br,rfl⟩:=hs;refine Fp.Fz (S:=S0 Try.prog Fin EH) (b:=base 16) [] (by simp) zKR nE zKR fun EG ha=>?_;have hh:EG.heap=W.heap:=by obtain⟨τ,d,rfl⟩:=ha;rfl
 have hb1:EG.cell? ⟨bw,0,none⟩=some (.pointer (some ⟨b,0,none⟩)):=by simp only[World.cell?,hh]at hb ⊢;exact hb
 have hown1:BA.FY EG 0 1 lv k xs:=Jp hown fun g _=>.of (by rw[hh]);obtain⟨i0,hi,hz0,hz1,hz2⟩:=info_parts kQ;have hlt:∀g,lv.ownBlock=some g->g<EG.heap.size:=fun g hg=>by
   obtain⟨te,_,⟨rfl,_⟩|⟨g',cap,cur,rfl,_,h1,_⟩⟩:=hown1
   . cases hg
   . cases hg;exact(zGE h1).1
 have hown2:BA.FY (EG.alloc (.cells #[.pointer (some ⟨b,0,none⟩)] 63)) 0 1 lv k xs:=Jp hown1 fun g hg=>.of (Below.heap_alloc _ _ _ (hlt g hg));have HH:=Lib.hid (zAI hK (zAI hh (zAI hown hown1)));clear hK hb hh hown hown1;dsimp only;simp only[oq,Sm,SX,Try.f16];gi_wp2_with (gi_at_builtin;refine G8 _ rfl _ _ 88 rfl 0 63 i0 (.pointer none) 1 8 Try.underlying88 hi hz0 hz1 hz2 rfl (by decide) lv k xs rfl hown2 ⟨EG.heap.size,0,none⟩ 1 1 [.pointer (some ⟨b,0,none⟩)] rfl rfl (cell_one_new _ _ _) (by simp[Value.oneCell']) (by unfold maxLen;omega) zOM (Nat.zero_le _) ?_;intro J2 w1 r1 r2 r3)
 obtain⟨hK,hh,hown,hown1⟩:=HH.out;clear HH;have hsz:(EG.alloc (.cells #[.pointer (some ⟨b,0,none⟩)] 63)).heap.size=W.heap.size+1:=by simp[hh]
 have hal:∀g,g<W.heap.size->(EG.alloc (.cells #[.pointer (some ⟨b,0,none⟩)] 63)).heap[g]?=W.heap[g]?:=fun g hg=>by rw[Below.heap_alloc _ _ _ (by rw[hh];exact hg),hh]
 refine hK J2 w1 _ ⟨_,_,_,_,_,_,_,_,_,_,_,_,_,_,_,_,_,_,_,_,_,_,_,_,_,_,_,_,_,_,_,_,_,_,_,_,_,_,_,_,_,rfl⟩ r1 (fun g hg hne=>?_) ?_ ?_
 . rw[r2.block g (by rw[hsz];omega) (fun e=>hne e.symm)]
   exact hal g hg
 . rcases r3 with h | ⟨h1,h2⟩
   . exact .inl h
   . exact .inr ⟨fun g hg=>by have:=h1 g hg;rw[hsz]at this;omega,fun g hg=>by rw[h2.block g (by rw[hsz];omega) (by simp)];exact hal g hg⟩
 . have:=r2.size;rw[hsz]at this;omega
end
end
section
theorem Qa{o:Obj}{c:Array Value}{e:TypeId}{f:Nat × Nat}(h:dep false o=.cells c e f):o=.cells c e f:=by cases o<;>simp_all [dep]
theorem Nb{B:Hid}{w W:World}{b:Nat}{c:Array Value}{e:TypeId}{f:Nat × Nat}(hs:Io B w W)(h1:B b=false)(h2:B.KH b=false)(h:W.heap[b]?=some (.cells c e f)):w.heap[b]?=some (.cells c e f):=by
 rw[Gu hs,Fu h1,h2]at h;cases hw:w.heap[b]? with
 | none=>rw[hw]at h;cases h
 | some o=>
  rw[hw]at h;exact congrArg some (Qa (Option.some.inj h))
theorem Mh{B:Nat->Bool}{w:World}{b:Nat}{c:Array Value}{e:TypeId}{f:Nat × Nat}(h1:B b=false)(h:w.heap[b]?=some (.cells c e f)):(EF { hol:=B } w).heap[b]?=some (.cells c e f):=by rw[Fu (B:={ hol:=B }) h1,h];rfl
section
variable {Cs Sg:Type}{D:Dr EP Cs Sg}{m:Mem Sg}{ρ:Rn}{b k:Nat}{W:World}{σ:Sg}
variable {dv cv:Value}{ws:List (FE (Wk EP Cs))}
theorem bn{Qb:FuncId}{recv:Value}{h t bw bd bc r:Nat}{z:Wk EP Cs}{wy:World}(hD:P9 (KO D m ρ b k) dv Qb recv)(hdv:∃t v,dv=.iface t v)(hzi:ρ.zi=.int .i64 0)(hzg:ρ.zg=.agg #[])(hty:ρ.ty=link.tWg)(hcs:∀σ W,m.Inv σ W->Lg W cv z.todo)(hz:z={ k:=k,todo:=z.todo })(hr:r<2 ^ 62)(hrow:F9 W b k t ρ.come ρ.gone false 0 0 0 (.slice none 0 0) false false)(hbw:W.heap[bw]?=some (.cells #[.pointer (some ⟨b,0,none⟩)] 63 (0,0)))(hbc:W.heap[bc]?=some (.cells #[cv] 52 (0,0)))(RS:∀g,g=b\/g=bw\/g=bc->(FR ρ ws) g=false/\(FR ρ ws).KH g=false/\¬ m.Sh g)(sj:∀g,m.Sh g->(FR ρ ws) g=false/\(FR ρ ws).KH g=false)(hI:m.Inv σ W)(hbd:∀W,m.Inv σ W->W.cell? ⟨bd,0,none⟩=some dv) :
   ∀w,Io (FR ρ ws) w W->∀B,dX (Fe D m) ρ ⟨h,k,b,t,b,fun g=>g=b\/g=bw\/g=bc,z,wy,false,r⟩ B w.heap.size->LT.Rows B w->
     WJ (Fe D m) ρ Try.prog r ⟨⟨h,k,b,t,b,fun g=>g=b\/g=bw\/g=bc,z,wy,false,r⟩,B,w.heap.size,({ z with over:=z.todo.isEmpty },σ,z.todo.isEmpty)⟩ (born Try.prog (Ra ρ.Wg bw bd bc)) w:=by
 intro w hs B NJ hR;have hrow':=Nb hs (RS b (.inl rfl)).1 (RS b (.inl rfl)).2.1 hrow;have Acy:=Nb hs (RS bw (.inr (.inl rfl))).1 (RS bw (.inr (.inl rfl))).2.1 hbw;have hbc':=Nb hs (RS bc (.inr (.inr rfl))).1 (RS bc (.inr (.inr rfl))).2.1 hbc;have zB:∀g,g=b\/g=bw\/g=bc->B g=false:=fun g hg=>NJ.own g hg;have hI2:m.Inv σ (EF { hol:=B } w):=by
   refine m.eq σ W _ (fun g hg=>?_) hI;have h1:=sj g hg;have a1:=L8.view (w:=w) h1.1 h1.2;have a2:L8 w (EF { hol:=B } w) g:=L8.view (B:={ hol:=B }) (NJ.sh g hg) rfl;have a3:L8 w W g:=by unfold L8 at a1 ⊢;rw[Gu hs];exact a1
   exact a3.symm.trans a2
 have hrows:∀g,g=b\/g=bw\/g=bc->∃c e f,w.heap[g]?=some (Obj.cells c e f):=fun g hg=>by
   rcases hg with rfl|rfl|rfl
   . exact⟨_,_,_,hrow'⟩
   . exact⟨_,_,_,Acy⟩
   . exact⟨_,_,_,hbc'⟩
 refine ZR (x:=⟨(⟨⟨h,k,b,t,b,fun g=>g=b\/g=bw\/g=bc,z,wy,false,r⟩,B,w.heap.size,({ z with over:=z.todo.isEmpty },σ,z.todo.isEmpty)⟩,r),NJ.wg⟩) (own:=fun g=>g=b\/g=bw\/g=bc) (z:=z) (σ:=σ) (W:=EF { hol:=B } w) (b:=b) (k:=k) (bw:=bw) (bd:=bd) (bc:=bc) hD hdv ?_ (by rw[hz]) (by rw[hz]) rfl hcs hty ?_ (hbd _ hI2) ?_ w ⟨.refl _,hR⟩
 . exact{
        zi:=hzi,zg:=hzg,vb:=rfl,vk:=rfl
        row:=by
         have e1:z.st=0:=by rw[hz]
         have e2:z.bg=0:=by rw[hz]
         have e3:z.ow=0:=by rw[hz]
         rw[e1,e2,e3];exact Mh (zB b (.inl rfl)) hrow'
        zk:=by rw[hz],zo:=by rw[hz],zf:=by rw[hz],uy:=by rw[hz]
        inv:=hI2,sh:=NJ.sh,low:=NJ.low,size:=by rw[Hl];exact Nat.le_refl _
        Xu:=fun g hg=>by obtain⟨c,e,f,hc⟩:=hrows g hg;exact(zGE hc).1
        cb:=.inl rfl,o1:=fun g hg=>hg,o2:=fun g hg=>.inl hg
        o3:=fun g hg=>⟨zB g hg,(RS g hg).2.2,by obtain⟨c,e,f,hc⟩:=hrows g hg;exact⟨c,e,f,Mh (zB g hg) hc⟩⟩
        Mc:=.inl rfl
        cap:=by
         have e3:z.ow=0:=by rw[hz]
         rw[e3];show 0+r<_;omega }
 . have:=Mh (zB bw (.inr (.inl rfl))) Acy;simp[World.cell?,this]
 . have:=Mh (zB bc (.inr (.inr rfl))) hbc';simp[World.cell?,this]
end
end
section
section
variable {X Sg:Type}
variable {Fin:Gb}{EH:FM Try.prog Fin}
variable {M:Md X Sg}{ρ:Rn}{ws:List (FE X)}{W:World}{n bp bd br:Nat}{lv Gi Ia wv u25 u26:Value}{ds:List Deferred}{K:List Item}{cs:List Frame}
theorem vN(hty:ρ.ty=link.tWg)(hcap:n+0+1<2147483648){tm:Array Value}(hs:Sr bp bd br ρ.come ρ.gone ρ.Wg lv Gi Ia wv u25 u26 tm)(hK:∀tm',Sr bp bd br ρ.come ρ.gone ρ.Wg lv Gi Ia wv u25 u26 tm'->JL (S0 Try.prog Fin EH).L (.Fg M ρ ws 1 false n) (G ((base 16).at ⟨tm',ds⟩ K) cs) W) :
  JL (S0 Try.prog Fin EH).L (.Fg M ρ ws 0 false n) (G ((base 16).at ⟨tm,ds⟩ (.code mW :: K)) cs) W:=by
 obtain⟨v0,v1,v5,v6,Ab,Af,Ah,Ai,Aj,Ak,Al,Am,Ao,Ap,Ar,Ay,Az,AA,AB,AJ,AL,AO,AP,AQ,AU,AV,AX,AY,AZ,A8,A9,Ba,Bb,Bc,Bf,Bh,Bj,Bl,Bp,Bq,Br,rfl⟩:=hs;dsimp only;simp only[mW,Sm,SX,Try.f16];refine E9 fun _ hkk=>?_;show JL (jA (X:=X) (Sg:=Sg) Try.prog Fin EH) _ _ _;refine J0.kE (L:=link) fP hty hcap rfl rfl nE rfl rfl rfl ?_;walk_nrm;refine E5 ?_;cases hkk;exact hK _ ⟨_,_,_,_,_,_,_,_,_,_,_,_,_,_,_,_,_,_,_,_,_,_,_,_,_,_,_,_,_,_,_,_,_,_,_,_,_,_,_,_,_,rfl⟩
theorem oO{i pn:Nat}(hi:i<=1000000)(hn:pn<=1000000){tm:Array Value}(hs:Sr bp bd br ρ.come ρ.gone ρ.Wg lv Gi Ia wv (.int .i64 pn) (.int .i64 i) tm)(hK:∀W' tm',Sr bp bd br ρ.come ρ.gone ρ.Wg lv Gi Ia wv (.int .i64 pn) (.int .i64 i) tm'->tm'[27]?=some (.bool (decide (i<pn)))->W'.heap=W.heap->JL (S0 Try.prog Fin EH).L (.Fg M ρ ws 0 false n) (G ((base 16).at ⟨tm',ds⟩ K) cs) W') :
  JL (S0 Try.prog Fin EH).L (.Fg M ρ ws 0 false n) (G ((base 16).at ⟨tm,ds⟩ (.code rn8 :: K)) cs) W:=by
 obtain⟨v0,v1,v5,v6,Ab,Af,Ah,Ai,Aj,Ak,Al,Am,Ao,Ap,Ar,Ay,Az,AA,AB,AJ,AL,AO,AP,AQ,AU,AV,AX,AY,AZ,A8,A9,Ba,Bb,Bc,Bf,Bh,Bj,Bl,Bp,Bq,Br,rfl⟩:=hs;refine Fp.Fz (S:=S0 Try.prog Fin EH) (b:=base 16) [] (by simp) zKR nE zKR fun EG ha=>?_;have hh:EG.heap=W.heap:=by obtain⟨τ,d,rfl⟩:=ha;rfl
 have HH:=Lib.hid (zAI hK hh);clear hK hh;dsimp only;simp only[rn8,Sm,Try.f16,SX];gi_wp2;obtain⟨hK,hh⟩:=HH.out;exact hK EG _ ⟨_,_,_,_,_,_,_,_,_,_,_,_,_,_,_,_,_,_,_,_,_,_,_,_,_,_,_,_,_,_,_,_,_,_,_,_,_,_,_,_,_,rfl⟩ (by simp) hh
theorem u6{i:Nat}(hi:i<1000000){tm:Array Value}(hs:Sr bp bd br ρ.come ρ.gone ρ.Wg lv Gi Ia wv u25 (.int .i64 i) tm)(hK:∀W' tm',Sr bp bd br ρ.come ρ.gone ρ.Wg lv Gi Ia wv u25 (.int .i64 ((i+1:Nat):Int)) tm'->W'.heap=W.heap->JL (S0 Try.prog Fin EH).L (.Fg M ρ ws 0 false n) (G ((base 16).at ⟨tm',ds⟩ K) cs) W') :
  JL (S0 Try.prog Fin EH).L (.Fg M ρ ws 0 false n) (G ((base 16).at ⟨tm,ds⟩ (.code vW :: K)) cs) W:=by
 obtain⟨v0,v1,v5,v6,Ab,Af,Ah,Ai,Aj,Ak,Al,Am,Ao,Ap,Ar,Ay,Az,AA,AB,AJ,AL,AO,AP,AQ,AU,AV,AX,AY,AZ,A8,A9,Ba,Bb,Bc,Bf,Bh,Bj,Bl,Bp,Bq,Br,rfl⟩:=hs;refine Fp.Fz (S:=S0 Try.prog Fin EH) (b:=base 16) [] (by simp) zKR nE zKR fun EG ha=>?_;have hh:EG.heap=W.heap:=by obtain⟨τ,d,rfl⟩:=ha;rfl
 have hw:RowKit.wrap64 ((i:Int)+1)=((i+1:Nat):Int):=Lp zOM;have hl1:(-9223372036854775808:Int)<=(i:Int)+1:=by omega
 have hl2:(i:Int)+1<=9223372036854775807:=by omega
 have HH:=Lib.hid (zAI hK (zAI hh hw));clear hK hh hw;dsimp only;simp only[vW,Sm,SX,Try.f16];gi_wp2;obtain⟨hK,hh,hw⟩:=HH.out;exact hK EG _ ⟨_,_,_,_,_,_,_,_,_,_,_,_,_,_,_,_,_,_,_,_,_,_,_,_,_,_,_,_,_,_,_,_,_,_,_,_,_,_,_,_,_,rfl⟩ hh
end
end
section
section
variable {Cs Sg:Type}
structure HI(m:Mem Sg)(ρ:Rn)(plans:List (List EP))(R:Nat)(ws:List (FE (Wk EP Cs)))(σ:Sg)(lv:Value)(Kp:Nat->Prop)(W0 W:World):Prop where
 inv:m.Inv σ W
 xs:∀(j:Nat) (u:FE (Wk EP Cs)),ws[j]?=some u->∃pl,plans[j]?=some pl/\u.x=Wk.new j pl/\u.over=pl.isEmpty/\u.r=R/\u.k=j
 TS:BA.FY W 0 1 lv ws.length (ws.map fun u=>.pointer (some ⟨u.b,0,none⟩))
 iC:∀g,lv.ownBlock=some g->g≠ρ.Wg/\ρ.Bo g=false/\¬ m.Sh g/\∀(j:Nat) (u:FE (Wk EP Cs)),ws[j]?=some u->¬ u.own g
 lt:∀(j:Nat) (u:FE (Wk EP Cs)),ws[j]?=some u->u.t<W.heap.size/\∀g,u.own g->g<W.heap.size/\¬ m.Sh g
 wg:ρ.Wg<W.heap.size
 come:ρ.come<W.heap.size
 gone:ρ.gone<W.heap.size
 bo:∀g,ρ.Bo g=true->g<W.heap.size
 sh:∀g,m.Sh g->g≠ρ.Wg/\ρ.Bo g=false
 kp:∀g,Kp g->W.heap[g]?=W0.heap[g]?/\(∃c e f,W0.heap[g]?=some (.cells c e f))/\g≠ρ.Wg/\ρ.Bo g=false/\¬ m.Sh g/\lv.ownBlock≠some g/\∀(j:Nat) (u:FE (Wk EP Cs)),ws[j]?=some u->¬ u.own g
structure K9(m:Mem Sg)(pg po:Nat)(Km:List Value)(plans:List (List EP)):Prop where
 len:Km.length=plans.length
 few:plans.length<=1000
 cell:∀σ W,m.Inv σ W->∀(i:Nat) (cv:Value),Km[i]?=some cv->W.cell? ⟨pg,po+i,none⟩=some cv
 calls:∀(i:Nat) (cv:Value) (pl:List EP),Km[i]?=some cv->plans[i]?=some pl->∀σ W,m.Inv σ W->Lg W cv pl
variable {D:Dr EP Cs Sg}{m:Mem Sg}
variable {Fin:Gb}{EH:FM Try.prog Fin}
variable {ρ:Rn}{ws:List (FE (Wk EP Cs))}{W:World}{n bp bd br:Nat}{dv lv Gi Ia wv u25 u26:Value}{ds:List Deferred}{K:List Item}{cs:List Frame}{σ:Sg}
theorem Tg{g:Nat}(h1:g≠ρ.Wg)(h2:ρ.Bo g=false)(h3:∀(j:Nat) (u:FE (Wk EP Cs)),ws[j]?=some u->¬ u.own g):(FR ρ ws) g=false/\(FR ρ ws).KH g=false:=⟨Je h1 h2,KV h3⟩
theorem aF{Kp:Nat->Prop}{W0:World}{plans:List (List EP)}{R i pg po Ga:Nat}{Km:List Value}{pl:List EP}{Qb:FuncId}{recv:Value}(hD:∀b k,P9 (KO D m ρ b k) dv Qb recv)(hdv:∃t v,dv=.iface t v)(hcl:¬ ρ.UM)(hzi:ρ.zi=.int .i64 0)(hzg:ρ.zg=.agg #[])(hty:ρ.ty=link.tWg)(hbd:∀σ W,m.Inv σ W->W.cell? ⟨bd,0,none⟩=some dv)(hR:R<2 ^ 62)(hcap:n<1000000)(hP:K9 m pg po Km plans)(h:HI m ρ plans R ws σ lv Kp W0 W)(hi:ws.length=i)(hpl:plans[i]?=some pl){tm:Array Value}(hs:Sr bp bd br ρ.come ρ.gone ρ.Wg lv Gi Ia (.slice (some ⟨pg,po,none⟩) plans.length Ga) u25 (.int .i64 i) tm)(hK:∀ws' J2 W' a12 fA tm',Sr bp bd br ρ.come ρ.gone ρ.Wg J2 a12 fA (.slice (some ⟨pg,po,none⟩) plans.length Ga) u25 (.int .i64 i) tm'->HI m ρ plans R ws' σ J2 Kp W0 W'->ws'.length=i+1->JL (S0 Try.prog Fin EH).L (.Fg (Fe D m) ρ ws' 0 false (n+1)) (G ((base 16).at ⟨tm',ds⟩ K) cs) W') :
    JL (S0 Try.prog Fin EH).L (.Fg (Fe D m) ρ ws 0 false n) (G ((base 16).at ⟨tm,ds⟩ (.code (.seq rn9 (.seq kF (.seq oq (.seq mW (.seq cB Yb))))) :: K)) cs) W:=by
  refine J0.low (EH:=EH) fun _ hlow=>?_;show JL (S0 Try.prog Fin EH).L _ _ W;have hilt:i<plans.length:=(List.getElem?_eq_some_iff.1 hpl).1;obtain⟨cv,hcv⟩:∃cv,Km[i]?=some cv:=⟨_,List.getElem?_eq_getElem (by rw[hP.len];exact hilt)⟩
  have Qe:=hP.few;have hcA:=hP.calls i cv pl hcv hpl;obtain⟨ca,cc,Acv,_⟩:=hcA σ W h.inv;have hcell:=hP.cell σ W h.inv i cv hcv;have hlb:∀g,lv.ownBlock=some g->g<W.heap.size:=fun g hg=>by obtain⟨c,e,f,hc⟩:=MS h.TS hg;exact(zGE hc).1
  have NQ:∀g,m.Sh g->g<W.heap.size:=fun g hg=>by obtain⟨c,e,f,hc⟩:=m.rows σ W g hg h.inv;exact(zGE hc).1
  rw[Acv]at hcell;refine EO ?_;refine Ab0 hs hilt zOM hcell fun W1 VU hs1 h11 hW1=>?_;have hz1:W1.heap.size=W.heap.size+1:=by rw[hW1];simp
  refine EO ?_;refine qQ hs1 h11 fun W2 xI hs2 hW2=>?_;have hz2:W2.heap.size=W.heap.size+4:=by rw[hW2];simp[hz1]
  have U8:∀g,g<W.heap.size->W2.heap[g]?=W.heap[g]?:=fun g hg=>by rw[hW2,hW1];simp only[Array.getElem?_push,Array.size_push];rw[if_neg zOM,if_neg zOM,if_neg zOM,if_neg zOM]
  generalize hN:W.heap.size=N at *;rw[hz1]at hs2 hW2;have q0:W2.heap[N]?=some (.cells #[.slice ca pl.length cc] 52 (0,0)):=by rw[hW2,hW1];simp only[Array.getElem?_push,Array.size_push,hN];rw[if_neg zOM,if_neg zOM,if_neg zOM];rfl
  have q1:W2.heap[N+1]?=some (.chan 0 #[] false 0 0 false):=by
    rw[hW2];simp only[Array.getElem?_push,Array.size_push,hz1]
    simp
  have q2:W2.heap[N+1+1]?=some (.cells #[.int .i64 i,.bool true,.chan (some (N+1)),.chan (some ρ.come),.chan (some ρ.gone),.bool false,.int .i64 0,.int .i64 0,.int .i64 0,.slice none 0 0,.bool false,.bool false] 92 (0,0)):=by
    rw[hW2];simp only[Array.getElem?_push,Array.size_push,hz1]
    simp
  have q3:W2.heap[N+1+2]?=some (.cells #[.pointer (some ⟨N+1+1,0,none⟩)] 63 (0,0)):=by
    rw[hW2];simp only[Array.getElem?_push,Array.size_push,hz1]
    simp
  clear hW1 hW2;refine EO ?_;refine sK hs2 (b:=N+1+1) (k:=i) (xs:=ws.map fun u=>.pointer (some ⟨u.b,0,none⟩)) (by simp[World.cell?,q3]) (by rw[← hi];exact Jp h.TS fun g hg=>.of (U8 g (hlb g hg))) zOM fun J2 W3 tm3 hs3 hown3 Af9 hlv3 hz3=>?_;refine EO ?_;refine vN hty zOM hs3 fun tm4 hs4=>?_;have hk3:∀g,g<N+4->lv.ownBlock≠some g->W3.heap[g]?=W2.heap[g]?:=fun g hg hne=>Af9 g zOM hne;have hnew:∀g,N<=g->lv.ownBlock≠some g:=fun g hg e=>by have:=hlb g e;omega
  have r0:=(hk3 N zOM (hnew N zOM)).trans q0;have r1:=(hk3 (N+1) zOM (hnew _ zOM)).trans q1;have r2:=(hk3 (N+1+1) zOM (hnew _ zOM)).trans q2;have r3:=(hk3 (N+1+2) zOM (hnew _ zOM)).trans q3;have hI3:m.Inv σ W3:=m.eq σ W W3 (fun g hg=>.of (by have h1:=NQ g hg;rw[hk3 g zOM (fun e=>(h.iC g e).2.2.1 hg),U8 g h1])) h.inv
  have hbo:∀g,N<=g->ρ.Bo g=false:=fun g hg=>by
    cases e:ρ.Bo g with
    | false=>rfl
    | true=>have:=h.bo g e;omega
  have hwg:=h.wg;have hco:=h.come;have hgo:=h.gone;rw[hN]at hwg hco hgo;have aH:∀(j:Nat) (u:FE (Wk EP Cs)),ws[j]?=some u->u.t<N/\∀g,u.own g->g<N/\¬ m.Sh g:=fun j u hu=>by have:=h.lt j u hu;rw[hN]at this;exact this
  have RS:∀g,g=N+1+1\/g=N+1+2\/g=N->(FR ρ ws) g=false/\(FR ρ ws).KH g=false/\¬ m.Sh g:=fun g hg=>by
    have h1:=Tg (ρ:=ρ) (ws:=ws) (g:=g) zOM (hbo g zOM) fun j u hu ho=>by have:=((aH j u hu).2 g ho).1;omega
    exact⟨h1.1,h1.2,fun hs=>by have:=NQ g hs;omega⟩
  have sj:∀g,m.Sh g->(FR ρ ws) g=false/\(FR ρ ws).KH g=false:=fun g hg=>Tg (h.sh g hg).1 (h.sh g hg).2 fun j u hu ho=>((aH j u hu).2 g ho).2 hg;refine wE hcl hzi (v:=⟨n,i,N+1+1,N+1,N+1+1,fun g=>g=N+1+1\/g=N+1+2\/g=N,{ k:=i,todo:=pl },W3,false,R⟩) (r:=R) (tgt:=({ k:=i,todo:=pl,over:=pl.isEmpty },σ,pl.isEmpty)) (bw:=N+1+2) (bc:=N) hs4 rfl hi.symm rfl (fun g hg=>⟨(RS g hg).2.2,by show g≠ρ.Wg;rcases hg with rfl | rfl | rfl<;>omega,hbo g (by rcases hg with rfl | rfl | rfl<;>omega),?_,fun j u hu ho=>?_⟩) ⟨.inl rfl,.inl rfl⟩ ⟨by show N+1≠_;omega,by show N+1≠_;omega,⟨0,r1⟩,fun j u hu=>by have:=(aH j u hu).1;show u.t≠N+1;omega⟩ (by show Fin.b0<=N+1;omega)
    (bn (z:={ k:=i,todo:=pl }) (hD _ _) hdv hzi hzg hty hcA rfl hR r2 r3 (by rw[Acv];exact r0) RS sj hI3 (hbd σ)) fun v' W' tm' hs' hG=>?_
  . rcases hg with rfl | rfl | rfl
    . exact⟨_,_,_,r2⟩
    . exact⟨_,_,_,r3⟩
    . exact⟨_,_,_,r0⟩
  . have:=((aH j u hu).2 g ho).1;rcases hg with rfl|rfl|rfl<;>omega
  . refine J0.know (EH:=EH) fun hKn=>?_;have hsz:=hG.size;have sU:∀g,J2.ownBlock=some g->(lv.ownBlock=some g/\g<N)\/N+4<=g:=fun g hg=>by
      rcases hlv3 with e|⟨e,_⟩
      . rw[e]at hg;exact .inl ⟨hg,hlb g hg⟩
      . have:=e g hg;omega
    have Aa7:∀g,J2.ownBlock=some g->g<W3.heap.size:=fun g hg=>by obtain⟨c,e,f,hc⟩:=MS hown3 hg;exact(zGE hc).1
    have Rh:∀g,J2.ownBlock=some g->g≠ρ.Wg/\ρ.Bo g=false/\¬ m.Sh g/\(∀(j:Nat) (u:FE (Wk EP Cs)),ws[j]?=some u->¬ u.own g):=fun g hg=>by
      rcases sU g hg with⟨e,_⟩|e
      . exact h.iC g e
      . exact⟨by omega,hbo g zOM,fun hs=>(by have:=NQ g hs;omega),fun j u hu ho=>(by have:=((aH j u hu).2 g ho).1;omega)⟩
    have yM:∀g,J2.ownBlock=some g->¬ (g=N+1+1\/g=N+1+2\/g=N):=fun g hg hv=>by rcases sU g hg with⟨_,e⟩|e<;>rcases hv with rfl|rfl|rfl<;>omega
    have happ:∀(j:Nat) (u:FE (Wk EP Cs)),(ws++[v'])[j]?=some u->ws[j]?=some u\/(j=i/\u=v'):=fun j u hu=>by
      rcases Qt hu with⟨_,hu⟩|⟨hj,rfl⟩
      . exact .inl hu
      . exact .inr ⟨hj.trans hi,rfl⟩
    refine hK (ws ++ [v']) J2 W' _ _ tm' hs' ?_ (by simp [hi]);exact {
            inv:=hG.inv
            xs:=fun j u hu=>by
              rcases happ j u hu with hu|⟨rfl,rfl⟩
              . exact h.xs j u hu
              . exact⟨pl,hpl,hG.x,hG.over,hG.r,hG.k⟩
            TS:=by
              have e1:(ws++[v']).length=i+1:=by simp[hi]
              have e2:(ws++[v']).map (fun u=>Value.pointer (some ⟨u.b,0,none⟩))=ws.map (fun u=>Value.pointer (some ⟨u.b,0,none⟩))++[.pointer (some ⟨N+1+1,0,none⟩)]:=by have:=hG.b;simp[this]
              rw[e1,e2];exact Jp hown3 fun g hg=>.of (hG.block g (MS hown3 hg) (Je (Rh g hg).1 (Rh g hg).2.1) (yM g hg) (Rh g hg).2.2.1)
            iC:=fun g hg=>⟨(Rh g hg).1,(Rh g hg).2.1,(Rh g hg).2.2.1,fun j u hu ho=>by
              rcases happ j u hu with hu|⟨rfl,rfl⟩
              . exact(Rh g hg).2.2.2 j u hu ho
              . rcases hG.own g ho with ho | ho
                . exact yM g hg ho
                . have:=Aa7 g hg;omega⟩
            lt:=fun j u hu=>by
              rcases happ j u hu with hu'|⟨rfl,rfl⟩
              . have h1:=aH j u hu';exact⟨by omega,fun g hg=>⟨by have:=(h1.2 g hg).1;omega,(h1.2 g hg).2⟩⟩
              . refine⟨by have:=hG.t;rw[this];show N+1<_;omega,fun g hg=>?_⟩
                obtain⟨a1,_,_,c,e,f,hc⟩:=hKn.own _ u hu g hg;exact⟨(zGE hc).1,a1⟩
            wg:=by omega,come:=by omega,gone:=by omega
            bo:=fun g hg=>by have:=h.bo g hg;omega
            sh:=h.sh
            kp:=fun g hg=>by
              obtain⟨k1,⟨c,e,f,k2⟩,k3,k4,k5,k6,k7⟩:=h.kp g hg;have hlt:g<N:=by rw[← hN];rw[← k1]at k2;exact(zGE k2).1
              have e3:W3.heap[g]?=W0.heap[g]?:=by rw[hk3 g zOM k6,U8 g hlt,k1]
              refine⟨?_,⟨c,e,f,k2⟩,k3,k4,k5,fun h2=>?_,fun j u hu ho=>?_⟩
              . rw[hG.block g ⟨c,e,f,by rw[e3];exact k2⟩ (Je k3 k4) (by show ¬ (g=N+1+1\/g=N+1+2\/g=N);omega) k5,e3]
              . rcases sU g h2 with⟨h3,_⟩ | h3
                . exact k6 h3
                . omega
              . rcases happ j u hu with hu | ⟨rfl,rfl⟩
                . exact k7 j u hu ho
                . rcases hG.own g ho with ho | ho
                  . have ho':g=N+1+1\/g=N+1+2\/g=N:=ho;omega
                  . omega }
end
end
section
section
variable {Cs Sg:Type}{D:Dr EP Cs Sg}{m:Mem Sg}
variable {Fin:Gb}{EH:FM Try.prog Fin}
variable {ρ:Rn}{ws:List (FE (Wk EP Cs))}{W:World}{n bp bd br:Nat}{dv lv Gi Ia wv u25 u26:Value}{ds:List Deferred}{K:List Item}{cs:List Frame}{σ:Sg}
theorem HI.alike{plans:List (List EP)}{R:Nat}{W':World}{Kp:Nat->Prop}{W0:World}(h:HI m ρ plans R ws σ lv Kp W0 W)(hh:W'.heap=W.heap):HI m ρ plans R ws σ lv Kp W0 W':=
  { h with inv:=m.eq σ W W' (fun g _=>.of (by rw [hh])) h.inv
           TS:=Jp h.TS fun g _=>.of (by rw[hh])
           lt:=by rw[hh];exact h.lt
           wg:=by rw[hh];exact h.wg
           come:=by rw[hh];exact h.come
           gone:=by rw[hh];exact h.gone
           bo:=by rw[hh];exact h.bo
           kp:=by rw[hh];exact h.kp }
theorem ZW{Kp:Nat->Prop}{W0:World}{plans:List (List EP)}{R pg po Ga n0:Nat}{Km:List Value}{Qb:FuncId}{recv:Value}(hD:∀b k,P9 (KO D m ρ b k) dv Qb recv)(hdv:∃t v,dv=.iface t v)(hcl:¬ ρ.UM)(hzi:ρ.zi=.int .i64 0)(hzg:ρ.zg=.agg #[])(hty:ρ.ty=link.tWg)(hbd:∀σ W,m.Inv σ W->W.cell? ⟨bd,0,none⟩=some dv)(hR:R<2 ^ 62)(hcap:n0+plans.length<1000000)(hP:K9 m pg po Km plans)(hK:∀ws' J2 W' a12 fA a26 tm',Sr bp bd br ρ.come ρ.gone ρ.Wg J2 a12 fA (.slice (some ⟨pg,po,none⟩) plans.length Ga) (.int .i64 plans.length) a26 tm'->HI m ρ plans R ws' σ J2 Kp W0 W'->ws'.length=plans.length->JL (S0 Try.prog Fin EH).L (.Fg (Fe D m) ρ ws' 0 false (n0+plans.length)) (G ((base 16).at ⟨tm',ds⟩ K) cs) W') :
  ∀(l:List (List EP)) (ws:List (FE (Wk EP Cs))) (lv Gi Ia:Value) (W:World) (i:Nat) (tm:Array Value),plans.drop i=l->i<=plans.length->HI m ρ plans R ws σ lv Kp W0 W->ws.length=i->Sr bp bd br ρ.come ρ.gone ρ.Wg lv Gi Ia (.slice (some ⟨pg,po,none⟩) plans.length Ga) (.int .i64 plans.length) (.int .i64 i) tm->
  JL (S0 Try.prog Fin EH).L (.Fg (Fe D m) ρ ws 0 false (n0+i)) (G ((base 16).at ⟨tm,ds⟩ (.code Sm :: .inLoop Sm :: .inBlock 0 :: K)) cs) W:=by
 have Qe:=hP.few;intro l;induction l with
 | nil=>
  intro ws lv Gi Ia W i tm hl hil h hwl hs;have hge:plans.length<=i:=List.drop_eq_nil_iff.1 hl;obtain rfl:i=plans.length:=by omega
  rw[WV];refine EO ?_;refine oO zOM zOM hs fun W1 VU hs1 h27 hw1=>?_;rw[decide_eq_false zOM]at h27;refine EO ?_;refine JL.EX (EN h27) ?_;refine JL.exit rfl ?_;exact hK ws lv W1 _ _ _ VU hs1 (h.alike hw1) hwl
 | cons pl l ih=>
  intro ws lv Gi Ia W i tm hl hil h hwl hs;have hlt:i<plans.length:=by
   rcases Nat.lt_or_ge i plans.length with h|h
   . exact h
   . rw[List.drop_eq_nil_of_le h]at hl;cases hl
  have hpl:plans[i]?=some pl:=by
   have:=congrArg (·[0]?) hl
   simpa using this
  have hl':plans.drop (i+1)=l:=by
   have:=congrArg List.tail hl
   simpa using this
  rw[WV];refine EO ?_;refine oO zOM zOM hs fun W1 VU hs1 h27 hw1=>?_;rw[decide_eq_true hlt]at h27;refine EO ?_;refine JL.F3 (EN h27) ?_;refine EU stepG_skip ?_;refine EO ?_;refine EU stepG_block ?_;refine aF hD hdv hcl hzi hzg hty hbd hR zOM hP (h.alike hw1) hwl hpl hs1 fun ws' J2 W' a12 fA tm' hs' h' sH=>?_;refine EU stepG_inBlock ?_;refine u6 zOM hs' fun W2 xI hs2 hw2=>?_;refine EU stepG_inLoop ?_;rw[← WV];exact ih ws' J2 a12 fA W2 (i+1) xI hl' hlt (h'.alike hw2) sH hs2
end
end
end Go.Proofs.Ytdkfdedgfilhbaa
namespace Go.Proofs.Ytdkfdedgfilhbaa
open Go Go.RowKit BA
theorem gG{pg po Ga:Nat}{Km:List Value}{ta ha:Option Addr}{tn tc hn hc:Nat}{u:Int}(w:World)(hcell:∀i,i<Km.length->∃a n c,n<=64/\w.cell? ⟨pg,po+i,none⟩=some (.slice a n c))(h0:0<Km.length)(h8:Km.length<=8)(hu:0<=u)(hu2:u<=20000) :
  CallsIn (Fence.list [16,26] none) 0 Try.prog 26 #[.agg #[.slice (some ⟨pg,po,none⟩) Km.length Ga,.slice ta tn tc,.slice ha hn hc,.int .i64 u]] w fun e w'=>e=.returned (.int .i64 0)/\Below w.heap.size w w':=by
 have HC:=Lib.hid hcell;clear hcell;gi_enter Try.func26,Try.ntmps26
 obtain⟨n,hn⟩:∃n,Km.length=n:=⟨_,rfl⟩
 rw[hn]at h0 h8 ⊢;have HN:=Lib.hid hn;clear hn;have g1:((n:Int)==0)=false:=by simp;omega
 have g2:decide (8<(n:Int))=false:=by simp;omega
 have g3:decide (u<0)=false:=by simp;omega
 have g4:decide (20000<u)=false:=by simp;omega
 gi_wp2;generalize hW:World.alloc w _=W1;have aR:∀i,i<Km.length->∃a n c,n<=64/\W1.cell? ⟨pg,po+i,none⟩=some (.slice a n c):=fun i hi=>by obtain⟨a,q,c,hq,hcx⟩:=HC.out i hi;exact⟨a,q,c,hq,by rw[← hW];exact Lib.cell?_alloc_some _ hcx⟩
 have HB:Below w.heap.size w W1:=by rw[← hW];exact(Below.refl _ w).alloc (Nat.le_refl _) _
 have HC2:=Lib.hid aR;have HB2:=Lib.hid HB;clear aR HB HC hW;gi_loop [28] (fun i=>∃k:Nat,k<=n/\i=.int .i64 k) (fun i=>n-(intOf i).toNat)
 case atStart=>exact⟨0,by omega,rfl⟩
 case round=>
  obtain⟨k,hk,rfl⟩:=hrel;by_cases hlt:k<n
  . obtain⟨a,q,c,hq,hcx⟩:=HC2.out k (by rw[HN.out];exact hlt)
    gi_wp2;go_round
    case rel=>exact⟨k+1,by omega,by go_num⟩
    case measure=>simp[intOf];omega
  . obtain rfl:k=n:=by omega
    gi_wp2;go_ret
    exact⟨rfl,HB2.out⟩
end Go.Proofs.Ytdkfdedgfilhbaa
namespace Go.Proofs.Ytdkfdedgfilhbaa
open Go Go.Conc Go.LT Go.LC Go.LK Go.RowKit
open Go.ConcN (WgLive)
section
theorem TD(w:World)(a b:Obj):((w.alloc a).alloc b).heap[w.heap.size+1]?=some b:=by
 have:=heap_alloc_new (w.alloc a) b
 simpa using this
theorem Ta(w:World)(a b c:Obj):(((w.alloc a).alloc b).alloc c).heap[w.heap.size+2]?=some c:=by
 have:=heap_alloc_new ((w.alloc a).alloc b) c
 simpa using this
theorem Wq:∀g∈[26],@Lets (Host.only 16) Try.prog g:=fun g hg=>by obtain rfl:=List.mem_singleton.1 hg;exact⟨by kernel_rfl,.inl ⟨_,_,Try.func26,by kernel_rfl,rfl,by kernel_rfl⟩⟩
section
variable {X Sg:Type}
variable {Fin:Gb}{EH:FM Try.prog Fin}
variable {B:Nat->Bool}{W:World}{n:Nat}{c:Frame}{cs:List Frame}
theorem dP {pg po Ga:Nat}{Km:List Value}{xa ya:Option Addr}{xn xc yn yc:Nat}{u:Int}{dt:TypeId}{dw:Value}(hcell:∀ i,i < Km.length->∃ a n c,n<=64/\W.cell? ⟨pg,po+i,none⟩=some (.slice a n c))(h0:0 < Km.length)(h8:Km.length<=8)(hu:0<=u)(hu2:u<=20000)(hK:∀ W' tm',tm'=#[.agg #[.slice (some ⟨pg,po,none⟩) Km.length Ga,.slice xa xn xc,.slice ya yn yc,.int .i64 u],.iface dt dw,.pointer (some ⟨W.heap.size,0,none⟩),.pointer (some ⟨W.heap.size+1,0,none⟩),.pointer (some ⟨W.heap.size+2,0,none⟩),.int .i64 0,.int .i64 0,undef,undef,undef,undef,undef,undef,undef,undef,.agg #[.slice (some ⟨pg,po,none⟩) Km.length Ga,.slice xa xn xc,.slice ya yn yc,.int .i64 u],.int .i64 0,.int .i64 0,.bool false,undef,undef,undef,undef,undef,undef,undef,undef,undef,undef,undef,undef,undef,undef,undef,undef,undef,undef,undef,undef,undef,undef,undef,undef,undef,undef,undef,undef,undef,undef,undef,undef,undef,undef]->(∀ g,g < W.heap.size->W'.heap[g]?=W.heap[g]?)->W.heap.size+3<=W'.heap.size->
      W'.heap[W.heap.size]?=some (.cells #[.slice (some ⟨pg,po,none⟩) Km.length Ga,.slice xa xn xc,.slice ya yn yc,.int .i64 u] 25 (0,0))->W'.heap[W.heap.size+1]?=some (.cells #[.iface dt dw] 57 (0,0))->
      W'.heap[W.heap.size+2]?=some (.cells #[.slice none 0 0,.slice none 0 0,.int .i64 0,.bool false] 31 (0,0))->
      JL (S0 (X:=X) (Sg:=Sg) Try.prog Fin EH).L (.Gj B n) (G ((base 16).at ⟨tm',[]⟩ [.code (.seq rn4 (.seq rn5 (.seq yB (.seq (.seq rn7 (.block 0 (.loop Sm))) Pv))))]) (c :: cs)) W') :
    JW (S0 (X:=X) (Sg:=Sg) Try.prog Fin EH).base (.Gj B n) (G (Frame.enter Try.prog 16 #[.agg #[.slice (some ⟨pg,po,none⟩) Km.length Ga,.slice xa xn xc,.slice ya yn yc,.int .i64 u],.iface dt dw] .normal) (c :: cs)) W:=by
  have ht:#[.agg #[.slice (some ⟨pg,po,none⟩) Km.length Ga,.slice xa xn xc,.slice ya yn yc,.int .i64 u],.iface dt dw]++Array.replicate (Try.f16.ntmps-(#[.agg #[.slice (some ⟨pg,po,none⟩) Km.length Ga,.slice xa xn xc,.slice ya yn yc,.int .i64 u],.iface dt dw]:Array Value).size) undef=#[.agg #[.slice (some ⟨pg,po,none⟩) Km.length Ga,.slice xa xn xc,.slice ya yn yc,.int .i64 u],.iface dt dw,undef,undef,undef,undef,undef,undef,undef,undef,undef,undef,undef,undef,undef,undef,undef,undef,undef,undef,undef,undef,undef,undef,undef,undef,undef,undef,undef,undef,undef,undef,undef,undef,undef,undef,undef,undef,undef,undef,undef,undef,undef,undef,undef,undef,undef,undef,undef,undef,undef,undef,undef]:=by
    have:Try.f16.ntmps=53:=by kernel_rfl
    rw[this];walk_nrm
  rw[enter_at _ Try.func16 YQ,ht];show JL (S0 (X:=X) (Sg:=Sg) Try.prog Fin EH).L (.Gj B n) _ W;refine EO ?_;refine Fp.Fz (S:=S0 (X:=X) (Sg:=Sg) Try.prog Fin EH) (b:=base 16) [] (by simp) zKR nE zKR fun EG ha=>?_;have hh:EG.heap=W.heap:=by obtain⟨τ,d,rfl⟩:=ha;rfl
  have HH:=Lib.hid (zAI hK (zAI hh hcell));clear hK hh hcell;simp only[rn0,Try.f16];gi_wp2;obtain⟨hK,hh,hcell⟩:=HH.out;clear HH;generalize hW2:World.alloc _ _=W2;have q:∀g,g<W.heap.size->W2.heap[g]?=W.heap[g]?:=fun g hg=>by rw[← hW2,← hh];rw[Below.heap_alloc _ _ _ (by simp;rw[hh];omega),Below.heap_alloc _ _ _ (by simp;rw[hh];omega),Below.heap_alloc _ _ _ (by rw[hh];omega)]
  have hz:W2.heap.size=W.heap.size+3:=by rw[← hW2];simp[hh]
  have q0:W2.heap[W.heap.size]?=some (.cells #[.slice (some ⟨pg,po,none⟩) Km.length Ga,.slice xa xn xc,.slice ya yn yc,.int .i64 u] 25 (0,0)):=by rw[← hW2,← hh];rw[Below.heap_alloc _ _ _ (by simp;omega),Below.heap_alloc _ _ _ (by simp)];exact heap_alloc_new _ _
  have q1:W2.heap[W.heap.size+1]?=some (.cells #[.iface dt dw] 57 (0,0)):=by rw[← hW2,← hh];rw[Below.heap_alloc _ _ _ (by simp)];exact TD _ _ _
  have q2:W2.heap[W.heap.size+2]?=some (.cells #[.slice none 0 0,.slice none 0 0,.int .i64 0,.bool false] 31 (0,0)):=by rw[← hW2,← hh];exact Ta _ _ _ _
  clear hW2;rw[hh];show JL (S0 (X:=X) (Sg:=Sg) Try.prog Fin EH).L (.Gj B n) _ W2;try dsimp only
  refine EO ?_;refine Fp.Fz (S:=S0 (X:=X) (Sg:=Sg) Try.prog Fin EH) (b:=base 16) [26] Wq zKR nE zKR fun Fh Lm=>?_;have hh3:Fh.heap=W2.heap:=by obtain⟨τ,d,rfl⟩:=Lm;rfl
  have RB:∀i,i<Km.length->∃a n c,n<=64/\Fh.cell? ⟨pg,po+i,none⟩=some (.slice a n c):=fun i hi=>by
    obtain⟨a,q',c,hq,hx⟩:=hcell i hi;refine⟨a,q',c,hq,?_⟩;have hlt:pg<W.heap.size:=by
      simp only[World.cell?]at hx;cases ho:W.heap[pg]? with
      | none=>rw[ho]at hx;cases hx
      | some o=>exact(zGE ho).1
    simp only[World.cell?,hh3,q pg hlt]at hx ⊢;exact hx
  have c0:Fh.cell? ⟨W.heap.size,0,none⟩=some (.slice (some ⟨pg,po,none⟩) Km.length Ga):=by simp[World.cell?,hh3,q0]
  have c1:Fh.cell? ⟨W.heap.size,1,none⟩=some (.slice xa xn xc):=by simp[World.cell?,hh3,q0]
  have c2:Fh.cell? ⟨W.heap.size,2,none⟩=some (.slice ya yn yc):=by simp[World.cell?,hh3,q0]
  have c3:Fh.cell? ⟨W.heap.size,3,none⟩=some (.int .i64 u):=by simp[World.cell?,hh3,q0]
  have HH:=Lib.hid (zAI hK (zAI hh3 (zAI q (zAI hz (zAI q0 (zAI q1 q2))))));clear hK hh hh3 hcell q hz q0 q1 q2;have HC:=Lib.hid RB;clear RB;simp only[rn1,Try.f16];gi_wp2_with (gi_at_call 26;refine(gG _ HC.out h0 h8 hu hu2).mono ?_;rintro e w1 ⟨rfl,hB⟩)
  obtain⟨hK,hh3,q,hz,q0,q1,q2⟩:=HH.out;clear HH;have hB':∀g,g<W.heap.size+3->w1.heap[g]?=W2.heap[g]?:=fun g hg=>by rw[hB.block g (by rw[hh3,hz];exact hg),hh3]
  refine hK w1 _ rfl (fun g hg=>by rw[hB' g zOM,q g hg]) (by have:=hB.size;rw[hh3,hz]at this;exact this) (by rw[hB' _ zOM];exact q0) (by rw[hB' _ zOM];exact q1) (by rw[hB' _ zOM];exact q2)
end
end
section
theorem kH:(Try.prog.info? 72).map (fun i=>(i.zero,i.size,i.bytes))=some (some (.agg #[]),0,0):=by kernel_rfl
theorem V8(w:World):(Instr.makeChan 80 (.int .i64 0)).run Try.prog w=.ok (.chan (some w.heap.size)) (w.alloc (.chan 0 #[] false 0 0 false)):=by obtain⟨i,hi,h0,h1,h2⟩:=info_parts kH;exact run_makeChan (P:=Try.prog) (t:=80) (e:=72) (dir:=.both) (i:=i) (w:=w) zKR hi .i64 0 (by decide) (by simp)
section
variable {X Sg:Type}
variable {Fin:Gb}{EH:FM Try.prog Fin}
variable {B:Nat->Bool}{W:World}{n:Nat}{K:List Item}{cs:List Frame}{ds:List Deferred}
variable {v0 v1 v2 v3 v4 v5 v6 v7 v8 v9 Aa Ab Ac Ae Af Ah Ai Aj Ak Al Am Ao Ap Ar Au Av Aw Ay Az AA AB AJ AL AO AP AQ AU AV AX AY AZ A8 A9 Ba Bb Bc Bf Bh Bj Bl Bp Bq Br:Value}
theorem Acb (hK:∀ W' co go Dm Dn,(co=W.heap.size/\go=W.heap.size+1\/co=W.heap.size+1/\go=W.heap.size)->W'.heap=(W.heap.push (.chan 0 #[] false 0 0 false)).push (.chan 0 #[] false 0 0 false)->
      JL (S0 (X:=X) (Sg:=Sg) Try.prog Fin EH).L (.Gj B n) (G ((base 16).at ⟨#[v0,v1,v2,v3,v4,v5,v6,.chan (some co),.chan (some go),v9,Aa,Ab,Ac,Ae,Af,Ah,Ai,Aj,Ak,Al,Am,Dm,Dn,Ar,Au,Av,Aw,Ay,Az,AA,AB,AJ,AL,AO,AP,AQ,AU,AV,AX,AY,AZ,A8,A9,Ba,Bb,Bc,Bf,Bh,Bj,Bl,Bp,Bq,Br],ds⟩ K) cs) W') :
    JL (S0 (X:=X) (Sg:=Sg) Try.prog Fin EH).L (.Gj B n) (G ((base 16).at ⟨#[v0,v1,v2,v3,v4,v5,v6,v7,v8,v9,Aa,Ab,Ac,Ae,Af,Ah,Ai,Aj,Ak,Al,Am,Ao,Ap,Ar,Au,Av,Aw,Ay,Az,AA,AB,AJ,AL,AO,AP,AQ,AU,AV,AX,AY,AZ,A8,A9,Ba,Bb,Bc,Bf,Bh,Bj,Bl,Bp,Bq,Br],ds⟩ (.code rn4 :: K)) cs) W:=by
  refine Fp.Fz (S:=S0 (X:=X) (Sg:=Sg) Try.prog Fin EH) (b:=base 16) [] (by simp) zKR nE zKR fun EG ha=>?_;have hh:EG.heap=W.heap:=by obtain⟨τ,d,rfl⟩:=ha;rfl
  have hm1:=OZ;have hm2:=V8;have HH:=Lib.hid (zAI hK hh);clear hK hh;dsimp only;simp only[rn4,SX,Try.f16];gi_region
  . obtain⟨hK,hh⟩:=HH.out;exact hK _ EG.heap.size (EG.heap.size+1) _ _ (.inl ⟨by rw[hh],by rw[hh]⟩) (by rw[← hh];rfl)
  . obtain⟨hK,hh⟩:=HH.out;exact hK _ (EG.heap.size+1) EG.heap.size _ _ (.inr ⟨by rw[hh],by rw[hh]⟩) (by rw[← hh];rfl)
variable {M:Md X Sg}{ρ:Rn}
theorem Ac2(WY:ρ.Bo=B)(XA:ρ.Wg=W.heap.size)(hty:ρ.ty=link.tWg)(hcg:ρ.come≠ρ.gone)(hco:∃k,W.heap[ρ.come]?=some (.chan 0 #[] false k k false))(hgo:∃k,W.heap[ρ.gone]?=some (.chan 0 #[] false k k false))(Zr:∀b,M.Sh b->b≠ρ.Wg/\ρ.Bo b=false)(hlow:Fin.b0<=ρ.come/\Fin.b0<=ρ.gone)(hK:∀W',(∀b,b<W.heap.size->W'.heap[b]?=W.heap[b]?)->W'.heap.size=W.heap.size+1->JL (S0 (X:=X) (Sg:=Sg) Try.prog Fin EH).L (.Fg M ρ [] 0 false n) (G ((base 16).at ⟨#[v0,v1,v2,v3,v4,v5,v6,v7,v8,.pointer (some ⟨ρ.Wg,0,none⟩),Aa,Ab,Ac,Ae,Af,Ah,Ai,Aj,Ak,Al,Am,Ao,Ap,Ar,Au,Av,Aw,Ay,Az,AA,AB,AJ,AL,AO,AP,AQ,AU,AV,AX,AY,AZ,A8,A9,Ba,Bb,Bc,Bf,Bh,Bj,Bl,Bp,Bq,Br],ds⟩ K) cs) W') :
   JL (S0 (X:=X) (Sg:=Sg) Try.prog Fin EH).L (.Gj B n) (G ((base 16).at ⟨#[v0,v1,v2,v3,v4,v5,v6,v7,v8,v9,Aa,Ab,Ac,Ae,Af,Ah,Ai,Aj,Ak,Al,Am,Ao,Ap,Ar,Au,Av,Aw,Ay,Az,AA,AB,AJ,AL,AO,AP,AQ,AU,AV,AX,AY,AZ,A8,A9,Ba,Bb,Bc,Bf,Bh,Bj,Bl,Bp,Bq,Br],ds⟩ (.code rn5 :: K)) cs) W:=by
 have e5:∃id ops,rn5=.region id ops false/\ops.size=1/\(∃p af ty,ops[0]?=some ⟨some 9,.alloc 87,ty,p,af,none⟩):=⟨_,_,rfl,rfl,_,_,_,rfl⟩
 obtain⟨id,ops,e5,hsz,p,af,ty,h0⟩:=e5;rw[e5];refine JL.region (l:=[0]) (by rw[hsz];rfl) fun _ hkk=>?_;cases hkk;refine J0.begin (EH:=EH) (g':=G ((base 16).at ⟨#[v0,v1,v2,v3,v4,v5,v6,v7,v8,.pointer (some ⟨ρ.Wg,0,none⟩),Aa,Ab,Ac,Ae,Af,Ah,Ai,Aj,Ak,Al,Am,Ao,Ap,Ar,Au,Av,Aw,Ay,Az,AA,AB,AJ,AL,AO,AP,AQ,AU,AV,AX,AY,AZ,A8,A9,Ba,Bb,Bc,Bf,Bh,Bj,Bl,Bp,Bq,Br],ds⟩ (.inRegion ops [] :: K)) cs) WY XA rfl (fun w hw=>?_) hcg hco hgo Zr hlow fun W' h1 h2=>?_
 . rw[stepG_value (v:=.pointer (some ⟨w.heap.size,0,none⟩)) (w':=w.alloc (.cells #[.int .u64 0,.int .u32 0] 87 (0,0))) h0 rfl nE (by unfold execOp;go_simp),listed_none (by unfold execOp;simp[go_sem])]
   rw[hw,hty];rfl
 . show JL (S0 (X:=X) (Sg:=Sg) Try.prog Fin EH).L _ _ W';refine EU stepG_region_end ?_;exact hK W' h1 h2
end
end
end Go.Proofs.Ytdkfdedgfilhbaa
end
