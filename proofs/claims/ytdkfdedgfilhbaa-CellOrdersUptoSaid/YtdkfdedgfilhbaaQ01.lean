/-
  Part 1 of the proof that CellOrders is true of every input of bulk at most 1048576.
-/
import Derived.Test.YtdkfdedgfilhbaaQ00
import Derived.Conc.TokenWalk
import Derived.Conc.Token
import Derived.Conc.CrowdSit
import Derived.StepT
import Derived.Laws.World
import Derived.Laws.Sem
import Derived.Conc.Events
set_option linter.unusedVariables false
set_option linter.unusedSectionVars false
set_option linter.unusedSimpArgs false
noncomputable section
namespace Go.LC
open Go Go.Conc
section
structure Gr(Still:Nat->Loc->Prop)(Shun:Loc->Prop)(Mem Loose:Nat->Prop)(B:Nat)(K:Nat->Prop)(t:Trace):Prop where
 clean:∀said,¬ Race said t
 known:∀i a,touchAt t i=some a->a.loc.isMemory=true->K i\/(a.write=false/\∃g,t.g? i=some g/\Loose g/\Still g a.loc)\/(Shun a.loc/\a.kind=.atomic/\¬ t.counts i)
 atom:∀i a,touchAt t i=some a->Shun a.loc->a.kind≠.plain
 wrote:∀i a,touchAt t i=some a->a.write=true->∀g,Mem g->Still g a.loc->Knows t g i
 hears:∀g,Mem g->Deaf t g=0
 seen:∀op∈t,op.act.low B
section
variable {Still:Nat->Loc->Prop}{Shun:Loc->Prop}{Mem Loose:Nat->Prop}{B h:Nat}{K K':Nat->Prop}{t u:Trace}
theorem Gr.mono{B':Nat}(H:Gr Still Shun Mem Loose B K t)(hB:B<=B'):Gr Still Shun Mem Loose B' K t:=⟨H.clean,H.known,H.atom,H.wrote,H.hears,fun op hop=>MemAct.low_mono hB (H.seen op hop)⟩
theorem Gr.fewer{Mem':Nat->Prop}(H:Gr Still Shun Mem Loose B K t)(hM:∀g,Mem' g->Mem g):Gr Still Shun Mem' Loose B K t:=⟨H.clean,H.known,H.atom,fun i a ha hw g hg=>H.wrote i a ha hw g (hM g hg),fun g hg=>H.hears g (hM g hg),H.seen⟩
theorem Gr.loosen{Loose':Nat->Prop}(H:Gr Still Shun Mem Loose B K t)(hL:∀g,Loose g->Loose' g):Gr Still Shun Mem Loose' B K t:=
 ⟨H.clean,fun i a ha hm=>(H.known i a ha hm).imp id (Or.imp (fun⟨x,g,hg,hl,hs⟩=>⟨x,g,hg,hL g hl,hs⟩) id),H.atom,H.wrote,H.hears,H.seen⟩
theorem Gr.still{Still':Nat->Loc->Prop}(H:Gr Still Shun Mem Loose B K t)(hS:∀g l,Still g l->Still' g l)(hw:∀i a,touchAt t i=some a->a.write=true->∀g,Mem g->Still' g a.loc->Still g a.loc\/Knows t g i):Gr Still' Shun Mem Loose B K t:=
 ⟨H.clean,fun i a ha hm=>(H.known i a ha hm).imp id (Or.imp (fun⟨x,g,hg,hl,hs⟩=>⟨x,g,hg,hl,hS _ _ hs⟩) id),H.atom,fun i a ha hwr g hg hs=>(hw i a ha hwr g hg hs).elim (H.wrote i a ha hwr g hg) id,H.hears,H.seen⟩
theorem Gr.shun{Shun':Loc->Prop}(H:Gr Still Shun Mem Loose B K t)(hS:∀l,Shun l->Shun' l)(hn:∀i a,touchAt t i=some a->Shun' a.loc->Shun a.loc\/a.kind≠.plain):Gr Still Shun' Mem Loose B K t:=
 ⟨H.clean,fun i a ha hm=>(H.known i a ha hm).imp id (Or.imp id fun⟨x,y⟩=>⟨hS _ x,y⟩),fun i a ha hs=>(hn i a ha hs).elim (H.atom i a ha) id,H.wrote,H.hears,H.seen⟩
theorem Gr.old_known(H:Gr Still Shun Mem Loose B K t)(hK:∀i,K i->K' i){i:Nat}{a:Touch}{x:MemOp}(hx':t[i]?=some x)(hxa:x.act.touch?=some a)(hm:a.loc.isMemory=true) :
   K' i\/(a.write=false/\∃g,(t++u).g? i=some g/\Loose g/\Still g a.loc)\/(Shun a.loc/\a.kind=.atomic/\¬ (t++u).counts i):=by
 have hlt:=lt_size_of_getElem? hx';rcases H.known i a (by rw[touchAt_of hx'];exact hxa) hm with hk|⟨p,g,hg,hl,hs⟩|⟨p,q,hc⟩
 . exact .inl (hK i hk)
 . exact .inr (.inl ⟨p,g,by rw[g?_old hlt];exact hg,hl,hs⟩)
 . exact .inr (.inr ⟨p,q,fun h=>hc ((counts_old hlt).1 h)⟩)
theorem Gr.old_hears{g:Nat}(H:Gr Still Shun Mem Loose B K t)(hu:∀op∈u,op.g=g)(hd:Mem g->Deaf (t++u) g=Deaf t g):∀g',Mem g'->Deaf (t++u) g'=0:=fun g' hg'=>by
 by_cases e:g'=g
 . subst e;exact(hd hg').trans (H.hears g' hg')
 . exact(Deaf_other t (fun x=>e x.symm) u hu).trans (H.hears g' hg')
theorem Gr.Ky(H:Gr Still Shun Mem Loose B K t){i:Nat}{a:Touch}{x:MemOp}(hx':t[i]?=some x)(hxa:x.act.touch?=some a)(hw:a.write=true){g:Nat}(hg:Mem g)(hS:Still g a.loc):Knows (t++u) g i:=
 (H.wrote i a (by rw[touchAt_of hx'];exact hxa) hw g hg hS).app u
theorem Gr.LW(H:Gr Still Shun Mem Loose B K t){i:Nat}{a:Touch}{x:MemOp}(hx':t[i]?=some x)(hxa:x.act.touch?=some a)(hS:Shun a.loc):a.kind≠.plain:=H.atom i a (by rw[touchAt_of hx'];exact hxa) hS
theorem Gr.mute{g:Nat}(H:Gr Still Shun Mem Loose B K t)(hK:∀i,K i->K' i)(hu:∀op∈u,op.g=g)(hn:∀op∈u,op.act.touch?=none)(hd:Mem g->Deaf (t++u) g=Deaf t g)(hl:∀op∈u,op.act.low B):Gr Still Shun Mem Loose B K' (t++u):=by
 refine⟨fun said=>noRace_appendMute (H.clean said) hn,fun i a ha hm=>?_,fun i a ha hS=>?_,fun i a ha hw g' hg' hS=>?_,H.old_hears hu hd,seen_app H.seen hl⟩ <;>
 . obtain⟨x,hx,hxa⟩:=touch_of ha;rcases getElem?_append_cases hx with⟨_,hx'⟩|⟨_,hxu⟩
   . first | exact H.old_known hK hx' hxa hm | exact H.LW hx' hxa hS | exact H.Ky hx' hxa hw hg' hS
   . rw[hn x hxu]at hxa;cases hxa
theorem Gr.read{g:Nat}(H:Gr Still Shun Mem Loose B K t)(hK:∀i,K i->K' i)(hg:Mem g)(hL:Loose g)(hu:∀op∈u,op.g=g)(hr:∀op∈u,∀b,op.act.touch?=some b->b.write=false/\Still g b.loc/\¬ Shun b.loc)(hd:Deaf (t++u) g=Deaf t g)(hl:∀op∈u,op.act.low B):Gr Still Shun Mem Loose B K' (t++u):=by
 refine⟨fun said=>noRace_append (H.clean said) hu fun i a ha op hop b hb hc=>?_,fun i a ha hm=>?_,fun i a ha hS=>?_,fun i a ha hw g' hg' hS=>?_,H.old_hears hu (fun _=>hd),seen_app H.seen hl⟩
 . obtain⟨hb0,hbS,_⟩:=hr op hop b hb;rcases hc.2.2.1 with x|x
   . exact H.wrote i a ha x g hg (hc.1 ▸ hbS)
   . rw[hb0]at x;cases x
 . obtain⟨x,hx,hxa⟩:=touch_of ha;rcases getElem?_append_cases hx with⟨_,hx'⟩|⟨_,hxu⟩
   . exact H.old_known hK hx' hxa hm
   . exact .inr (.inl ⟨(hr x hxu a hxa).1,g,by rw[g?_of hx,hu x hxu],hL,(hr x hxu a hxa).2.1⟩)
 . obtain⟨x,hx,hxa⟩:=touch_of ha;rcases getElem?_append_cases hx with⟨_,hx'⟩|⟨_,hxu⟩
   . exact H.LW hx' hxa hS
   . exact absurd hS (hr x hxu a hxa).2.2
 . obtain⟨x,hx,hxa⟩:=touch_of ha;rcases getElem?_append_cases hx with⟨_,hx'⟩|⟨_,hxu⟩
   . exact H.Ky hx' hxa hw hg' hS
   . rw[(hr x hxu a hxa).1]at hw;cases hw
theorem Gr.hold(H:Gr Still Shun Mem Loose B (Knows t h) t)(hLh:¬ Loose h)(hu:∀op∈u,op.g=h)(hs:∀op∈u,∀b,op.act.touch?=some b->(∀g,g≠h->Still g b.loc->b.write=false)/\(Shun b.loc->b.kind≠.plain))(hd:Mem h->Deaf (t++u) h=Deaf t h)(hl:∀op∈u,op.act.low B) :
   Gr Still Shun Mem Loose B (Knows (t++u) h) (t++u):=by
 refine⟨fun said=>noRace_append (H.clean said) hu fun i a ha op hop b hb hc=>?_,fun i a ha hm=>?_,fun i a ha hS=>?_,fun i a ha hw g hg hS=>?_,H.old_hears hu hd,seen_app H.seen hl⟩
 . rcases H.known i a ha hc.2.1 with hk | ⟨hw,g,_,hgl,hS⟩ | ⟨hS,hka,_⟩
   . exact hk
   . have hb0:=(hs op hop b hb).1 g (fun e=>hLh (e ▸ hgl)) (hc.1 ▸ hS);rcases hc.2.2.1 with x|x
     . rw[hw]at x;cases x
     . rw[hb0]at x;cases x
   . have hkb:=(hs op hop b hb).2 (hc.1 ▸ hS);obtain⟨_,_,_,hcase⟩:=hc;rw[hka]at hcase;rcases hcase with x|x|⟨_,x,_⟩
     . cases x
     . exact absurd x hkb
     . cases x
 . obtain⟨x,hx,hxa⟩:=touch_of ha;rcases getElem?_append_cases hx with⟨_,hx'⟩|⟨_,hxu⟩
   . exact H.old_known (fun i=>Knows.app u) hx' hxa hm
   . have:=knows_own hx;rw[hu x hxu]at this;exact .inl this
 . obtain⟨x,hx,hxa⟩:=touch_of ha;rcases getElem?_append_cases hx with⟨_,hx'⟩|⟨_,hxu⟩
   . exact H.LW hx' hxa hS
   . exact(hs x hxu a hxa).2 hS
 . obtain⟨x,hx,hxa⟩:=touch_of ha;rcases getElem?_append_cases hx with⟨_,hx'⟩|⟨_,hxu⟩
   . exact H.Ky hx' hxa hw hg hS
   . by_cases e:g=h
     . subst e;have:=knows_own hx;rw[hu x hxu]at this;exact this
     . rw[(hs x hxu a hxa).1 g e hS]at hw;cases hw
theorem Gr.deaf{g:Nat}(H:Gr Still Shun Mem Loose B K t)(hK:∀i,K i->K' i)(hg:¬ Mem g)(hu:∀op∈u,op.g=g)(hr:∀op∈u,∀b,op.act.touch?=some b->Shun b.loc/\b.kind=.atomic/\∀g',¬ Still g' b.loc)(hq:∀op∈u,∀d,deafStep g d op=d)(hd:0<Deaf t g)(hl:∀op∈u,op.act.low B):Gr Still Shun Mem Loose B K' (t++u):=by
 refine⟨fun said=>noRace_append (H.clean said) hu fun i a ha op hop b hb hc=>?_,fun i a ha hm=>?_,fun i a ha hS=>?_,fun i a ha hw g' hg' hS=>?_,H.old_hears hu (fun x=>absurd x hg),seen_app H.seen hl⟩
 . obtain⟨hbS,hkb,_⟩:=hr op hop b hb;have hka:=H.atom i a ha (hc.1 ▸ hbS);obtain⟨_,_,_,hcase⟩:=hc;rw[hkb]at hcase;rcases hcase with x|x|⟨_,_,x⟩
   . exact absurd x hka
   . cases x
   . cases x
 . obtain⟨x,hx,hxa⟩:=touch_of ha;rcases getElem?_append_cases hx with⟨_,hx'⟩|⟨hge,hxu⟩
   . exact H.old_known hK hx' hxa hm
   . refine .inr (.inr ⟨(hr x hxu a hxa).1,(hr x hxu a hxa).2.1,fun hcnt=>?_⟩);obtain⟨y,hy,_,hh⟩:=hcnt;have hya:y=a:=by have:touchAt (t++u) i=some y:=hy;rw[ha]at this;exact(Option.some.inj this).symm
     subst hya;rcases hh with hh|⟨g2,hg2,hdf⟩
     . exact hh (hr x hxu y hxa).2.1
     . have hgx:g2=g:=by have:=g?_of hx;rw[hg2,hu x hxu]at this;exact Option.some.inj this
       subst hgx;have hlt:=lt_size_of_getElem? hx;simp only[Array.size_append]at hlt;have:=deaf_quiet (t:=t) hq (i-t.size) zOM;rw[show t.size+(i-t.size)=i by omega,hdf]at this;omega
 . obtain⟨x,hx,hxa⟩:=touch_of ha;rcases getElem?_append_cases hx with⟨_,hx'⟩|⟨_,hxu⟩
   . exact H.LW hx' hxa hS
   . rw[(hr x hxu a hxa).2.1];simp
 . obtain⟨x,hx,hxa⟩:=touch_of ha;rcases getElem?_append_cases hx with⟨_,hx'⟩|⟨_,hxu⟩
   . exact H.Ky hx' hxa hw hg' hS
   . exact absurd hS ((hr x hxu a hxa).2.2 g')
theorem Gr.join(H:Gr Still Shun Mem Loose B (Knows t h) t)(h0:Deaf t h=0)(hmem:∀g l,Still g l->l.isMemory=true/\¬ Shun l):Gr Still Shun (fun g=>Mem g\/g=h) Loose B (Knows t h) t:=
 ⟨H.clean,H.known,H.atom,fun i a ha hw g hg hS=>by
  rcases hg with hg|rfl
  . exact H.wrote i a ha hw g hg hS
  . rcases H.known i a ha (hmem _ _ hS).1 with hk | ⟨hr,_⟩ | ⟨hs,_⟩
    . exact hk
    . rw[hw]at hr;cases hr
    . exact absurd hs (hmem _ _ hS).2,fun g hg=>hg.elim (H.hears g) fun e=>e ▸ h0,H.seen⟩
theorem ZN{h j:Nat}(hh:Deaf t h=0)(hj:Deaf t j=0)(fh:FuncId)(ph:String)(fj:FuncId)(pj:String)(c k cap:Nat){i:Nat}(hk:Knows t h i):Knows (t++met h j fh ph fj pj c k cap) j i:=by
 have e0:(t++met h j fh ph fj pj c k cap)[t.size]?=some { g:=h,fn:=fh,pos:=ph,act:=.send c k }:=by simp[met]
 have e3:(t++met h j fh ph fj pj c k cap)[t.size+3]?=some { g:=j,fn:=fj,pos:=pj,act:=.recvDone c k }:=by simp[met]
 have edge:HappensBefore (t++met h j fh ph fj pj c k cap) t.size (t.size+3):=
  Relation.TransGen.single (.inr ⟨.handOver (act?_of e0) (act?_of e3),⟨h,g?_of e0,by rw[deaf_old (Nat.le_refl _)];exact hh⟩,⟨j,g?_of e3,by rw[deaf_quiet (met_quiet _ _ _ _ _ _ _ _ _ j) 3 (by simp[met])];exact hj⟩⟩)
 exact⟨t.size+3,_,e3,rfl,.inr ((hk.hb_new (Nat.le_refl _) e0 rfl).trans edge)⟩
theorem Gr.give{j:Nat}(H:Gr Still Shun Mem Loose B (Knows t h) t)(hh:Mem h)(hj:Mem j)(fh:FuncId)(ph:String)(fj:FuncId)(pj:String){c:Nat}(k cap:Nat)(hc:c<B) :
   Gr Still Shun Mem (fun g=>Loose g/\g≠j) B (Knows (t++met h j fh ph fj pj c k cap) j) (t++met h j fh ph fj pj c k cap):=by
 have hn:=met_mute h j fh ph fj pj c k cap;have hq:=met_quiet h j fh ph fj pj c k cap;refine⟨fun said=>noRace_appendMute (H.clean said) hn,fun i a ha hm=>?_,fun i a ha hS=>?_,fun i a ha hw g hg hS=>?_,fun g hg=>(Deaf_quiet (hq g)).trans (H.hears g hg),seen_app H.seen fun op hop=>?_⟩
 . obtain⟨x,hx,hxa⟩:=touch_of ha;rcases getElem?_append_cases hx with⟨hi,hx'⟩|⟨_,hxu⟩
   . rcases H.known i a (by rw[touchAt_of hx'];exact hxa) hm with hk | ⟨p,g,hg,hl,hs⟩ | ⟨p,q,hcn⟩
     . exact .inl (ZN (H.hears h hh) (H.hears j hj) fh ph fj pj c k cap hk)
     . by_cases e:g=j
       . subst e;have:=knows_own hx;rw[show x.g=g from by have:=g?_of hx';rw[hg]at this;exact(Option.some.inj this).symm]at this;exact .inl this
       . exact .inr (.inl ⟨p,g,by rw[g?_old hi];exact hg,⟨hl,e⟩,hs⟩)
     . exact .inr (.inr ⟨p,q,fun h=>hcn ((counts_old hi).1 h)⟩)
   . rw[hn x hxu]at hxa;cases hxa
 . obtain⟨x,hx,hxa⟩:=touch_of ha;rcases getElem?_append_cases hx with⟨_,hx'⟩|⟨_,hxu⟩
   . exact H.LW hx' hxa hS
   . rw[hn x hxu]at hxa;cases hxa
 . obtain⟨x,hx,hxa⟩:=touch_of ha;rcases getElem?_append_cases hx with⟨_,hx'⟩|⟨_,hxu⟩
   . exact H.Ky hx' hxa hw hg hS
   . rw[hn x hxu]at hxa;cases hxa
 . simp only[met,List.mem_toArray,List.mem_cons,List.not_mem_nil,or_false]at hop;rcases hop with rfl|rfl|rfl|rfl<;>exact hc
theorem Gr.hire{c:Nat}(H:Gr Still Shun Mem Loose B (Knows t h) t)(hh:Mem h)(hc0:Deaf t c=0)(hSc:∀l,¬ Still c l)(fh:FuncId)(ph:String)(fc:FuncId) :
   Gr Still Shun (fun g=>Mem g\/g=c) Loose B (Knows (t++#[{ g:=h,fn:=fh,pos:=ph,act:=.go c },{ g:=c,fn:=fc,pos:=ph,act:=.start }]) c) (t++#[{ g:=h,fn:=fh,pos:=ph,act:=.go c },{ g:=c,fn:=fc,pos:=ph,act:=.start }]):=by
 generalize hu:(#[{ g:=h,fn:=fh,pos:=ph,act:=.go c },{ g:=c,fn:=fc,pos:=ph,act:=.start }]:Trace)=u;have hn:∀op∈u,op.act.touch?=none:=by intro op hop;subst hu;simp only[List.mem_toArray,List.mem_cons,List.not_mem_nil,or_false]at hop;rcases hop with rfl|rfl<;>rfl
 have hq:∀g,∀op∈u,∀d,deafStep g d op=d:=by intro g op hop d;subst hu;simp only[List.mem_toArray,List.mem_cons,List.not_mem_nil,or_false]at hop;rcases hop with rfl|rfl<;>rfl
 have e0:(t++u)[t.size]?=some { g:=h,fn:=fh,pos:=ph,act:=.go c }:=by subst hu;simp
 have e1:(t++u)[t.size+1]?=some { g:=c,fn:=fc,pos:=ph,act:=.start }:=by subst hu;simp
 have edge:HappensBefore (t++u) t.size (t.size+1):=
   Relation.TransGen.single (.inr ⟨.spawn (act?_of e0) (act?_of e1) (g?_of e1),⟨h,g?_of e0,by rw[deaf_old (Nat.le_refl _)];exact H.hears h hh⟩,⟨c,g?_of e1,by rw[deaf_quiet (hq c) 1 (by subst hu;simp)];exact hc0⟩⟩)
 refine⟨fun said=>noRace_appendMute (H.clean said) hn,fun i a ha hm=>?_,fun i a ha hS=>?_,fun i a ha hw g hg hS=>?_,fun g hg=>(Deaf_quiet (hq g)).trans (hg.elim (H.hears g) fun e=>e ▸ hc0),seen_app H.seen fun op hop=>?_⟩
 . obtain⟨x,hx,hxa⟩:=touch_of ha;rcases getElem?_append_cases hx with⟨hi,hx'⟩|⟨_,hxu⟩
   . rcases H.known i a (by rw[touchAt_of hx'];exact hxa) hm with hk | ⟨p,g,hg,hl,hs⟩ | ⟨p,q,hcn⟩
     . exact .inl ⟨t.size+1,_,e1,rfl,.inr ((hk.hb_new (Nat.le_refl _) e0 rfl).trans edge)⟩
     . exact .inr (.inl ⟨p,g,by rw[g?_old hi];exact hg,hl,hs⟩)
     . exact .inr (.inr ⟨p,q,fun h=>hcn ((counts_old hi).1 h)⟩)
   . rw[hn x hxu]at hxa;cases hxa
 . obtain⟨x,hx,hxa⟩:=touch_of ha;rcases getElem?_append_cases hx with⟨_,hx'⟩|⟨_,hxu⟩
   . exact H.LW hx' hxa hS
   . rw[hn x hxu]at hxa;cases hxa
 . obtain⟨x,hx,hxa⟩:=touch_of ha;rcases getElem?_append_cases hx with⟨_,hx'⟩|⟨_,hxu⟩
   . rcases hg with hg | rfl
     . exact H.Ky hx' hxa hw hg hS
     . exact absurd hS (hSc _)
   . rw[hn x hxu]at hxa;cases hxa
 . subst hu;simp only[List.mem_toArray,List.mem_cons,List.not_mem_nil,or_false]at hop;rcases hop with rfl|rfl<;>trivial
theorem Gr.toPast(H:Gr Still Shun Mem Loose B (Knows t 0) t)(h0:Mem 0)(hL:∀g,¬ Loose g):Past Shun B t:=by
 refine⟨H.clean,fun i a ha hm=>?_,fun i g hg hne hc=>?_,H.hears 0 h0,H.seen⟩
 . rcases H.known i a ha hm with hk | ⟨_,g,_,hl,_⟩ | ⟨p,q,_⟩
   . exact .inl hk
   . exact absurd hl (hL g)
   . exact .inr ⟨p,q⟩
 . obtain⟨x,hx,hm,hh⟩:=id hc;rcases H.known i x hx hm with hk|⟨_,g,_,hl,_⟩|⟨_,_,hn⟩
   . obtain⟨q,z,h1,h2,h3⟩:=hk;rcases h3 with rfl|h3
     . have:=g?_of h1;rw[hg,h2]at this;exact absurd (Option.some.inj this) hne
     . exact⟨q,by rw[g?_of h1,h2],h3⟩
   . exact absurd hl (hL g)
   . exact absurd hc hn
end
end
section
section
variable {P:Program}{gs:Array Goroutine}{w w₁:World}{sl:Option (Nat × Nat)}{i j k kk:Nat}{g g₂ gj:Goroutine}{es:Array Event}{c cap s:Nat}{buf:Array Value}{tm closed:Bool}{v z zj:Value}{blocking:Bool}{shape shj:CommShape}{cs cases:Array CommCase}
theorem Q9(hi:gs[i]?=some g)(h:stepG P (i==0) g w=.comm g₂ cases blocking shape w₁ es)(hk:cases[k]?=some (scase c v z))(ho:∀(m:Nat) (c':CommCase),m≠k->cases[m]?=some c'->NoWays w₁ (gs.setIfInBounds i ph) c')(hc:w₁.heap[c]?=some (.chan cap buf false s s tm))(hij:j≠i)(hj:gs[j]?=some (parked gj cs shj))(hkk:cs[kk]?=some (rcase c zj))(hp:partners (gs.setIfInBounds i ph) c false=[(j,kk)]) :
   runT P (crowd gs w sl) i=(.next (crowd ((gs.setIfInBounds j (gj.finishComm P cs shj kk v true)).setIfInBounds i (g₂.finishComm P cases shape k undef false)) (w₁.setChan c cap buf false (s+1) (s+1) tm) sl),
    MemOp.ofEvents i g.frame.fn g.frame.place es++met i j g₂.frame.fn g₂.frame.place gj.frame.fn gj.frame.place c s cap):=by
 have hw:ways w₁ (gs.setIfInBounds i ph) (scase c v z)=[.partner j kk]:=by simp[ways,scase,hc,hp]
 have hj':=stand_get (i:=i) hij hj;have hfp:=finishPartner_at P (gs.setIfInBounds i ph) hj' (cs:=cs) (sh:=shj) rfl kk v;have hgd:(gs.setIfInBounds i ph).getD j default=parked gj cs shj:=by rw[Array.getD_eq_getD_getElem?,hj'];rfl
 rw[runT_crowd_comm hi h];unfold communicate;simp only[ready_one hk (by rw[hw];simp) ho,hw];rw[if_neg]
 . simp[choose,Sem.run,Question.forced,bind,Sem.bind,pure,scase,crowd,hc,hfp,hgd,set_stand2,finishComm_parked,rcase,parked,World.setChan,hkk,met];rfl
 . rw[Bool.not_eq_true];exact any_ill (made_of_one hk (made_send v z hc) ho)
theorem QK(hi:gs[i]?=some g)(h:stepG P (i==0) g w=.comm g₂ cases blocking shape w₁ es)(hk:cases[k]?=some (rcase c z))(ho:∀(m:Nat) (c':CommCase),m≠k->cases[m]?=some c'->NoWays w₁ (gs.setIfInBounds i ph) c')(hc:w₁.heap[c]?=some (.chan cap #[] closed s s tm))(hij:j≠i)(hj:gs[j]?=some (parked gj cs shj))(hkk:cs[kk]?=some (scase c v zj))(hp:partners (gs.setIfInBounds i ph) c true=[(j,kk)]) :
   runT P (crowd gs w sl) i=(.next (crowd ((gs.setIfInBounds j (gj.finishComm P cs shj kk undef false)).setIfInBounds i (g₂.finishComm P cases shape k v true)) (w₁.setChan c cap #[] closed (s+1) (s+1) tm) sl),
    MemOp.ofEvents i g.frame.fn g.frame.place es++met j i gj.frame.fn gj.frame.place g₂.frame.fn g₂.frame.place c s cap):=by
 have hw:ways w₁ (gs.setIfInBounds i ph) (rcase c z)=[.partner j kk]:=by simp[ways,rcase,hc,hp]
 have hj':=stand_get (i:=i) hij hj;have hfp:=finishPartner_at P (gs.setIfInBounds i ph) hj' (cs:=cs) (sh:=shj) rfl kk undef;have hgd:(gs.setIfInBounds i ph).getD j default=parked gj cs shj:=by rw[Array.getD_eq_getD_getElem?,hj'];rfl
 have hov:offeredValue (gs.setIfInBounds i ph) j kk=v:=by simp[offeredValue,hj',parked,hkk,scase]
 rw[runT_crowd_comm hi h];unfold communicate;simp only[ready_one hk (by rw[hw];simp) ho,hw];rw[if_neg]
 . simp[choose,Sem.run,Question.forced,bind,Sem.bind,pure,rcase,crowd,hc,hfp,hgd,hov,set_stand2,finishComm_parked,scase,parked,World.setChan,hkk,met];rfl
 . rw[Bool.not_eq_true];exact any_ill (made_of_one hk (made_recv z hc) ho)
end
end
end Go.LC
namespace Go.LC
open Go Go.Conc
open Go.ConcN (WgLive RW AtK1 AtD1 AtD2 AtD3 AtD4)
open Go.ConcR (KK wgBlock WgAt stA smA rd wr mk Payload DC0)
section
instance xR:Payload:=⟨0⟩
section
variable (P:Program)(ty:TypeId)(Wg:Nat)
abbrev RX:World->World->Prop:=RW ty Wg Wg 3 0 5
theorem Mw{w w₁:World}(h:WgLive ty Wg w)(h₁:WgLive ty Wg w₁):RX ty Wg w w₁:=by
 have qg:∀{w:World},WgLive ty Wg w->w.cell? ⟨Wg,5,none⟩=none:=by rintro w ⟨st,sm,h⟩;unfold WgAt wgBlock at h;simp[World.cell?,h]
 refine⟨fun b hb=>absurd hb (Nat.not_lt_zero _),fun _=>h₁,fun⟨cs,hc,hs⟩=>?_,(qg h₁).trans (qg h).symm⟩;obtain⟨st,sm,h⟩:=h;unfold WgAt wgBlock at h;rw[h]at hc;injection hc with hc
 injection hc with e1
 subst e1;simp at hs
def Lr(g:Goroutine)(w:World):Prop:=
 g.status=.running/\∃g',stepG P false g w=.go g' w #[mk (.releaseMerge (stA Wg))]/\∃m,Goes P false (RX ty Wg) DC0 (AtK1 P ty Wg Wg 3 0 6) m g' w
inductive Fs:Nat->Nat->Nat->Goroutine->World->Prop
 | r0 {m:Nat} {g:Goroutine} {w:World}:Goes P false (RX ty Wg) DC0 (Lr P ty Wg) m g w->Fs 7 m 0 g w
 | k1 {m:Nat} {g:Goroutine} {w:World}:Goes P false (RX ty Wg) DC0 (AtK1 P ty Wg Wg 3 0 6) m g w->Fs 6 m 0 g w
 | d1 {m:Nat} {g:Goroutine} {w:World}:Goes P false (RX ty Wg) DC0 (AtD1 P ty Wg Wg 3 0 6) m g w->Fs 5 m 1 g w
 | d2 {m:Nat} {g:Goroutine} {w:World}:Goes P false (RX ty Wg) DC0 (AtD2 P ty Wg Wg 3 0 6) m g w->Fs 4 m 1 g w
 | d3 {m:Nat} {g:Goroutine} {w:World}:Goes P false (RX ty Wg) DC0 (AtD3 P ty Wg Wg 3 0 6) m g w->Fs 3 m 1 g w
 | d4 {m:Nat} {g:Goroutine} {w:World}:Goes P false (RX ty Wg) DC0 (AtD4 P ty Wg) m g w->Fs 2 m 1 g w
 | quit {q d:Nat} {g:Goroutine} {w:World}:QuitsD P q d g->Fs 1 q d g w
end
section
variable {P:Program}{ty:TypeId}{Wg:Nat}{s m d:Nat}{g:Goroutine}{w w₁:World}
theorem FT(w:World):RX ty Wg w w:=⟨fun _ _ _ _=>rfl,id,id,rfl⟩
theorem KL:∀a b c,RX ty Wg a b->RX ty Wg b c->RX ty Wg a c:=fun _ _ _ h h'=>
 ⟨fun b hb=>absurd hb (Nat.not_lt_zero _),h'.live ∘ h.live,h'.pay ∘ h.pay,h'.cell.trans h.cell⟩
theorem Fs.rely(h:Fs P ty Wg s m d g w)(hr:RX ty Wg w w₁):Fs P ty Wg s m d g w₁:=by
 cases h with
 | r0 h=>exact .r0 (Goes.rely KL h hr)
 | k1 h=>exact .k1 (Goes.rely KL h hr)
 | d1 h=>exact .d1 (Goes.rely KL h hr)
 | d2 h=>exact .d2 (Goes.rely KL h hr)
 | d3 h=>exact .d3 (Goes.rely KL h hr)
 | d4 h=>exact .d4 (Goes.rely KL h hr)
 | quit h=>exact .quit h
theorem Fs.status(h:Fs P ty Wg s m d g w):g.status=.running\/g.status=.finished:=by
 cases h with
 | r0 h=>exact .inl (Goes.running (fun _ _ x=>x.1) w (FT w) h)
 | k1 h=>exact .inl (Goes.running (fun _ _ x=>x.1) w (FT w) h)
 | d1 h=>exact .inl (Goes.running (fun _ _ x=>x.1) w (FT w) h)
 | d2 h=>exact .inl (Goes.running (fun _ _ x=>x.1) w (FT w) h)
 | d3 h=>exact .inl (Goes.running (fun _ _ x=>x.1) w (FT w) h)
 | d4 h=>exact .inl (Goes.running (fun _ _ x=>x.1) w (FT w) h)
 | quit h=>exact h.status
def cn(s:Nat):Nat:=if 5<=s then 1 else 0
def pI(Wg d:Nat)(es:Array Event):Prop:=
 (∀e∈es,(MemAct.ofEvent e).touch?=none/\(MemAct.ofEvent e).low (Wg+1))\/(0<d/\(∀e∈es,e=rd (stA Wg)\/e=wr (stA Wg)))
theorem Od(d:Nat):pI Wg d #[]:=.inl (by simp)
theorem Gy{R:World->World->Prop}{D:World->World->Array Event->Prop}{Stop:Goroutine->World->Prop}(hR:R w w){n:Nat}(h:Goes P false R D Stop n g w) :
  Stop g w\/∃n' g' w' es,n=n'+1/\stepG P false g w=.go g' w' es/\D w w' es/\Goes P false R D Stop n' g' w':=by
 cases n with
 | zero=>exact .inl (h w hR)
 | succ n=>
  rcases h with h|⟨_,h⟩
  . exact .inl (h w hR)
  . have:=h w hR;cases hgo:stepG P false g w with
    | go g' w' es=>rw[hgo,goes_go]at this;exact .inr ⟨n,g',w',es,rfl,rfl,this.1,this.2⟩
    | _=>rw[hgo]at this;exact this.elim
theorem Fs.Z6(h:Fs P ty Wg s m d g w)(hrun:g.status=.running){v:Nat}(hw:WgAt ty Wg w (v*KK) 0)(hv:5<=s->1<=v)(hlt:v<2147483648)(hs:s=7\/s=6\/s=5\/s=1) :
  ∃(g':Goroutine) (w':World) (es:Array Event) (s' m' v':Nat),stepG P false g w=.go g' w' es/\Fs P ty Wg s' m' (deafBehind d es) g' w'/\(s'<s\/(s'=s/\m'<m))/\(s'=7\/s'=6\/s'=5\/s'=1)/\WgAt ty Wg w' (v'*KK) 0/\v'+cn s=v+cn s'/\
    (w'=w\/∃x,w'=w.setCell (stA Wg) (.int .u64 x))/\pI Wg d es:=by
 have dc:∀{w':World} {es:Array Event},DC0 w w' es->w'=w/\es=#[]:=fun h=>⟨h.1,h.2⟩
 cases h with
 | r0 h=>
  rcases Gy (FT w) h with⟨_,g',hst,m',hG⟩|⟨n',g',w',es,rfl,hst,hD,hG⟩
  . refine⟨g',w,_,6,m',v,hst,?_,.inl zOM,.inr (.inl rfl),hw,rfl,.inl rfl,.inl fun e he=>?_⟩
    . exact .k1 hG
    . simp only[List.mem_toArray,List.mem_singleton,List.mem_cons,List.not_mem_nil,or_false]at he;subst he;exact⟨rfl,Nat.lt_succ_self _⟩
  . obtain⟨rfl,rfl⟩:=dc hD;exact⟨g',w',_,7,n',v,hst,.r0 hG,.inr ⟨rfl,by omega⟩,.inl rfl,hw,rfl,.inl rfl,Od _⟩
 | k1 h=>
  rcases Gy (FT w) h with⟨_,g',hst,m',hG⟩|⟨n',g',w',es,rfl,hst,hD,hG⟩
  . refine⟨g',w,_,5,m',v,hst,.d1 hG,.inl zOM,.inr (.inr (.inl rfl)),hw,rfl,.inl rfl,.inl fun e he=>?_⟩;simp only[List.mem_toArray,List.mem_singleton,List.mem_cons,List.not_mem_nil,or_false]at he;subst he;exact⟨rfl,trivial⟩
  . obtain⟨rfl,rfl⟩:=dc hD;exact⟨g',w',_,6,n',v,hst,.k1 hG,.inr ⟨rfl,by omega⟩,.inr (.inl rfl),hw,rfl,.inl rfl,Od _⟩
 | d1 h=>
  rcases Gy (FT w) h with⟨_,hadd⟩|⟨n',g',w',es,rfl,hst,hD,hG⟩
  . obtain⟨v',rfl⟩:∃v',v=v'+1:=⟨v-1,by have:=hv zOM;omega⟩
    obtain⟨g',hst,_,hq⟩:=hadd v' 0 zOM zOM (by simpa using hw);obtain⟨q,hq⟩:=hq zOM;refine⟨g',_,_,1,q,v',hst,.quit hq,.inl zOM,.inr (.inr (.inr rfl)),?_,rfl,.inr ⟨_,rfl⟩,.inr ⟨by omega,fun e he=>?_⟩⟩
    . have:=hw.setSt ((v':Int)*KK+((0:Nat):Int));simpa using this
    . simpa using he
  . obtain⟨rfl,rfl⟩:=dc hD;exact⟨g',w',_,5,n',v,hst,.d1 hG,.inr ⟨rfl,by omega⟩,.inr (.inr (.inl rfl)),hw,rfl,.inl rfl,Od _⟩
 | d2 h=>omega
 | d3 h=>omega
 | d4 h=>omega
 | quit h=>
  cases m with
  | zero=>rw[h.1]at hrun;cases hrun
  | succ m=>
    rcases h with⟨hf,_⟩|⟨_,g',es,hm,hst,hq⟩
    . rw[hf]at hrun;cases hrun
    . exact⟨g',w,es,1,m,v,hst w,.quit hq,.inr ⟨rfl,by omega⟩,.inr (.inr (.inr rfl)),hw,rfl,.inl rfl,.inl fun e he=>⟨touch_mute (hm e he),low_mute (hm e he) _⟩⟩
end
end
end Go.LC
namespace Go.LC
open Go Go.Conc
open Go.ConcN (WgLive sumTo upd sumTo_upd upd_ne upd_same)
open Go.ConcR (KK wgBlock WgAt stA smA rd wr mk)
section
inductive Fv | fin (s m d:Nat)
 | seat (st:Seat) (n:Nat)
def Fv.stage:Fv->Nat
 | .fin s _ _=>s
 | .seat _ _=>0
def Fv.fuel:Fv->Nat
 | .fin _ m _=>m
 | .seat _ n=>n
def M1(n:Nat)(role:Nat->Fv):Nat:=sumTo n fun i=>(role i).stage
def M2(n:Nat)(role:Nat->Fv):Nat:=sumTo n fun i=>(role i).fuel
def Less(n:Nat)(r' r:Nat->Fv):Prop:=M1 n r'<M1 n r\/(M1 n r'=M1 n r/\M2 n r'<M2 n r)
theorem Hu{n i:Nat}{role:Nat->Fv}{r':Fv}(hi:i<n)(h:r'.stage<(role i).stage\/(r'.stage=(role i).stage/\r'.fuel<(role i).fuel)):Less n (upd role i r') role:=by have h1:=sumTo_upd role r' Fv.stage hi;have h2:=sumTo_upd role r' Fv.fuel hi;unfold Less M1 M2;omega
def IX(Wg:Nat)(w w':World):Prop:=w'=w\/∃x,w'=w.setCell (stA Wg) (.int .u64 x)
theorem IX.refl(Wg:Nat)(w:World):IX Wg w w:=.inl rfl
theorem IX.size{Wg:Nat}{w w':World}(h:IX Wg w w'):w'.heap.size=w.heap.size:=by
 rcases h with rfl|⟨x,rfl⟩
 . rfl
 . simp[World.setCell]
theorem IX.other{Wg:Nat}{w w':World}(h:IX Wg w w'){b:Nat}(hb:b≠Wg):w'.heap[b]?=w.heap[b]?:=by
 rcases h with rfl|⟨x,rfl⟩
 . rfl
 . simp[World.setCell,stA,Array.getElem?_modify,Ne.symm hb]
structure Env(Wg:Nat)(K:Nat->World->Prop)(Still:Nat->Loc->Prop)(Shun:Loc->Prop):Prop where
 blk:∀i w w',(∀b,b≠Wg->w'.heap[b]?=w.heap[b]?)->K i w->K i w'
 shun:Shun (.cell (stA Wg))
 apart:∀g l,Still g l->¬ Shun l
theorem Env.kat{Wg:Nat}{K:Nat->World->Prop}{Still:Nat->Loc->Prop}{Shun:Loc->Prop}(E:Env Wg K Still Shun)(i:Nat)(w:World)(d:Nat)(h:K i w):K i (w.at d):=E.blk i w _ (fun _ _=>rfl) h
theorem Env.kwg{Wg:Nat}{K:Nat->World->Prop}{Still:Nat->Loc->Prop}{Shun:Loc->Prop}(E:Env Wg K Still Shun)(i:Nat)(w w':World)(hw:IX Wg w w')(h:K i w):K i w':=E.blk i w _ (fun _ hb=>hw.other hb) h
structure Ol(P:Program)(ty:TypeId)(Wg:Nat)(K:Nat->World->Prop)(Still:Nat->Loc->Prop)(Bd:Nat->Nat)(Shun:Loc->Prop)(Quiet:Nat->Prop)(Sp Mem Loose:Nat->Prop)(Kf:Trace->Nat->Prop)(role:Nat->Fv)(live:Nat->Nat)(ex:Nat)(T:Trace)(gs:Array Goroutine)(w:World):Prop where
 Ie:∀i g s m d,¬ Sp i->gs[i]?=some g->role i=.fin s m d->0<i/\Fs P ty Wg s m d g w/\Deaf T i=d/\¬ Mem i/\live i=cn s/\(s=7\/s=6\/s=5\/s=1)
 seats:∀i g st n,¬ Sp i->gs[i]?=some g->role i=.seat st n->Sits P (i==0) (K i) (Still i) (Bd i) st n g/\Loose i
 seat:∀i st n,role i=.seat st n->i<gs.size/\st.Wf/\Mem i/\Bd i<=w.heap.size/\∀c,st.has c->∃k,w.heap[c]?=some (.chan 0 #[] false k k false)
 own:∀i i' st st' n n' c,role i=.seat st n->role i'=.seat st' n'->st.has c->st'.has c->i=i'\/Quiet c
 above:∀j,gs.size<=j->Deaf T j=0
 past:Gr Still Shun Mem Loose w.heap.size (Kf T) T
 keep:∀i st n,role i=.seat st n->K i w
 wg:WgAt ty Wg w ((sumTo gs.size live+ex:Nat)*KK) 0
 few:sumTo gs.size live+ex<2147483648
 one:∀i,live i<=1
section
variable {P:Program}{ty:TypeId}{Wg:Nat}{K:Nat->World->Prop}{Still:Nat->Loc->Prop}{Bd:Nat->Nat}{Shun:Loc->Prop}{Quiet Sp Mem Loose:Nat->Prop}{Kf:Trace->Nat->Prop}{role:Nat->Fv}{live:Nat->Nat}{ex:Nat}{T:Trace}{gs:Array Goroutine}{w:World}
theorem Ol.mY(C:Ol P ty Wg K Still Bd Shun Quiet Sp Mem Loose Kf role live ex T gs w):Wg<w.heap.size:=(zGE C.wg).1
theorem Ny{w':World}(hw:IX Wg w w')(hlive:WgLive ty Wg w){c k:Nat}(hc:w.heap[c]?=some (.chan 0 #[] false k k false)):w'.heap[c]?=some (.chan 0 #[] false k k false):=by
 have:c≠Wg:=by rintro rfl;obtain⟨st,sm,h⟩:=hlive;unfold WgAt wgBlock at h;rw[h]at hc;cases hc
 rw[hw.other this];exact hc
theorem Ol.fixed(E:Env Wg K Still Shun)(C:Ol P ty Wg K Still Bd Shun Quiet Sp Mem Loose Kf role live ex T gs w){w':World}(hw:IX Wg w w'){x:Nat}{y:Goroutine}(hx:¬ Sp x)(hy:gs[x]?=some y):y.again w'=y:=by
 cases e:role x with
 | fin s m d=>exact again_of_running (C.Ie x y s m d hx hy e).2.1.status w'
 | seat st n=>
  obtain⟨hS,_⟩:=C.seats x y st n hx hy e;obtain⟨_,hwf,_,_,hc⟩:=C.seat x st n e;exact Sits.again (E.kwg _ _ _ hw (C.keep x st n e)) hS hwf fun c hc'=>by obtain⟨k,hk⟩:=hc c hc';exact⟨_,_,_,_,_,Ny hw ⟨_,_,C.wg⟩ hk⟩
theorem Ol.noSend(C:Ol P ty Wg K Still Bd Shun Quiet Sp Mem Loose Kf role live ex T gs w){x:Nat}{y:Goroutine}(hx:¬ Sp x)(hy:gs[x]?=some y)(c:Nat):offersAt y c true=[]:=by
 cases e:role x with
 | fin s m d=>exact offersAt_of_not_blocked (fun hb=>by rcases(C.Ie x y s m d hx hy e).2.1.status with z | z<;>rw[z]at hb<;>cases hb) c true
 | seat st n=>
  obtain⟨hS,_⟩:=C.seats x y st n hx hy e;rcases hS with⟨k,w₀,hq,hg⟩|⟨_,_,g₂,rfl,_⟩
  . have:=(Sits.status (C.keep x st n e) (.inl ⟨k,w₀,hq,hg⟩)).elim (·.1) (fun z=>by omega);exact offersAt_of_not_blocked (fun hb=>by rw[this]at hb;cases hb) c true
  . exact offersAt_parked_sends (fun cc hcc=>by obtain⟨c',z',rfl⟩:=(C.seat x st n e).2.1.recvs cc hcc;rfl) _
theorem Ol.uf(C:Ol P ty Wg K Still Bd Shun Quiet Sp Mem Loose Kf role live ex T gs w){x:Nat}{y:Goroutine}(hx:¬ Sp x)(hy:gs[x]?=some y){c:Nat}(hc:∀st n,role x=.seat st n->¬ st.has c):offersAt y c false=[]:=by
 cases e:role x with
 | fin s m d=>exact offersAt_of_not_blocked (fun hb=>by rcases(C.Ie x y s m d hx hy e).2.1.status with z | z<;>rw[z]at hb<;>cases hb) c false
 | seat st n=>
  obtain⟨hS,_⟩:=C.seats x y st n hx hy e;rcases hS with⟨k,w₀,hq,hg⟩|⟨_,_,g₂,rfl,_⟩
  . have:=(Sits.status (C.keep x st n e) (.inl ⟨k,w₀,hq,hg⟩)).elim (·.1) (fun z=>by omega);exact offersAt_of_not_blocked (fun hb=>by rw[this]at hb;cases hb) c false
  . refine offersAt_parked_off (fun cc hcc hch=>?_) false;obtain⟨c',z',rfl⟩:=(C.seat x st n e).2.1.recvs cc hcc;simp only[rcase,Value.chan.injEq,Option.some.injEq]at hch;subst hch;exact hc st n e (Seat.has_of_mem hcc)
theorem Ol.put(E:Env Wg K Still Shun)(C:Ol P ty Wg K Still Bd Shun Quiet Sp Mem Loose Kf role live ex T gs w){i J2:Nat}{g':Goroutine}{r':Fv}{ops:Trace}{gs':Array Goroutine}{w':World}(hw:IX Wg w w')(hlt:i<gs.size)(hsp:¬ Sp i)(hsz:gs'.size=gs.size)(hother:∀x,x≠i->gs'[x]?=gs[x]?)(hself:gs'[i]?=some g')(hops:∀op∈ops,op.g=i)(hfin:∀s m d,r'=.fin s m d->0<i/\Fs P ty Wg s m d g' w'/\Deaf (T++ops) i=d/\¬ Mem i/\J2=cn s/\(s=7\/s=6\/s=5\/s=1))(QI:∀st n,r'=.seat st n->Sits P (i==0) (K i) (Still i) (Bd i) st n g'/\Loose i/\∃n',role i=.seat st n')(hpast:Gr Still Shun Mem Loose w.heap.size (Kf (T++ops)) (T++ops))(hwg:WgAt ty Wg w' ((sumTo gs.size (upd live i J2)+ex:Nat)*KK) 0)(Qe:sumTo gs.size (upd live i J2)+ex<2147483648)(hlv1:J2<=1) :
   Ol P ty Wg K Still Bd Shun Quiet Sp Mem Loose Kf (upd role i r') (upd live i J2) ex (T++ops) gs' w':=by
 have hlive:WgLive ty Wg w:=⟨_,_,C.wg⟩
 have uO:WgLive ty Wg w':=⟨_,_,hwg⟩
 have hD:∀x,x≠i->Deaf (T++ops) x=Deaf T x:=fun x hx=>Deaf_other T (fun z=>hx z.symm) ops hops;have old:∀{y:Nat} {st:Seat} {n:Nat},upd role i r' y=.seat st n->∃n',role y=.seat st n':=fun{y st n} e=>by
   by_cases ex:y=i
   . subst ex;rw[upd_same]at e;exact(QI st n e).2.2
   . rw[upd_ne role _ ex]at e;exact⟨n,e⟩
 refine⟨fun x y s m d hx hy e=>?_,fun x y st n hx hy e=>?_,fun x st n e=>?_,fun x x' st st' n n' c e e' hc hc'=>?_,fun j hj=>?_,by rw[hw.size];exact hpast,fun x st n e=>by
   obtain⟨_,e1⟩:=old e;exact E.kwg _ _ _ hw (C.keep x st _ e1),by rw[hsz];exact hwg,by rw[hsz];exact Qe,fun x=>by
   by_cases ex:x=i
   . subst ex;rw[upd_same];exact hlv1
   . rw[upd_ne live _ ex];exact C.one x⟩
 . by_cases ex:x=i
   . subst ex;rw[upd_same]at e ⊢;rw[hself]at hy;obtain rfl:=Option.some.inj hy;exact hfin s m d e
   . rw[upd_ne role _ ex]at e;rw[upd_ne live _ ex];rw[hother x ex]at hy;obtain⟨h1,h2,h3,h4,h5,h6⟩:=C.Ie x y s m d hx hy e;exact⟨h1,h2.rely (Mw ty Wg hlive uO),by rw[hD x ex];exact h3,h4,h5,h6⟩
 . by_cases ex:x=i
   . subst ex;rw[upd_same]at e;rw[hself]at hy;obtain rfl:=Option.some.inj hy;obtain⟨h1,h2,_⟩:=QI st n e;exact⟨h1,h2⟩
   . rw[upd_ne role _ ex]at e;rw[hother x ex]at hy;exact C.seats x y st n hx hy e
 . have key:∀n',role x=.seat st n'->x<gs'.size/\st.Wf/\Mem x/\Bd x<=w'.heap.size/\∀c,st.has c->∃k,w'.heap[c]?=some (.chan 0 #[] false k k false):=fun n' e=>by obtain⟨h0,h1,h2,h3,h4⟩:=C.seat x st n' e;refine⟨by rw[hsz];exact h0,h1,h2,by rw[hw.size];exact h3,fun c hc=>?_⟩;obtain⟨k,hk⟩:=h4 c hc;exact⟨k,Ny hw hlive hk⟩
   by_cases ex:x=i
   . subst ex;rw[upd_same]at e;obtain⟨_,_,n',e'⟩:=QI st n e;exact key n' e'
   . rw[upd_ne role _ ex]at e;exact key n e
 . obtain⟨_,e1⟩:=old e;obtain⟨_,e2⟩:=old e';exact C.own x x' st st' _ _ c e1 e2 hc hc'
 . rw[Deaf_other T (g':=i) zOM ops hops];exact C.above j zOM
theorem NA{i:Nat}{B:Nat}{n:Nat}(hB:B<=n){fn:FuncId}{pos:String}{es:Array Event}(E:Env Wg K Still Shun)(h:∀e∈es,EvC (Still i) B e) :
  (∀op∈MemOp.ofEvents i fn pos es,op.g=i)/\(∀op∈MemOp.ofEvents i fn pos es,∀b,op.act.touch?=some b->b.write=false/\Still i b.loc/\¬ Shun b.loc)/\(∀op∈MemOp.ofEvents i fn pos es,op.act.low n)/\∀t:Trace,Deaf (t++MemOp.ofEvents i fn pos es) i=Deaf t i:=by
 obtain⟨h1,h2,h3,h4⟩:=evC_ops (Still:=Still i) (B:=B) (i:=i) (fn:=fn) (pos:=pos) h;exact⟨h1,fun op hop b hb=>⟨(h2 op hop b hb).1,(h2 op hop b hb).2,E.apart _ _ (h2 op hop b hb).2⟩,fun op hop=>MemAct.low_mono hB (h3 op hop),h4⟩
theorem Ol.by_step(E:Env Wg K Still Shun)(hKf:∀t u i,Kf t i->Kf (t++u) i)(C:Ol P ty Wg K Still Bd Shun Quiet Sp Mem Loose Kf role live ex T gs w){i:Nat}{g:Goroutine}{sl:Option (Nat × Nat)}(hi:gs[i]?=some g)(hsp:¬ Sp i)(hrun:g.status=.running)(hsA:∀x gx w',Sp x->gs[x]?=some gx->IX Wg w w'->gx.again w'=gx)(hsO:∀st n g₂,role i=.seat st n->AtIn P (i==0) (K i) (Still i) (Bd i) st g g₂->∀x gx c,Sp x->gs[x]?=some gx->st.has c->offersAt gx c true=[]) :
  ∃gs' w' ops r' J2,runT P (crowd gs w sl) i=(.next (crowd gs' w' sl),ops)/\gs'.size=gs.size/\(∀x,Sp x->gs'[x]?=gs[x]?)/\IX Wg w w'/\(∀op∈ops,op.g=i)/\
    Ol P ty Wg K Still Bd Shun Quiet Sp Mem Loose Kf (upd role i r') (upd live i J2) ex (T++ops) gs' w'/\Less gs.size (upd role i r') role/\(∀st n,role i=.seat st n->(∃n',r'=.seat st n'/\(n'=0->∃g₂,AtIn P (i==0) (K i) (Still i) (Bd i) st g g₂))/\J2=live i)/\(∀s m d,role i=.fin s m d->∃s' m' d',r'=.fin s' m' d')/\J2<=live i:=by
 have hlt:i<gs.size:=(zGE hi).1;have hne:∀x,Sp x->x≠i:=fun x hx e=>hsp (e ▸ hx);have harr:∀(a' g':Goroutine) (w':World),IX Wg w w'->∀x,x≠i->((gs.map (woken P g a' w')).setIfInBounds i g')[x]?=gs[x]?:=by
  intro a' g' w' hw x hx;rw[Array.getElem?_setIfInBounds_ne (fun e=>hx e.symm),Array.getElem?_map];cases e:gs[x]? with
  | none=>rfl
  | some y=>
    have:y.again w'=y:=by
      by_cases hS:Sp x
      . exact hsA x y w' hS e hw
      . exact C.fixed E hw hS e
    simp[woken_of_again this]
 have hself:∀(a' g':Goroutine) (w':World),((gs.map (woken P g a' w')).setIfInBounds i g')[i]?=some g':=fun a' g' w'=>Array.getElem?_setIfInBounds_self_of_lt (by simpa using hlt);cases e:role i with
 | fin s m d=>
  obtain⟨hpos,hF,hD,hM,hl,hs⟩:=C.Ie i g s m d hsp hi e;have hi0:(i==0)=false:=by simp;omega
  have hcv:5<=s->1<=sumTo gs.size live+ex:=fun h5=>by
    have h1:live i=1:=by rw[hl];simp[cn,h5]
    have h2:live i<=sumTo gs.size live:=Go.ConcN.le_sumTo hlt;omega
  obtain⟨g',w',es,s',m',v',hst,hF',hless,hs',hwg',hcount,hw,hev⟩:=hF.Z6 hrun C.wg hcv C.few hs;have hw2:IX Wg w w':=hw;have hops:∀op∈MemOp.ofEvents i g.frame.fn g.frame.place es,op.g=i:=fun op hop=>by obtain⟨e,_,rfl⟩:=Conc.mem_ofEvents hop;rfl
  have hsum:sumTo gs.size (upd live i (cn s'))+cn s=sumTo gs.size live+cn s':=by have:sumTo gs.size (upd live i (cn s'))+live i=sumTo gs.size live+cn s':=sumTo_upd live (cn s') id hlt;rw[hl]at this;exact this
  have hv':v'=sumTo gs.size (upd live i (cn s'))+ex:=by omega
  refine⟨_,w',_,.fin s' m' (deafBehind d es),cn s',runT_crowd_go (sl:=sl) hi (by rw[hi0];exact hst),by simp,fun x hx=>harr _ _ w' hw2 x (hne x hx),hw2,hops,?_,Hu hlt (by rw[e];exact hless),(fun st n h=>by cases h),fun _ _ _ _=>⟨_,_,_,rfl⟩,?_⟩
  rotate_left
  . rw[hl];rcases hless with h|⟨rfl,_⟩
    . unfold cn;split<;>split<;>omega
    . exact Nat.le_refl _
  refine C.put E hw2 hlt hsp (by simp) (harr _ _ w' hw2) (hself _ _ _) hops (fun a b c h=>?_) (fun _ _ h=>by cases h) ?_ (by rw[← hv'];exact hwg') ?_ (by unfold cn;split<;>omega)
  . cases h
    exact⟨hpos,hF',by rw[Deaf_own,hD],hM,rfl,hs'⟩
  . rcases hev with hev | ⟨hd,hev⟩
    . refine C.past.mute (hKf T _) hops (fun op hop=>?_) (fun h=>absurd h hM) (fun op hop=>?_)
      . obtain⟨e,he,rfl⟩:=Conc.mem_ofEvents hop;exact(hev e he).1
      . obtain⟨e,he,rfl⟩:=Conc.mem_ofEvents hop;exact MemAct.low_mono C.mY (hev e he).2
    . refine C.past.deaf (hKf T _) hM hops (fun op hop b hb=>?_) (fun op hop dd=>?_) (by rw[hD];exact hd) (fun op hop=>?_)
      . obtain⟨e,he,rfl⟩:=Conc.mem_ofEvents hop;have hloc:b.loc=.cell (stA Wg)/\b.kind=.atomic:=by rcases hev e he with rfl|rfl<;>(simp only[rd,wr,MemAct.ofEvent,MemAct.touch?,Option.some.injEq]at hb;subst hb;exact⟨rfl,rfl⟩)
        exact⟨by rw[hloc.1];exact E.shun,hloc.2,fun g' hS=>E.apart g' _ hS (by rw[hloc.1];exact E.shun)⟩
      . obtain⟨e,he,rfl⟩:=Conc.mem_ofEvents hop;rcases hev e he with rfl|rfl<;>rfl
      . obtain⟨e,he,rfl⟩:=Conc.mem_ofEvents hop;have:=C.mY;rcases hev e he with rfl|rfl<;>exact this
  . have hf:=C.few;have h7:cn s'<=cn s:=by
      rcases hless with h|⟨rfl,_⟩
      . unfold cn;split<;>split<;>omega
      . exact Nat.le_refl _
    omega
 | seat st n=>
  obtain⟨hS,hL⟩:=C.seats i g st n hsp hi e;obtain⟨_,hwf,hM,hBd,hch⟩:=C.seat i st n e;obtain⟨k,w₀,hqi,hg⟩:∃k w₀,n=k+1/\Goes P (i==0) (RK (K i)) (DS (Still i) (Bd i)) (fun g _=>∃g₂,AtIn P (i==0) (K i) (Still i) (Bd i) st g g₂) k g w₀:=by
    rcases hS with h|⟨_,_,g₂,rfl,_⟩
    . exact h
    . cases hrun
  have hlv:upd live i (live i)=live:=by
    funext a
    by_cases h:a=i
    . subst h;rw[upd_same]
    . rw[upd_ne live _ h]
  have hcase:(∃g₂,AtIn P (i==0) (K i) (Still i) (Bd i) st g g₂)\/∃k' g' es,k=k'+1/\stepG P (i==0) g w=.go g' w es/\(∀e∈es,EvC (Still i) (Bd i) e)/\Goes P (i==0) (RK (K i)) (DS (Still i) (Bd i)) (fun g _=>∃g₂,AtIn P (i==0) (K i) (Still i) (Bd i) st g g₂) k' g' w:=by
    cases k with
    | zero=>exact .inl (hg w (C.keep i st n e))
    | succ k'=>
      rcases hg with hstop|⟨_,hstep⟩
      . exact .inl (hstop w (C.keep i st n e))
      . have hs:=hstep w (C.keep i st n e);cases hgo:stepG P (i==0) g w with
        | go g' w' es=>
          rw[hgo,goes_go]at hs;obtain⟨⟨rfl,hes⟩,hG'⟩:=hs;exact .inr ⟨k',g',es,rfl,rfl,hes,hG'⟩
        | _=>rw[hgo]at hs;exact hs.elim
  rcases hcase with⟨g₂,hat⟩|⟨k',g',es,rfl,hgo,hes,hG'⟩
  . obtain⟨_,_,_,_,_,es,hes,hstp⟩:=id hat;obtain⟨hops,hr,hl,hd⟩:=NA (fn:=g.frame.fn) (pos:=g.frame.place) hBd E hes;have hw:∀cc∈st.cases,NoWays w (gs.setIfInBounds i ph) cc:=by
      intro cc hcc;obtain⟨c,z,rfl⟩:=hwf.recvs cc hcc;have hsc:=Seat.has_of_mem hcc;obtain⟨kk,hc⟩:=hch c hsc;refine ways_recv_none hc (partners_nil fun x y hy=>?_);rcases getElem?_stand gs i x y hy with⟨_,rfl⟩|⟨hx,hy'⟩
      . exact offersAt_ph _ _
      . by_cases hSp:Sp x
        . exact hsO st n g₂ e hat x y c hSp hy' hsc
        . exact C.noSend hSp hy' _
    refine⟨_,w,_,.seat st 0,live i,crowd_waits (sl:=sl) hi (hstp w (C.keep i st n e)) hw,by simp,fun x hx=>Array.getElem?_setIfInBounds_ne (fun z=>hne x hx z.symm),.inl rfl,hops,?_,Hu hlt (by rw[e,hqi];exact .inr ⟨rfl,Nat.succ_pos _⟩),(fun st' n' h=>by cases h;exact⟨⟨_,rfl,fun _=>⟨g₂,hat⟩⟩,rfl⟩),(fun _ _ _ h=>by cases h),Nat.le_refl _⟩;refine C.put E (.inl rfl) hlt hsp (by simp) (fun x hx=>Array.getElem?_setIfInBounds_ne (fun z=>hx z.symm)) (Array.getElem?_setIfInBounds_self_of_lt hlt) hops (fun _ _ _ h=>by cases h) (fun st' n' h=>?_) ?_ (by rw[hlv];exact C.wg) (by rw[hlv];exact C.few) (C.one i)
    . cases h
      exact⟨.inr ⟨rfl,g,g₂,rfl,hat⟩,hL,n,e⟩
    . exact C.past.read (hKf T _) hM hL hops hr (hd T) hl
  . obtain⟨hops,hr,hl,hd⟩:=NA (fn:=g.frame.fn) (pos:=g.frame.place) hBd E hes;refine⟨_,w,_,.seat st (k'+1),live i,runT_crowd_go (sl:=sl) hi hgo,by simp,fun x hx=>harr _ _ w (.inl rfl) x (hne x hx),.inl rfl,hops,?_,Hu hlt (by rw[e,hqi];exact .inr ⟨rfl,by simp[Fv.fuel]⟩),(fun st' n' h=>by cases h;exact⟨⟨_,rfl,fun z=>by omega⟩,rfl⟩),(fun _ _ _ h=>by cases h),Nat.le_refl _⟩;refine C.put E (.inl rfl) hlt hsp (by simp) (harr _ _ w (.inl rfl)) (hself _ _ _) hops (fun _ _ _ h=>by cases h) (fun st' n' h=>?_) ?_ (by rw[hlv];exact C.wg) (by rw[hlv];exact C.few) (C.one i)
    . cases h
      exact⟨.inl ⟨k',w,rfl,hG'⟩,hL,n,e⟩
    . exact C.past.read (hKf T _) hM hL hops hr (hd T) hl
end
end
end Go.LC
namespace Go.LT
open Go
section
def Xx:Mark->Prop
 | .noRoom=>True
 | .extern _=>True
 | _=>False
def Rw:Obj->Prop
 | .view ..=>False
 | .pending ..=>False
 | _=>True
def Y2:Unsupported->Prop
 | .initOrder _=>False
 | _=>True
def uG:Halt->Prop
 | .panic _=>True
 | .stuck _=>True
 | .unsupported u=>Y2 u
 | _=>False
def GV{α:Type}:Result α->Option ((α ⊕ Value) × World)
 | .ok a w=>some (.inl a,w)
 | .halt (.panic v) w=>some (.inr v,w)
 | _=>none
def Dead(P:Program){α:Type}(m:Sem α):Prop:=∀w,GV (m.run P w)=none
theorem Dead.bind{P:Program}{α β:Type}{m:Sem α}(h:Dead P m)(f:α->Sem β):Dead P (m.bind f):=by
 intro w;have hw:=h w;rw[Sem.run_bind'];generalize m.run P w=r at hw;cases r with
 | ok a w=>simp[GV]at hw
 | halt x w=>cases x<;>simp[GV]at hw<;>simp[Result.andThen,GV]
def EL(P:Program){α:Type}(Q:α->Prop):Sem α->Prop
 | .pure a=>Q a
 | .load _ _ k=>∀v,EL P Q (k v)
 | .store _ _ _ k=>EL P Q k
 | .new o k=>Rw o/\∀r,EL P Q (k r)
 | .shape _ k=>(∀s,EL P Q (k s))/\∀e n,Dead P (k (some (e,0)))\/k (some (e,n))=k (some (e,0))
 | .freeze _ _ _=>False
 | .frozen _ k=>(∀b,EL P Q (k b))/\∀w es,GV ((k true).runT P w es).1≠none->(k false).runT P w es=(k true).runT P w es
 | .getObj _ k=>(∀o,EL P Q (k o))/\∀c e,Dead P (k (.coro none))\/k (.pending c e)=k (.coro none)
 | .setObj _ _ _=>False
 | .choose _ k=>∀n,EL P Q (k n)
 | .sys _ _=>False
 | .program k=>EL P Q (k P)
 | .mark m k=>Xx m/\EL P Q k
 | .halt h=>uG h
theorem Z8{P:Program}{α β:Type}{m:Sem α}{f:α->Sem β}{w:World}{es:Array Event}(h:GV ((m.bind f).runT P w es).1≠none):GV (m.runT P w es).1≠none:=by
 intro hn;rw[Sem.runT_fst]at h hn;rw[Sem.run_bind']at h;generalize m.run P w=r at h hn;cases r with
 | ok a w=>simp[GV]at hn
 | halt x w=>cases x<;>simp[GV]at hn<;>simp[Result.andThen,GV]at h
theorem ZI{P:Program}{α β:Type}{k:Bool->Sem α}{f:α->Sem β}(h:∀w es,GV ((k true).runT P w es).1≠none->(k false).runT P w es=(k true).runT P w es) :
  ∀w es,GV (((k true).bind f).runT P w es).1≠none->((k false).bind f).runT P w es=((k true).bind f).runT P w es:=by
 intro w es ho;have:=h w es (Z8 ho);rw[Sem.runT_bind',Sem.runT_bind',this]
theorem EL.mono{P:Program}{α:Type}{Q Q':α->Prop}(h:∀a,Q a->Q' a):∀{m:Sem α},EL P Q m->EL P Q' m:=by
 intro m;induction m with
 | pure a=>exact h a
 | load m a k ih=>exact fun x v=>ih v (x v)
 | store m a v k ih=>exact ih
 | new o k ih=>exact fun x=>⟨x.1,fun r=>ih r (x.2 r)⟩
 | shape r k ih=>exact fun x=>⟨fun s=>ih s (x.1 s),x.2⟩
 | freeze a n k ih=>exact id
 | frozen a k ih=>exact fun x=>⟨fun b=>ih b (x.1 b),x.2⟩
 | getObj r k ih=>exact fun x=>⟨fun o=>ih o (x.1 o),x.2⟩
 | setObj r o k ih=>exact id
 | choose q k ih=>exact fun x n=>ih n (x n)
 | sys c k ih=>exact id
 | program k ih=>exact fun x=>ih P x
 | mark m k ih=>exact fun x=>⟨x.1,ih x.2⟩
 | halt x=>exact id
theorem EI{P:Program}{α β:Type}{Q:β->Prop}{f:α->Sem β}:∀{m:Sem α},EL P (fun a=>EL P Q (f a)) m->EL P Q (m >>= f):=by
 intro m;induction m with
 | pure a=>exact id
 | load m a k ih=>exact fun x v=>ih v (x v)
 | store m a v k ih=>exact fun x=>ih x
 | new o k ih=>exact fun x=>⟨x.1,fun r=>ih r (x.2 r)⟩
 | shape r k ih=>exact fun x=>⟨fun s=>ih s (x.1 s),fun e n=>(x.2 e n).imp (fun h=>h.bind f) (fun h=>by show(k (some (e,n))).bind f=(k (some (e,0))).bind f;rw[h])⟩
 | freeze a n k ih=>exact id
 | frozen a k ih=>exact fun x=>⟨fun b=>ih b (x.1 b),ZI x.2⟩
 | getObj r k ih=>exact fun x=>⟨fun o=>ih o (x.1 o),fun c e=>(x.2 c e).imp (fun h=>h.bind f) (fun h=>by show(k (.pending c e)).bind f=(k (.coro none)).bind f;rw[h])⟩
 | setObj r o k ih=>exact id
 | choose q k ih=>exact fun x n=>ih n (x n)
 | sys c k ih=>exact id
 | program k ih=>exact fun x=>ih P x
 | mark m k ih=>exact fun x=>⟨x.1,ih x.2⟩
 | halt x=>exact id
def Mk:Obj->Obj
 | .cells _ e f=>.cells #[] e f
 | o=>o
def depend:Obj->Obj
 | .pending _ _=>.coro none
 | o=>o
theorem Tk{o:Obj}(h:Rw o):depend o=o:=by cases o<;>first | rfl | exact h.elim
structure Hid where
 hol:Nat->Bool
 KH:Nat->Bool:=fun _=>false
instance:CoeFun Hid (fun _=>Nat->Bool):=⟨Hid.hol⟩
instance:Coe (Nat->Bool) Hid:=⟨fun f=>{ hol:=f }⟩
def dep(z:Bool):Obj->Obj
 | .cells c e f=>.cells c e (if z then(0,max c.size f.2)else f)
 | .pending _ _=>.coro none
 | o=>o
@[simp] theorem JN:dep false=depend:=by funext o;cases o<;>rfl
def EF(B:Hid)(w:World):World:={ w with heap:=w.heap.mapIdx fun i o=>if B i then Mk o else dep (B.KH i) o }
structure Rows(B:Hid)(w:World):Prop where
 hol:∀b,B b=true->∃c e f,w.heap[b]?=some (.cells c e f)
 KH:∀b,B.KH b=true->∃c e f,w.heap[b]?=some (.cells c e f)
instance {B:Hid}{w:World}:CoeFun (Rows B w) (fun _=>∀b,B b=true->∃c e f,w.heap[b]?=some (.cells c e f)):=⟨Rows.hol⟩
section
variable {B:Hid}{w:World}
@[simp] theorem Hl:(EF B w).heap.size=w.heap.size:=by simp[EF]
theorem Fq(b:Nat):(EF B w).heap[b]?=(w.heap[b]?).map fun o=>if B b then Mk o else dep (B.KH b) o:=by simp[EF]
theorem Fu{b:Nat}(h:B b=false):(EF B w).heap[b]?=(w.heap[b]?).map (dep (B.KH b)):=by simp[Fq,h]
theorem H6{b:Nat}{c:Array Value}{e:TypeId}{f:Nat × Nat}(h:B b=true)(hb:w.heap[b]?=some (.cells c e f)):(EF B w).heap[b]?=some (.cells #[] e f):=by simp[Fq,h,hb,Mk]
theorem JO{a:Addr}(hR:Rows B w)(h:B a.block=true):(EF B w).cell? a=none:=by obtain⟨c,e,f,hc⟩:=hR _ h;simp[World.cell?,H6 h hc]
theorem Fy{a:Addr}(h:B a.block=false):(EF B w).cell? a=w.cell? a:=by
 simp only[World.cell?,Fu h];cases w.heap[a.block]? with
 | none=>rfl
 | some o=>cases o<;>rfl
theorem I9(hR:Rows B w){a:Addr}(hz:B a.block=true\/B.KH a.block=false):(EF B w).frozen? a=w.frozen? a:=by
 cases h:B a.block with
 | false=>
  have hz:B.KH a.block=false:=by rcases hz with hz | hz<;>simp_all
  simp only[World.frozen?,Fu h,hz,JN];cases w.heap[a.block]? with
  | none=>rfl
  | some o=>cases o<;>rfl
 | true=>
  obtain⟨c,e,f,hc⟩:=hR _ h;simp[World.frozen?,H6 h hc,hc]
theorem Si{a:Addr}(hf:w.frozen? a=true)(hR:Rows B w):(EF B w).frozen? a=true:=by
 cases h:B a.block with
 | true=>rw[I9 hR (.inl h)];exact hf
 | false=>
  cases hz:B.KH a.block with
  | false=>rw[I9 hR (.inr hz)];exact hf
  | true=>
   obtain⟨c,e,f,hc⟩:=hR.KH _ hz;simp only[World.frozen?,hc,Fu h,hz,Option.map_some,dep,if_true]at hf ⊢;obtain⟨lo,hi⟩:=f;simp only[Bool.and_eq_true,decide_eq_true_eq]at hf ⊢;omega
theorem Ud{a:Addr}{v:Value}(hR:Rows B w)(h:B a.block=false)(hz:B.KH a.block=true)(hv:w.cell? a=some v):(EF B w).frozen? a=true:=by
 obtain⟨c,e,f,hc⟩:=hR.KH _ hz;have hlt:a.off<c.size:=by
  simp only[World.cell?,hc]at hv;split at hv
  . cases hv
  . exact(zGE hv).1
 simp only[World.frozen?,Fu h,hc,hz,Option.map_some,dep,if_true,Bool.and_eq_true,decide_eq_true_eq];omega
theorem Pw{a:Addr}(h:B a.block=false)(hz:B.KH a.block=false)(v:Value):EF B (w.setCell a v)=(EF B w).setCell a v:=by
 have:(EF B (w.setCell a v)).heap=((EF B w).setCell a v).heap:=by
  apply Array.ext_getElem?;intro i;rw[Fq];simp only[World.setCell,Array.getElem?_modify,Fq];by_cases hi:a.block=i
  . subst hi;simp only[h,hz,JN,Bool.false_eq_true,if_false,if_true,Option.map_map];congr 1
    funext o
    cases o<;>rfl
  . simp[hi]
 simp only[EF,World.setCell]at this ⊢;rw[this]
theorem R4{o:Obj}(ho:Rw o)(h:B w.heap.size=false)(hz:B.KH w.heap.size=false):EF B { w with heap:=w.heap.push o }={ EF B w with heap:=(EF B w).heap.push o }:=by
 have:(EF B { w with heap:=w.heap.push o }).heap=(EF B w).heap.push o:=by
  apply Array.ext_getElem?;intro i;rw[Fq];simp only[Array.getElem?_push,Hl,Fq];by_cases hi:i=w.heap.size
  . subst hi;simp[h,hz,Tk ho]
  . simp[hi]
 simp only[EF]at this ⊢;rw[this]
theorem P8{r:Nat}{o:Obj}(ho:Rw o)(h:B r=false)(hz:B.KH r=false):EF B { w with heap:=w.heap.setIfInBounds r o }={ EF B w with heap:=(EF B w).heap.setIfInBounds r o }:=by
 have:(EF B { w with heap:=w.heap.setIfInBounds r o }).heap=(EF B w).heap.setIfInBounds r o:=by
  apply Array.ext_getElem?;intro i;rw[Fq];simp only[Array.getElem?_setIfInBounds,Hl,Fq];by_cases hi:r=i
  . subst hi;by_cases hs:r<w.heap.size<;>simp[h,hz,hs,Tk ho]
  . simp[hi]
 simp only[EF]at this ⊢;rw[this]
end
theorem SC{v:Value}{bs:List UInt8}(h:v.bytes?=some bs):bs.length≠0:=by
 have le:∀s n,(leBytes s n).length=s:=by
   intro s;induction s with
   | zero=>intro n;rfl
   | succ s ih=>intro n;simp[leBytes,ih]
 cases v<;>simp only[Value.bytes?,Option.some.injEq,reduceCtorEq]at h<;>subst h
 . simp
 . rename_i k n;rw[le];cases k<;>decide
 . rename_i k n;rw[le];cases k<;>decide
 . rename_i k a b;rw[List.length_append,le,le];cases k<;>decide
section
variable {B:Hid}{w:World}{P:Program}
theorem Rz{at_:Addr}(h:B at_.block=false)(hz:B.KH at_.block=false)(u:TypeId)(k:Addr)(atomic:Bool):(EF B w).seen P at_ u k atomic=w.seen P at_ u k atomic:=by
 unfold World.seen;rw[Fu h,hz,JN];cases w.heap[at_.block]? with
 | none=>rfl
 | some o=>cases o<;>rfl
theorem VR{at_:Addr}(h:B at_.block=false)(hz:B.KH at_.block=true)(u:TypeId)(k:Addr)(atomic:Bool):(EF B w).seen P at_ u k atomic=(w.seen P at_ u k atomic).map fun r=>(r.1,r.2.1,(0,max r.1.size r.2.2.1.2),r.2.2.2):=by
 unfold World.seen;rw[Fu h,hz];cases w.heap[at_.block]? with
 | none=>
      simp only[Option.map_none,bind,Except.bind,pure,Except.pure,throw,throwThe,MonadExceptOf.throw];repeat' split
      all_goals rfl
 | some o=>
  cases o<;>(simp only[Option.map_some,dep,if_true,bind,Except.bind,pure,Except.pure,throw,throwThe,MonadExceptOf.throw];repeat' split)<;>first | rfl | (simp_all [Except.map,throw,throwThe,MonadExcept.throw,MonadExceptOf.throw];done)
theorem Yq{at_:Addr}(hR:Rows B w)(h:B at_.block=true)(u:TypeId)(k:Addr)(atomic:Bool)(r):(EF B w).seen P at_ u k atomic≠.ok r:=by
 obtain⟨c,e,f,hc⟩:=hR _ h;intro hr;unfold World.seen at hr;rw[H6 h hc]at hr;simp only[bind,Except.bind,pure,Except.pure]at hr;split at hr
 . cases hr
 . split at hr
   . rename_i like hl
     split at hr
     . rename_i size hs
       obtain⟨bs,hb,rfl⟩:=Option.map_eq_some_iff.1 hs;have:=SC hb;split at hr
       . split at hr
         . cases hr
         . split at hr
           . split at hr
             . cases hr
             . rename_i cells hcells
               rw[seenCells]at hcells;rw[if_neg zOM]at hcells;simp only[]at hcells;split at hcells
               . cases hcells
               . split at hcells
                 . cases hcells
                 . simp at hcells
           . cases hr
       . cases hr
     . cases hr
   . cases hr
end
section
variable {B:Hid}{w:World}{P:Program}
theorem Un{at_:Addr}(h:B at_.block=false)(u:TypeId)(k:Addr)(atomic:Bool):(EF B w).viewLoad P at_ u k atomic=w.viewLoad P at_ u k atomic:=by
 unfold World.viewLoad;cases hz:B.KH at_.block with
 | false=>rw[Rz h hz]
 | true=>
  rw[VR h hz];cases w.seen P at_ u k atomic<;>rfl
theorem nO{at_:Addr}{u:TypeId}{k:Addr}{atomic:Bool}{r}(hr:w.seen P at_ u k atomic=.ok r):(∃x,r.2.2.2.2.2=x :: r.2.2.2.2.2.tail)/\∀c e f,w.heap[at_.block]?=some (.cells c e f)->r.1=c/\r.2.2.1=f:=by
 unfold World.seen at hr;simp only[bind,Except.bind,pure,Except.pure]at hr;split at hr
 . cases hr
 . split at hr
   . split at hr
     . rename_i size hs
       obtain⟨bs,hb,rfl⟩:=Option.map_eq_some_iff.1 hs;have:=SC hb;split at hr
       . split at hr
         . split at hr
           . cases hr
           . split at hr
             . split at hr
               . cases hr
               . rename_i cells hcells
                 rw[seenCells]at hcells;rw[if_neg zOM]at hcells;simp only[]at hcells;have hne:∃x,cells=x :: cells.tail:=by
                  cases cells with
                  | cons x l=>exact⟨x,rfl⟩
                  | nil=>
                   exfalso
                   repeat' split at hcells
                   all_goals first | (cases hcells;done) | (simp only[Except.map]at hcells;split at hcells<;>cases hcells)
                 repeat' split at hr
                 all_goals first | (cases hr;done) | (cases hr;exact⟨hne,fun c e f hc=>by simp_all⟩)
             . cases hr
         . cases hr
       . cases hr
     . cases hr
   . cases hr
theorem Sn{at_:Addr}(hR:Rows B w)(h:B at_.block=false)(hz:B.KH at_.block=true)(u:TypeId)(k:Addr)(v:Value)(atomic:Bool):∃why,(EF B w).viewStore P at_ u k v atomic=.error why:=by
 cases hvl:(EF B w).viewStore P at_ u k v atomic with
 | error why=>exact⟨why,rfl⟩
 | ok r=>
  exfalso
  unfold World.viewStore at hvl;rw[VR h hz]at hvl;cases hse:w.seen P at_ u k atomic with
  | error e=>
   simp only[hse,Except.map,bind,Except.bind,pure,Except.pure,throw,throwThe,MonadExceptOf.throw]at hvl;split at hvl<;>cases hvl
  | ok q=>
   obtain⟨⟨x,hx⟩,_⟩:=nO hse;obtain⟨c,e,f,first,like,cells⟩:=q;simp only at hx;cases cells with
   | nil=>cases hx
   | cons y l=>
   clear hx;obtain⟨i,s,bs⟩:=y;simp only[hse,Except.map,bind,Except.bind,pure,Except.pure,throw,throwThe,MonadExceptOf.throw]at hvl;simp only[List.foldlM_cons,bind,Except.bind,pure,Except.pure,throw,throwThe,MonadExceptOf.throw]at hvl;by_cases hi:i<c.size
   . have h1:(decide (0<=i)&&decide (i<max c.size f.2))=true:=by simp;omega
     rw[h1]at hvl;clear h1;repeat' split at hvl
     all_goals first | (cases hvl;done) | (rename_i hq;simp only[MonadExcept.throw,throwThe,MonadExceptOf.throw,if_true]at hq;repeat' split at hq;all_goals first | (cases hq;done) | (rename_i hz';(split at hz'<;>cases hz');done) | (simp_all;done))
   . have h2:c[i]?=none:=Array.getElem?_eq_none zOM;rw[h2]at hvl;clear h2;simp only[MonadExcept.throw,throwThe,MonadExceptOf.throw]at hvl;split at hvl
     . cases hvl
     . split at hvl
       . split at hvl
         . cases hvl
         . split at hvl
           . cases hvl
           . rename_i hq
             split at hq
             . cases hq
             . rename_i hz'
               split at hz'
               . cases hz'
               . split at hz'<;>cases hz'
       . cases hvl
end
theorem QB{w:World}{a:Addr}{v:Value}(h:w.cell? a=some v):∃c e f,w.heap[a.block]?=some (.cells c e f):=by
 unfold World.cell? at h;cases ho:w.heap[a.block]? with
 | none=>rw[ho]at h;simp at h
 | some o=>
  rw[ho]at h;cases o with
  | cells c e f=>exact⟨c,e,f,rfl⟩
  | _=>simp at h
theorem Ip{w:World}{a:Addr}{v:Value}(h:w.cell? a=some v):a.block<w.heap.size:=by obtain⟨c,e,f,hc⟩:=QB h;exact(zGE hc).1
theorem seen_cells{P:Program}{w:World}{at_:Addr}{u:TypeId}{k:Addr}{atomic:Bool}{r}(h:w.seen P at_ u k atomic=.ok r):∃c e f,w.heap[at_.block]?=some (.cells c e f):=by
 unfold World.seen at h;simp only[bind,Except.bind,pure,Except.pure]at h;cases ho:w.heap[at_.block]? with
 | none=>
  rw[ho]at h;exfalso
  repeat' split at h
  all_goals first | (cases h;done) | (simp_all;done)
 | some o=>
  cases o with
  | cells c e f=>exact⟨c,e,f,rfl⟩
  | _=>
   rw[ho]at h;exfalso
   repeat' split at h
   all_goals first | (cases h;done) | (simp_all;done)
theorem mD{P:Program}{w:World}{at_:Addr}{u:TypeId}{k:Addr}{atomic:Bool}{r}(h:w.seen P at_ u k atomic=.ok r):at_.block<w.heap.size:=by obtain⟨c,e,f,hc⟩:=seen_cells h;exact(zGE hc).1
theorem Jy{α:Type}{r:Result α}{a:α}{w:World}(h:GV r=some (.inl a,w)):r=.ok a w:=by
 cases r with
 | ok b w'=>simp[GV]at h;rw[h.1,h.2]
 | halt x w'=>cases x<;>simp[GV]at h
theorem Mf{α:Type}{r:Result α}{v:Value}{w:World}(h:GV r=some (.inr v,w)):r=.halt (.panic v) w:=by
 cases r with
 | ok b w'=>simp[GV]at h
 | halt x w'=>cases x<;>simp[GV]at h;rw[h.1,h.2]
def Jv(B:Hid)(n:Nat)(e:Event):Prop:=
 match e.loc with
 | .cell a=>B a.block=false/\a.block<n/\(e.write=true->B.KH a.block=false)
 | .obj r=>B r=false/\r<n
 | .mark m=>Xx m
 | _=>False
theorem Jv.mono{B:Hid}{n n':Nat}{e:Event}(h:Jv B n e)(hn:n<=n'):Jv B n' e:=by
 obtain⟨loc,wr,sy⟩:=e;cases loc<;>simp only[Jv]at h ⊢
 . exact⟨h.1,Nat.lt_of_lt_of_le h.2.1 hn,h.2.2⟩
 . exact⟨h.1,Nat.lt_of_lt_of_le h.2 hn⟩
 . exact h
structure Kept(B:Hid)(w w':World):Prop where
 tape:w'.tape=w.tape
 os:w'.os=w.os
 output:w'.output=w.output
 drawn:w.drawn<=w'.drawn
 size:w.heap.size<=w'.heap.size
 block:∀b,B b=true->w'.heap[b]?=w.heap[b]?
 objs:∀(b:Nat) (o:Obj),w.heap[b]?=some o->(∀c e f,o≠Obj.cells c e f)->w'.heap[b]?=some o
 pend:∀(b:Nat) c e,w'.heap[b]?=some (Obj.pending c e)->w.heap[b]?=some (Obj.pending c e)
 still:∀b,B.KH b=true->w'.heap[b]?=w.heap[b]?
theorem Kept.refl(B:Hid)(w:World):Kept B w w:=⟨rfl,rfl,rfl,Nat.le_refl _,Nat.le_refl _,fun _ _=>rfl,fun _ _ h _=>h,fun _ _ _ h=>h,fun _ _=>rfl⟩
theorem Kept.trans{B:Hid}{w w' w'':World}(h:Kept B w w')(k:Kept B w' w''):Kept B w w'':=
 ⟨k.tape.trans h.tape,k.os.trans h.os,k.output.trans h.output,Nat.le_trans h.drawn k.drawn,Nat.le_trans h.size k.size,fun b hb=>(k.block b hb).trans (h.block b hb),fun b o ho hn=>k.objs b o (h.objs b o ho hn) hn,fun b c e hp=>h.pend b c e (k.pend b c e hp),fun b hb=>(k.still b hb).trans (h.still b hb)⟩
theorem Rows.kept{B:Hid}{w w':World}(h:Rows B w)(k:Kept B w w'):Rows B w':=⟨fun b hb=>by
 obtain⟨c,e,f,hc⟩:=h b hb;exact⟨c,e,f,by rw[k.block b hb];exact hc⟩,fun b hb=>by
 obtain⟨c,e,f,hc⟩:=h.KH b hb;exact⟨c,e,f,by rw[k.still b hb];exact hc⟩⟩
theorem Rows.lt{B:Hid}{w:World}(h:Rows B w){b:Nat}(hb:B b=true):b<w.heap.size:=by obtain⟨c,e,f,hc⟩:=h b hb;exact(zGE hc).1
theorem Rows.ltz{B:Hid}{w:World}(h:Rows B w){b:Nat}(hb:B.KH b=true):b<w.heap.size:=by obtain⟨c,e,f,hc⟩:=h.KH b hb;exact(zGE hc).1
theorem Rows.above{B:Hid}{w:World}(h:Rows B w){b:Nat}(hb:w.heap.size<=b):B b=false:=by
 cases hB:B b with
 | false=>rfl
 | true=>have:=h.lt hB;omega
theorem Rows.rZ{B:Hid}{w:World}(h:Rows B w){b:Nat}(hb:w.heap.size<=b):B.KH b=false:=by
 cases hB:B.KH b with
 | false=>rfl
 | true=>have:=h.ltz hB;omega
section
variable {B:Hid}{P:Program}{α:Type}{Q:α->Prop}
def Through(B:Hid)(P:Program)(Q:α->Prop)(m:Sem α)(w:World)(es:Array Event):Prop:=
 ∀x w1,GV (m.runT P (EF B w) es).1=some (x,w1)->∃w2 es2,GV (m.runT P w es).1=some (x,w2)/\w1=EF B w2/\Kept B w w2/\(∀a,x=.inl a->Q a)/\
  (m.runT P w es).2=es++es2/\(m.runT P (EF B w) es).2=es++es2/\∀e∈es2,Jv B w2.heap.size e
theorem Through.step{m k:Sem α}{w w':World}{es es':Array Event}(hk:Kept B w w')(hs:m.runT P w es=k.runT P w' (es++es'))(hs':m.runT P (EF B w) es=k.runT P (EF B w') (es++es'))(he:∀e∈es',Jv B w'.heap.size e)(h:Through B P Q k w' (es++es')):Through B P Q m w es:=by
 intro x w1 hx;rw[hs']at hx;obtain⟨w2,es2,h1,h2,h3,h4,h5,h6,h7⟩:=h x w1 hx;refine⟨w2,es'++es2,by rw[hs];exact h1,h2,hk.trans h3,h4,by rw[hs,h5,Array.append_assoc],by rw[hs',h6,Array.append_assoc],fun e hm=>?_⟩;rcases Array.mem_append.1 hm with h|h
 . exact(he e h).mono h3.size
 . exact h7 e h
theorem Through.step0{m k:Sem α}{w w':World}{es:Array Event}(hk:Kept B w w')(hs:m.runT P w es=k.runT P w' es)(hs':m.runT P (EF B w) es=k.runT P (EF B w') es)(h:Through B P Q k w' es):Through B P Q m w es:=
 Through.step (es':=#[]) hk (by simpa [-Sem.runT_eq]using hs) (by simpa [-Sem.runT_eq]using hs') (by simp) (by simpa using h)
theorem Through.none{m:Sem α}{w:World}{es:Array Event}(h:GV (m.runT P (EF B w) es).1=none):Through B P Q m w es:=fun x w1 hx=>by rw[h]at hx;cases hx
theorem fG:∀{m:Sem α} {w:World} {es:Array Event},EL P Q m->Rows B w->Through B P Q m w es:=by
  intro m;induction m with
  | pure a=>
    intro w es ht hR x w1 hx;simp only[Sem.runT,GV,Option.some.injEq,Prod.mk.injEq]at hx;obtain⟨rfl,rfl⟩:=hx;exact⟨w,#[],rfl,rfl,Kept.refl B w,fun a e=>by cases e;exact ht,by simp[-Sem.runT_eq,Sem.runT],by simp[-Sem.runT_eq,Sem.runT],by simp⟩
  | load m a k ih=>
    intro w es ht hR;cases hB:B a.block with
    | true=>
      obtain⟨c,e,f,hc⟩:=hR _ hB;refine Through.none ?_;simp[-Sem.runT_eq,Sem.runT,JO hR hB,World.farLoad,H6 hB hc,World.noCell,GV]
    | false=>
      cases hv:w.cell? a with
      | some v=>
        exact Through.step (k:=k v) (es':=#[⟨.cell a,false,m==.atomic⟩]) (Kept.refl B w) (by simp[-Sem.runT_eq,Sem.runT,hv]) (by simp[-Sem.runT_eq,Sem.runT,Fy hB,hv]) (by simp[Jv,hB,Ip hv]) (ih v (ht v) hR)
      | none=>
        have wC : (EF B w).farLoad P a (m==.atomic) = .error ((EF B w).noCell a "load: no such cell")\/∃at_ u, w.heap[a.block]? = some (.view at_ u)/\((∃why, (EF B w).farLoad P a (m==.atomic) = .error (.unsupported (.unsafePointer why)))\/∃v ts, (EF B w).farLoad P a (m==.atomic) = .ok (v, ts)/\w.farLoad P a (m==.atomic) = .ok (v, ts)/\∀t ∈ ts, B t.block = false/\t.block<w.heap.size) := by
          unfold World.farLoad;rw[Fu hB];cases ho:w.heap[a.block]? with
          | none=>exact .inl rfl
          | some o=>
            cases o with
            | view at_ u=>
              refine .inr ⟨at_,u,rfl,?_⟩;simp only[Option.map_some,dep];cases hBa:B at_.block with
              | true=>
                left
                cases hvl:(EF B w).viewLoad P at_ u a (m==.atomic)with
                | error why=>exact⟨why,rfl⟩
                | ok r=>
                  exfalso
                  unfold World.viewLoad at hvl;cases hse:(EF B w).seen P at_ u a (m==.atomic)with
                  | error e=>rw[hse]at hvl;cases hvl
                  | ok r=>exact Yq hR hBa u a _ r hse
              | false=>
                have e:(EF B w).viewLoad P at_ u a (m==.atomic)=w.viewLoad P at_ u a (m==.atomic):=Un hBa _ _ _;rw[e];cases hvl:w.viewLoad P at_ u a (m==.atomic)with
                | error why=>exact .inl ⟨why,rfl⟩
                | ok r=>
                  refine .inr ⟨r.1,r.2,rfl,rfl,?_⟩;unfold World.viewLoad at hvl;cases hse:w.seen P at_ u a (m==.atomic)with
                  | error e=>rw[hse]at hvl;cases hvl
                  | ok q=>
                    obtain⟨q1,q2,q3,q4,q5,q6⟩:=q;rw[hse]at hvl;simp only[bind,Except.bind,pure,Except.pure]at hvl;split at hvl
                    . cases hvl
                      intro t jy;obtain⟨z,_,rfl⟩:=List.mem_map.1 jy;exact⟨hBa,by have:=mD hse;exact this⟩
                    . cases hvl
            | _=>exact .inl rfl
        rcases wC with he|⟨at_,u,ho,⟨why,he⟩|⟨v,ts,he,he',hts⟩⟩
        . refine Through.none ?_;simp only[Sem.runT,Fy hB,hv,he];unfold World.noCell;split<;>simp[GV]
        . exact Through.none (by simp[-Sem.runT_eq,Sem.runT,Fy hB,hv,he,GV])
        . exact Through.step (k:=k v) (es':=ts.toArray.map (⟨.cell ·,false,m==.atomic⟩)) (Kept.refl B w) (by simp[-Sem.runT_eq,Sem.runT,hv,he']) (by simp[-Sem.runT_eq,Sem.runT,Fy hB,hv,he])
            (fun e hm=>by obtain⟨t,jy,rfl⟩:=Array.mem_map.1 hm;exact⟨(hts t (by simpa using jy)).1,(hts t (by simpa using jy)).2,by simp⟩) (ih v (ht v) hR)
  | store m a v k ih=>
    intro w es ht hR;have hagg:(∃cs,v=.agg cs)\/(∃cs,v=.tuple cs)\/((∀cs,v≠.agg cs)/\∀cs,v≠.tuple cs):=by cases v<;>simp
    rcases hagg with⟨cs,rfl⟩|⟨cs,rfl⟩|⟨n1,n2⟩
    . exact Through.none (by simp[-Sem.runT_eq,Sem.runT,GV])
    . exact Through.none (by simp[-Sem.runT_eq,Sem.runT,GV])
    have run:∀w:World,(Sem.store m a v k).runT P w es=match w.cell? a with
        | some _ => if w.frozen? a then(.halt (.unsupported (.unsafePointer "a write to bytes that a string shares")) w, es)else k.runT P (w.setCell a v) (es.push ⟨.cell a, true, m==.atomic⟩)
        | none=>match w.farStore P a v (m==.atomic)with
          | .ok (w,touched)=>k.runT P w (es++touched.toArray.map (⟨.cell ·,true,m==.atomic⟩))
          | .error h=>(.halt h w,es):=by
      intro w;cases v<;>first | (exact absurd rfl (n1 _)) | (exact absurd rfl (n2 _)) | (simp only[Sem.runT]<;>rfl)
    cases hB:B a.block with
    | true=>
      obtain⟨c,e,f,hc⟩:=hR _ hB;refine Through.none ?_;simp[-Sem.runT_eq,run,JO hR hB,World.farStore,H6 hB hc,World.noCell,GV]
    | false=>
      cases hv:w.cell? a with
      | some v0=>
        cases hz:B.KH a.block with
        | true=>exact Through.none (by simp[-Sem.runT_eq,run,Fy hB,hv,Ud hR hB hz hv,GV])
        | false=>
        cases hf:w.frozen? a with
        | true=>exact Through.none (by simp[-Sem.runT_eq,run,Fy hB,hv,I9 hR (.inr hz),hf,GV])
        | false=>
          have hk:Kept B w (w.setCell a v):=⟨rfl,rfl,rfl,Nat.le_refl _,by simp[World.setCell],fun b hb=>by
            have:a.block≠b:=by rintro rfl;rw[hB]at hb;cases hb
            simp[World.setCell,Array.getElem?_modify,this],fun b o ho hn=>by
            have:a.block≠b:=by rintro rfl;obtain⟨c,e,f,hc⟩:=QB hv;exact hn c e f (Option.some.inj (ho.symm.trans hc))
            simpa [World.setCell,Array.getElem?_modify,this]using ho,fun b c e hp=>by
            simp only[World.setCell,Array.getElem?_modify]at hp;split at hp
            . cases ho:w.heap[b]? with
              | none=>rw[ho]at hp;cases hp
              | some o=>
                rw[ho]at hp;cases o<;>simp at hp ⊢
                exact hp
            . exact hp,fun b hb=>by
            have:a.block≠b:=by rintro rfl;rw[hz]at hb;cases hb
            simp[World.setCell,Array.getElem?_modify,this]⟩
          exact Through.step (k:=k) (es':=#[⟨.cell a,true,m==.atomic⟩]) hk (by simp[-Sem.runT_eq,run,hv,hf]) (by simp[-Sem.runT_eq,run,Fy hB,hv,I9 hR (.inr hz),hf,Pw hB hz]) (by have:=Ip hv;simp[Jv,hB,hz,World.setCell,this]) (ih ht (hR.kept hk))
      | none=>
        have wC:(∃h,(EF B w).farStore P a v (m==.atomic)=.error h/\∀v,h≠.panic v)\/∃w' ts,(EF B w).farStore P a v (m==.atomic)=.ok (EF B w',ts)/\w.farStore P a v (m==.atomic)=.ok (w',ts)/\Kept B w w'/\∀t∈ts,B t.block=false/\t.block<w'.heap.size/\B.KH t.block=false:=by
          unfold World.farStore;rw[Fu hB];have hno:∀(what:String) v,(EF B w).noCell a what≠.panic v:=by intro what v;unfold World.noCell;split<;>simp
          cases ho:w.heap[a.block]? with
          | none=>exact .inl ⟨_,rfl,hno _⟩
          | some o=>
            cases o with
            | view at_ u=>
              simp only[Option.map_some,dep];cases hBa:B at_.block with
              | true=>
                left
                cases hvl:(EF B w).viewStore P at_ u a v (m==.atomic)with
                | error why=>exact⟨_,rfl,by simp⟩
                | ok r=>
                  exfalso
                  unfold World.viewStore at hvl;cases hse:(EF B w).seen P at_ u a (m==.atomic)with
                  | error e=>
                    simp only[hse,bind,Except.bind,pure,Except.pure,throw,throwThe,MonadExceptOf.throw]at hvl;split at hvl<;>cases hvl
                  | ok r=>exact Yq hR hBa u a _ r hse
              | false=>
                cases hz:B.KH at_.block with
                | true=>
                  obtain⟨why,he⟩:=Sn (P:=P) hR hBa hz u a v (m==.atomic);exact .inl ⟨_,by rw[he],by simp⟩
                | false=>
                cases hvl:w.viewStore P at_ u a v (m==.atomic)with
                | error why=>
                  left
                  cases sS:(EF B w).viewStore P at_ u a v (m==.atomic)with
                  | error Ap6=>exact⟨_,rfl,by simp⟩
                  | ok r=>
                    exfalso
                    unfold World.viewStore at hvl sS;rw[Rz hBa hz]at sS;simp only[bind,Except.bind,pure,Except.pure,throw,throwThe,MonadExceptOf.throw]at hvl sS;repeat' split at hvl
                    all_goals first | (cases hvl;done) | (simp_all;done)
                | ok r=>
                  right
                  obtain⟨w',ts⟩:=r;have Akm:=hvl;have hsc:∃c e f,w.heap[at_.block]?=some (.cells c e f):=by
                    unfold World.viewStore at hvl;cases hse:w.seen P at_ u a (m==.atomic)with
                    | error e=>
                      simp only[hse,bind,Except.bind,pure,Except.pure,throw,throwThe,MonadExceptOf.throw]at hvl;split at hvl<;>cases hvl
                    | ok r=>exact seen_cells hse
                  unfold World.viewStore at hvl;simp only[bind,Except.bind,pure,Except.pure,throw,throwThe,MonadExceptOf.throw]at hvl;have key:∃c e f ts0,w'={ w with heap:=w.heap.setIfInBounds at_.block (.cells c e f) }/\ts=ts0/\(EF B w).viewStore P at_ u a v (m==.atomic)=.ok ({ EF B w with heap:=(EF B w).heap.setIfInBounds at_.block (.cells c e f) },ts0)/\∀t∈ts0,B t.block=false/\t.block=at_.block:=by
                    unfold World.viewStore;rw[Rz hBa hz];simp only[bind,Except.bind,pure,Except.pure,throw,throwThe,MonadExceptOf.throw];repeat' split at hvl
                    all_goals first
                      | (cases hvl;done)
                      | (cases hvl
                         refine⟨_,_,_,_,rfl,rfl,?_,fun t jy=>by obtain⟨z,_,rfl⟩:=List.mem_map.1 jy;exact⟨hBa,rfl⟩⟩
                         simp_all)
                  obtain⟨c,e,f,ts0,rfl,rfl,hj,hts⟩:=key;obtain⟨c0,e0,f0,hc0⟩:=hsc;have Acu:=(zGE hc0).1;refine⟨_,_,?_,rfl,⟨rfl,rfl,rfl,Nat.le_refl _,by simp,fun b hb=>?_,fun b o ho hn=>?_,fun b c e hp=>?_,fun b hb=>?_⟩,fun t ht=>⟨(hts t ht).1,by rw[(hts t ht).2];simpa using Acu,by rw[(hts t ht).2];exact hz⟩⟩
                  . rw[hj];simp only[P8 (o:=.cells _ _ _) trivial hBa hz]
                  . have:at_.block≠b:=by rintro rfl;rw[hBa]at hb;cases hb
                    simp[Array.getElem?_setIfInBounds,this]
                  . have:at_.block≠b:=by rintro rfl;exact hn c0 e0 f0 (Option.some.inj (ho.symm.trans hc0))
                    simpa [Array.getElem?_setIfInBounds,this]using ho
                  . simp only[Array.getElem?_setIfInBounds]at hp;split at hp
                    . first | (split at hp<;>cases hp) | cases hp
                    . exact hp
                  . have:at_.block≠b:=by rintro rfl;rw[hz]at hb;cases hb
                    simp[Array.getElem?_setIfInBounds,this]
            | _=>exact .inl ⟨_,rfl,hno _⟩
        rcases wC with⟨h,he,hp⟩|⟨w',ts,he,he',hk,hts⟩
        . refine Through.none ?_;simp only[run,Fy hB,hv,he];cases h<;>first | (exact absurd rfl (hp _)) | rfl
        . exact Through.step (k:=k) (es':=ts.toArray.map (⟨.cell ·,true,m==.atomic⟩)) hk (by simp[-Sem.runT_eq,run,hv,he']) (by simp[-Sem.runT_eq,run,Fy hB,hv,he])
            (fun e hm=>by obtain⟨t,jy,rfl⟩:=Array.mem_map.1 hm;exact⟨(hts t (by simpa using jy)).1,(hts t (by simpa using jy)).2.1,fun _=>(hts t (by simpa using jy)).2.2⟩) (ih ht (hR.kept hk))
  | new o k ih=>
    intro w es ht hR;have hs:B w.heap.size=false:=hR.above (Nat.le_refl _);have hz:B.KH w.heap.size=false:=hR.rZ (Nat.le_refl _);have hk:Kept B w { w with heap:=w.heap.push o }:=⟨rfl,rfl,rfl,Nat.le_refl _,by simp,fun b hb=>by
      have:=hR.lt hb;rw[Array.getElem?_push];simp[Nat.ne_of_lt this],fun b o' ho hn=>by
      have:=(zGE ho).1;rw[Array.getElem?_push]
      simpa [Nat.ne_of_lt this]using ho,fun b c e hp=>by
      simp only[Array.getElem?_push]at hp;split at hp
      . obtain rfl:=Option.some.inj hp;exact ht.1.elim
      . exact hp,fun b hb=>by
      have:=hR.ltz hb;rw[Array.getElem?_push];simp[Nat.ne_of_lt this]⟩
    exact Through.step0 (k:=k w.heap.size) hk (by simp[-Sem.runT_eq,Sem.runT]) (by simp only[Sem.runT,Hl,R4 ht.1 hs hz]) (ih _ (ht.2 _) (hR.kept hk))
  | shape r k ih=>
    intro w es ht hR;have e:Dead P (k ((EF B w).shape? r))\/k ((EF B w).shape? r)=k (w.shape? r):=by
      cases hB:B r with
      | false=>
        refine .inr ?_;simp only[World.shape?,Fu hB];cases w.heap[r]? with
        | none=>rfl
        | some o=>cases o<;>rfl
      | true=>
        obtain⟨c,e,f,hc⟩:=hR _ hB;simp only[World.shape?,H6 hB hc,hc];exact(ht.2 e c.size).imp id Eq.symm
    rcases e with e|e
    . exact Through.none (by simp only[Sem.runT];rw[Sem.runT_fst];exact e _)
    . exact Through.step0 (k:=k (w.shape? r)) (Kept.refl B w) (by simp[-Sem.runT_eq,Sem.runT]) (by simp only[Sem.runT];rw[e]) (ih _ (ht.1 _) hR)
  | freeze a n k ih=>exact fun ht=>ht.elim
  | frozen a k ih=>
    intro w es ht hR;by_cases he:(EF B w).frozen? a=w.frozen? a
    . exact Through.step0 (k:=k (w.frozen? a)) (Kept.refl B w) (by simp[-Sem.runT_eq,Sem.runT]) (by simp only[Sem.runT,he]) (ih _ (ht.1 _) hR)
    . have h1:w.frozen? a=false:=by
        cases h:w.frozen? a with
        | false=>rfl
        | true=>exact absurd ((Si h hR).trans h.symm) he
      have h2:(EF B w).frozen? a=true:=by
        cases h:(EF B w).frozen? a with
        | true=>rfl
        | false=>exact absurd (h.trans h1.symm) he
      intro x w1 hx;have e1:(Sem.frozen a k).runT P w es=(k false).runT P w es:=by simp[-Sem.runT_eq,Sem.runT,h1]
      have e2:(Sem.frozen a k).runT P (EF B w) es=(k true).runT P (EF B w) es:=by simp[-Sem.runT_eq,Sem.runT,h2]
      rw[e2]at hx;have e3:=ht.2 (EF B w) es (by rw[hx];simp);rw[← e3]at hx;obtain⟨w2,es2,a1,a2,a3,a4,a5,a6,a7⟩:=ih false (ht.1 false) hR x w1 hx;exact⟨w2,es2,by rw[e1];exact a1,a2,a3,a4,by rw[e1];exact a5,by rw[e2,← e3];exact a6,a7⟩
  | getObj r k ih=>
    intro w es ht hR;cases hB:B r with
    | true=>
      obtain⟨c,e,f,hc⟩:=hR _ hB;exact Through.none (by simp[-Sem.runT_eq,Sem.runT,H6 hB hc,GV])
    | false=>
      cases ho:w.heap[r]? with
      | none=>exact Through.none (by simp[-Sem.runT_eq,Sem.runT,Fu hB,ho,GV])
      | some o=>
        by_cases hc:∃c e f,o=.cells c e f
        . obtain⟨c,e,f,rfl⟩:=hc;exact Through.none (by simp[-Sem.runT_eq,Sem.runT,Fu hB,ho,GV,dep])
        . have run:∀(o:Obj) (w:World),(¬ ∃c e f,o=.cells c e f)->w.heap[r]?=some o->(Sem.getObj r k).runT P w es=(k o).runT P w (es.push ⟨.obj r,false,o.isChan⟩):=by intro o w hc hw;cases o<;>first | (exact absurd ⟨_,_,_,rfl⟩ hc) | simp[-Sem.runT_eq,Sem.runT,hw]
          by_cases hp:∃c e,o=.pending c e
          . obtain⟨c,e,rfl⟩:=hp;have hh:(EF B w).heap[r]?=some (.coro none):=by rw[Fu hB,ho];rfl
            have rh:=run (.coro none) (EF B w) (by rintro⟨_,_,_,h⟩;cases h) hh;rcases ht.2 c e with hd|he
            . exact Through.none (by rw[rh,Sem.runT_fst];exact hd _)
            . exact Through.step (k:=k (.pending c e)) (es':=#[⟨.obj r,false,false⟩]) (Kept.refl B w) (by simpa [-Sem.runT_eq,Obj.isChan]using run _ w hc ho) (by rw[rh,he];simp[-Sem.runT_eq,Obj.isChan]) (by have:=(zGE ho).1;simp[Jv,hB,this]) (ih _ (ht.1 _) hR)
          . have hd:dep (B.KH r) o=o:=by cases o<;>first | rfl | exact absurd ⟨_,_,rfl⟩ hp | exact absurd ⟨_,_,_,rfl⟩ hc
            exact Through.step (k:=k o) (es':=#[⟨.obj r,false,o.isChan⟩]) (Kept.refl B w) (by simpa [-Sem.runT_eq]using run o w hc ho) (by simpa [-Sem.runT_eq]using run o _ hc ((Fu hB).trans (by rw[ho,Option.map_some,hd]))) (by have:=(zGE ho).1;simp[Jv,hB,this]) (ih _ (ht.1 _) hR)
  | setObj r o k ih=>exact fun ht=>ht.elim
  | choose q k ih=>
    intro w es ht hR;cases hq:q.forced with
    | true=>exact Through.step0 (k:=k 0) (Kept.refl B w) (by simp[-Sem.runT_eq,Sem.runT,hq]) (by simp[-Sem.runT_eq,Sem.runT,hq]) (ih _ (ht _) hR)
    | false=>
      have hk:Kept B w { w with drawn:=w.drawn+1 }:=⟨rfl,rfl,rfl,Nat.le_succ _,Nat.le_refl _,fun _ _=>rfl,fun _ _ h _=>h,fun _ _ _ h=>h,fun _ _=>rfl⟩
      exact Through.step0 (k:=k (q.cut (w.tape w.drawn q))) hk (by simp[-Sem.runT_eq,Sem.runT,hq]) (by simp[-Sem.runT_eq,Sem.runT,hq,EF]) (ih _ (ht _) (hR.kept hk))
  | sys c k ih=>exact fun ht=>ht.elim
  | program k ih=>
    intro w es ht hR;exact Through.step0 (k:=k P) (Kept.refl B w) (by simp[-Sem.runT_eq,Sem.runT]) (by simp[-Sem.runT_eq,Sem.runT]) (ih _ ht hR)
  | mark m k ih=>
    intro w es ht hR;exact Through.step (k:=k) (es':=#[⟨.mark m,false,true⟩]) (Kept.refl B w) (by simp[-Sem.runT_eq,Sem.runT]) (by simp[-Sem.runT_eq,Sem.runT]) (by simp[Jv];exact ht.1) (ih ht.2 hR)
  | halt x=>
    intro w es ht hR x' w1 hx;cases x with
    | panic v=>
      simp only[Sem.runT,GV,Option.some.injEq,Prod.mk.injEq]at hx;obtain⟨rfl,rfl⟩:=hx;exact⟨w,#[],rfl,rfl,Kept.refl B w,(fun a e=>by cases e),by simp[-Sem.runT_eq,Sem.runT],by simp[-Sem.runT_eq,Sem.runT],by simp⟩
    | _=>simp[-Sem.runT_eq,Sem.runT,GV]at hx
end
end
end Go.LT
end
