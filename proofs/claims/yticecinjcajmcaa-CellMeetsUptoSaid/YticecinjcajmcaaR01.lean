/-
  Part 1 of the proof that CellMeets returns true, and leaves its arguments as they were, for every input whose reading is of bulk at most 1048576. No further condition.
-/
import Derived.Test.YticecinjcajmcaaR00
import Derived.Conc.TokenWalk
import Derived.Conc.Token
import Derived.Conc.CrowdSit
set_option linter.unusedVariables false
set_option linter.unusedSectionVars false
set_option linter.unusedSimpArgs false
noncomputable section
namespace Go.LC
open Go Go.Conc
section
structure FI (Still:Nat->Loc->Prop)(Shun:Loc->Prop)(Mem Loose:Nat->Prop)(B:Nat)(K:Nat->Prop)(t:Trace):Prop where
  clean:∀ said,¬ Race said t
  known:∀ i a,touchAt t i=some a->a.loc.isMemory=true->K i\/(a.write=false/\∃ g,t.g? i=some g/\Loose g/\Still g a.loc)\/(Shun a.loc/\a.kind=.atomic/\¬ t.counts i)
  atom:∀ i a,touchAt t i=some a->Shun a.loc->a.kind≠.plain
  wrote:∀ i a,touchAt t i=some a->a.write=true->∀ g,Mem g->Still g a.loc->Knows t g i
  hears:∀ g,Mem g->Deaf t g=0
  seen:∀ op∈t,op.act.low B
section
variable {Still:Nat->Loc->Prop}{Shun:Loc->Prop}{Mem Loose:Nat->Prop}{B h:Nat}{K K':Nat->Prop}{t u:Trace}
theorem FI.mono {B':Nat}(H:FI Still Shun Mem Loose B K t)(hB:B<=B'):FI Still Shun Mem Loose B' K t:=⟨H.clean,H.known,H.atom,H.wrote,H.hears,fun op hop=>MemAct.low_mono hB (H.seen op hop)⟩
theorem FI.fewer {Mem':Nat->Prop}(H:FI Still Shun Mem Loose B K t)(hM:∀ g,Mem' g->Mem g):FI Still Shun Mem' Loose B K t:=⟨H.clean,H.known,H.atom,fun i a ha hw g hg=>H.wrote i a ha hw g (hM g hg),fun g hg=>H.hears g (hM g hg),H.seen⟩
theorem FI.loosen {Loose':Nat->Prop}(H:FI Still Shun Mem Loose B K t)(hL:∀ g,Loose g->Loose' g):FI Still Shun Mem Loose' B K t:=
  ⟨H.clean,fun i a ha hm=>(H.known i a ha hm).imp id (Or.imp (fun ⟨x,g,hg,hl,hs⟩=>⟨x,g,hg,hL g hl,hs⟩) id),H.atom,H.wrote,H.hears,H.seen⟩
theorem FI.still {Still':Nat->Loc->Prop}(H:FI Still Shun Mem Loose B K t)(hS:∀ g l,Still g l->Still' g l)(hw:∀ i a,touchAt t i=some a->a.write=true->∀ g,Mem g->Still' g a.loc->Still g a.loc\/Knows t g i):FI Still' Shun Mem Loose B K t:=
  ⟨H.clean,fun i a ha hm=>(H.known i a ha hm).imp id (Or.imp (fun ⟨x,g,hg,hl,hs⟩=>⟨x,g,hg,hl,hS _ _ hs⟩) id),H.atom,fun i a ha hwr g hg hs=>(hw i a ha hwr g hg hs).elim (H.wrote i a ha hwr g hg) id,H.hears,H.seen⟩
theorem FI.shun {Shun':Loc->Prop}(H:FI Still Shun Mem Loose B K t)(hS:∀ l,Shun l->Shun' l)(hn:∀ i a,touchAt t i=some a->Shun' a.loc->Shun a.loc\/a.kind≠.plain):FI Still Shun' Mem Loose B K t:=
  ⟨H.clean,fun i a ha hm=>(H.known i a ha hm).imp id (Or.imp id fun ⟨x,y⟩=>⟨hS _ x,y⟩),fun i a ha hs=>(hn i a ha hs).elim (H.atom i a ha) id,H.wrote,H.hears,H.seen⟩
theorem FI.old_known (H:FI Still Shun Mem Loose B K t)(hK:∀ i,K i->K' i){i:Nat}{a:Touch}{x:MemOp}(hx':t[i]?=some x)(hxa:x.act.touch?=some a)(hm:a.loc.isMemory=true) :
    K' i\/(a.write=false/\∃ g,(t ++ u).g? i=some g/\Loose g/\Still g a.loc)\/(Shun a.loc/\a.kind=.atomic/\¬ (t ++ u).counts i):=by
  have hlt:=lt_size_of_getElem? hx';rcases H.known i a (by rw [touchAt_of hx'];exact hxa) hm with hk|⟨p,g,hg,hl,hs⟩|⟨p,q,hc⟩
  . exact .inl (hK i hk)
  . exact .inr (.inl ⟨p,g,by rw [g?_old hlt];exact hg,hl,hs⟩)
  . exact .inr (.inr ⟨p,q,fun h=>hc ((counts_old hlt).1 h)⟩)
theorem FI.old_hears {g:Nat}(H:FI Still Shun Mem Loose B K t)(hu:∀ op∈u,op.g=g)(hd:Mem g->Deaf (t ++ u) g=Deaf t g):∀ g',Mem g'->Deaf (t ++ u) g'=0:=fun g' hg'=>by
  by_cases e:g'=g
  . subst e;exact (hd hg').trans (H.hears g' hg')
  . exact (Deaf_other t (fun x=>e x.symm) u hu).trans (H.hears g' hg')
theorem FI.JB (H:FI Still Shun Mem Loose B K t){i:Nat}{a:Touch}{x:MemOp}(hx':t[i]?=some x)(hxa:x.act.touch?=some a)(hw:a.write=true){g:Nat}(hg:Mem g)(hS:Still g a.loc):Knows (t ++ u) g i:=
  (H.wrote i a (by rw [touchAt_of hx'];exact hxa) hw g hg hS).app u
theorem FI.KD (H:FI Still Shun Mem Loose B K t){i:Nat}{a:Touch}{x:MemOp}(hx':t[i]?=some x)(hxa:x.act.touch?=some a)(hS:Shun a.loc):a.kind≠.plain:=H.atom i a (by rw [touchAt_of hx'];exact hxa) hS
theorem FI.mute {g:Nat}(H:FI Still Shun Mem Loose B K t)(hK:∀ i,K i->K' i)(hu:∀ op∈u,op.g=g)(hn:∀ op∈u,op.act.touch?=none)(hd:Mem g->Deaf (t ++ u) g=Deaf t g)(hl:∀ op∈u,op.act.low B):FI Still Shun Mem Loose B K' (t ++ u):=by
  refine ⟨fun said=>noRace_appendMute (H.clean said) hn,fun i a ha hm=>?_,fun i a ha hS=>?_,fun i a ha hw g' hg' hS=>?_,H.old_hears hu hd,seen_app H.seen hl⟩ <;>
  . obtain ⟨x,hx,hxa⟩:=touch_of ha;rcases getElem?_append_cases hx with ⟨_,hx'⟩|⟨_,hxu⟩
    . first | exact H.old_known hK hx' hxa hm | exact H.KD hx' hxa hS | exact H.JB hx' hxa hw hg' hS
    . rw [hn x hxu] at hxa;cases hxa
theorem FI.read {g:Nat}(H:FI Still Shun Mem Loose B K t)(hK:∀ i,K i->K' i)(hg:Mem g)(hL:Loose g)(hu:∀ op∈u,op.g=g)(hr:∀ op∈u,∀ b,op.act.touch?=some b->b.write=false/\Still g b.loc/\¬ Shun b.loc)(hd:Deaf (t ++ u) g=Deaf t g)(hl:∀ op∈u,op.act.low B):FI Still Shun Mem Loose B K' (t ++ u):=by
  refine ⟨fun said=>noRace_append (H.clean said) hu fun i a ha op hop b hb hc=>?_,fun i a ha hm=>?_,fun i a ha hS=>?_,fun i a ha hw g' hg' hS=>?_,H.old_hears hu (fun _=>hd),seen_app H.seen hl⟩
  . obtain ⟨hb0,hbS,_⟩:=hr op hop b hb;rcases hc.2.2.1 with x|x
    . exact H.wrote i a ha x g hg (hc.1 ▸ hbS)
    . rw [hb0] at x;cases x
  . obtain ⟨x,hx,hxa⟩:=touch_of ha;rcases getElem?_append_cases hx with ⟨_,hx'⟩|⟨_,hxu⟩
    . exact H.old_known hK hx' hxa hm
    . exact .inr (.inl ⟨(hr x hxu a hxa).1,g,by rw [g?_of hx,hu x hxu],hL,(hr x hxu a hxa).2.1⟩)
  . obtain ⟨x,hx,hxa⟩:=touch_of ha;rcases getElem?_append_cases hx with ⟨_,hx'⟩|⟨_,hxu⟩
    . exact H.KD hx' hxa hS
    . exact absurd hS (hr x hxu a hxa).2.2
  . obtain ⟨x,hx,hxa⟩:=touch_of ha;rcases getElem?_append_cases hx with ⟨_,hx'⟩|⟨_,hxu⟩
    . exact H.JB hx' hxa hw hg' hS
    . rw [(hr x hxu a hxa).1] at hw;cases hw
theorem FI.hold (H:FI Still Shun Mem Loose B (Knows t h) t)(hLh:¬ Loose h)(hu:∀ op∈u,op.g=h)(hs:∀ op∈u,∀ b,op.act.touch?=some b->(∀ g,g≠h->Still g b.loc->b.write=false)/\(Shun b.loc->b.kind≠.plain))(hd:Mem h->Deaf (t ++ u) h=Deaf t h)(hl:∀ op∈u,op.act.low B) :
    FI Still Shun Mem Loose B (Knows (t ++ u) h) (t ++ u):=by
  refine ⟨fun said=>noRace_append (H.clean said) hu fun i a ha op hop b hb hc=>?_,fun i a ha hm=>?_,fun i a ha hS=>?_,fun i a ha hw g hg hS=>?_,H.old_hears hu hd,seen_app H.seen hl⟩
  . rcases H.known i a ha hc.2.1 with hk | ⟨hw,g,_,hgl,hS⟩ | ⟨hS,hka,_⟩
    . exact hk
    . have hb0:=(hs op hop b hb).1 g (fun e=>hLh (e ▸ hgl)) (hc.1 ▸ hS);rcases hc.2.2.1 with x|x
      . rw [hw] at x;cases x
      . rw [hb0] at x;cases x
    . have hkb:=(hs op hop b hb).2 (hc.1 ▸ hS);obtain ⟨_,_,_,hcase⟩:=hc;rw [hka] at hcase;rcases hcase with x|x|⟨_,x,_⟩
      . cases x
      . exact absurd x hkb
      . cases x
  . obtain ⟨x,hx,hxa⟩:=touch_of ha;rcases getElem?_append_cases hx with ⟨_,hx'⟩|⟨_,hxu⟩
    . exact H.old_known (fun i=>Knows.app u) hx' hxa hm
    . have:=knows_own hx;rw [hu x hxu] at this;exact .inl this
  . obtain ⟨x,hx,hxa⟩:=touch_of ha;rcases getElem?_append_cases hx with ⟨_,hx'⟩|⟨_,hxu⟩
    . exact H.KD hx' hxa hS
    . exact (hs x hxu a hxa).2 hS
  . obtain ⟨x,hx,hxa⟩:=touch_of ha;rcases getElem?_append_cases hx with ⟨_,hx'⟩|⟨_,hxu⟩
    . exact H.JB hx' hxa hw hg hS
    . by_cases e:g=h
      . subst e;have:=knows_own hx;rw [hu x hxu] at this;exact this
      . rw [(hs x hxu a hxa).1 g e hS] at hw;cases hw
theorem FI.deaf {g:Nat}(H:FI Still Shun Mem Loose B K t)(hK:∀ i,K i->K' i)(hg:¬ Mem g)(hu:∀ op∈u,op.g=g)(hr:∀ op∈u,∀ b,op.act.touch?=some b->Shun b.loc/\b.kind=.atomic/\∀ g',¬ Still g' b.loc)(hq:∀ op∈u,∀ d,deafStep g d op=d)(hd:0 < Deaf t g)(hl:∀ op∈u,op.act.low B):FI Still Shun Mem Loose B K' (t ++ u):=by
  refine ⟨fun said=>noRace_append (H.clean said) hu fun i a ha op hop b hb hc=>?_,fun i a ha hm=>?_,fun i a ha hS=>?_,fun i a ha hw g' hg' hS=>?_,H.old_hears hu (fun x=>absurd x hg),seen_app H.seen hl⟩
  . obtain ⟨hbS,hkb,_⟩:=hr op hop b hb;have hka:=H.atom i a ha (hc.1 ▸ hbS);obtain ⟨_,_,_,hcase⟩:=hc;rw [hkb] at hcase;rcases hcase with x|x|⟨_,_,x⟩
    . exact absurd x hka
    . cases x
    . cases x
  . obtain ⟨x,hx,hxa⟩:=touch_of ha;rcases getElem?_append_cases hx with ⟨_,hx'⟩|⟨hge,hxu⟩
    . exact H.old_known hK hx' hxa hm
    . refine .inr (.inr ⟨(hr x hxu a hxa).1,(hr x hxu a hxa).2.1,fun hcnt=>?_⟩);obtain ⟨y,hy,_,hh⟩:=hcnt;have hya:y=a:=by have:touchAt (t ++ u) i=some y:=hy;rw [ha] at this;exact (Option.some.inj this).symm
      subst hya;rcases hh with hh|⟨g2,hg2,hdf⟩
      . exact hh (hr x hxu y hxa).2.1
      . have hgx:g2=g:=by have:=g?_of hx;rw [hg2,hu x hxu] at this;exact Option.some.inj this
        subst hgx;have hlt:=lt_size_of_getElem? hx;simp only [Array.size_append] at hlt;have:=deaf_quiet (t:=t) hq (i - t.size) zOM;rw [show t.size+(i - t.size)=i by omega,hdf] at this;omega
  . obtain ⟨x,hx,hxa⟩:=touch_of ha;rcases getElem?_append_cases hx with ⟨_,hx'⟩|⟨_,hxu⟩
    . exact H.KD hx' hxa hS
    . rw [(hr x hxu a hxa).2.1];simp
  . obtain ⟨x,hx,hxa⟩:=touch_of ha;rcases getElem?_append_cases hx with ⟨_,hx'⟩|⟨_,hxu⟩
    . exact H.JB hx' hxa hw hg' hS
    . exact absurd hS ((hr x hxu a hxa).2.2 g')
theorem FI.join (H:FI Still Shun Mem Loose B (Knows t h) t)(h0:Deaf t h=0)(hmem:∀ g l,Still g l->l.isMemory=true/\¬ Shun l):FI Still Shun (fun g=>Mem g\/g=h) Loose B (Knows t h) t:=
  ⟨H.clean,H.known,H.atom,fun i a ha hw g hg hS=>by
    rcases hg with hg|rfl
    . exact H.wrote i a ha hw g hg hS
    . rcases H.known i a ha (hmem _ _ hS).1 with hk | ⟨hr,_⟩ | ⟨hs,_⟩
      . exact hk
      . rw [hw] at hr;cases hr
      . exact absurd hs (hmem _ _ hS).2,fun g hg=>hg.elim (H.hears g) fun e=>e ▸ h0,H.seen⟩
theorem Ye {h j:Nat}(hh:Deaf t h=0)(hj:Deaf t j=0)(fh:FuncId)(ph:String)(fj:FuncId)(pj:String)(c k cap:Nat){i:Nat}(hk:Knows t h i):Knows (t ++ met h j fh ph fj pj c k cap) j i:=by
  have e0:(t ++ met h j fh ph fj pj c k cap)[t.size]?=some { g:=h,fn:=fh,pos:=ph,act:=.send c k }:=by simp [met]
  have e3:(t ++ met h j fh ph fj pj c k cap)[t.size+3]?=some { g:=j,fn:=fj,pos:=pj,act:=.recvDone c k }:=by simp [met]
  have edge:HappensBefore (t ++ met h j fh ph fj pj c k cap) t.size (t.size+3):=
    Relation.TransGen.single (.inr ⟨.handOver (act?_of e0) (act?_of e3),⟨h,g?_of e0,by rw [deaf_old (Nat.le_refl _)];exact hh⟩,⟨j,g?_of e3,by rw [deaf_quiet (met_quiet _ _ _ _ _ _ _ _ _ j) 3 (by simp [met])];exact hj⟩⟩)
  exact ⟨t.size+3,_,e3,rfl,.inr ((hk.hb_new (Nat.le_refl _) e0 rfl).trans edge)⟩
theorem FI.give {j:Nat}(H:FI Still Shun Mem Loose B (Knows t h) t)(hh:Mem h)(hj:Mem j)(fh:FuncId)(ph:String)(fj:FuncId)(pj:String){c:Nat}(k cap:Nat)(hc:c < B) :
    FI Still Shun Mem (fun g=>Loose g/\g≠j) B (Knows (t ++ met h j fh ph fj pj c k cap) j) (t ++ met h j fh ph fj pj c k cap):=by
  have hn:=met_mute h j fh ph fj pj c k cap;have hq:=met_quiet h j fh ph fj pj c k cap;refine ⟨fun said=>noRace_appendMute (H.clean said) hn,fun i a ha hm=>?_,fun i a ha hS=>?_,fun i a ha hw g hg hS=>?_,fun g hg=>(Deaf_quiet (hq g)).trans (H.hears g hg),seen_app H.seen fun op hop=>?_⟩
  . obtain ⟨x,hx,hxa⟩:=touch_of ha;rcases getElem?_append_cases hx with ⟨hi,hx'⟩|⟨_,hxu⟩
    . rcases H.known i a (by rw [touchAt_of hx'];exact hxa) hm with hk | ⟨p,g,hg,hl,hs⟩ | ⟨p,q,hcn⟩
      . exact .inl (Ye (H.hears h hh) (H.hears j hj) fh ph fj pj c k cap hk)
      . by_cases e:g=j
        . subst e;have:=knows_own hx;rw [show x.g=g from by have:=g?_of hx';rw [hg] at this;exact (Option.some.inj this).symm] at this;exact .inl this
        . exact .inr (.inl ⟨p,g,by rw [g?_old hi];exact hg,⟨hl,e⟩,hs⟩)
      . exact .inr (.inr ⟨p,q,fun h=>hcn ((counts_old hi).1 h)⟩)
    . rw [hn x hxu] at hxa;cases hxa
  . obtain ⟨x,hx,hxa⟩:=touch_of ha;rcases getElem?_append_cases hx with ⟨_,hx'⟩|⟨_,hxu⟩
    . exact H.KD hx' hxa hS
    . rw [hn x hxu] at hxa;cases hxa
  . obtain ⟨x,hx,hxa⟩:=touch_of ha;rcases getElem?_append_cases hx with ⟨_,hx'⟩|⟨_,hxu⟩
    . exact H.JB hx' hxa hw hg hS
    . rw [hn x hxu] at hxa;cases hxa
  . simp only [met,List.mem_toArray,List.mem_cons,List.not_mem_nil,or_false] at hop;rcases hop with rfl|rfl|rfl|rfl <;> exact hc
theorem FI.hire {c:Nat}(H:FI Still Shun Mem Loose B (Knows t h) t)(hh:Mem h)(hc0:Deaf t c=0)(hSc:∀ l,¬ Still c l)(fh:FuncId)(ph:String)(fc:FuncId) :
    FI Still Shun (fun g=>Mem g\/g=c) Loose B (Knows (t ++ #[{ g:=h,fn:=fh,pos:=ph,act:=.go c },{ g:=c,fn:=fc,pos:=ph,act:=.start }]) c) (t ++ #[{ g:=h,fn:=fh,pos:=ph,act:=.go c },{ g:=c,fn:=fc,pos:=ph,act:=.start }]):=by
  generalize hu:(#[{ g:=h,fn:=fh,pos:=ph,act:=.go c },{ g:=c,fn:=fc,pos:=ph,act:=.start }]:Trace)=u;have hn:∀ op∈u,op.act.touch?=none:=by intro op hop;subst hu;simp only [List.mem_toArray,List.mem_cons,List.not_mem_nil,or_false] at hop;rcases hop with rfl|rfl <;> rfl
  have hq:∀ g,∀ op∈u,∀ d,deafStep g d op=d:=by intro g op hop d;subst hu;simp only [List.mem_toArray,List.mem_cons,List.not_mem_nil,or_false] at hop;rcases hop with rfl|rfl <;> rfl
  have e0:(t ++ u)[t.size]?=some { g:=h,fn:=fh,pos:=ph,act:=.go c }:=by subst hu;simp
  have e1:(t ++ u)[t.size+1]?=some { g:=c,fn:=fc,pos:=ph,act:=.start }:=by subst hu;simp
  have edge:HappensBefore (t ++ u) t.size (t.size+1):=
    Relation.TransGen.single (.inr ⟨.spawn (act?_of e0) (act?_of e1) (g?_of e1),⟨h,g?_of e0,by rw [deaf_old (Nat.le_refl _)];exact H.hears h hh⟩,⟨c,g?_of e1,by rw [deaf_quiet (hq c) 1 (by subst hu;simp)];exact hc0⟩⟩)
  refine ⟨fun said=>noRace_appendMute (H.clean said) hn,fun i a ha hm=>?_,fun i a ha hS=>?_,fun i a ha hw g hg hS=>?_,fun g hg=>(Deaf_quiet (hq g)).trans (hg.elim (H.hears g) fun e=>e ▸ hc0),seen_app H.seen fun op hop=>?_⟩
  . obtain ⟨x,hx,hxa⟩:=touch_of ha;rcases getElem?_append_cases hx with ⟨hi,hx'⟩|⟨_,hxu⟩
    . rcases H.known i a (by rw [touchAt_of hx'];exact hxa) hm with hk | ⟨p,g,hg,hl,hs⟩ | ⟨p,q,hcn⟩
      . exact .inl ⟨t.size+1,_,e1,rfl,.inr ((hk.hb_new (Nat.le_refl _) e0 rfl).trans edge)⟩
      . exact .inr (.inl ⟨p,g,by rw [g?_old hi];exact hg,hl,hs⟩)
      . exact .inr (.inr ⟨p,q,fun h=>hcn ((counts_old hi).1 h)⟩)
    . rw [hn x hxu] at hxa;cases hxa
  . obtain ⟨x,hx,hxa⟩:=touch_of ha;rcases getElem?_append_cases hx with ⟨_,hx'⟩|⟨_,hxu⟩
    . exact H.KD hx' hxa hS
    . rw [hn x hxu] at hxa;cases hxa
  . obtain ⟨x,hx,hxa⟩:=touch_of ha;rcases getElem?_append_cases hx with ⟨_,hx'⟩|⟨_,hxu⟩
    . rcases hg with hg | rfl
      . exact H.JB hx' hxa hw hg hS
      . exact absurd hS (hSc _)
    . rw [hn x hxu] at hxa;cases hxa
  . subst hu;simp only [List.mem_toArray,List.mem_cons,List.not_mem_nil,or_false] at hop;rcases hop with rfl|rfl <;> trivial
theorem FI.toPast (H:FI Still Shun Mem Loose B (Knows t 0) t)(h0:Mem 0)(hL:∀ g,¬ Loose g):Past Shun B t:=by
  refine ⟨H.clean,fun i a ha hm=>?_,fun i g hg hne hc=>?_,H.hears 0 h0,H.seen⟩
  . rcases H.known i a ha hm with hk | ⟨_,g,_,hl,_⟩ | ⟨p,q,_⟩
    . exact .inl hk
    . exact absurd hl (hL g)
    . exact .inr ⟨p,q⟩
  . obtain ⟨x,hx,hm,hh⟩:=id hc;rcases H.known i x hx hm with hk|⟨_,g,_,hl,_⟩|⟨_,_,hn⟩
    . obtain ⟨q,z,h1,h2,h3⟩:=hk;rcases h3 with rfl|h3
      . have:=g?_of h1;rw [hg,h2] at this;exact absurd (Option.some.inj this) hne
      . exact ⟨q,by rw [g?_of h1,h2],h3⟩
    . exact absurd hl (hL g)
    . exact absurd hc hn
end
end
section
section
variable {P:Program}{gs:Array Goroutine}{w w₁:World}{sl:Option (Nat × Nat)}{i j k kk:Nat}{g g₂ gj:Goroutine}{es:Array Event}{c cap s:Nat}{buf:Array Value}{tm closed:Bool}{v z zj:Value}{blocking:Bool}{shape shj:CommShape}{cs cases:Array CommCase}
theorem PL (hi:gs[i]?=some g)(h:stepG P (i == 0) g w=.comm g₂ cases blocking shape w₁ es)(hk:cases[k]?=some (scase c v z))(ho:∀ (m:Nat) (c':CommCase),m≠k->cases[m]?=some c'->NoWays w₁ (gs.setIfInBounds i ph) c')(hc:w₁.heap[c]?=some (.chan cap buf false s s tm))(hij:j≠i)(hj:gs[j]?=some (parked gj cs shj))(hkk:cs[kk]?=some (rcase c zj))(hp:partners (gs.setIfInBounds i ph) c false=[(j,kk)]) :
    runT P (crowd gs w sl) i=(.next (crowd ((gs.setIfInBounds j (gj.finishComm P cs shj kk v true)).setIfInBounds i (g₂.finishComm P cases shape k undef false)) (w₁.setChan c cap buf false (s+1) (s+1) tm) sl),
      MemOp.ofEvents i g.frame.fn g.frame.place es ++ met i j g₂.frame.fn g₂.frame.place gj.frame.fn gj.frame.place c s cap):=by
  have hw:ways w₁ (gs.setIfInBounds i ph) (scase c v z)=[.partner j kk]:=by simp [ways,scase,hc,hp]
  have hj':=stand_get (i:=i) hij hj;have hfp:=finishPartner_at P (gs.setIfInBounds i ph) hj' (cs:=cs) (sh:=shj) rfl kk v;have hgd:(gs.setIfInBounds i ph).getD j default=parked gj cs shj:=by rw [Array.getD_eq_getD_getElem?,hj'];rfl
  rw [runT_crowd_comm hi h];unfold communicate;simp only [ready_one hk (by rw [hw];simp) ho,hw];rw [if_neg]
  . simp [choose,Sem.run,Question.forced,bind,Sem.bind,pure,scase,crowd,hc,hfp,hgd,set_stand2,finishComm_parked,rcase,parked,World.setChan,hkk,met];rfl
  . rw [Bool.not_eq_true];exact any_ill (made_of_one hk (made_send v z hc) ho)
theorem PN (hi:gs[i]?=some g)(h:stepG P (i == 0) g w=.comm g₂ cases blocking shape w₁ es)(hk:cases[k]?=some (rcase c z))(ho:∀ (m:Nat) (c':CommCase),m≠k->cases[m]?=some c'->NoWays w₁ (gs.setIfInBounds i ph) c')(hc:w₁.heap[c]?=some (.chan cap #[] closed s s tm))(hij:j≠i)(hj:gs[j]?=some (parked gj cs shj))(hkk:cs[kk]?=some (scase c v zj))(hp:partners (gs.setIfInBounds i ph) c true=[(j,kk)]) :
    runT P (crowd gs w sl) i=(.next (crowd ((gs.setIfInBounds j (gj.finishComm P cs shj kk undef false)).setIfInBounds i (g₂.finishComm P cases shape k v true)) (w₁.setChan c cap #[] closed (s+1) (s+1) tm) sl),
      MemOp.ofEvents i g.frame.fn g.frame.place es ++ met j i gj.frame.fn gj.frame.place g₂.frame.fn g₂.frame.place c s cap):=by
  have hw:ways w₁ (gs.setIfInBounds i ph) (rcase c z)=[.partner j kk]:=by simp [ways,rcase,hc,hp]
  have hj':=stand_get (i:=i) hij hj;have hfp:=finishPartner_at P (gs.setIfInBounds i ph) hj' (cs:=cs) (sh:=shj) rfl kk undef;have hgd:(gs.setIfInBounds i ph).getD j default=parked gj cs shj:=by rw [Array.getD_eq_getD_getElem?,hj'];rfl
  have hov:offeredValue (gs.setIfInBounds i ph) j kk=v:=by simp [offeredValue,hj',parked,hkk,scase]
  rw [runT_crowd_comm hi h];unfold communicate;simp only [ready_one hk (by rw [hw];simp) ho,hw];rw [if_neg]
  . simp [choose,Sem.run,Question.forced,bind,Sem.bind,pure,rcase,crowd,hc,hfp,hgd,hov,set_stand2,finishComm_parked,scase,parked,World.setChan,hkk,met];rfl
  . rw [Bool.not_eq_true];exact any_ill (made_of_one hk (made_recv z hc) ho)
end
end
end Go.LC
namespace Go.LC
open Go Go.Conc
open Go.ConcN (WgLive RW AtK1 AtD1 AtD2 AtD3 AtD4)
open Go.ConcR (KK wgBlock WgAt stA smA rd wr mk Payload DC0)
section
instance yE:Payload:=⟨0⟩
section
variable (P:Program)(ty:TypeId)(Wg:Nat)
abbrev RX:World->World->Prop:=RW ty Wg Wg 3 0 5
theorem Lg {w w₁:World}(h:WgLive ty Wg w)(h₁:WgLive ty Wg w₁):RX ty Wg w w₁:=by
  have lq:∀ {w:World},WgLive ty Wg w->w.cell? ⟨Wg,5,none⟩=none:=by rintro w ⟨st,sm,h⟩;unfold WgAt wgBlock at h;simp [World.cell?,h]
  refine ⟨fun b hb=>absurd hb (Nat.not_lt_zero _),fun _=>h₁,fun ⟨cs,hc,hs⟩=>?_,(lq h₁).trans (lq h).symm⟩;obtain ⟨st,sm,h⟩:=h;unfold WgAt wgBlock at h;rw [h] at hc;injection hc with hc
  injection hc with e1
  subst e1;simp at hs
def KQ (g:Goroutine)(w:World):Prop:=
  g.status=.running/\∃ g',stepG P false g w=.go g' w #[mk (.releaseMerge (stA Wg))]/\∃ m,Goes P false (RX ty Wg) DC0 (AtK1 P ty Wg Wg 3 0 6) m g' w
inductive Fs:Nat->Nat->Nat->Goroutine->World->Prop
  | r0 {m:Nat} {g:Goroutine} {w:World}:Goes P false (RX ty Wg) DC0 (KQ P ty Wg) m g w->Fs 7 m 0 g w
  | k1 {m:Nat} {g:Goroutine} {w:World}:Goes P false (RX ty Wg) DC0 (AtK1 P ty Wg Wg 3 0 6) m g w->Fs 6 m 0 g w
  | d1 {m:Nat} {g:Goroutine} {w:World}:Goes P false (RX ty Wg) DC0 (AtD1 P ty Wg Wg 3 0 6) m g w->Fs 5 m 1 g w
  | d2 {m:Nat} {g:Goroutine} {w:World}:Goes P false (RX ty Wg) DC0 (AtD2 P ty Wg Wg 3 0 6) m g w->Fs 4 m 1 g w
  | d3 {m:Nat} {g:Goroutine} {w:World}:Goes P false (RX ty Wg) DC0 (AtD3 P ty Wg Wg 3 0 6) m g w->Fs 3 m 1 g w
  | d4 {m:Nat} {g:Goroutine} {w:World}:Goes P false (RX ty Wg) DC0 (AtD4 P ty Wg) m g w->Fs 2 m 1 g w
  | quit {q d:Nat} {g:Goroutine} {w:World}:QuitsD P q d g->Fs 1 q d g w
end
section
variable {P:Program}{ty:TypeId}{Wg:Nat}{s m d:Nat}{g:Goroutine}{w w₁:World}
theorem EY (w:World):RX ty Wg w w:=⟨fun _ _ _ _=>rfl,id,id,rfl⟩
theorem JU:∀ a b c,RX ty Wg a b->RX ty Wg b c->RX ty Wg a c:=fun _ _ _ h h'=>
  ⟨fun b hb=>absurd hb (Nat.not_lt_zero _),h'.live ∘ h.live,h'.pay ∘ h.pay,h'.cell.trans h.cell⟩
theorem Fs.rely (h:Fs P ty Wg s m d g w)(hr:RX ty Wg w w₁):Fs P ty Wg s m d g w₁:=by
  cases h with
  | r0 h=>exact .r0 (Goes.rely JU h hr)
  | k1 h=>exact .k1 (Goes.rely JU h hr)
  | d1 h=>exact .d1 (Goes.rely JU h hr)
  | d2 h=>exact .d2 (Goes.rely JU h hr)
  | d3 h=>exact .d3 (Goes.rely JU h hr)
  | d4 h=>exact .d4 (Goes.rely JU h hr)
  | quit h=>exact .quit h
theorem Fs.status (h:Fs P ty Wg s m d g w):g.status=.running\/g.status=.finished:=by
  cases h with
  | r0 h=>exact .inl (Goes.running (fun _ _ x=>x.1) w (EY w) h)
  | k1 h=>exact .inl (Goes.running (fun _ _ x=>x.1) w (EY w) h)
  | d1 h=>exact .inl (Goes.running (fun _ _ x=>x.1) w (EY w) h)
  | d2 h=>exact .inl (Goes.running (fun _ _ x=>x.1) w (EY w) h)
  | d3 h=>exact .inl (Goes.running (fun _ _ x=>x.1) w (EY w) h)
  | d4 h=>exact .inl (Goes.running (fun _ _ x=>x.1) w (EY w) h)
  | quit h=>exact h.status
def cn (s:Nat):Nat:=if 5<=s then 1 else 0
def kN (Wg d:Nat)(es:Array Event):Prop:=
  (∀ e∈es,(MemAct.ofEvent e).touch?=none/\(MemAct.ofEvent e).low (Wg+1))\/(0 < d/\(∀ e∈es,e=rd (stA Wg)\/e=wr (stA Wg)))
theorem M6 (d:Nat):kN Wg d #[]:=.inl (by simp)
theorem FP {R:World->World->Prop}{D:World->World->Array Event->Prop}{Stop:Goroutine->World->Prop}(hR:R w w){n:Nat}(h:Goes P false R D Stop n g w) :
    Stop g w\/∃ n' g' w' es,n=n'+1/\stepG P false g w=.go g' w' es/\D w w' es/\Goes P false R D Stop n' g' w':=by
  cases n with
  | zero=>exact .inl (h w hR)
  | succ n=>
    rcases h with h|⟨_,h⟩
    . exact .inl (h w hR)
    . have:=h w hR;cases hgo:stepG P false g w with
      | go g' w' es=>rw [hgo,goes_go] at this;exact .inr ⟨n,g',w',es,rfl,rfl,this.1,this.2⟩
      | _=>rw [hgo] at this;exact this.elim
theorem Fs.YA (h:Fs P ty Wg s m d g w)(hrun:g.status=.running){v:Nat}(hw:WgAt ty Wg w (v * KK) 0)(hv:5<=s->1<=v)(hlt:v < 2147483648)(hs:s=7\/s=6\/s=5\/s=1) :
    ∃ (g':Goroutine) (w':World) (es:Array Event) (s' m' v':Nat),stepG P false g w=.go g' w' es/\Fs P ty Wg s' m' (deafBehind d es) g' w'/\(s' < s\/(s'=s/\m' < m))/\(s'=7\/s'=6\/s'=5\/s'=1)/\WgAt ty Wg w' (v' * KK) 0/\v'+cn s=v+cn s'/\
      (w'=w\/∃ x,w'=w.setCell (stA Wg) (.int .u64 x))/\kN Wg d es:=by
  have dc:∀ {w':World} {es:Array Event},DC0 w w' es->w'=w/\es=#[]:=fun h=>⟨h.1,h.2⟩
  cases h with
  | r0 h=>
    rcases FP (EY w) h with ⟨_,g',hst,m',hG⟩|⟨n',g',w',es,rfl,hst,hD,hG⟩
    . refine ⟨g',w,_,6,m',v,hst,?_,.inl zOM,.inr (.inl rfl),hw,rfl,.inl rfl,.inl fun e he=>?_⟩
      . exact .k1 hG
      . simp only [List.mem_toArray,List.mem_singleton,List.mem_cons,List.not_mem_nil,or_false] at he;subst he;exact ⟨rfl,Nat.lt_succ_self _⟩
    . obtain ⟨rfl,rfl⟩:=dc hD;exact ⟨g',w',_,7,n',v,hst,.r0 hG,.inr ⟨rfl,by omega⟩,.inl rfl,hw,rfl,.inl rfl,M6 _⟩
  | k1 h=>
    rcases FP (EY w) h with ⟨_,g',hst,m',hG⟩|⟨n',g',w',es,rfl,hst,hD,hG⟩
    . refine ⟨g',w,_,5,m',v,hst,.d1 hG,.inl zOM,.inr (.inr (.inl rfl)),hw,rfl,.inl rfl,.inl fun e he=>?_⟩;simp only [List.mem_toArray,List.mem_singleton,List.mem_cons,List.not_mem_nil,or_false] at he;subst he;exact ⟨rfl,trivial⟩
    . obtain ⟨rfl,rfl⟩:=dc hD;exact ⟨g',w',_,6,n',v,hst,.k1 hG,.inr ⟨rfl,by omega⟩,.inr (.inl rfl),hw,rfl,.inl rfl,M6 _⟩
  | d1 h=>
    rcases FP (EY w) h with ⟨_,hadd⟩|⟨n',g',w',es,rfl,hst,hD,hG⟩
    . obtain ⟨v',rfl⟩:∃ v',v=v'+1:=⟨v - 1,by have:=hv zOM;omega⟩
      obtain ⟨g',hst,_,hq⟩:=hadd v' 0 zOM zOM (by simpa using hw);obtain ⟨q,hq⟩:=hq zOM;refine ⟨g',_,_,1,q,v',hst,.quit hq,.inl zOM,.inr (.inr (.inr rfl)),?_,rfl,.inr ⟨_,rfl⟩,.inr ⟨by omega,fun e he=>?_⟩⟩
      . have:=hw.setSt ((v':Int) * KK+((0:Nat):Int));simpa using this
      . simpa using he
    . obtain ⟨rfl,rfl⟩:=dc hD;exact ⟨g',w',_,5,n',v,hst,.d1 hG,.inr ⟨rfl,by omega⟩,.inr (.inr (.inl rfl)),hw,rfl,.inl rfl,M6 _⟩
  | d2 h=>omega
  | d3 h=>omega
  | d4 h=>omega
  | quit h=>
    cases m with
    | zero=>rw [h.1] at hrun;cases hrun
    | succ m=>
      rcases h with ⟨hf,_⟩|⟨_,g',es,hm,hst,hq⟩
      . rw [hf] at hrun;cases hrun
      . exact ⟨g',w,es,1,m,v,hst w,.quit hq,.inr ⟨rfl,by omega⟩,.inr (.inr (.inr rfl)),hw,rfl,.inl rfl,.inl fun e he=>⟨touch_mute (hm e he),low_mute (hm e he) _⟩⟩
end
end
end Go.LC
namespace Go.LC
open Go Go.Conc
open Go.ConcN (WgLive sumTo upd sumTo_upd upd_ne upd_same)
open Go.ConcR (KK wgBlock WgAt stA smA rd wr mk)
section
inductive EC | fin (s m d:Nat)
  | seat (st:Seat) (n:Nat)
def EC.stage:EC->Nat
  | .fin s _ _=>s
  | .seat _ _=>0
def EC.fuel:EC->Nat
  | .fin _ m _=>m
  | .seat _ n=>n
def M1 (n:Nat)(role:Nat->EC):Nat:=sumTo n fun i=>(role i).stage
def M2 (n:Nat)(role:Nat->EC):Nat:=sumTo n fun i=>(role i).fuel
def Less (n:Nat)(r' r:Nat->EC):Prop:=M1 n r' < M1 n r\/(M1 n r'=M1 n r/\M2 n r' < M2 n r)
theorem Gj {n i:Nat}{role:Nat->EC}{r':EC}(hi:i < n)(h:r'.stage < (role i).stage\/(r'.stage=(role i).stage/\r'.fuel < (role i).fuel)):Less n (upd role i r') role:=by have h1:=sumTo_upd role r' EC.stage hi;have h2:=sumTo_upd role r' EC.fuel hi;unfold Less M1 M2;omega
def Hy (Wg:Nat)(w w':World):Prop:=w'=w\/∃ x,w'=w.setCell (stA Wg) (.int .u64 x)
theorem Hy.refl (Wg:Nat)(w:World):Hy Wg w w:=.inl rfl
theorem Hy.size {Wg:Nat}{w w':World}(h:Hy Wg w w'):w'.heap.size=w.heap.size:=by
  rcases h with rfl|⟨x,rfl⟩
  . rfl
  . simp [World.setCell]
theorem Hy.other {Wg:Nat}{w w':World}(h:Hy Wg w w'){b:Nat}(hb:b≠Wg):w'.heap[b]?=w.heap[b]?:=by
  rcases h with rfl|⟨x,rfl⟩
  . rfl
  . simp [World.setCell,stA,Array.getElem?_modify,Ne.symm hb]
structure Env (Wg:Nat)(K:Nat->World->Prop)(Still:Nat->Loc->Prop)(Shun:Loc->Prop):Prop where
  blk:∀ i w w',(∀ b,b≠Wg->w'.heap[b]?=w.heap[b]?)->K i w->K i w'
  shun:Shun (.cell (stA Wg))
  apart:∀ g l,Still g l->¬ Shun l
theorem Env.kat {Wg:Nat}{K:Nat->World->Prop}{Still:Nat->Loc->Prop}{Shun:Loc->Prop}(E:Env Wg K Still Shun)(i:Nat)(w:World)(d:Nat)(h:K i w):K i (w.at d):=E.blk i w _ (fun _ _=>rfl) h
theorem Env.kwg {Wg:Nat}{K:Nat->World->Prop}{Still:Nat->Loc->Prop}{Shun:Loc->Prop}(E:Env Wg K Still Shun)(i:Nat)(w w':World)(hw:Hy Wg w w')(h:K i w):K i w':=E.blk i w _ (fun _ hb=>hw.other hb) h
structure Ni (P:Program)(ty:TypeId)(Wg:Nat)(K:Nat->World->Prop)(Still:Nat->Loc->Prop)(Bd:Nat->Nat)(Shun:Loc->Prop)(Quiet:Nat->Prop)(Sp Mem Loose:Nat->Prop)(Kf:Trace->Nat->Prop)(role:Nat->EC)(live:Nat->Nat)(ex:Nat)(T:Trace)(gs:Array Goroutine)(w:World):Prop where
  Gz:∀ i g s m d,¬ Sp i->gs[i]?=some g->role i=.fin s m d->0 < i/\Fs P ty Wg s m d g w/\Deaf T i=d/\¬ Mem i/\live i=cn s/\(s=7\/s=6\/s=5\/s=1)
  seats:∀ i g st n,¬ Sp i->gs[i]?=some g->role i=.seat st n->Sits P (i == 0) (K i) (Still i) (Bd i) st n g/\Loose i
  seat:∀ i st n,role i=.seat st n->i < gs.size/\st.Wf/\Mem i/\Bd i<=w.heap.size/\∀ c,st.has c->∃ k,w.heap[c]?=some (.chan 0 #[] false k k false)
  own:∀ i i' st st' n n' c,role i=.seat st n->role i'=.seat st' n'->st.has c->st'.has c->i=i'\/Quiet c
  above:∀ j,gs.size<=j->Deaf T j=0
  past:FI Still Shun Mem Loose w.heap.size (Kf T) T
  keep:∀ i st n,role i=.seat st n->K i w
  wg:WgAt ty Wg w ((sumTo gs.size live+ex:Nat) * KK) 0
  few:sumTo gs.size live+ex < 2147483648
  one:∀ i,live i<=1
section
variable {P:Program}{ty:TypeId}{Wg:Nat}{K:Nat->World->Prop}{Still:Nat->Loc->Prop}{Bd:Nat->Nat}{Shun:Loc->Prop}{Quiet Sp Mem Loose:Nat->Prop}{Kf:Trace->Nat->Prop}{role:Nat->EC}{live:Nat->Nat}{ex:Nat}{T:Trace}{gs:Array Goroutine}{w:World}
theorem Ni.jM (C:Ni P ty Wg K Still Bd Shun Quiet Sp Mem Loose Kf role live ex T gs w):Wg < w.heap.size:=(zGE C.wg).1
theorem MF {w':World}(hw:Hy Wg w w')(hlive:WgLive ty Wg w){c k:Nat}(hc:w.heap[c]?=some (.chan 0 #[] false k k false)):w'.heap[c]?=some (.chan 0 #[] false k k false):=by
  have:c≠Wg:=by rintro rfl;obtain ⟨st,sm,h⟩:=hlive;unfold WgAt wgBlock at h;rw [h] at hc;cases hc
  rw [hw.other this];exact hc
theorem Ni.fixed (E:Env Wg K Still Shun)(C:Ni P ty Wg K Still Bd Shun Quiet Sp Mem Loose Kf role live ex T gs w){w':World}(hw:Hy Wg w w'){x:Nat}{y:Goroutine}(hx:¬ Sp x)(hy:gs[x]?=some y):y.again w'=y:=by
  cases e:role x with
  | fin s m d=>exact again_of_running (C.Gz x y s m d hx hy e).2.1.status w'
  | seat st n=>
    obtain ⟨hS,_⟩:=C.seats x y st n hx hy e;obtain ⟨_,hwf,_,_,hc⟩:=C.seat x st n e;exact Sits.again (E.kwg _ _ _ hw (C.keep x st n e)) hS hwf fun c hc'=>by obtain ⟨k,hk⟩:=hc c hc';exact ⟨_,_,_,_,_,MF hw ⟨_,_,C.wg⟩ hk⟩
theorem Ni.noSend (C:Ni P ty Wg K Still Bd Shun Quiet Sp Mem Loose Kf role live ex T gs w){x:Nat}{y:Goroutine}(hx:¬ Sp x)(hy:gs[x]?=some y)(c:Nat):offersAt y c true=[]:=by
  cases e:role x with
  | fin s m d=>exact offersAt_of_not_blocked (fun hb=>by rcases (C.Gz x y s m d hx hy e).2.1.status with z | z <;> rw [z] at hb <;> cases hb) c true
  | seat st n=>
    obtain ⟨hS,_⟩:=C.seats x y st n hx hy e;rcases hS with ⟨k,w₀,hq,hg⟩|⟨_,_,g₂,rfl,_⟩
    . have:=(Sits.status (C.keep x st n e) (.inl ⟨k,w₀,hq,hg⟩)).elim (·.1) (fun z=>by omega);exact offersAt_of_not_blocked (fun hb=>by rw [this] at hb;cases hb) c true
    . exact offersAt_parked_sends (fun cc hcc=>by obtain ⟨c',z',rfl⟩:=(C.seat x st n e).2.1.recvs cc hcc;rfl) _
theorem Ni.rG (C:Ni P ty Wg K Still Bd Shun Quiet Sp Mem Loose Kf role live ex T gs w){x:Nat}{y:Goroutine}(hx:¬ Sp x)(hy:gs[x]?=some y){c:Nat}(hc:∀ st n,role x=.seat st n->¬ st.has c):offersAt y c false=[]:=by
  cases e:role x with
  | fin s m d=>exact offersAt_of_not_blocked (fun hb=>by rcases (C.Gz x y s m d hx hy e).2.1.status with z | z <;> rw [z] at hb <;> cases hb) c false
  | seat st n=>
    obtain ⟨hS,_⟩:=C.seats x y st n hx hy e;rcases hS with ⟨k,w₀,hq,hg⟩|⟨_,_,g₂,rfl,_⟩
    . have:=(Sits.status (C.keep x st n e) (.inl ⟨k,w₀,hq,hg⟩)).elim (·.1) (fun z=>by omega);exact offersAt_of_not_blocked (fun hb=>by rw [this] at hb;cases hb) c false
    . refine offersAt_parked_off (fun cc hcc hch=>?_) false;obtain ⟨c',z',rfl⟩:=(C.seat x st n e).2.1.recvs cc hcc;simp only [rcase,Value.chan.injEq,Option.some.injEq] at hch;subst hch;exact hc st n e (Seat.has_of_mem hcc)
theorem Ni.put (E:Env Wg K Still Shun)(C:Ni P ty Wg K Still Bd Shun Quiet Sp Mem Loose Kf role live ex T gs w){i Jh:Nat}{g':Goroutine}{r':EC}{ops:Trace}{gs':Array Goroutine}{w':World}(hw:Hy Wg w w')(hlt:i < gs.size)(hsp:¬ Sp i)(hsz:gs'.size=gs.size)(hother:∀ x,x≠i->gs'[x]?=gs[x]?)(hself:gs'[i]?=some g')(hops:∀ op∈ops,op.g=i)(hfin:∀ s m d,r'=.fin s m d->0 < i/\Fs P ty Wg s m d g' w'/\Deaf (T ++ ops) i=d/\¬ Mem i/\Jh=cn s/\(s=7\/s=6\/s=5\/s=1))(PI:∀ st n,r'=.seat st n->Sits P (i == 0) (K i) (Still i) (Bd i) st n g'/\Loose i/\∃ n',role i=.seat st n')(hpast:FI Still Shun Mem Loose w.heap.size (Kf (T ++ ops)) (T ++ ops))(hwg:WgAt ty Wg w' ((sumTo gs.size (upd live i Jh)+ex:Nat) * KK) 0)(O1:sumTo gs.size (upd live i Jh)+ex < 2147483648)(hlv1:Jh<=1) :
    Ni P ty Wg K Still Bd Shun Quiet Sp Mem Loose Kf (upd role i r') (upd live i Jh) ex (T ++ ops) gs' w':=by
  have hlive:WgLive ty Wg w:=⟨_,_,C.wg⟩
  have oC:WgLive ty Wg w':=⟨_,_,hwg⟩
  have hD:∀ x,x≠i->Deaf (T ++ ops) x=Deaf T x:=fun x hx=>Deaf_other T (fun z=>hx z.symm) ops hops;have old:∀ {y:Nat} {st:Seat} {n:Nat},upd role i r' y=.seat st n->∃ n',role y=.seat st n':=fun {y st n} e=>by
    by_cases ex:y=i
    . subst ex;rw [upd_same] at e;exact (PI st n e).2.2
    . rw [upd_ne role _ ex] at e;exact ⟨n,e⟩
  refine ⟨fun x y s m d hx hy e=>?_,fun x y st n hx hy e=>?_,fun x st n e=>?_,fun x x' st st' n n' c e e' hc hc'=>?_,fun j hj=>?_,by rw [hw.size];exact hpast,fun x st n e=>by
    obtain ⟨_,e1⟩:=old e;exact E.kwg _ _ _ hw (C.keep x st _ e1),by rw [hsz];exact hwg,by rw [hsz];exact O1,fun x=>by
    by_cases ex:x=i
    . subst ex;rw [upd_same];exact hlv1
    . rw [upd_ne live _ ex];exact C.one x⟩
  . by_cases ex:x=i
    . subst ex;rw [upd_same] at e ⊢;rw [hself] at hy;obtain rfl:=Option.some.inj hy;exact hfin s m d e
    . rw [upd_ne role _ ex] at e;rw [upd_ne live _ ex];rw [hother x ex] at hy;obtain ⟨h1,h2,h3,h4,h5,h6⟩:=C.Gz x y s m d hx hy e;exact ⟨h1,h2.rely (Lg ty Wg hlive oC),by rw [hD x ex];exact h3,h4,h5,h6⟩
  . by_cases ex:x=i
    . subst ex;rw [upd_same] at e;rw [hself] at hy;obtain rfl:=Option.some.inj hy;obtain ⟨h1,h2,_⟩:=PI st n e;exact ⟨h1,h2⟩
    . rw [upd_ne role _ ex] at e;rw [hother x ex] at hy;exact C.seats x y st n hx hy e
  . have key:∀ n',role x=.seat st n'->x < gs'.size/\st.Wf/\Mem x/\Bd x<=w'.heap.size/\∀ c,st.has c->∃ k,w'.heap[c]?=some (.chan 0 #[] false k k false):=fun n' e=>by obtain ⟨h0,h1,h2,h3,h4⟩:=C.seat x st n' e;refine ⟨by rw [hsz];exact h0,h1,h2,by rw [hw.size];exact h3,fun c hc=>?_⟩;obtain ⟨k,hk⟩:=h4 c hc;exact ⟨k,MF hw hlive hk⟩
    by_cases ex:x=i
    . subst ex;rw [upd_same] at e;obtain ⟨_,_,n',e'⟩:=PI st n e;exact key n' e'
    . rw [upd_ne role _ ex] at e;exact key n e
  . obtain ⟨_,e1⟩:=old e;obtain ⟨_,e2⟩:=old e';exact C.own x x' st st' _ _ c e1 e2 hc hc'
  . rw [Deaf_other T (g':=i) zOM ops hops];exact C.above j zOM
theorem Mv {i:Nat}{B:Nat}{n:Nat}(hB:B<=n){fn:FuncId}{pos:String}{es:Array Event}(E:Env Wg K Still Shun)(h:∀ e∈es,EvC (Still i) B e) :
    (∀ op∈MemOp.ofEvents i fn pos es,op.g=i)/\(∀ op∈MemOp.ofEvents i fn pos es,∀ b,op.act.touch?=some b->b.write=false/\Still i b.loc/\¬ Shun b.loc)/\(∀ op∈MemOp.ofEvents i fn pos es,op.act.low n)/\∀ t:Trace,Deaf (t ++ MemOp.ofEvents i fn pos es) i=Deaf t i:=by
  obtain ⟨h1,h2,h3,h4⟩:=evC_ops (Still:=Still i) (B:=B) (i:=i) (fn:=fn) (pos:=pos) h;exact ⟨h1,fun op hop b hb=>⟨(h2 op hop b hb).1,(h2 op hop b hb).2,E.apart _ _ (h2 op hop b hb).2⟩,fun op hop=>MemAct.low_mono hB (h3 op hop),h4⟩
theorem Ni.by_step (E:Env Wg K Still Shun)(hKf:∀ t u i,Kf t i->Kf (t ++ u) i)(C:Ni P ty Wg K Still Bd Shun Quiet Sp Mem Loose Kf role live ex T gs w){i:Nat}{g:Goroutine}{sl:Option (Nat × Nat)}(hi:gs[i]?=some g)(hsp:¬ Sp i)(hrun:g.status=.running)(hsA:∀ x gx w',Sp x->gs[x]?=some gx->Hy Wg w w'->gx.again w'=gx)(hsO:∀ st n g₂,role i=.seat st n->AtIn P (i == 0) (K i) (Still i) (Bd i) st g g₂->∀ x gx c,Sp x->gs[x]?=some gx->st.has c->offersAt gx c true=[]) :
    ∃ gs' w' ops r' Jh,runT P (crowd gs w sl) i=(.next (crowd gs' w' sl),ops)/\gs'.size=gs.size/\(∀ x,Sp x->gs'[x]?=gs[x]?)/\Hy Wg w w'/\(∀ op∈ops,op.g=i)/\
      Ni P ty Wg K Still Bd Shun Quiet Sp Mem Loose Kf (upd role i r') (upd live i Jh) ex (T ++ ops) gs' w'/\Less gs.size (upd role i r') role/\(∀ st n,role i=.seat st n->(∃ n',r'=.seat st n'/\(n'=0->∃ g₂,AtIn P (i == 0) (K i) (Still i) (Bd i) st g g₂))/\Jh=live i)/\(∀ s m d,role i=.fin s m d->∃ s' m' d',r'=.fin s' m' d')/\Jh<=live i:=by
  have hlt:i < gs.size:=(zGE hi).1;have hne:∀ x,Sp x->x≠i:=fun x hx e=>hsp (e ▸ hx);have harr:∀ (a' g':Goroutine) (w':World),Hy Wg w w'->∀ x,x≠i->((gs.map (woken P g a' w')).setIfInBounds i g')[x]?=gs[x]?:=by
    intro a' g' w' hw x hx;rw [Array.getElem?_setIfInBounds_ne (fun e=>hx e.symm),Array.getElem?_map];cases e:gs[x]? with
    | none=>rfl
    | some y=>
      have:y.again w'=y:=by
        by_cases hS:Sp x
        . exact hsA x y w' hS e hw
        . exact C.fixed E hw hS e
      simp [woken_of_again this]
  have hself:∀ (a' g':Goroutine) (w':World),((gs.map (woken P g a' w')).setIfInBounds i g')[i]?=some g':=fun a' g' w'=>Array.getElem?_setIfInBounds_self_of_lt (by simpa using hlt);cases e:role i with
  | fin s m d=>
    obtain ⟨hpos,hF,hD,hM,hl,hs⟩:=C.Gz i g s m d hsp hi e;have hi0:(i == 0)=false:=by simp;omega
    have hcv:5<=s->1<=sumTo gs.size live+ex:=fun h5=>by
      have h1:live i=1:=by rw [hl];simp [cn,h5]
      have h2:live i<=sumTo gs.size live:=Go.ConcN.le_sumTo hlt;omega
    obtain ⟨g',w',es,s',m',v',hst,hF',hless,hs',hwg',hcount,hw,hev⟩:=hF.YA hrun C.wg hcv C.few hs;have hw2:Hy Wg w w':=hw;have hops:∀ op∈MemOp.ofEvents i g.frame.fn g.frame.place es,op.g=i:=fun op hop=>by obtain ⟨e,_,rfl⟩:=Conc.mem_ofEvents hop;rfl
    have hsum:sumTo gs.size (upd live i (cn s'))+cn s=sumTo gs.size live+cn s':=by have:sumTo gs.size (upd live i (cn s'))+live i=sumTo gs.size live+cn s':=sumTo_upd live (cn s') id hlt;rw [hl] at this;exact this
    have hv':v'=sumTo gs.size (upd live i (cn s'))+ex:=by omega
    refine ⟨_,w',_,.fin s' m' (deafBehind d es),cn s',runT_crowd_go (sl:=sl) hi (by rw [hi0];exact hst),by simp,fun x hx=>harr _ _ w' hw2 x (hne x hx),hw2,hops,?_,Gj hlt (by rw [e];exact hless),(fun st n h=>by cases h),fun _ _ _ _=>⟨_,_,_,rfl⟩,?_⟩
    rotate_left
    . rw [hl];rcases hless with h|⟨rfl,_⟩
      . unfold cn;split <;> split <;> omega
      . exact Nat.le_refl _
    refine C.put E hw2 hlt hsp (by simp) (harr _ _ w' hw2) (hself _ _ _) hops (fun a b c h=>?_) (fun _ _ h=>by cases h) ?_ (by rw [← hv'];exact hwg') ?_ (by unfold cn;split <;> omega)
    . cases h
      exact ⟨hpos,hF',by rw [Deaf_own,hD],hM,rfl,hs'⟩
    . rcases hev with hev | ⟨hd,hev⟩
      . refine C.past.mute (hKf T _) hops (fun op hop=>?_) (fun h=>absurd h hM) (fun op hop=>?_)
        . obtain ⟨e,he,rfl⟩:=Conc.mem_ofEvents hop;exact (hev e he).1
        . obtain ⟨e,he,rfl⟩:=Conc.mem_ofEvents hop;exact MemAct.low_mono C.jM (hev e he).2
      . refine C.past.deaf (hKf T _) hM hops (fun op hop b hb=>?_) (fun op hop dd=>?_) (by rw [hD];exact hd) (fun op hop=>?_)
        . obtain ⟨e,he,rfl⟩:=Conc.mem_ofEvents hop;have hloc:b.loc=.cell (stA Wg)/\b.kind=.atomic:=by rcases hev e he with rfl|rfl <;> (simp only [rd,wr,MemAct.ofEvent,MemAct.touch?,Option.some.injEq] at hb;subst hb;exact ⟨rfl,rfl⟩)
          exact ⟨by rw [hloc.1];exact E.shun,hloc.2,fun g' hS=>E.apart g' _ hS (by rw [hloc.1];exact E.shun)⟩
        . obtain ⟨e,he,rfl⟩:=Conc.mem_ofEvents hop;rcases hev e he with rfl|rfl <;> rfl
        . obtain ⟨e,he,rfl⟩:=Conc.mem_ofEvents hop;have:=C.jM;rcases hev e he with rfl|rfl <;> exact this
    . have hf:=C.few;have h7:cn s'<=cn s:=by
        rcases hless with h|⟨rfl,_⟩
        . unfold cn;split <;> split <;> omega
        . exact Nat.le_refl _
      omega
  | seat st n=>
    obtain ⟨hS,hL⟩:=C.seats i g st n hsp hi e;obtain ⟨_,hwf,hM,hBd,hch⟩:=C.seat i st n e;obtain ⟨k,w₀,hqi,hg⟩:∃ k w₀,n=k+1/\Goes P (i == 0) (RK (K i)) (DS (Still i) (Bd i)) (fun g _=>∃ g₂,AtIn P (i == 0) (K i) (Still i) (Bd i) st g g₂) k g w₀:=by
      rcases hS with h|⟨_,_,g₂,rfl,_⟩
      . exact h
      . cases hrun
    have hlv:upd live i (live i)=live:=by
      funext a
      by_cases h:a=i
      . subst h;rw [upd_same]
      . rw [upd_ne live _ h]
    have hcase:(∃ g₂,AtIn P (i == 0) (K i) (Still i) (Bd i) st g g₂)\/∃ k' g' es,k=k'+1/\stepG P (i == 0) g w=.go g' w es/\(∀ e∈es,EvC (Still i) (Bd i) e)/\Goes P (i == 0) (RK (K i)) (DS (Still i) (Bd i)) (fun g _=>∃ g₂,AtIn P (i == 0) (K i) (Still i) (Bd i) st g g₂) k' g' w:=by
      cases k with
      | zero=>exact .inl (hg w (C.keep i st n e))
      | succ k'=>
        rcases hg with hstop|⟨_,hstep⟩
        . exact .inl (hstop w (C.keep i st n e))
        . have hs:=hstep w (C.keep i st n e);cases hgo:stepG P (i == 0) g w with
          | go g' w' es=>
            rw [hgo,goes_go] at hs;obtain ⟨⟨rfl,hes⟩,hG'⟩:=hs;exact .inr ⟨k',g',es,rfl,rfl,hes,hG'⟩
          | _=>rw [hgo] at hs;exact hs.elim
    rcases hcase with ⟨g₂,hat⟩|⟨k',g',es,rfl,hgo,hes,hG'⟩
    . obtain ⟨_,_,_,_,_,es,hes,hstp⟩:=id hat;obtain ⟨hops,hr,hl,hd⟩:=Mv (fn:=g.frame.fn) (pos:=g.frame.place) hBd E hes;have hw:∀ cc∈st.cases,NoWays w (gs.setIfInBounds i ph) cc:=by
        intro cc hcc;obtain ⟨c,z,rfl⟩:=hwf.recvs cc hcc;have hsc:=Seat.has_of_mem hcc;obtain ⟨kk,hc⟩:=hch c hsc;refine ways_recv_none hc (partners_nil fun x y hy=>?_);rcases getElem?_stand gs i x y hy with ⟨_,rfl⟩|⟨hx,hy'⟩
        . exact offersAt_ph _ _
        . by_cases hSp:Sp x
          . exact hsO st n g₂ e hat x y c hSp hy' hsc
          . exact C.noSend hSp hy' _
      refine ⟨_,w,_,.seat st 0,live i,crowd_waits (sl:=sl) hi (hstp w (C.keep i st n e)) hw,by simp,fun x hx=>Array.getElem?_setIfInBounds_ne (fun z=>hne x hx z.symm),.inl rfl,hops,?_,Gj hlt (by rw [e,hqi];exact .inr ⟨rfl,Nat.succ_pos _⟩),(fun st' n' h=>by cases h;exact ⟨⟨_,rfl,fun _=>⟨g₂,hat⟩⟩,rfl⟩),(fun _ _ _ h=>by cases h),Nat.le_refl _⟩;refine C.put E (.inl rfl) hlt hsp (by simp) (fun x hx=>Array.getElem?_setIfInBounds_ne (fun z=>hx z.symm)) (Array.getElem?_setIfInBounds_self_of_lt hlt) hops (fun _ _ _ h=>by cases h) (fun st' n' h=>?_) ?_ (by rw [hlv];exact C.wg) (by rw [hlv];exact C.few) (C.one i)
      . cases h
        exact ⟨.inr ⟨rfl,g,g₂,rfl,hat⟩,hL,n,e⟩
      . exact C.past.read (hKf T _) hM hL hops hr (hd T) hl
    . obtain ⟨hops,hr,hl,hd⟩:=Mv (fn:=g.frame.fn) (pos:=g.frame.place) hBd E hes;refine ⟨_,w,_,.seat st (k'+1),live i,runT_crowd_go (sl:=sl) hi hgo,by simp,fun x hx=>harr _ _ w (.inl rfl) x (hne x hx),.inl rfl,hops,?_,Gj hlt (by rw [e,hqi];exact .inr ⟨rfl,by simp [EC.fuel]⟩),(fun st' n' h=>by cases h;exact ⟨⟨_,rfl,fun z=>by omega⟩,rfl⟩),(fun _ _ _ h=>by cases h),Nat.le_refl _⟩;refine C.put E (.inl rfl) hlt hsp (by simp) (harr _ _ w (.inl rfl)) (hself _ _ _) hops (fun _ _ _ h=>by cases h) (fun st' n' h=>?_) ?_ (by rw [hlv];exact C.wg) (by rw [hlv];exact C.few) (C.one i)
      . cases h
        exact ⟨.inl ⟨k',w,rfl,hG'⟩,hL,n,e⟩
      . exact C.past.read (hKf T _) hM hL hops hr (hd T) hl
end
end
end Go.LC
end
