/-
  Part 6 of the proof that CellMeets returns true, and leaves its arguments as they were, for every input whose reading is of bulk at most 1048576. No further condition.
-/
import Derived.Test.YticecinjcajmcaaR00
import Derived.Test.YticecinjcajmcaaR05
set_option linter.unusedVariables false
set_option linter.unusedSectionVars false
set_option linter.unusedSimpArgs false
noncomputable section
namespace Go.LC
open Go Go.Conc Go.LT
open Go.ConcN (WgLive sumTo upd sumTo_upd upd_ne upd_same)
open Go.ConcR (KK wgBlock WgAt stA smA rd wr mk)
section
theorem KP {cs:Array CommCase}{g:Goroutine}{sh:CommShape}{c k:Nat}{v z:Value}(hk:cs[k]?=some (scase c v z))(ho:∀ (m:Nat) (cc:CommCase),m≠k->cs[m]?=some cc->cc.send=none):offersAt (parked g cs sh) c true=[k]:=by
  have hz:∀ m:Nat,cs.zipIdx.toList[m]?=(cs[m]?).map fun x=>(x,m):=by intro m;simp
  unfold offersAt parked;simp only [];refine congrArg (List.map fun x:CommCase × Nat=>x.2) (a₂:=[(scase c v z,k)]) ?_;rw [← List.map_id' cs.zipIdx.toList];refine filter_map_one (fun x=>x) _ cs.zipIdx.toList k (scase c v z,k) (by rw [hz,hk];rfl) (by simp [scase]) (fun m x hm hx=>?_);rw [hz] at hx;cases e:cs[m]? with
  | none=>rw [e] at hx;cases hx
  | some y=>
    rw [e] at hx;simp only [Option.map_some,Option.some.injEq] at hx;subst hx;simp [ho m y hm e]
theorem H6 {cs:Array CommCase}{g:Goroutine}{sh:CommShape}{c c' k:Nat}{v z:Value}(hk:cs[k]?=some (scase c v z))(ho:∀ (m:Nat) (cc:CommCase),m≠k->cs[m]?=some cc->cc.send=none)(hne:c'≠c):offersAt (parked g cs sh) c' true=[]:=by
  unfold offersAt parked;simp only [List.map_eq_nil_iff,List.filter_eq_nil_iff];rintro ⟨cc,m⟩ hm;have hm':=mem_of_zipIdx hm;by_cases e:m=k
  . subst e;rw [hk] at hm';obtain rfl:=Option.some.inj hm';simp [scase,Ne.symm hne]
  . simp [ho m cc e hm']
theorem WH {cs:Array CommCase}{g:Goroutine}{sh:CommShape}{w:World}(h:∀ cc∈cs,∃ c cap buf s r tm,cc.chan=.chan (some c)/\w.heap[c]?=some (.chan cap buf false s r tm)):(parked g cs sh).again w=parked g cs sh:=by unfold Goroutine.again parked;simp only [];rw [if_neg];rw [Bool.not_eq_true,Array.any_eq_false];intro i hi;obtain ⟨c,cap,buf,s,r,tm,e,hc⟩:=h cs[i] (Array.getElem_mem hi);simp [e,hc]
section
variable {P:Program}{ty:TypeId}{Wg:Nat}{K:Nat->World->Prop}{Still:Nat->Loc->Prop}{Bd:Nat->Nat}{Shun:Loc->Prop}{Quiet Sp Mem Loose:Nat->Prop}{Kf:Trace->Nat->Prop}{role:Nat->EC}{live:Nat->Nat}{ex h j:Nat}{T:Trace}{gs:Array Goroutine}{w:World}
theorem Ni.note (C:Ni P ty Wg K Still Bd Shun Quiet Sp Mem Loose Kf role live ex T gs w){i:Nat}{ops:Trace}(hops:∀ op∈ops,op.g=i)(hd:Deaf (T ++ ops) i=Deaf T i)(hlt:i < gs.size)(hp:FI Still Shun Mem Loose w.heap.size (Kf (T ++ ops)) (T ++ ops)) :
    Ni P ty Wg K Still Bd Shun Quiet Sp Mem Loose Kf role live ex (T ++ ops) gs w:=by
  have hD:∀ x,Deaf (T ++ ops) x=Deaf T x:=fun x=>by
    by_cases e:x=i
    . subst e;exact hd
    . exact Deaf_other T (fun z=>e z.symm) _ hops
  exact ⟨fun i g s m d a b c=>by rw [hD];exact C.Gz i g s m d a b c,C.seats,C.seat,C.own,fun j hj=>by rw [hD];exact C.above j hj,hp,C.keep,C.wg,C.few,C.one⟩
structure After (P:Program)(ty:TypeId)(Wg:Nat)(K:Nat->World->Prop)(Still:Nat->Loc->Prop)(Bd:Nat->Nat)(Quiet Mem' Loose':Nat->Prop)(role:Nat->EC)(live:Nat->Nat)(h c:Nat)(w:World)(a':Goroutine)(rh:EC):Prop where
  fin:∀ s m d,rh=.fin s m d->0 < h/\(∀ w',WgLive ty Wg w'->Fs P ty Wg s m d a' w')/\d=0/\¬ Mem' h/\live h=cn s/\(s=7\/s=6\/s=5\/s=1)
  seat:∀ st n,rh=.seat st n->Sits P (h == 0) (K h) (Still h) (Bd h) st n a'/\Loose' h/\st.Wf/\Mem' h/\Bd h<=w.heap.size/\(∀ c',st.has c'->c'≠c/\∃ k,w.heap[c']?=some (.chan 0 #[] false k k false))/\
    (∀ i st' n' c',i≠h->role i=.seat st' n'->st.has c'->st'.has c'->Quiet c')/\K h w
theorem Ni.pass (hKc:∀ i w c k,w.heap[c]?=some (.chan 0 #[] false k k false)->K i w->K i (w.setChan c 0 #[] false (k+1) (k+1) false))(C:Ni P ty Wg K Still Bd Shun Quiet (fun x=>x=h) Mem Loose (fun T=>Knows T h) role live ex T gs w)(hMh:Mem h)(Ov:h < gs.size){c k n:Nat}{st:Seat}(hjh:j≠h)(hj:role j=.seat st n)(hsc:st.has c)(dX:¬ Quiet c)(hc:w.heap[c]?=some (.chan 0 #[] false k k false)){Mem' Loose':Nat->Prop}(hM1:∀ g,Mem' g->Mem g)(hM2:∀ g,Mem g->g≠h->Mem' g)(hL:∀ g,Loose g->g≠j->Loose' g)(rW:¬ Loose' j){a':Goroutine}{rh:EC}(hA:After P ty Wg K Still Bd Quiet Mem' Loose' role live h c w a' rh){gs':Array Goroutine}(hsz:gs'.size=gs.size)(hother:∀ x,x≠h->x≠j->gs'[x]?=gs[x]?)(hgh:gs'[h]?=some a')(fh:FuncId)(ph:String)(fj:FuncId)(pj:String) :
    Held P ty Wg K Still Bd Shun Quiet Mem' Loose' j (upd (upd role j (.fin 0 0 0)) h rh) live ex (T ++ met h j fh ph fj pj c k 0) gs' (w.setChan c 0 #[] false (k+1) (k+1) false):=by
  have hD:∀ x,Deaf (T ++ met h j fh ph fj pj c k 0) x=Deaf T x:=fun x=>Deaf_quiet (met_quiet _ _ _ _ _ _ _ _ _ x);obtain ⟨hjlt,Ajw,hMj,hBj,Ail⟩:=C.seat j st n hj;have hcB:c < w.heap.size:=(zGE hc).1;have hcW:c≠Wg:=by rintro rfl;have:=C.wg;unfold WgAt wgBlock at this;rw [this] at hc;cases hc
  have hwg:WgAt ty Wg (w.setChan c 0 #[] false (k+1) (k+1) false) ((sumTo gs.size live+ex:Nat) * KK) 0:=by have:=C.wg;unfold WgAt at this ⊢;rw [heap_setChan_ne _ _ _ _ _ _ _ hcW];exact this
  have hlive:WgLive ty Wg (w.setChan c 0 #[] false (k+1) (k+1) false):=⟨_,_,hwg⟩
  have hrx:=Lg ty Wg ⟨_,_,C.wg⟩ hlive;have hsize:(w.setChan c 0 #[] false (k+1) (k+1) false).heap.size=w.heap.size:=by simp [World.setChan]
  have ER:∀ {x:Nat} {st':Seat} {n':Nat},upd (upd role j (.fin 0 0 0)) h rh x=.seat st' n'->(x=h/\rh=.seat st' n')\/(x≠h/\x≠j/\role x=.seat st' n'):=fun {x st' n'} e=>by
    by_cases e1:x=h
    . subst e1;rw [upd_same] at e;exact .inl ⟨rfl,e⟩
    . rw [upd_ne _ _ e1] at e;by_cases e2:x=j
      . subst e2;rw [upd_same] at e;cases e
      . rw [upd_ne _ _ e2] at e;exact .inr ⟨e1,e2,e⟩
  have pg:=C.past.give hMh hMj fh ph fj pj k 0 hcB;refine ⟨⟨fun i g s m d hi hg e=>?_,fun i g st' n' hi hg e=>?_,fun i st' n' e=>?_,fun i i' s1 s2 n1 n2 c' e1 e2 h1 h2=>?_,fun x hx=>?_,?_,fun i st' n' e=>?_,by rw [hsz];exact hwg,by rw [hsz];exact C.few,C.one⟩,fun st' n' e=>?_,rW⟩
  . by_cases e1:i=h
    . subst e1;rw [upd_same] at e;rw [hgh] at hg;obtain rfl:=Option.some.inj hg;obtain ⟨a1,a2,a3,a4,a5,a6⟩:=hA.fin s m d e;exact ⟨a1,a2 _ hlive,by rw [hD,a3];exact C.past.hears i hMh,a4,a5,a6⟩
    . rw [upd_ne _ _ e1,upd_ne _ _ hi] at e;rw [hother i e1 hi] at hg;obtain ⟨a1,a2,a3,a4,a5,a6⟩:=C.Gz i g s m d e1 hg e;exact ⟨a1,a2.rely hrx,by rw [hD];exact a3,fun h=>a4 (hM1 _ h),a5,a6⟩
  . rcases ER e with ⟨rfl,e0⟩ | ⟨e1,e2,e⟩
    . rw [hgh] at hg;obtain rfl:=Option.some.inj hg;obtain ⟨a1,a2,_⟩:=hA.seat st' n' e0;exact ⟨a1,a2⟩
    . rw [hother i e1 e2] at hg;obtain ⟨a1,a2⟩:=C.seats i g st' n' e1 hg e;exact ⟨a1,hL i a2 e2⟩
  . rcases ER e with ⟨rfl,e0⟩ | ⟨e1,e2,e⟩
    . obtain ⟨_,_,a3,a4,a5,a6,_⟩:=hA.seat st' n' e0;refine ⟨by rw [hsz];exact Ov,a3,a4,by rw [hsize];exact a5,fun c' hc'=>?_⟩;obtain ⟨b1,k',b2⟩:=a6 c' hc';exact ⟨k',by rw [heap_setChan_ne _ _ _ _ _ _ _ (Ne.symm b1)];exact b2⟩
    . obtain ⟨a1,a2,a3,a4,a5⟩:=C.seat i st' n' e;refine ⟨by rw [hsz];exact a1,a2,hM2 i a3 e1,by rw [hsize];exact a4,fun c' hc'=>?_⟩;obtain ⟨k',b2⟩:=a5 c' hc';have hne:c≠c':=by
        rintro rfl;rcases C.own i j st' st n' n c e hj hc' hsc with z|z
        . exact e2 z
        . exact dX z
      exact ⟨k',by rw [heap_setChan_ne _ _ _ _ _ _ _ hne];exact b2⟩
  . rcases ER e1 with ⟨x0,e3⟩ | ⟨x1,x2,e3⟩ <;> rcases ER e2 with ⟨y0,e4⟩ | ⟨y1,y2,e4⟩
    . exact .inl (x0.trans y0.symm)
    . obtain ⟨_,_,_,_,_,_,a7⟩:=hA.seat s1 n1 e3;exact .inr (a7.1 i' s2 n2 c' y1 e4 h1 h2)
    . obtain ⟨_,_,_,_,_,_,a7⟩:=hA.seat s2 n2 e4;exact .inr (a7.1 i s1 n1 c' x1 e3 h2 h1)
    . exact C.own i i' s1 s2 n1 n2 c' e3 e4 h1 h2
  . rw [hD];exact C.above x zOM
  . rw [hsize];exact (pg.fewer hM1).loosen fun g ⟨hg,hgj⟩=>hL g hg hgj
  . rcases ER e with ⟨rfl,e0⟩ | ⟨e1,e2,e⟩
    . exact hKc _ _ _ _ hc (hA.seat st' n' e0).2.2.2.2.2.2.2
    . exact hKc _ _ _ _ hc (C.keep i st' n' e)
  . rcases ER e with ⟨rfl,_⟩ | ⟨_,e2,_⟩
    . exact hjh rfl
    . exact e2 rfl
structure Jr (cases:Array CommCase)(k c:Nat)(v:Value)(w:World):Prop where
  send:∃ z,cases[k]?=some (scase c v z)
  recv:∀ (m:Nat) (cc:CommCase),m≠k->cases[m]?=some cc->∃ q z kq,cc=rcase q z/\w.heap[q]?=some (.chan 0 #[] false kq kq false)
theorem Mc {w w':World}(h:F8 ty Wg w w')(hl:WgLive ty Wg w){c k:Nat}(hc:w.heap[c]?=some (.chan 0 #[] false k k false)):w'.heap[c]?=some (.chan 0 #[] false k k false):=by
  have:c≠Wg:=by rintro rfl;obtain ⟨st,sm,h⟩:=hl;unfold WgAt wgBlock at h;rw [h] at hc;cases hc
  rw [h.block _ this];exact hc
theorem Jr.keep {cases:Array CommCase}{k c:Nat}{v:Value}{w w':World}(h:Jr cases k c v w)(hr:F8 ty Wg w w')(hl:WgLive ty Wg w):Jr cases k c v w':=
  ⟨h.send,fun m cc hm hc=>let ⟨q,z,kq,e,hq⟩:=h.recv m cc hm hc;⟨q,z,kq,e,Mc hr hl hq⟩⟩
theorem Jr.recvs {cases:Array CommCase}{k c:Nat}{v:Value}{w:World}(h:Jr cases k c v w):∀ (m:Nat) (cc:CommCase),m≠k->cases[m]?=some cc->cc.send=none:=fun m cc hm hc=>by obtain ⟨q,z,kq,rfl,_⟩:=h.recv m cc hm hc;rfl
theorem Jr.open {cases:Array CommCase}{k c kc:Nat}{v:Value}{w:World}(h:Jr cases k c v w)(hc:w.heap[c]?=some (.chan 0 #[] false kc kc false)):∀ cc∈cases,∃ c cap buf s r tm,cc.chan=.chan (some c)/\w.heap[c]?=some (.chan cap buf false s r tm):=by
  intro cc hcc;obtain ⟨m,hm,e⟩:=Array.mem_iff_getElem.1 hcc;have hm':cases[m]?=some cc:=by rw [← e];exact Array.getElem?_eq_getElem hm
  by_cases hmk:m=k
  . subst hmk;obtain ⟨z,hz⟩:=h.send;rw [hz] at hm';obtain rfl:=Option.some.inj hm';exact ⟨c,_,_,_,_,_,rfl,hc⟩
  . obtain ⟨q,z,kq,rfl,hq⟩:=h.recv m cc hmk hm';exact ⟨q,_,_,_,_,_,rfl,hq⟩
theorem After.keep (E:Env Wg K Still Shun){Mem' Loose':Nat->Prop}{c:Nat}{a':Goroutine}{rh:EC}{w':World}{ER:Nat->EC}{Fy:Nat->Nat}(hA:After P ty Wg K Still Bd Quiet Mem' Loose' role live h c w a' rh)(hS:Same role ER)(hl:Fy h=live h)(hr:F8 ty Wg w w')(hw:WgLive ty Wg w) :
    After P ty Wg K Still Bd Quiet Mem' Loose' ER Fy h c w' a' rh:=by
  refine ⟨fun s m d e=>?_,fun st n e=>?_⟩
  . obtain ⟨a1,a2,a3,a4,a5,a6⟩:=hA.fin s m d e;exact ⟨a1,a2,a3,a4,hl.trans a5,a6⟩
  . obtain ⟨a1,a2,a3,a4,a5,a6,a7⟩:=hA.seat st n e;refine ⟨a1,a2,a3,a4,by rw [hr.size];exact a5,fun c' hc'=>?_,fun i st' n' c' hi e' h1 h2=>?_,E.blk _ _ _ hr.block a7.2⟩
    . obtain ⟨b1,k',b2⟩:=a6 c' hc';exact ⟨b1,k',Mc hr hw b2⟩
    . obtain ⟨n'',e''⟩:=hS.back e';exact a7.1 i st' n'' c' hi e'' h1 h2
structure sM (ty:TypeId)(Wg c:Nat)(w w':World):Prop where
  tape:w'.tape=w.tape
  os:w'.os=w.os
  output:w'.output=w.output
  size:w'.heap.size=w.heap.size
  block:∀ b,b≠Wg->b≠c->w'.heap[b]?=w.heap[b]?
  chan:∃ k,w.heap[c]?=some (.chan 0 #[] false k k false)/\w'.heap[c]?=some (.chan 0 #[] false (k+1) (k+1) false)
  live:WgLive ty Wg w'
theorem sM.of {w w₁:World}(hr:F8 ty Wg w w₁)(hl:WgLive ty Wg w){c k:Nat}(hc:w.heap[c]?=some (.chan 0 #[] false k k false)):sM ty Wg c w (w₁.setChan c 0 #[] false (k+1) (k+1) false):=by
  have hcW:c≠Wg:=by rintro rfl;obtain ⟨st,sm,h⟩:=hl;unfold WgAt wgBlock at h;rw [h] at hc;cases hc
  have hc1:=Mc hr hl hc;obtain ⟨st,sm,hl1⟩:=hr.live hl;refine ⟨hr.tape,hr.os,hr.output,by rw [← hr.size];simp [World.setChan],fun b hb hbc=>?_,⟨k,hc,heap_setChan_self _ hc1 _ _ _ _ _ _⟩,⟨st,sm,?_⟩⟩
  . rw [heap_setChan_ne _ _ _ _ _ _ _ (Ne.symm hbc)];exact hr.block b hb
  . unfold WgAt at hl1 ⊢;rw [heap_setChan_ne _ _ _ _ _ _ _ hcW];exact hl1
theorem Ni.setH (C:Ni P ty Wg K Still Bd Shun Quiet (fun x=>x=h) Mem Loose Kf role live ex T gs w)(y:Goroutine):Ni P ty Wg K Still Bd Shun Quiet (fun x=>x=h) Mem Loose Kf role live ex T (gs.setIfInBounds h y) w:=by have hget:∀ x,x≠h->(gs.setIfInBounds h y)[x]?=gs[x]?:=fun x hx=>Array.getElem?_setIfInBounds_ne (fun e=>hx e.symm);exact ⟨fun i g s m d hi hg e=>C.Gz i g s m d hi (by rw [← hget i hi];exact hg) e,fun i g st n hi hg e=>C.seats i g st n hi (by rw [← hget i hi];exact hg) e,fun i st n e=>by simpa using C.seat i st n e,C.own,fun j hj=>C.above j (by simpa using hj),C.past,C.keep,by simpa using C.wg,by simpa using C.few,C.one⟩
def Got (P:Program)(ty:TypeId)(Wg:Nat)(K:Nat->World->Prop)(Still:Nat->Loc->Prop)(Bd:Nat->Nat)(Shun:Loc->Prop)(Quiet Mem' Loose':Nat->Prop)(h j c:Nat)(st:Seat)(kk:Nat)(v:Value)(role:Nat->EC)(live:Nat->Nat)(ex:Nat)(rh:EC)(n:Nat)(w:World)(m:Machine)(T':Trace):Prop:=
  ∃ gs' gj w' sl' ER Fy,m=crowd gs' w' sl'/\gs'.size=n/\gs'[j]?=some (gj.finishComm P st.cases st.shape kk v true)/\st.home gj/\Held P ty Wg K Still Bd Shun Quiet Mem' Loose' j ER Fy ex T' gs' w'/\sM ty Wg c w w'/\
    Same (upd (upd role j (.fin 0 0 0)) h rh) ER/\∀ x,(x=h\/∃ st n,role x=.seat st n)->Fy x=live x
theorem Nt (C:Ni P ty Wg K Still Bd Shun Quiet Sp Mem Loose Kf role live ex T gs w){c c' n n' i:Nat}{st st':Seat}(hj:role j=.seat st n)(hsc:st.has c)(dX:¬ Quiet c)(hi:role i=.seat st' n')(hc':st'.has c')(hij:i≠j):c'≠c:=by
  rintro rfl;rcases C.own i j st' st n' n c' hi hj hc' hsc with z|z
  . exact hij z
  . exact dX z
theorem flight (E:Env Wg K Still Shun)(hKc:∀ i w c k,w.heap[c]?=some (.chan 0 #[] false k k false)->K i w->K i (w.setChan c 0 #[] false (k+1) (k+1) false)){Qn:Goroutine}{cases:Array CommCase}{shape:CommShape}{k c kk:Nat}{v zj:Value}{st:Seat}(hMh:Mem h)(hjh:j≠h)(hkk:st.cases[kk]?=some (rcase c zj))(dX:¬ Quiet c){Mem' Loose':Nat->Prop}(hM1:∀ g,Mem' g->Mem g)(hM2:∀ g,Mem g->g≠h->Mem' g)(hL:∀ g,Loose g->g≠j->Loose' g)(rW:¬ Loose' j){rh:EC}:∀ (m1 m2:Nat) {role:Nat->EC} {live:Nat->Nat} {T:Trace} {gs:Array Goroutine} {w:World} {sl:Option (Nat × Nat)},M1 gs.size role=m1->M2 gs.size role=m2->
    Ni P ty Wg K Still Bd Shun Quiet (fun x=>x=h) Mem Loose (fun T=>Knows T h) role live ex T gs w->gs[h]?=some (parked Qn cases shape)->Jr cases k c v w->(∃ n,role j=.seat st (n+1))->
    After P ty Wg K Still Bd Quiet Mem' Loose' role live h c w (Qn.finishComm P cases shape k undef false) rh->
    ∃ N m' T',runNT P N (crowd gs w sl) T=(.next m',T')/\Got P ty Wg K Still Bd Shun Quiet Mem' Loose' h j c st kk v role live ex rh gs.size w m' T':=by
  intro m1;induction m1 using Nat.strongRecOn with
  | _ m1 ih1=>
  intro m2;induction m2 using Nat.strongRecOn with
  | _ m2 ih2=>
  intro role live T gs w sl hm1 hm2 C hgh hO ⟨n,hj⟩ hA;obtain ⟨hjlt,hwf,hMj,hBj,hch⟩:=C.seat j st _ hj;have hsc:st.has c:=⟨kk,zj,hkk⟩
  obtain ⟨kc,hc⟩:=hch c hsc;have Ov:h < gs.size:=(zGE hgh).1;obtain ⟨gj,hgj⟩:∃ gj,gs[j]?=some gj:=⟨gs[j],Array.getElem?_eq_getElem hjlt⟩
  have xP:gj.status=.running:=(Sits.status (C.keep j st _ hj) (C.seats j gj st _ hjh hgj hj).1).elim (·.1) (fun x=>by omega);have hsa:∀ x gx,x=h->gs[x]?=some gx->gx=parked Qn cases shape:=fun x gx hx hg=>by subst hx;rw [hgh] at hg;exact (Option.some.inj hg).symm
  obtain ⟨i,g,d,sl',hi,hg,hst⟩:=crowd_pick (P:=P) (w:=w) (sl:=sl) (C.awake fun x gx hx hg=>by rw [hsa x gx hx hg];exact .inr rfl) ⟨j,gj,hgj,xP⟩;have Cd:=C.at E d;have hlive:WgLive ty Wg w:=⟨_,_,C.wg⟩
  have hOd:Jr cases k c v (w.at d):=hO.keep (F8.at w d) hlive;have hih:i≠h:=by rintro rfl;rw [hsa i g rfl hi] at hg;cases hg
  obtain ⟨zs,hzs⟩:=hO.send;by_cases hat:i=j/\∃ g₂,AtIn P (i == 0) (K i) (Still i) (Bd i) st g g₂
  . obtain ⟨rfl,g₂,hat⟩:=hat;obtain ⟨_,_,_,_,hhome,es,hes,hstp⟩:=id hat;obtain ⟨hops,hr,hl,hd⟩:=Mv (fn:=g.frame.fn) (pos:=g.frame.place) hBj E hes;have hno:∀ (m:Nat) (c':CommCase),m≠kk->st.cases[m]?=some c'->NoWays (w.at d) (gs.setIfInBounds i ph) c':=by
      intro m c' hm hcm;obtain ⟨c'',z,rfl⟩:=hwf.recvs c' (Array.mem_of_getElem? hcm);have Abz:st.has c'':=⟨m,z,hcm⟩
      obtain ⟨k'',hc''⟩:=hch c'' Abz;have hne:c''≠c:=by rintro rfl;exact hm (hwf.apart m kk c'' z zj hcm hkk)
      refine ways_recv_none (show (w.at d).heap[c'']?=_ from hc'') (partners_nil fun x y hy=>?_);rcases getElem?_stand gs i x y hy with ⟨_,rfl⟩|⟨hx,hy'⟩
      . exact offersAt_ph _ _
      . by_cases hxh:x=h
        . rw [hsa x y hxh hy'];exact H6 hzs hO.recvs hne
        . exact C.noSend hxh hy' _
    have hp:partners (gs.setIfInBounds i ph) c true=[(h,k)]:=by
      rw [partners_one (stand_get (Ne.symm hjh) hgh) fun x y hxh hy=>?_,KP hzs hO.recvs]
      . rfl
      . rcases getElem?_stand gs i x y hy with ⟨_,rfl⟩ | ⟨hx,hy'⟩
        . exact offersAt_ph _ _
        . exact C.noSend hxh hy' _
    have hrt:=PN (sl:=sl') (P:=P) hi (hstp (w.at d) (Cd.keep i st _ hj)) hkk hno (show (w.at d).heap[c]?=_ from hc) (Ne.symm hjh) hgh hzs hp;have Cn:=Cd.note hops (hd T) hjlt (Cd.past.read (fun i=>Knows.app _) hMj (C.seats i g st _ hjh hi hj).2 hops hr (hd T) hl);have Hn:=Cn.pass (gs':=(gs.setIfInBounds h (Qn.finishComm P cases shape k undef false)).setIfInBounds i (g₂.finishComm P st.cases st.shape kk v true)) hKc hMh Ov hjh hj hsc dX hc hM1 hM2 hL rW (hA.keep E (Same.refl role) rfl (F8.at w d) hlive) (by simp)
      (fun x hx hxj=>by rw [Array.getElem?_setIfInBounds_ne (fun e=>hxj e.symm),Array.getElem?_setIfInBounds_ne (fun e=>hx e.symm)])
      (by rw [Array.getElem?_setIfInBounds_ne hjh,Array.getElem?_setIfInBounds_self_of_lt Ov]) Qn.frame.fn Qn.frame.place g₂.frame.fn g₂.frame.place
    refine ⟨0+1,_,_,runNT_succ_of (m₁:=crowd gs w sl) (t₁:=T) rfl (hst.trans hrt),_,g₂,_,sl',_,live,rfl,by simp,by rw [Array.getElem?_setIfInBounds_self_of_lt (by simpa using hjlt)],hhome,by rw [← Array.append_assoc];exact Hn,sM.of (F8.at w d) hlive hc,Same.refl _,fun _ _=>rfl⟩
  . obtain ⟨gs',w',ops,r',Jh,hrt,hsz,hsp,hw,_,C',hlt,k1,k2,_⟩:=Cd.by_step (sl:=sl') E (fun t u i=>Knows.app u) hi hih hg
      (fun x gx w' hx hgx hw=>by
        rw [hsa x gx hx hgx];exact WH ((hOd.keep (F8.TD hw (by
          rcases hw with rfl|⟨z,rfl⟩
          . exact ⟨_,_,C.wg⟩
          . exact ⟨_,_,(show WgAt ty Wg (w.at d) _ _ from C.wg).setSt z⟩) ⟨_,_,Cd.wg⟩) ⟨_,_,C.wg⟩).open (MF hw ⟨_,_,C.wg⟩ (show (w.at d).heap[c]?=_ from hc))))
      (fun st' n' g₂ hr hin x gx c' hx hgx hc'=>by
        rw [hsa x gx hx hgx];refine H6 hzs hO.recvs ?_;by_cases hij:i=j
        . subst hij;rw [hj] at hr;cases hr
          exact absurd ⟨rfl,g₂,hin⟩ hat
        . exact Nt C hj hsc dX hr hc' hij)
    have hr1:F8 ty Wg w w':=(F8.at w d).trans (F8.TD hw ⟨_,_,C'.wg⟩ ⟨_,_,Cd.wg⟩);have aZ:=Same.upd (fun st n e=>let ⟨n',x,_⟩:=(k1 st n e).1;⟨n',x⟩) k2;have hj':∃ n',upd role i r' j=.seat st (n'+1):=by
      by_cases hij:i=j
      . subst hij;obtain ⟨⟨n',hr',h0⟩,_⟩:=k1 st _ hj;rw [upd_same];cases n' with
        | zero=>exact absurd ⟨rfl,h0 rfl⟩ hat
        | succ n'=>exact ⟨n',hr'⟩
      . rw [upd_ne role _ (fun e=>hij e.symm)];exact ⟨n,hj⟩
    have dR:∀ x,(x=h\/∃ st n,role x=.seat st n)->upd live i Jh x=live x:=fun x hx=>by
      by_cases hxi:x=i
      . subst hxi;rcases hx with hx|⟨st,n,hx⟩
        . exact absurd hx hih
        . rw [upd_same];exact (k1 st n hx).2
      . rw [upd_ne live _ hxi]
    have key:∃ N m' T',runNT P N (crowd gs' w' sl') (T ++ ops)=(.next m',T')/\Got P ty Wg K Still Bd Shun Quiet Mem' Loose' h j c st kk v (upd role i r') (upd live i Jh) ex rh gs'.size w' m' T':=by
      have vR:gs'[h]?=some (parked Qn cases shape):=by rw [hsp h rfl];exact hgh
      have hA':=hA.keep E aZ (dR h (.inl rfl)) hr1 hlive;rcases hlt with hl|⟨hl1,hl2⟩
      . exact ih1 (M1 gs'.size (upd role i r')) (by rw [hsz,← hm1];exact hl) _ rfl rfl C' vR (hO.keep hr1 hlive) hj' hA'
      . exact ih2 (M2 gs'.size (upd role i r')) (by rw [hsz,← hm2];exact hl2) (by rw [hsz,hl1,hm1]) rfl C' vR (hO.keep hr1 hlive) hj' hA'
    obtain ⟨N,m',T',q1,FY,bq,w₂,sl₂,Jg,IC,q2,q3,q4,q5,q6,q7,q8,q9⟩:=key;refine ⟨N+1,m',T',by simp only [runNT,hst,hrt];exact q1,FY,bq,w₂,sl₂,Jg,IC,q2,q3.trans hsz,q4,q5,q6,?_,?_,fun x hx=>?_⟩
    . obtain ⟨k',hc',hc2⟩:=q7.chan;have hcW:c≠Wg:=by rintro rfl;obtain ⟨s1,s2,hl⟩:=hlive;unfold WgAt wgBlock at hl;rw [hl] at hc;cases hc
      refine ⟨q7.tape.trans hr1.tape,q7.os.trans hr1.os,q7.output.trans hr1.output,q7.size.trans hr1.size,fun b hb hbc=>(q7.block b hb hbc).trans (hr1.block b hb),⟨k',by rw [← hr1.block c hcW];exact hc',hc2⟩,q7.live⟩
    . refine Same.trans (fun x=>?_) q8;by_cases e1:x=h
      . subst e1;rw [upd_same,upd_same];exact ⟨fun st n e=>⟨n,e⟩,fun s m d e=>⟨s,m,d,e⟩⟩
      . rw [upd_ne _ _ e1,upd_ne _ _ e1];by_cases e2:x=j
        . subst e2;rw [upd_same,upd_same];exact ⟨fun st n e=>⟨n,e⟩,fun s m d e=>⟨s,m,d,e⟩⟩
        . rw [upd_ne _ _ e2,upd_ne _ _ e2];exact aZ x
    . refine (q9 x (hx.imp id fun ⟨st,n,e⟩=>?_)).trans (dR x hx);obtain ⟨n',e'⟩:=(aZ x).1 st n e;exact ⟨st,n',e'⟩
end
end
section
section
variable {P:Program}{ty:TypeId}{Wg:Nat}{K:Nat->World->Prop}{Still:Nat->Loc->Prop}{Bd:Nat->Nat}{Shun:Loc->Prop}{Quiet Sp Mem Loose:Nat->Prop}{Kf:Trace->Nat->Prop}{role:Nat->EC}{live:Nat->Nat}{ex h j:Nat}{T:Trace}{gs:Array Goroutine}{w:World}
theorem Got.back {Mem' Loose':Nat->Prop}{c kk n:Nat}{st:Seat}{v:Value}{rh:EC}{ER:Nat->EC}{Fy:Nat->Nat}{w':World}{m:Machine}{T':Trace}(hS:Same role ER)(hl:Ll h role live Fy)(hr:F8 ty Wg w w')(hw:WgLive ty Wg w){kc:Nat}(hc:w.heap[c]?=some (.chan 0 #[] false kc kc false))(hG:Got P ty Wg K Still Bd Shun Quiet Mem' Loose' h j c st kk v ER Fy ex rh n w' m T'):Got P ty Wg K Still Bd Shun Quiet Mem' Loose' h j c st kk v role live ex rh n w m T':=by
  obtain ⟨FY,bq,w₂,sl₂,Jg,IC,q2,q3,q4,q5,q6,q7,q8,q9⟩:=hG;refine ⟨FY,bq,w₂,sl₂,Jg,IC,q2,q3,q4,q5,q6,?_,?_,fun x hx=>?_⟩
  . obtain ⟨k',hc',hc2⟩:=q7.chan;have hcW:c≠Wg:=by rintro rfl;obtain ⟨s1,s2,hl⟩:=hw;unfold WgAt wgBlock at hl;rw [hl] at hc;cases hc
    exact ⟨q7.tape.trans hr.tape,q7.os.trans hr.os,q7.output.trans hr.output,q7.size.trans hr.size,fun b hb hbc=>(q7.block b hb hbc).trans (hr.block b hb),⟨k',by rw [← hr.block c hcW];exact hc',hc2⟩,q7.live⟩
  . refine Same.trans (fun x=>?_) q8;by_cases e1:x=h
    . subst e1;rw [upd_same,upd_same];exact ⟨fun st n e=>⟨n,e⟩,fun s m d e=>⟨s,m,d,e⟩⟩
    . rw [upd_ne _ _ e1,upd_ne _ _ e1];by_cases e2:x=j
      . subst e2;rw [upd_same,upd_same];exact ⟨fun st n e=>⟨n,e⟩,fun s m d e=>⟨s,m,d,e⟩⟩
      . rw [upd_ne _ _ e2,upd_ne _ _ e2];exact hS x
  . exact (q9 x (hx.imp id fun ⟨st,n,e⟩=>let ⟨n',e'⟩:=(hS x).1 st n e;⟨st,n',e'⟩)).trans (hl x hx)
theorem give (E:Env Wg K Still Shun)(hKc:∀ i w c k,w.heap[c]?=some (.chan 0 #[] false k k false)->K i w->K i (w.setChan c 0 #[] false (k+1) (k+1) false)){a g₂:Goroutine}{cases:Array CommCase}{shape:CommShape}{k c kk n:Nat}{v zj:Value}{st:Seat}{es:Array Event}{sl:Option (Nat × Nat)}(ha:gs[h]?=some a)(hrun:a.status=.running)(hstep:∀ w₁,F8 ty Wg w w₁->stepG P (h == 0) a w₁=.comm g₂ cases true shape w₁ es)(hes:∀ e∈es,nK Still Shun h w.heap.size e)(hO:Jr cases k c v w)(H:Held P ty Wg K Still Bd Shun Quiet Mem Loose h role live ex T gs w)(hMh:Mem h)(hjh:j≠h)(hj:role j=.seat st n)(hkk:st.cases[kk]?=some (rcase c zj))(dX:¬ Quiet c){Mem' Loose':Nat->Prop}(hM1:∀ g,Mem' g->Mem g)(hM2:∀ g,Mem g->g≠h->Mem' g)(hL:∀ g,Loose g->g≠j->Loose' g)(rW:¬ Loose' j){rh:EC}(hA:After P ty Wg K Still Bd Quiet Mem' Loose' role live h c w (g₂.finishComm P cases shape k undef false) rh) :
    ∃ N m' T',runNT P N (crowd gs w sl) T=(.next m',T')/\Got P ty Wg K Still Bd Shun Quiet Mem' Loose' h j c st kk v role live ex rh gs.size w m' T':=by
  have hlive:WgLive ty Wg w:=⟨_,_,H.JG.wg⟩
  obtain ⟨kc,hc⟩:=(H.JG.seat j st n hj).2.2.2.2 c ⟨kk,zj,hkk⟩;obtain ⟨N,gs₁,w₁,d,sl₁,sl₂,T₁,Ew,ET,p1,p2,p3,p4,p5,p6,p7,p8,_,_⟩:=picked (sl:=sl) E hrun _ _ rfl rfl ha H;have hst:=hstep _ p6;have C:=p5.JG;obtain ⟨n₁,hj₁⟩:=(p7 j).1 st n hj;obtain ⟨hjlt,hwf,hMj,hBj,hch⟩:=C.seat j st _ hj₁;have hsc:st.has c:=⟨kk,zj,hkk⟩
  have hc₁:(w₁.at d).heap[c]?=some (.chan 0 #[] false kc kc false):=Mc p6 hlive hc;have lI:=hO.keep p6 hlive;obtain ⟨zs,hzs⟩:=hO.send;have Ov:h < gs₁.size:=(zGE p4).1;obtain ⟨gj,hgj⟩:∃ gj,gs₁[j]?=some gj:=⟨gs₁[j],Array.getElem?_eq_getElem hjlt⟩
  have kX:=hA.keep E p7 (p8 h (.inl rfl)) p6 hlive;obtain ⟨o1,o2,o3,o4⟩:=Ka (h:=h) (fn:=a.frame.fn) (pos:=a.frame.place) (fun e he=>by have:=hes e he;rw [← p6.size] at this;exact this)
  have Cn:=C.note o1 (o4 T₁) Ov (C.past.hold p5.tight o1 o2 (fun _=>o4 T₁) o3);have hoff:∀ x y,x≠j->(gs₁.setIfInBounds h ph)[x]?=some y->offersAt y c false=[]:=fun x y hx hy=>by
    rcases getElem?_stand gs₁ h x y hy with ⟨_,rfl⟩|⟨hxh,hy'⟩
    . exact offersAt_ph _ _
    . exact C.rG hxh hy' fun st' n' e hc'=>Nt C hj₁ hsc dX e hc' hx rfl
  have hno:∀ (m:Nat) (c':CommCase),m≠k->cases[m]?=some c'->NoWays (w₁.at d) (gs₁.setIfInBounds h ph) c':=by
    intro m c' hm hcm;obtain ⟨q,z,kq,rfl,hq⟩:=lI.recv m c' hm hcm;refine ways_recv_none hq (partners_nil fun x y hy=>?_);rcases getElem?_stand gs₁ h x y hy with ⟨_,rfl⟩|⟨hxh,hy'⟩
    . exact offersAt_ph _ _
    . exact C.noSend hxh hy' _
  have fin:∃ N' m' T',runNT P N' (crowd gs₁ w₁ sl₁) T₁=(.next m',T')/\Got P ty Wg K Still Bd Shun Quiet Mem' Loose' h j c st kk v Ew ET ex rh gs₁.size (w₁.at d) m' T':=by
    rcases (C.seats j gj st _ hjh hgj hj₁).1 with ⟨k',w0,hn,hG⟩|⟨_,g₀,Xb,rfl,hat⟩
    ·
      have hjr:=(Sits.status (C.keep j st _ hj₁) (.inl ⟨k',w0,hn,hG⟩)).elim (·.1) (fun z=>by omega);have hall:∀ cc∈cases,NoWays (w₁.at d) (gs₁.setIfInBounds h ph) cc:=by
        intro cc hcc;obtain ⟨m,hm,e⟩:=Array.mem_iff_getElem.1 hcc;have hm':cases[m]?=some cc:=by rw [← e];exact Array.getElem?_eq_getElem hm
        by_cases hmk:m=k
        . subst hmk;rw [hzs] at hm';obtain rfl:=Option.some.inj hm';refine ways_send_none hc₁ (by simp) (partners_nil fun x y hy=>?_);by_cases hxj:x=j
          . subst hxj;rw [stand_get hjh hgj] at hy;obtain rfl:=Option.some.inj hy;exact offersAt_of_not_blocked (by rw [hjr];simp) _ _
          . exact hoff x y hxj hy
        . exact hno m cc hmk hm'
      have hrt:=crowd_waits (sl:=sl₂) p4 hst hall;have Cf:=Cn.setH (parked g₂ cases shape);obtain ⟨N',m',T',r1,r2⟩:=flight (sl:=sl₂) E hKc hMh hjh hkk dX hM1 hM2 hL rW _ _ rfl rfl Cf (Array.getElem?_setIfInBounds_self_of_lt Ov) lI ⟨k',hn ▸ hj₁⟩ kX;exact ⟨N'+1,m',T',by simp only [runNT,p2,hrt];exact r1,by simpa using r2⟩
    ·
      obtain ⟨_,_,_,_,hhome,_⟩:=id hat;have hp:partners (gs₁.setIfInBounds h ph) c false=[(j,kk)]:=by
        rw [partners_one (stand_get hjh hgj) fun x y hx hy=>hoff x y hx hy,offersAt_parked_at hkk fun m cc hm hcm hch'=>?_]
        . rfl
        . obtain ⟨c'',z,rfl⟩:=hwf.recvs cc (Array.mem_of_getElem? hcm);simp only [rcase,Value.chan.injEq,Option.some.injEq] at hch';subst hch';exact hm (hwf.apart m kk c'' z zj hcm hkk)
      have hrt:=PL (sl:=sl₂) p4 hst hzs hno hc₁ hjh hgj hkk hp;have Hn:=Cn.pass (gs':=(gs₁.setIfInBounds j (Xb.finishComm P st.cases st.shape kk v true)).setIfInBounds h (g₂.finishComm P cases shape k undef false)) hKc hMh Ov hjh hj₁ hsc dX hc₁ hM1 hM2 hL rW kX (by simp)
        (fun x hx hxj=>by rw [Array.getElem?_setIfInBounds_ne (fun e=>hx e.symm),Array.getElem?_setIfInBounds_ne (fun e=>hxj e.symm)])
        (by rw [Array.getElem?_setIfInBounds_self_of_lt (by simpa using Ov)]) g₂.frame.fn g₂.frame.place Xb.frame.fn Xb.frame.place
      exact ⟨0+1,_,_,runNT_succ_of (m₁:=crowd gs₁ w₁ sl₁) (t₁:=T₁) rfl (p2.trans hrt),_,Xb,_,sl₂,_,ET,rfl,by simp,by rw [Array.getElem?_setIfInBounds_ne (fun e=>hjh e.symm),Array.getElem?_setIfInBounds_self_of_lt hjlt],hhome,
        by rw [← Array.append_assoc];exact Hn,sM.of (.refl _) ⟨_,_,C.wg⟩ hc₁,Same.refl _,fun _ _=>rfl⟩
  obtain ⟨N',m',T',r1,r2⟩:=fin;exact ⟨N+N',m',T',runNT_then p1 r1,by rw [← p3];exact r2.back p7 p8 p6 hlive hc⟩
theorem hire (E:Env Wg K Still Shun){Still':Nat->Loc->Prop}{ko:Nat->Nat}(E':Env Wg K Still' Shun)(hKn:∀ w₁,F8 ty Wg w w₁->K h w₁)(hLn:¬ Loose gs.size)(hSt:∀ g,g≠gs.size->Still' g=Still g)(hBd:∀ g,g≠gs.size->ko g=Bd g)(hS0:∀ l,¬ Still gs.size l)(hmem:∀ g l,Still' g l->l.isMemory=true){a a' child:Goroutine}{es:Array Event}{sl:Option (Nat × Nat)}(ha:gs[h]?=some a)(hrun:a.status=.running)(hgo:∀ w₁,F8 ty Wg w w₁->stepG P (h == 0) a w₁=.spawn a' child w₁ es)(hes:∀ e∈es,nK Still Shun h w.heap.size e)(H:Held P ty Wg K Still Bd Shun Quiet Mem Loose h role live (ex+1) T gs w)(hMh:Mem h){st:Seat}{n:Nat}(hsit:Sits P (h == 0) (K h) (Still h) (Bd h) st n a')(hwf:st.Wf)(hbd:Bd h<=w.heap.size)(hch:∀ c,st.has c->∃ k,w.heap[c]?=some (.chan 0 #[] false k k false))(hown:∀ i st' n' c,i≠h->role i=.seat st' n'->st.has c->st'.has c->Quiet c) :
    ∃ N gs' w' sl' T' ER Fy,runNT P N (crowd gs w sl) T=(.next (crowd gs' w' sl'),T')/\gs'.size=gs.size+1/\gs'[gs.size]?=some child/\
      Held P ty Wg K Still' ko Shun Quiet (fun g=>Mem g\/g=gs.size) (fun g=>Loose g\/g=h) gs.size ER Fy ex T' gs' w'/\F8 ty Wg w w'/\Same (upd (upd role gs.size (.fin 0 0 0)) h (.seat st n)) ER/\Fy gs.size=1/\Ll h role live Fy:=by
  have hlive:WgLive ty Wg w:=⟨_,_,H.JG.wg⟩
  obtain ⟨N,gs₁,w₁,d,sl₁,sl₂,T₁,Ew,ET,p1,p2,p3,p4,p5,p6,p7,p8,_,_⟩:=picked (sl:=sl) E hrun _ _ rfl rfl ha H;have hst:=hgo _ p6;have C:=p5.JG;have Ov:h < gs₁.size:=(zGE p4).1;obtain ⟨o1,o2,o3,o4⟩:=Ka (h:=h) (fn:=a.frame.fn) (pos:=a.frame.place) (fun e he=>by have:=hes e he;rw [← p6.size] at this;exact this)
  have hrt:=runT_crowd_spawn (P:=P) (sl:=sl₂) p4 hst;have hpush:((MemOp.ofEvents h a.frame.fn a.frame.place es).push { g:=h,fn:=a.frame.fn,pos:=a.frame.place,act:=.go gs₁.size } |>.push { g:=gs₁.size,fn:=child.frame.fn,pos:=a.frame.place,act:=.start }) =
      MemOp.ofEvents h a.frame.fn a.frame.place es ++ #[{ g:=h,fn:=a.frame.fn,pos:=a.frame.place,act:=.go gs₁.size },{ g:=gs₁.size,fn:=child.frame.fn,pos:=a.frame.place,act:=.start }]:=by
    apply Array.ext';simp
  rw [hpush] at hrt;have Cn:=C.note o1 (o4 T₁) Ov (C.past.hold p5.tight o1 o2 (fun _=>o4 T₁) o3);rw [p3] at hrt Ov;have Aay:∀ l,¬ Still gs.size l:=hS0;have hq:∀ x,Deaf (T₁ ++ MemOp.ofEvents h a.frame.fn a.frame.place es ++ #[{ g:=h,fn:=a.frame.fn,pos:=a.frame.place,act:=.go gs.size },{ g:=gs.size,fn:=child.frame.fn,pos:=a.frame.place,act:=.start }]) x=Deaf (T₁ ++ MemOp.ofEvents h a.frame.fn a.frame.place es) x:=fun x=>Deaf_quiet (fun op hop dd=>by simp only [List.mem_toArray,List.mem_cons,List.not_mem_nil,or_false] at hop;rcases hop with rfl|rfl <;> rfl)
  have pg:=(Cn.past.hire hMh (Cn.above gs.size (by rw [p3];exact Nat.le_refl _)) Aay a.frame.fn a.frame.place child.frame.fn)
  have hget:∀ x,x≠h->x < gs.size->((gs₁.setIfInBounds h a').push child)[x]?=gs₁[x]?:=fun x hx hlt=>by rw [Array.getElem?_push,if_neg (by simp;omega),Array.getElem?_setIfInBounds_ne (fun e=>hx e.symm)]
  have MC:∀ {x:Nat} {st':Seat} {n':Nat},upd (upd Ew gs.size (.fin 0 0 0)) h (.seat st n) x=.seat st' n'->(x=h/\st'=st/\n'=n)\/(x≠h/\x≠gs.size/\Ew x=.seat st' n'):=fun {x st' n'} e=>by
    by_cases e1:x=h
    . subst e1;rw [upd_same] at e;cases e;exact .inl ⟨rfl,rfl,rfl⟩
    . rw [upd_ne _ _ e1] at e;by_cases e2:x=gs.size
      . subst e2;rw [upd_same] at e;cases e
      . rw [upd_ne _ _ e2] at e;exact .inr ⟨e1,e2,e⟩
  have hsum:sumTo (gs.size+1) (upd ET gs.size 1)+ex=sumTo gs₁.size ET+(ex+1):=by have h1:sumTo gs.size (upd ET gs.size 1)=sumTo gs.size ET:=Go.ConcN.sumTo_congr fun i hi=>upd_ne ET _ zOM;rw [p3];simp only [sumTo,upd_same,h1];omega
  have om:∀ c,st.has c->∃ k,(w₁.at d).heap[c]?=some (.chan 0 #[] false k k false):=fun c hc=>by obtain ⟨k,hk⟩:=hch c hc;exact ⟨k,Mc p6 hlive hk⟩
  have Uy:((gs₁.setIfInBounds h a').push child).size=gs.size+1:=by simp [p3]
  refine ⟨N+1,_,_,sl₂,_,upd (upd Ew gs.size (.fin 0 0 0)) h (.seat st n),upd ET gs.size 1,runNT_succ_of p1 (p2.trans hrt),Uy,?_,⟨⟨fun i g s m dd hi hg e=>?_,fun i g st' n' hi hg e=>?_,fun i st' n' e=>?_,fun i i' s1 s2 n1 n2 c' e1 e2 h1 h2=>?_,fun x hx=>?_,?_,fun i st' n' e=>?_,?_,?_,fun i=>?_⟩,fun st' n' e=>?_,fun z=>z.elim hLn fun z=>by omega⟩,p6,?_,upd_same _ _ _,fun x hx=>?_⟩
  . rw [← p3,Array.getElem?_push,if_pos (by simp)]
  . by_cases e1:i=h
    . subst e1;rw [upd_same] at e;cases e
    . rw [upd_ne _ _ e1,upd_ne _ _ hi] at e;have hlt:i < gs.size:=by have:=(zGE hg).1;rw [Uy] at this;omega
      rw [hget i e1 hlt] at hg;obtain ⟨a1,a2,a3,a4,a5,a6⟩:=Cn.Gz i g s m dd e1 hg e;exact ⟨a1,a2,by rw [← Array.append_assoc,hq];exact a3,fun hM=>hM.elim a4 hi,by rw [upd_ne _ _ hi];exact a5,a6⟩
  . rcases MC e with ⟨rfl,rfl,rfl⟩ | ⟨e1,e2,e⟩
    . rw [Array.getElem?_push,if_neg (by simp;omega),Array.getElem?_setIfInBounds_self_of_lt (by rw [p3];exact Ov)] at hg
      obtain rfl:=Option.some.inj hg;rw [hSt _ zOM,hBd _ zOM];exact ⟨hsit,.inr rfl⟩
    . have hlt:i < gs.size:=by have:=(zGE hg).1;rw [Uy] at this;omega
      rw [hget i e1 hlt] at hg;obtain ⟨a1,a2⟩:=Cn.seats i g st' n' e1 hg e;rw [hSt _ e2,hBd _ e2];exact ⟨a1,.inl a2⟩
  . rcases MC e with ⟨rfl,rfl,rfl⟩ | ⟨e1,e2,e⟩
    . exact ⟨by rw [Uy];omega,hwf,.inl hMh,by rw [hBd _ zOM,p6.size];exact hbd,om⟩
    . obtain ⟨a1,a2,a3,a4,a5⟩:=C.seat i st' n' e;exact ⟨by rw [Uy];omega,a2,.inl a3,by rw [hBd _ e2];exact a4,a5⟩
  . rcases MC e1 with ⟨x0,rfl,rfl⟩ | ⟨x1,x2,e3⟩ <;> rcases MC e2 with ⟨y0,z1,z2⟩ | ⟨y1,y2,e4⟩
    . exact .inl (x0.trans y0.symm)
    . obtain ⟨n'',e4⟩:=p7.back e4;exact .inr (hown i' s2 _ c' y1 e4 h1 h2)
    . subst z1 z2;obtain ⟨n'',e3⟩:=p7.back e3;exact .inr (hown i s1 _ c' x1 e3 h2 h1)
    . exact C.own i i' s1 s2 n1 n2 c' e3 e4 h1 h2
  . rw [← Array.append_assoc,hq];rw [Uy] at hx;exact Cn.above x (by rw [p3];omega)
  . rw [← Array.append_assoc];refine (pg.loosen (Loose':=fun g=>Loose g\/g=h) fun g hg=>.inl hg).still (fun g l hS=>?_) (fun i x hx hw g hg hS=>?_)
    . by_cases e:g=gs.size
      . subst e;exact absurd hS (hS0 l)
      . rw [hSt g e];exact hS
    . by_cases e:g=gs.size
      . subst e;right
        rcases pg.known i x hx (hmem _ _ hS) with hk|⟨h0,_⟩|⟨hs,_⟩
        . exact hk
        . rw [hw] at h0;cases h0
        . exact absurd hs (E'.apart _ _ hS)
      . left
        rw [← hSt g e];exact hS
  . rcases MC e with ⟨rfl,rfl,rfl⟩ | ⟨e1,e2,e⟩
    . exact hKn _ p6
    . exact C.keep i st' n' e
  . rw [Uy,hsum];exact C.wg
  . rw [Uy,hsum];exact C.few
  . by_cases e:i=gs.size
    . subst e;rw [upd_same];exact Nat.le_refl _
    . rw [upd_ne _ _ e];exact C.one i
  . rcases MC e with ⟨e1,_⟩ | ⟨_,e2,_⟩
    . omega
    . exact e2 rfl
  . intro x;by_cases e1:x=h
    . subst e1;rw [upd_same,upd_same];exact ⟨fun st n e=>⟨n,e⟩,fun s m d e=>⟨s,m,d,e⟩⟩
    . rw [upd_ne _ _ e1,upd_ne _ _ e1];by_cases e2:x=gs.size
      . subst e2;rw [upd_same,upd_same];exact ⟨fun st n e=>⟨n,e⟩,fun s m d e=>⟨s,m,d,e⟩⟩
      . rw [upd_ne _ _ e2,upd_ne _ _ e2];exact p7 x
  . have:x≠gs.size:=by
      rcases hx with rfl|⟨st',n',hx⟩
      . omega
      . have:=(H.JG.seat x st' n' hx).1;omega
    rw [upd_ne _ _ this];exact p8 x hx
end
end
section
inductive KS (P:Program)(main:Bool)(ty:TypeId)(Wg n:Nat)(D:World->World->Array Event->Prop)(Stop:Nat->Goroutine->World->Prop):Bool->Nat->Goroutine->World->Prop
  | stop {ex:Nat} {g:Goroutine} {w:World} (h:∀ w₁,F8 ty Wg w w₁->Stop ex g w₁):KS P main ty Wg n D Stop false ex g w
  | step {b:Bool} {ex:Nat} {g:Goroutine} {w:World} (hs:g.status=.running) (h:∀ w₁,F8 ty Wg w w₁->∃ g' w' es,stepG P main g w₁=.go g' w' es/\D w₁ w' es)
      (k:∀ w₁ g' w' es,F8 ty Wg w w₁->stepG P main g w₁=.go g' w' es->KS P main ty Wg n D Stop b ex g' w'):KS P main ty Wg n D Stop b ex g w
  | Zd {ex:Nat} {g:Goroutine} {w:World} (hs:g.status=.running) (h:∀ w₁,F8 ty Wg w w₁->∃ g',stepG P main g w₁=.go g' w₁ #[mk .disable])
      (k:∀ w₁ g',F8 ty Wg w w₁->stepG P main g w₁=.go g' w₁ #[mk .disable]->KS P main ty Wg n D Stop true ex g' w₁):KS P main ty Wg n D Stop false ex g w
  | en {ex:Nat} {g:Goroutine} {w:World} (hs:g.status=.running) (h:∀ w₁,F8 ty Wg w w₁->∃ g',stepG P main g w₁=.go g' w₁ #[mk .enable])
      (k:∀ w₁ g',F8 ty Wg w w₁->stepG P main g w₁=.go g' w₁ #[mk .enable]->KS P main ty Wg n D Stop false ex g' w₁):KS P main ty Wg n D Stop true ex g w
  | add {ex:Nat} {g:Goroutine} {w:World} (hs:g.status=.running) (hn:n+ex+1 < 2147483648)
      (h:∀ w₁ (v:Nat),F8 ty Wg w w₁->v+1 < 2147483648->WgAt ty Wg w₁ (v * KK) 0->∃ g',stepG P main g w₁=.go g' (w₁.setCell (stA Wg) (.int .u64 ((v+1:Nat) * KK))) #[rd (stA Wg),wr (stA Wg)])
      (k:∀ w₁ (v:Nat) g',F8 ty Wg w w₁->v+1 < 2147483648->WgAt ty Wg w₁ (v * KK) 0->stepG P main g w₁=.go g' (w₁.setCell (stA Wg) (.int .u64 ((v+1:Nat) * KK))) #[rd (stA Wg),wr (stA Wg)]->
        KS P main ty Wg n D Stop true (ex+1) g' (w₁.setCell (stA Wg) (.int .u64 ((v+1:Nat) * KK)))):KS P main ty Wg n D Stop true ex g w
section
variable {P:Program}{main:Bool}{ty:TypeId}{Wg n:Nat}{D:World->World->Array Event->Prop}{Stop Stop':Nat->Goroutine->World->Prop}{b:Bool}{ex:Nat}{g:Goroutine}{w w₁:World}
theorem KS.rely (h:KS P main ty Wg n D Stop b ex g w)(hr:F8 ty Wg w w₁):KS P main ty Wg n D Stop b ex g w₁:=by
  cases h with
  | stop h=>exact .stop fun w₂ h₂=>h w₂ (hr.trans h₂)
  | step hs h k=>exact .step hs (fun w₂ h₂=>h w₂ (hr.trans h₂)) fun w₂ g' w' es h₂=>k w₂ g' w' es (hr.trans h₂)
  | Zd hs h k=>exact .Zd hs (fun w₂ h₂=>h w₂ (hr.trans h₂)) fun w₂ g' h₂=>k w₂ g' (hr.trans h₂)
  | en hs h k=>exact .en hs (fun w₂ h₂=>h w₂ (hr.trans h₂)) fun w₂ g' h₂=>k w₂ g' (hr.trans h₂)
  | add hs hn h k=>exact .add hs hn (fun w₂ v h₂=>h w₂ v (hr.trans h₂)) fun w₂ v g' h₂=>k w₂ v g' (hr.trans h₂)
theorem KS.of {S:Goroutine->World->Prop}(h:LT.Way P main (F8 ty Wg) D S g w)(k:∀ g w,(∀ w₁,F8 ty Wg w w₁->S g w₁)->KS P main ty Wg n D Stop b ex g w):KS P main ty Wg n D Stop b ex g w:=by
  induction h with
  | stop h=>exact k _ _ h
  | step hs h _ ih=>exact .step hs h ih
theorem KS.one (hs:g.status=.running)(h:∀ w₁,F8 ty Wg w w₁->∃ g' w' es,stepG P main g w₁=.go g' w' es/\D w₁ w' es/\KS P main ty Wg n D Stop b ex g' w'):KS P main ty Wg n D Stop b ex g w:=
  .step hs (fun w₁ h₁=>let ⟨g',w',es,a,b,_⟩:=h w₁ h₁;⟨g',w',es,a,b⟩) fun w₁ g' w' es h₁ hst=>by
    obtain ⟨g2,w2,es2,a,_,c⟩:=h w₁ h₁;rw [a] at hst;cases hst
    exact c
end
section
variable {P:Program}{ty:TypeId}{Wg:Nat}{K:Nat->World->Prop}{Still:Nat->Loc->Prop}{Bd:Nat->Nat}{Shun:Loc->Prop}{Quiet Sp Mem Loose:Nat->Prop}{Kf:Trace->Nat->Prop}{role:Nat->EC}{live:Nat->Nat}{ex h j:Nat}{T:Trace}{gs:Array Goroutine}{w:World}
def gH (Mem:Nat->Prop)(h:Nat):Bool->Nat->Prop
  | false=>Mem
  | true=>fun g=>Mem g/\g≠h
theorem Held.plain (H:Held P ty Wg K Still Bd Shun Quiet Mem Loose h role live ex T gs w)(E:Env Wg K Still Shun){a a':Goroutine}{w':World}{ops:Trace}{ex':Nat}(hw:Hy Wg w w')(ha:gs[h]?=some a)(hops:∀ op∈ops,op.g=h)(hp:FI Still Shun Mem Loose w.heap.size (Knows (T ++ ops) h) (T ++ ops))(hwg:WgAt ty Wg w' ((sumTo gs.size live+ex':Nat) * KK) 0)(O1:sumTo gs.size live+ex' < 2147483648) :
    Held P ty Wg K Still Bd Shun Quiet Mem Loose h role live ex' (T ++ ops) ((gs.map (woken P a a' w')).setIfInBounds h a') w'/\((gs.map (woken P a a' w')).setIfInBounds h a')[h]?=some a':=by
  have hlt:h < gs.size:=(zGE ha).1;have C:=H.JG;have hlive:WgLive ty Wg w:=⟨_,_,C.wg⟩
  have hrx:=Lg ty Wg hlive ⟨_,_,hwg⟩;have hget:∀ x,x≠h->((gs.map (woken P a a' w')).setIfInBounds h a')[x]?=gs[x]?:=by
    intro x hx;rw [Array.getElem?_setIfInBounds_ne (fun e=>hx e.symm),Array.getElem?_map];cases e:gs[x]? with
    | none=>rfl
    | some y=>simp [woken_of_again (C.fixed E hw hx e)]
  have hD:∀ x,x≠h->Deaf (T ++ ops) x=Deaf T x:=fun x hx=>Deaf_other T (fun z=>hx z.symm) _ hops;refine ⟨⟨⟨fun i g s m d hi hg e=>?_,fun i g st n hi hg e=>?_,fun i st n e=>?_,C.own,fun j hj=>?_,by rw [hw.size];exact hp,fun i st n e=>E.kwg _ _ _ hw (C.keep i st n e),by simpa using hwg,by simpa using O1,C.one⟩,H.LZ,H.tight⟩,Array.getElem?_setIfInBounds_self_of_lt (by simpa using hlt)⟩
  . rw [hget i hi] at hg;obtain ⟨h1,h2,h3,h4⟩:=C.Gz i g s m d hi hg e;exact ⟨h1,h2.rely hrx,by rw [hD i hi];exact h3,h4⟩
  . rw [hget i hi] at hg;exact C.seats i g st n hi hg e
  . obtain ⟨h1,h2,h3,h4,h5⟩:=C.seat i st n e;refine ⟨by simpa using h1,h2,h3,by rw [hw.size];exact h4,fun c hc=>?_⟩;obtain ⟨k,hk⟩:=h5 c hc;exact ⟨k,MF hw hlive hk⟩
  . have hj':gs.size<=j:=by simpa using hj
    rw [hD j zOM];exact C.above j hj'
theorem Held.mark (H:Held P ty Wg K Still Bd Shun Quiet Mem Loose h role live ex T gs w)(E:Env Wg K Still Shun)(hMh:¬ Mem h){a a':Goroutine}{fn:FuncId}{pos:String}(ha:gs[h]?=some a){m:Mark}(hm:m=.disable\/m=.enable) :
    Held P ty Wg K Still Bd Shun Quiet Mem Loose h role live ex (T ++ MemOp.ofEvents h fn pos #[Go.ConcR.mk m]) ((gs.map (woken P a a' w)).setIfInBounds h a') w/\((gs.map (woken P a a' w)).setIfInBounds h a')[h]?=some a':=by
  have hops:∀ op∈MemOp.ofEvents h fn pos #[Go.ConcR.mk m],op.g=h:=fun op hop=>by obtain ⟨e,_,rfl⟩:=Conc.mem_ofEvents hop;rfl
  refine H.plain E (.inl rfl) ha hops (H.JG.past.mute (fun i=>Knows.app _) hops (fun op hop=>?_) (fun z=>absurd z hMh) fun op hop=>?_) H.JG.wg H.JG.few <;>
  . obtain ⟨e,he,rfl⟩:=Conc.mem_ofEvents hop;simp only [List.mem_toArray,List.mem_cons,List.not_mem_nil,or_false] at he;subst he;rcases hm with rfl|rfl <;> first|rfl|trivial
theorem Held.count (H:Held P ty Wg K Still Bd Shun Quiet Mem Loose h role live ex T gs w)(E:Env Wg K Still Shun)(hMh:¬ Mem h){a a':Goroutine}{fn:FuncId}{pos:String}(ha:gs[h]?=some a)(hv:sumTo gs.size live+ex+1 < 2147483648) :
    Held P ty Wg K Still Bd Shun Quiet Mem Loose h role live (ex+1) (T ++ MemOp.ofEvents h fn pos #[rd (stA Wg),wr (stA Wg)]) ((gs.map (woken P a a' (w.setCell (stA Wg) (.int .u64 ((sumTo gs.size live+ex+1:Nat) * KK))))).setIfInBounds h a') (w.setCell (stA Wg) (.int .u64 ((sumTo gs.size live+ex+1:Nat) * KK)))/\
      ((gs.map (woken P a a' (w.setCell (stA Wg) (.int .u64 ((sumTo gs.size live+ex+1:Nat) * KK))))).setIfInBounds h a')[h]?=some a':=by
  have hops:∀ op∈MemOp.ofEvents h fn pos #[rd (stA Wg),wr (stA Wg)],op.g=h:=fun op hop=>by obtain ⟨e,_,rfl⟩:=Conc.mem_ofEvents hop;rfl
  have hev:∀ e∈(#[rd (stA Wg),wr (stA Wg)]:Array Event),e=rd (stA Wg)\/e=wr (stA Wg):=fun e he=>by simpa using he
  have hlow:=H.JG.jM;refine H.plain E (.inr ⟨_,rfl⟩) ha hops (H.JG.past.hold H.tight hops (fun op hop b hb=>?_) (fun z=>absurd z hMh) fun op hop=>?_) ?_ zOM
  . obtain ⟨e,he,rfl⟩:=Conc.mem_ofEvents hop;have hloc:b.loc=.cell (stA Wg)/\b.kind=.atomic:=by rcases hev e he with rfl|rfl <;> (simp only [rd,wr,MemAct.ofEvent,MemAct.touch?,Option.some.injEq] at hb;subst hb;exact ⟨rfl,rfl⟩)
    exact ⟨fun g _ hS=>absurd E.shun (by rw [← hloc.1];exact E.apart g _ hS),fun _=>by rw [hloc.2];simp⟩
  . obtain ⟨e,he,rfl⟩:=Conc.mem_ofEvents hop;rcases hev e he with rfl|rfl <;> exact hlow
  . have:=H.JG.wg.setSt ((sumTo gs.size live+ex+1:Nat) * KK);exact this
end
end
end Go.LC
end
