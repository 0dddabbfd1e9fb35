/-
  Part 9 of the proof that CellAlone returns true for every input and leaves its arguments as they were. No further condition.
-/
import Derived.Test.YtkdhnbcdbnpmhaaQ08
set_option linter.unusedVariables false
set_option linter.unusedSectionVars false
set_option maxHeartbeats 1000000
namespace Go.LK
open Go Go.Conc Go.LT Go.LC
open Go.ConcN (WgLive sumTo upd sumTo_upd upd_ne upd_same)
open Go.ConcR (KK wgBlock WgAt stA smA rd wr mk)
section
def NY (w w':World)(b:Nat):Prop:=(w'.heap[b]?).map depend=(w.heap[b]?).map depend
theorem NY.refl (w:World)(b:Nat):NY w w b:=rfl
theorem NY.of {w w':World}{b:Nat}(h:w'.heap[b]?=w.heap[b]?):NY w w' b:=by unfold NY;rw [h]
theorem NY.trans {w w' w'':World}{b:Nat}(h:NY w w' b)(h':NY w' w'' b):NY w w'' b:=Eq.trans h' h
theorem NY.symm {w w':World}{b:Nat}(h:NY w w' b):NY w' w b:=Eq.symm h
theorem Rq (o:Obj):depend (depend o)=depend o:=by cases o <;> rfl
theorem NY.view {B:Hid}{w:World}{b:Nat}(h:B b=false)(hz:B.MH b=false):NY w (GN B w) b:=by
  unfold NY;rw [Ib h,hz,LD];cases w.heap[b]? with
  | none=>rfl
  | some o=>simp [Rq]
theorem NY.cells {w w':World}{b:Nat}(h:NY w w' b){c:Array Value}{e:TypeId}{f:Nat × Nat}(hc:w.heap[b]?=some (.cells c e f)):w'.heap[b]?=some (.cells c e f):=by
  unfold NY at h;rw [hc] at h;cases ho:w'.heap[b]? with
  | none=>rw [ho] at h;cases h
  | some o=>rw [ho] at h;cases o <;> simp [depend] at h ⊢;exact h
structure Md (X Sg:Type) where
  hold:X->Nat->Sg->X × Sg × Bool
  Sh:Nat->Prop
  Inv:Sg->World->Prop
  Rec:Nat->X->Nat->(Nat->Prop)->World->Prop
  TD:∀ s w b,Sh b->Inv s w->∃ c e f,w.heap[b]?=some (.cells c e f)
  inv_eq:∀ s w w',(∀ b,Sh b->NY w w' b)->Inv s w->Inv s w'
  rec_eq:∀ k x b o w w',(∀ b',o b'->NY w w' b')->Rec k x b o w->Rec k x b o w'
structure Rn where
  ty:TypeId
  Wg:Nat
  come:Nat
  gone:Nat
  zi:Value
  zg:Value
  Bo:Nat->Bool
  shut:Prop
  Uh:Prop
structure Ij (X:Type) where
  h:Nat
  k:Nat
  b:Nat
  t:Nat
  pb:Nat
  own:Nat->Prop
  x:X
  wy:World
  over:Bool
  r:Nat
structure Gw (X Sg:Type) where
  v:Ij X
  B:Nat->Bool
  n0:Nat
  tgt:X × Sg × Bool
structure QD (b0:Nat)(w w':World):Prop where
  os:w'.os=w.os
  output:w'.output=w.output
  size:w.heap.size<=w'.heap.size
  objs:∀ (b:Nat) (o:Obj),b < b0->w.heap[b]?=some o->(∀ c e f,o≠Obj.cells c e f)->w'.heap[b]?=some o
theorem QD.refl (b0:Nat)(w:World):QD b0 w w:=⟨rfl,rfl,Nat.le_refl _,fun _ _ _ h _=>h⟩
theorem QD.trans {b0:Nat}{a b c:World}(h:QD b0 a b)(k:QD b0 b c):QD b0 a c:=⟨k.os.trans h.os,k.output.trans h.output,Nat.le_trans h.size k.size,fun x o hx ho hn=>k.objs x o hx (h.objs x o hx ho hn) hn⟩
theorem QD.dk {b0:Nat}{B:Hid}{w w':World}{es:Array Event}(h:DK B w w' es):QD b0 w w':=⟨h.1.os,h.1.output,h.1.size,fun x o _ ho hn=>h.1.objs x o ho hn⟩
theorem QD.RG {b0:Nat}{ty:TypeId}{Wg:Nat}{w w':World}(hb:b0<=Wg)(h:Jc ty Wg w w'):QD b0 w w':=⟨h.os,h.output,Nat.le_of_eq h.size.symm,fun x o hx ho _=>by rw [h.block x (by omega)];exact ho⟩
theorem QD.rgv {b0:Nat}{ty:TypeId}{Wg c:Nat}{w w':World}(hb:b0<=Wg)(hc:b0<=c)(h:wI ty Wg c w w'):QD b0 w w':=⟨h.os,h.output,Nat.le_of_eq h.size.symm,fun x o hx ho _=>by rw [h.block x (by omega) (by omega)];exact ho⟩
theorem QD.rel {b0:Nat}{w w':World}(h:AtRel w w'):QD b0 w w':=by obtain ⟨d,rfl⟩:=h;exact ⟨rfl,rfl,Nat.le_refl _,fun _ _ _ h _=>h⟩
structure Iw where
  F:Machine->Trace->Prop
  b0:Nat
instance:CoeFun Iw (fun _=>Machine->Trace->Prop):=⟨Iw.F⟩
abbrev Ig (P:Program)(Fin:Iw):Prop:=∀ N m m' T T',runNT P N m T=(.next m',T')->QD Fin.b0 m.world m'.world->Fin m' T'->Fin m T
structure Lw {X:Type}(b0:Nat)(ρ:Rn)(ws:List (Ij X)):Prop where
  wg:b0<=ρ.Wg
  come:b0<=ρ.come
  gone:b0<=ρ.gone
  turn:∀ (i:Nat) (v:Ij X),ws[i]?=some v->b0<=v.t
section
variable {X Sg:Type}
def JD (ρ:Rn)(t:Nat):Array CommCase:=#[rcase t ρ.zi,rcase ρ.gone ρ.zg]
def Kj (ρ:Rn)(k:Nat):Array CommCase:=#[scase ρ.come (.int .i64 k) ρ.zi,rcase ρ.gone ρ.zg]
def Kv (ρ:Rn)(v:Ij X)(w:World):Prop:=
  w.cell? ⟨v.b,2,none⟩=some (.chan (some v.t))/\w.cell? ⟨v.b,4,none⟩=some (.chan (some ρ.gone))/\w.cell? ⟨v.pb,0,none⟩=some (.pointer (some ⟨v.b,0,none⟩))
def xS (v:Ij X)(l:Loc):Prop:=l=.cell ⟨v.b,2,none⟩\/l=.cell ⟨v.b,4,none⟩\/l=.cell ⟨v.pb,0,none⟩
def bX (v:Ij X):Nat:=max v.b v.pb+1
structure jr (M:Md X Sg)(ρ:Rn)(v:Ij X)(B:Nat->Bool)(n0:Nat):Prop where
  wg:B ρ.Wg=true
  own:∀ b,v.own b->B b=false
  sh:∀ b,M.Sh b->B b=false
  low:∀ b,B b=true->b < n0
def jO (M:Md X Sg)(ρ:Rn)(P:Program)(nx:Gw X Sg->Goroutine->World->Prop)(v:Ij X)(g:Goroutine):Prop:=
  ∀ (s:Nat) (σ:Sg) (w:World) (B:Nat->Bool),jr M ρ v B w.heap.size->LT.Rows B w->(∀ b,v.own b->NY v.wy w b)->v.wy.heap.size<=w.heap.size->M.Inv σ w->
    nx ⟨v,B,w.heap.size,M.hold v.x s σ⟩ (g.finishComm P (JD ρ v.t) .select 0 (.int .i64 s) true) w
def DA (w w':World)(es:Array Event):Prop:=es=#[]/\(w'=w\/∃ o,Xn o/\w'={ w with heap:=w.heap.push o })
def Zm (ρ:Rn)(P:Program)(t:Nat)(g:Goroutine):Prop:=
  ∃ m,∀ w',WgLive ρ.ty ρ.Wg w'->Goes P false (RX ρ.ty ρ.Wg) DA (Qx P ρ.ty ρ.Wg) m (g.finishComm P (JD ρ t) .select (1:Nat) ρ.zg false) w'
def NZ (M:Md X Sg)(ρ:Rn)(P:Program)(nx:Gw X Sg->Goroutine->World->Prop)(v:Ij X):Seat:={ cases:=JD ρ v.t,shape:=.select,home:=fun g=>jO M ρ P nx v g/\(ρ.shut->Zm ρ P v.t g) }
structure jH (M:Md X Sg)(ρ:Rn)(P:Program)(r:Nat)(nx:Gw X Sg->Goroutine->World->Prop)(γ:Gw X Sg)(g:Goroutine)(w:World):Prop where
  run:g.status=.running
  ex:∃ (g₂:Goroutine) (v':Ij X),(∀ w₁,Jc ρ.ty ρ.Wg w w₁->stepG P false g w₁=.comm g₂ (Kj ρ γ.v.k) true .select w₁ #[])/\
    v'.h=γ.v.h/\v'.k=γ.v.k/\v'.b=γ.v.b/\v'.t=γ.v.t/\v'.x=γ.tgt.1/\v'.over=γ.tgt.2.2/\v'.r=r/\v'.wy=w/\M.Inv γ.tgt.2.1 w/\M.Rec γ.v.k v'.x γ.v.b v'.own w/\
    v'.own v'.pb/\(∀ b,γ.v.own b->v'.own b)/\(∀ b,v'.own b->γ.v.own b\/γ.n0<=b)/\(∀ b,v'.own b->¬ M.Sh b/\∃ c e f,w.heap[b]?=some (.cells c e f))/\
    (if γ.tgt.2.2 then ∃ m,∀ w',WgLive ρ.ty ρ.Wg w'->Fs P ρ.ty ρ.Wg 7 m 0 (g₂.finishComm P (Kj ρ γ.v.k) .select 0 undef false) w'
      else Kv ρ v' w/\∃ n,Sits P false (Kv ρ v') (xS v') (bX v') (NZ M ρ P nx v') n (g₂.finishComm P (Kj ρ γ.v.k) .select 0 undef false))
def WJ (M:Md X Sg)(ρ:Rn)(P:Program):Nat->Gw X Sg->Goroutine->World->Prop
  | 0=>fun γ g w=>LT.Way P false (Jc ρ.ty ρ.Wg) (DK γ.B) (jH M ρ P 0 (fun _ _ _=>True) γ) g w
  | r+1=>fun γ g w=>LT.Way P false (Jc ρ.ty ρ.Wg) (DK γ.B) (jH M ρ P (r+1) (WJ M ρ P r) γ) g w
def bE (M:Md X Sg)(ρ:Rn)(P:Program):Nat->Gw X Sg->Goroutine->World->Prop
  | 0=>fun _ _ _=>True
  | r+1=>WJ M ρ P r
theorem Ze (M:Md X Sg)(ρ:Rn)(P:Program)(r:Nat)(γ:Gw X Sg)(g:Goroutine)(w:World):WJ M ρ P r γ g w=LT.Way P false (Jc ρ.ty ρ.Wg) (DK γ.B) (jH M ρ P r (bE M ρ P r) γ) g w:=by cases r <;> rfl
variable (M:Md X Sg)(ρ:Rn)(P:Program)(ws:List (Ij X))(hd:Nat)
def Kc (i:Nat)(w:World):Prop:=∀ (j:Nat) (v:Ij X),ws[j]?=some v->v.h=i->v.over=false->Kv ρ v w
def Qd (i:Nat)(l:Loc):Prop:=∃ (j:Nat) (v:Ij X),ws[j]?=some v/\v.h=i/\v.over=false/\xS v l
def OQ (i:Nat):Prop:=i=0\/i=hd\/∃ (j:Nat) (v:Ij X),ws[j]?=some v/\v.h=i/\v.over=false
def KW (i:Nat):Prop:=i≠hd/\(i=0\/∃ (j:Nat) (v:Ij X),ws[j]?=some v/\v.h=i/\v.over=false)
def Ku (l:Loc):Prop:=∃ a,l=.cell a/\(a.block=ρ.Wg\/ρ.Bo a.block=true)
def Rc (v:Ij X):Seat:=NZ M ρ P (bE M ρ P v.r) v
structure OA (role:Nat->Ik)(bd:Nat->Nat)(w:World):Prop where
  apart:∀ (i j:Nat) (v v':Ij X),ws[i]?=some v->ws[j]?=some v'->(v.h=v'.h\/v.t=v'.t\/(∃ b,v.own b/\v'.own b))->i=j
  pos:∀ (i:Nat) (v:Ij X),ws[i]?=some v->0 < v.h/\v.k=i
  seats:∀ (i:Nat) (v:Ij X),ws[i]?=some v->v.h≠hd->v.over=false->(∃ n,role v.h=.seat (Rc M ρ P v) n)/\bd v.h=bX v
  known:∀ (i:Nat) (st:Seat) (n c:Nat),role i=.seat st n->st.has c->c=ρ.gone\/(i=0/\c=ρ.come)\/∃ (j:Nat) (v:Ij X),ws[j]?=some v/\v.h=i/\c=v.t
  keep:∀ (i:Nat) (v:Ij X),ws[i]?=some v->v.h≠hd->(∀ b,v.own b->NY v.wy w b)/\M.Rec v.k v.x v.b v.own v.wy/\v.wy.heap.size<=w.heap.size
  own:∀ (i:Nat) (v:Ij X),ws[i]?=some v->∀ b,v.own b->¬ M.Sh b/\b≠ρ.Wg/\ρ.Bo b=false/\∃ c e f,w.heap[b]?=some (.cells c e f)
  inside:∀ (i:Nat) (v:Ij X),ws[i]?=some v->v.own v.b/\v.own v.pb
  chan:∀ (i:Nat) (v:Ij X),ws[i]?=some v->v.t≠ρ.come/\v.t≠ρ.gone/\∃ k,w.heap[v.t]?=some (.chan 0 #[] false k k false)
  come:ρ.come≠ρ.gone/\∃ k,w.heap[ρ.come]?=some (.chan 0 #[] false k k false)
  gone:¬ ρ.Uh->∃ k,w.heap[ρ.gone]?=some (.chan 0 #[] false k k false)
  sh:∀ b,M.Sh b->b≠ρ.Wg/\ρ.Bo b=false
  old:∀ b,ρ.Bo b=true->b≠ρ.Wg/\∃ c e f,w.heap[b]?=some (.cells c e f)
  o8:bd 0=0
end
structure Rel (B:Nat->Bool)(Wg:Nat)(w w':World):Prop where
  block:∀ b,B b=true->b≠Wg->w'.heap[b]?=w.heap[b]?
  size:w.heap.size<=w'.heap.size
  objs:∀ (b:Nat) (o:Obj),b≠Wg->w.heap[b]?=some o->(∀ c e f,o≠.cells c e f)->w'.heap[b]?=some o
theorem Rel.refl (B:Nat->Bool)(Wg:Nat)(w:World):Rel B Wg w w:=⟨fun _ _ _=>rfl,Nat.le_refl _,fun _ _ _ h _=>h⟩
theorem Rel.trans {B:Nat->Bool}{Wg:Nat}{w w' w'':World}(h:Rel B Wg w w')(k:Rel B Wg w' w''):Rel B Wg w w'':=
  ⟨fun b hb hw=>(k.block b hb hw).trans (h.block b hb hw),Nat.le_trans h.size k.size,fun b o hb ho hn=>k.objs b o hb (h.objs b o hb ho hn) hn⟩
theorem Rel.RG {B:Nat->Bool}{ty:TypeId}{Wg:Nat}{w w':World}(h:Jc ty Wg w w'):Rel B Wg w w':=⟨fun b _ hb=>h.block b hb,Nat.le_of_eq h.size.symm,fun b o hb ho _=>by rw [h.block b hb];exact ho⟩
theorem Rel.dk {B:Nat->Bool}{Wg:Nat}{w w':World}{es:Array Event}(h:DK B w w' es):Rel B Wg w w':=⟨fun b hb _=>h.1.block b hb,h.1.size,fun b o _ ho hn=>h.1.objs b o ho hn⟩
theorem U9 {P:Program}{main:Bool}{R:World->World->Prop}{D:World->World->Array Event->Prop}{Stop:Goroutine->World->Prop}{Re:World->World->Prop}(hR:∀ a b,R a b->Re a b)(hD:∀ a b es,D a b es->Re a b)(tr:∀ a b c,Re a b->Re b c->Re a c){g:Goroutine}{w:World}(h:LT.Way P main R D Stop g w):∀ w0,Re w0 w->LT.Way P main R D (fun g w=>Stop g w/\Re w0 w) g w:=by
  induction h with
  | @stop g w h=>exact fun w0 h0=>.stop fun w₁ h₁=>⟨h w₁ h₁,tr _ _ _ h0 (hR _ _ h₁)⟩
  | @step g w hs h k ih=>
    intro w0 h0;refine .one hs fun w₁ h₁=>?_;obtain ⟨g',w',es,e,d⟩:=h w₁ h₁;exact ⟨g',w',es,e,d,ih _ _ _ _ h₁ e w0 (tr _ _ _ h0 (tr _ _ _ (hR _ _ h₁) (hD _ _ _ d)))⟩
theorem cell_of {w w':World}{a:Addr}(h:w'.heap[a.block]?=w.heap[a.block]?):w'.cell? a=w.cell? a:=by simp [World.cell?,h]
section
variable {X Sg:Type}{M:Md X Sg}{ρ:Rn}{P:Program}{ws:List (Ij X)}{hd:Nat}{role:Nat->Ik}{bd:Nat->Nat}{w:World}
theorem Kv.blk {v:Ij X}{w w':World}(h:Kv ρ v w)(hb:w'.heap[v.b]?=w.heap[v.b]?)(hp:w'.heap[v.pb]?=w.heap[v.pb]?):Kv ρ v w':=by obtain ⟨h1,h2,h3⟩:=h;exact ⟨by rw [cell_of hb];exact h1,by rw [cell_of hb];exact h2,by rw [cell_of hp];exact h3⟩
theorem Xp (hb:∀ (j:Nat) (v:Ij X),ws[j]?=some v->v.over=false->v.b≠ρ.Wg/\v.pb≠ρ.Wg/\ρ.Bo v.b=false/\ρ.Bo v.pb=false):Env ρ.Wg (Kc ρ ws) (Qd ws) (Ku ρ):=by
  refine ⟨fun i w w' hw hK j v hv hi ho=>?_,⟨_,rfl,.inl rfl⟩,fun g l hS hsh=>?_⟩
  . obtain ⟨h1,h2,_⟩:=hb j v hv ho;exact (hK j v hv hi ho).blk (hw _ h1) (hw _ h2)
  . obtain ⟨j,v,hv,_,ho,hs⟩:=hS;obtain ⟨h1,h2,h3,h4⟩:=hb j v hv ho;obtain ⟨a,rfl,ha⟩:=hsh;rcases hs with hs|hs|hs <;> (simp only [Loc.cell.injEq] at hs;subst hs;rcases ha with ha|ha <;> simp_all)
end
end
section
section
variable {X Sg:Type}{M:Md X Sg}{ρ:Rn}{P:Program}{ws:List (Ij X)}{hd:Nat}{role:Nat->Ik}{bd:Nat->Nat}{w:World}
theorem Na {i j:Nat}{v v' u:Ij X}(hv:ws[i]?=some v)(h:(ws.set i v')[j]?=some u):(j=i/\u=v')\/(j≠i/\ws[j]?=some u):=by
  rw [List.getElem?_set] at h;by_cases e:i=j
  . subst e;simp only [if_true] at h;split at h
    . exact .inl ⟨rfl,(Option.some.inj h).symm⟩
    . cases h
  . rw [if_neg e] at h;exact .inr ⟨fun z=>e z.symm,h⟩
theorem set_self {i:Nat}{v v':Ij X}(hv:ws[i]?=some v):(ws.set i v')[i]?=some v':=by have hlt:i < ws.length:=(List.getElem?_eq_some_iff.1 hv).1;rw [List.getElem?_set];simp [hlt]
theorem Q9 {i j:Nat}{v':Ij X}(h:j≠i):(ws.set i v')[j]?=ws[j]?:=by rw [List.getElem?_set,if_neg (fun e=>h e.symm)]
theorem OA.env (C:OA M ρ P ws hd role bd w):Env ρ.Wg (Kc ρ ws) (Qd ws) (Ku ρ):=Xp fun j v hv _=>by obtain ⟨h1,h2⟩:=C.inside j v hv;obtain ⟨_,a1,a2,_⟩:=C.own j v hv _ h1;obtain ⟨_,b1,b2,_⟩:=C.own j v hv _ h2;exact ⟨a1,b1,a2,b2⟩
theorem hKc:∀ i w c k,w.heap[c]?=some (.chan 0 #[] false k k false)->Kc ρ ws i w->Kc ρ ws i (w.setChan c 0 #[] false (k+1) (k+1) false):=by
  intro i w c k hc hK j v hv hi ho;have hh:=hK j v hv hi ho;have ne:∀ {a:Addr} {x:Value},w.cell? a=some x->c≠a.block:=fun {a x} h e=>by subst e;simp [World.cell?,hc] at h
  exact hh.blk (heap_setChan_ne _ _ _ _ _ _ _ (ne hh.1)) (heap_setChan_ne _ _ _ _ _ _ _ (ne hh.2.2))
theorem Z9 {M:Md X Sg}{nx:Gw X Sg->Goroutine->World->Prop}{v:Ij X}(h:v.t≠ρ.gone):(NZ M ρ P nx v).Wf:=by
  have get:∀ (k c:Nat) (z:Value),(JD ρ v.t)[k]?=some (rcase c z)->(k=0/\c=v.t)\/(k=1/\c=ρ.gone):=by
    intro k c z e;rcases k with _|_|k
    . simp only [JD,List.getElem?_toArray,List.getElem?_cons_zero,Option.some.injEq,rcase,CommCase.mk.injEq,Value.chan.injEq] at e;exact .inl ⟨rfl,e.1.symm⟩
    . simp only [JD,List.getElem?_toArray,List.getElem?_cons_succ,List.getElem?_cons_zero,Option.some.injEq,rcase,CommCase.mk.injEq,Value.chan.injEq] at e;exact .inr ⟨rfl,e.1.symm⟩
    . simp [JD] at e
  refine ⟨fun cc hcc=>?_,fun k m c z z' h1 h2=>?_⟩
  . simp only [NZ,JD,List.mem_toArray,List.mem_cons,List.not_mem_nil,or_false] at hcc;rcases hcc with rfl|rfl
    . exact ⟨_,_,rfl⟩
    . exact ⟨_,_,rfl⟩
  . rcases get k c z h1 with ⟨rfl,e⟩ | ⟨rfl,e⟩ <;> rcases get m c z' h2 with ⟨rfl,e'⟩ | ⟨rfl,e'⟩ <;> first | rfl | (exact absurd (e.symm.trans e') h) | (exact absurd (e'.symm.trans e) h)
theorem Tw {M:Md X Sg}{nx:Gw X Sg->Goroutine->World->Prop}{v:Ij X}{c:Nat}(h:(NZ M ρ P nx v).has c):c=v.t\/c=ρ.gone:=by
  obtain ⟨k,z,e⟩:=h;rcases k with _|_|k
  . simp only [NZ,JD,List.getElem?_toArray,List.getElem?_cons_zero,Option.some.injEq,rcase,CommCase.mk.injEq,Value.chan.injEq] at e;exact .inl e.1.symm
  . simp only [NZ,JD,List.getElem?_toArray,List.getElem?_cons_succ,List.getElem?_cons_zero,Option.some.injEq,rcase,CommCase.mk.injEq,Value.chan.injEq] at e;exact .inr e.1.symm
  . simp [NZ,JD] at e
abbrev Ro (M:Md X Sg)(ρ:Rn)(P:Program)(ws:List (Ij X))(hd:Nat)(bd:Nat->Nat)(role:Nat->Ik)(live:Nat->Nat)(ex:Nat)(T:Trace)(gs:Array Goroutine)(w:World):Prop:=
  Held P ρ.ty ρ.Wg (Kc ρ ws) (Qd ws) bd (Ku ρ) (fun c=>c=ρ.gone) (OQ ws hd) (KW ws hd) hd role live ex T gs w
structure Lv (ws:List (Ij X))(n:Nat)(live:Nat->Nat):Prop where
  lt:∀ (i:Nat) (v:Ij X),ws[i]?=some v->v.h < n
  zero:live 0=0
  one:∀ (i:Nat) (v:Ij X),ws[i]?=some v->v.over=false->live v.h=1
theorem UO (hcl:¬ ρ.Uh){i:Nat}{v:Ij X}{γ:Gw X Sg}{r:Nat}{Oy:Goroutine->Prop}{n0 ex:Nat}{live:Nat->Nat}{T:Trace}{gs:Array Goroutine}{sl:Option (Nat × Nat)}{g:Goroutine}(hv:ws[i]?=some v)(hov:v.over=false)(hγ:γ.v=v)(C:OA M ρ P ws v.h role bd w)(H:Ro M ρ P ws v.h bd role live ex T gs w)(hL:Lv ws gs.size live)(Px:jr M ρ v γ.B γ.n0)(hRB:LT.Rows γ.B w)(XQ:∀ b,ρ.Bo b=true->γ.B b=true)(Ox:∀ (j:Nat) (u:Ij X),ws[j]?=some u->j≠i->∀ b,u.own b->γ.B b=true)(hg:gs[v.h]?=some g)(hW:WJ M ρ P r γ g w)(h0:role 0=.seat (Seat.one ρ.come ρ.zi false Oy) n0) :
    ∃ N gs' w' sl' T' Ia cK Iz v' g0,runNT P N (crowd gs w sl) T=(.next (crowd gs' w' sl'),T')/\gs'.size=gs.size/\gs'[0]?=some (g0.finishComm P #[rcase ρ.come ρ.zi] (.recv false) 0 (.int .i64 v.k) true)/\Oy g0/\
      OA M ρ P (ws.set i v') 0 Ia cK w'/\Ro M ρ P (ws.set i v') 0 cK Ia Iz ex T' gs' w'/\Lv (ws.set i v') gs.size Iz/\
      v'.h=v.h/\v'.k=v.k/\v'.b=v.b/\v'.t=v.t/\v'.x=γ.tgt.1/\v'.over=γ.tgt.2.2/\v'.r=r/\M.Inv γ.tgt.2.1 w'/\(∀ b,γ.B b=true->b≠ρ.Wg->w'.heap[b]?=w.heap[b]?)/\w.heap.size<=w'.heap.size/\(∀ b,v'.own b->v.own b\/γ.n0<=b)/\(∀ b0,b0<=ρ.Wg->b0<=ρ.come->QD b0 w w'):=by
  subst hγ;have E:=C.env;obtain ⟨hpos,hk⟩:=C.pos i _ hv;have hmain:(γ.v.h == 0)=false:=by simp;omega
  have other:∀ {j:Nat} {u:Ij X},ws[j]?=some u->u.h≠γ.v.h->j≠i:=fun {j u} hu hne e=>by subst e;rw [hu] at hv;cases hv;exact hne rfl
  rw [Ze] at hW;have hW2:=U9 (Re:=fun a b=>Rel γ.B ρ.Wg a b/\∀ b0,b0<=ρ.Wg->QD b0 a b) (fun a b h=>⟨.RG h,fun b0 hb=>.RG hb h⟩) (fun a b es h=>⟨.dk h,fun b0 _=>.dk h⟩) (fun a b c h k=>⟨h.1.trans k.1,fun b0 hb=>(h.2 b0 hb).trans (k.2 b0 hb)⟩) hW w ⟨.refl _ _ _,fun b0 _=>.refl _ _⟩;have hD:∀ w w' es,DK γ.B w w' es->Zv (Kc ρ ws) (Qd ws) (Ku ρ) (fun _=>True) ρ.Wg γ.v.h w w' es:=fun w w' es hd=>by
    refine DK.hd (fun x hx w w' hb hK j u hu Ki ho=>?_) (fun x hx l hl=>?_) (fun l hl=>?_) Px.wg hd
    . have hne:=other hu (by rw [Ki];exact hx)
      have hi:=C.inside j u hu;exact (hK j u hu Ki ho).blk (hb _ (.inl (Ox j u hu hne _ hi.1))) (hb _ (.inl (Ox j u hu hne _ hi.2)))
    . obtain ⟨j,u,hu,Ki,ho,hs⟩:=hl;have hne:=other hu (by rw [Ki];exact hx);have hi:=C.inside j u hu;rcases hs with hs|hs|hs
      . exact .inl ⟨_,hs,Ox j u hu hne _ hi.1⟩
      . exact .inl ⟨_,hs,Ox j u hu hne _ hi.1⟩
      . exact .inl ⟨_,hs,Ox j u hu hne _ hi.2⟩
    . obtain ⟨a,rfl,ha⟩:=hl;refine ⟨a,rfl,?_⟩;rcases ha with ha|ha
      . rw [ha];exact Px.wg
      . exact XQ _ ha
  obtain ⟨N1,gs1,a1,w1,sl1,T1,Rf,SH,p1,p2,p3,⟨p4,p5,p5f⟩,p6,p7,p8,_,_⟩:=Xf (sl:=sl) E (Ch:=fun _=>True) hD (by rw [hmain];exact hW2) hg H (fun _ _ _ _ _ _=>trivial);obtain ⟨hrun,g₂,v',hstep,e1,e2,e3,e4,e5,e6,e7,e8,hInv,eG,hpb,hown1,hown2,hown3,hend⟩:=p4;have rC:WgLive ρ.ty ρ.Wg w1:=⟨_,_,p6.J9.wg⟩
  have SC:∀ {c k:Nat},w.heap[c]?=some (.chan 0 #[] false k k false)->w1.heap[c]?=some (.chan 0 #[] false k k false):=fun {c k} hc=>by refine p5.objs c _ (fun e=>?_) hc (fun _ _ _=>by simp);have:=H.J9.wg;unfold WgAt wgBlock at this;rw [e,this] at hc;cases hc
  have Xz:∀ b,v'.own b->b≠ρ.Wg/\ρ.Bo b=false:=fun b hb=>by
    rcases hown2 b hb with hb|hb
    . obtain ⟨_,a,b,_⟩:=C.own i _ hv b hb;exact ⟨a,b⟩
    . have h1:=Px.low _ Px.wg;refine ⟨by omega,?_⟩;cases hB:ρ.Bo b with
      | false=>rfl
      | true=>have:=Px.low _ (XQ b hB);omega
  have U2:v'.own v'.b:=by rw [e3];exact hown1 _ (C.inside i _ hv).1
  have hset:=fun {j:Nat} {u:Ij X} (h:(ws.set i v')[j]?=some u)=>Na hv h;have Tx:∀ {j:Nat} {u:Ij X},ws[j]?=some u->u.h=γ.v.h->j=i:=fun {j u} hu he=>C.apart j i u γ.v hu hv (.inl he);have Aeu:∀ x,x≠γ.v.h->Kc ρ (ws.set i v') x=Kc ρ ws x:=fun x hx=>by
    funext z
    apply propext;constructor
    . intro h j u hu Ki ho;have hne:=other hu (by rw [Ki];exact hx);exact h j u (by rw [Q9 hne];exact hu) Ki ho
    . intro h j u hu Ki ho;rcases hset hu with ⟨rfl,rfl⟩|⟨hne,hu⟩
      . exact absurd (e1.symm.trans Ki).symm hx
      . exact h j u hu Ki ho
  have Afc:∀ x,x≠γ.v.h->Qd (ws.set i v') x=Qd ws x:=fun x hx=>by
    funext z
    apply propext;constructor
    . rintro ⟨j,u,hu,Ki,ho,hs⟩;rcases hset hu with ⟨rfl,rfl⟩|⟨hne,hu⟩
      . exact absurd (e1.symm.trans Ki).symm hx
      . exact ⟨j,u,hu,Ki,ho,hs⟩
    . rintro ⟨j,u,hu,Ki,ho,hs⟩;have hne:=other hu (by rw [Ki];exact hx);exact ⟨j,u,by rw [Q9 hne];exact hu,Ki,ho,hs⟩
  have hKv:v'.over=false->Kc ρ (ws.set i v') γ.v.h=Kv ρ v':=fun ho=>by
    funext z
    apply propext;constructor
    . exact fun h=>h i v' (set_self hv) e1 ho
    . intro h j u hu Ki ho';rcases hset hu with ⟨rfl,rfl⟩|⟨hne,hu⟩
      . exact h
      . exact absurd (Tx hu Ki) hne
  have hSv:v'.over=false->Qd (ws.set i v') γ.v.h=xS v':=fun ho=>by
    funext z
    apply propext;constructor
    . rintro ⟨j,u,hu,Ki,ho',hs⟩;rcases hset hu with ⟨rfl,rfl⟩|⟨hne,hu⟩
      . exact hs
      . exact absurd (Tx hu Ki) hne
    . exact fun h=>⟨i,v',set_self hv,e1,ho,h⟩
  have XI:∀ b,v'.own b->∀ o,¬ Ku ρ (.cell ⟨b,o,none⟩):=fun b hb o=>by
    rintro ⟨a,ha,h⟩;cases ha
    obtain ⟨h1,h2⟩:=Xz b hb;rcases h with h|h
    . exact h1 h
    . rw [h2] at h;cases h
  have nC:∀ l,Qd (ws.set i v') γ.v.h l->l.isMemory=true/\¬ Ku ρ l:=by
    rintro l ⟨j,u,hu,Ki,ho',hs⟩;rcases hset hu with ⟨_,hu'⟩|⟨hne,hu⟩
    . rw [hu'] at hs;rcases hs with rfl|rfl|rfl
      . exact ⟨rfl,XI _ U2 _⟩
      . exact ⟨rfl,XI _ U2 _⟩
      . exact ⟨rfl,XI _ hpb _⟩
    . exact absurd (Tx hu Ki) hne
  have H1:=p6.re (K':=Kc ρ (ws.set i v')) (Still':=Qd (ws.set i v')) (ql:=upd bd γ.v.h (bX v')) Aeu Afc (fun x hx=>upd_ne bd _ hx) nC;have E1:Env ρ.Wg (Kc ρ (ws.set i v')) (Qd (ws.set i v')) (Ku ρ):=Xp fun j u hu ho=>by
    rcases hset hu with ⟨_,hu'⟩|⟨hne,hu⟩
    . rw [hu'];exact ⟨(Xz _ U2).1,(Xz _ hpb).1,(Xz _ U2).2,(Xz _ hpb).2⟩
    . obtain ⟨h1,h2⟩:=C.inside j u hu;obtain ⟨_,a1,a2,_⟩:=C.own j u hu _ h1;obtain ⟨_,b1,b2,_⟩:=C.own j u hu _ h2;exact ⟨a1,b1,a2,b2⟩
  obtain ⟨n1,hr0⟩:=(p7 0).1 _ _ h0;obtain ⟨kc,QA⟩:=C.come.2;obtain ⟨kg,Y7⟩:=C.gone hcl;have iF:∀ {b:Nat},v'.own b->b < w1.heap.size:=fun {b} hb=>by obtain ⟨_,c,e,f,hc⟩:=hown3 b hb;exact (Array.getElem?_eq_some_iff.1 hc).1
  have hlv1:SH γ.v.h=1:=(p8 γ.v.h (.inl rfl)).trans (hL.one i _ hv hov);have Y5:∀ (x:Nat) (st:Seat) (n c:Nat),Rf x=.seat st n->st.has c->c=ρ.gone\/(x=0/\c=ρ.come)\/∃ (j:Nat) (u:Ij X),ws[j]?=some u/\u.h=x/\c=u.t:=fun x st n c e hc=>by obtain ⟨n',e'⟩:=p7.back e;exact C.known x st n' c e' hc
  obtain ⟨rh,hA,hrh⟩:∃ rh,After P ρ.ty ρ.Wg (Kc ρ (ws.set i v')) (Qd (ws.set i v')) (upd bd γ.v.h (bX v')) (fun c=>c=ρ.gone) (OQ (ws.set i v') 0) (KW (ws.set i v') 0) Rf SH γ.v.h ρ.come w1 (g₂.finishComm P (Kj ρ γ.v.k) .select (0:Nat) undef false) rh/\
      ((v'.over=true/\∃ m,rh=.fin 7 m 0)\/(v'.over=false/\∃ n,rh=.seat (Rc M ρ P v') n)):=by
    have hwf:(Rc M ρ P v').Wf:=Z9 (by rw [e4];exact (C.chan i _ hv).2.1);cases jX:γ.tgt.2.2 with
    | true=>
      rw [jX] at hend e6;simp only [if_true] at hend;obtain ⟨m,hF⟩:=hend;refine ⟨.fin 7 m 0,⟨fun s m' d e=>?_,fun st n e=>(by cases e)⟩,.inl ⟨e6,m,rfl⟩⟩;cases e
      refine ⟨hpos,hF,rfl,?_,hlv1,.inl rfl⟩;rintro (h|h|⟨j,u,hu,Ki,ho⟩)
      . omega
      . omega
      . rcases hset hu with ⟨_,hu'⟩ | ⟨hne,hu⟩
        . rw [hu',e6] at ho;cases ho
        . exact hne (Tx hu Ki)
    | false=>
      rw [jX] at hend e6;simp only [Bool.false_eq_true,if_false] at hend;obtain ⟨Aen,n,hS⟩:=hend;have Sz:NZ M ρ P (bE M ρ P r) v'=Rc M ρ P v':=by unfold Rc;rw [e7]
      rw [Sz] at hS;refine ⟨.seat (Rc M ρ P v') n,⟨fun s m' d e=>(by cases e),fun st n' e=>?_⟩,.inr ⟨e6,n,rfl⟩⟩;cases e
      rw [hKv e6,hSv e6,upd_same,hmain];refine ⟨hS,⟨by omega,.inr ⟨i,v',set_self hv,e1,e6⟩⟩,hwf,.inr (.inr ⟨i,v',set_self hv,e1,e6⟩),?_,fun c hc=>?_,fun x st' n' c hx hr hc hc'=>?_,Aen⟩
      . have h1:=iF U2;have h2:=iF hpb;unfold bX;omega
      . rcases Tw hc with rfl | rfl
        . obtain ⟨k,hk⟩:=(C.chan i _ hv).2.2;rw [e4];exact ⟨(C.chan i _ hv).1,k,SC hk⟩
        . exact ⟨fun z=>C.come.1 z.symm,kg,SC Y7⟩
      . rcases Tw hc with rfl | rfl
        . rcases Y5 x st' n' _ hr hc' with h | ⟨_,h⟩ | ⟨j,u,hu,Ki,h⟩
          . exact h
          . rw [e4] at h;exact absurd h (C.chan i _ hv).1
          . exfalso
            have:=C.apart j i u γ.v hu hv (.inr (.inl (h.symm.trans e4)));subst this;rw [hu] at hv;cases hv
            exact hx Ki.symm
        . rfl
  have hO:Ml (Kj ρ γ.v.k) 0 ρ.come (.int .i64 γ.v.k) w1:=⟨⟨ρ.zi,rfl⟩,fun m cc hm hc=>by
    rcases m with _|_|m
    . exact absurd rfl hm
    . simp only [Kj,List.getElem?_toArray,List.getElem?_cons_succ,List.getElem?_cons_zero,Option.some.injEq] at hc;subst hc;exact ⟨ρ.gone,ρ.zg,kg,rfl,SC Y7⟩
    . simp [Kj] at hc⟩
  have hM1:∀ g,OQ (ws.set i v') 0 g->OQ ws γ.v.h g:=by
    rintro x (h|h|⟨j,u,hu,Ki,ho⟩)
    . exact .inl h
    . exact .inl h
    . rcases hset hu with ⟨_,hu'⟩ | ⟨hne,hu⟩
      . rw [hu'] at Ki;exact .inr (.inl (Ki.symm.trans e1))
      . exact .inr (.inr ⟨j,u,hu,Ki,ho⟩)
  have hM2:∀ g,OQ ws γ.v.h g->g≠γ.v.h->OQ (ws.set i v') 0 g:=by
    rintro x (h|h|⟨j,u,hu,Ki,ho⟩) hx
    . exact .inl h
    . exact absurd h hx
    . have hne:=other hu (by rw [Ki];exact hx)
      exact .inr (.inr ⟨j,u,by rw [Q9 hne];exact hu,Ki,ho⟩)
  have hLo:∀ g,KW ws γ.v.h g->g≠0->KW (ws.set i v') 0 g:=by
    rintro x ⟨hx,h⟩ hx0;refine ⟨hx0,?_⟩;rcases h with h|⟨j,u,hu,Ki,ho⟩
    . exact .inl h
    . have hne:=other hu (by rw [Ki];exact hx)
      exact .inr ⟨j,u,by rw [Q9 hne];exact hu,Ki,ho⟩
  obtain ⟨N2,m2,T2,q1,gs2,g0,w2,sl2,UC,V4,rfl,q3,q4,q5,q6,q7,q8,q9⟩:=give (sl:=sl1) (h:=γ.v.h) (j:=0) (c:=ρ.come) (k:=0) (kk:=0) (v:=.int .i64 γ.v.k) (es:=#[]) (Mem':=OQ (ws.set i v') 0) (Loose':=KW (ws.set i v') 0) E1 hKc p3 hrun (by rw [hmain];exact hstep) (by simp) hO H1 (.inr (.inl rfl)) (by omega) hr0 (zj:=ρ.zi) rfl C.come.1
    hM1 hM2 hLo (fun h=>h.1 rfl) hA
  have hblk2:∀ {b:Nat},b≠ρ.Wg->(∃ c e f,w1.heap[b]?=some (.cells c e f))->w2.heap[b]?=w1.heap[b]?:=fun {b} hb ⟨c,e,f,hc⟩=>q7.block b hb fun z=>by subst z;rw [SC QA] at hc;cases hc
  have VB:∀ {c k:Nat},w.heap[c]?=some (.chan 0 #[] false k k false)->∃ k',w2.heap[c]?=some (.chan 0 #[] false k' k' false):=fun {c k} hc=>by
    have h1:=SC hc;by_cases e:c=ρ.come
    . subst e;obtain ⟨k',_,h⟩:=q7.chan;exact ⟨k'+1,h⟩
    . refine ⟨k,?_⟩;rw [q7.block c (fun z=>?_) e]
      . exact h1
      . subst z;obtain ⟨st,sm,hl⟩:=rC;unfold WgAt wgBlock at hl;rw [hl] at h1;cases h1
  have dx:w.heap.size<=w2.heap.size:=by rw [q7.size];exact p5.size
  have Ahp:∀ {b:Nat},(∃ c e f,w.heap[b]?=some (.cells c e f))->γ.B b=true->b≠ρ.Wg->∃ c e f,w1.heap[b]?=some (.cells c e f):=fun {b} ⟨c,e,f,hc⟩ hB hb=>⟨c,e,f,by rw [p5.block b hB hb];exact hc⟩
  have ru:γ.B ρ.come=false:=by
    cases hB:γ.B ρ.come with
    | false=>rfl
    | true=>obtain ⟨c,e,f,hc⟩:=hRB _ hB;rw [QA] at hc;cases hc
  have Vb:∀ {b:Nat},γ.B b=true->b≠ρ.Wg->w2.heap[b]?=w.heap[b]?:=fun {b} hB hb=>by rw [q7.block b hb fun z=>by subst z;rw [ru] at hB;cases hB];exact p5.block b hB hb
  have Aae:∀ b,v'.own b->w2.heap[b]?=w1.heap[b]?:=fun b hb=>hblk2 (Xz b hb).1 (hown3 b hb).2;have Wu:∀ {x:Nat} {st:Seat} {n:Nat},UC x=.seat st n->(x=γ.v.h/\v'.over=false/\st=Rc M ρ P v')\/(x≠γ.v.h/\x≠0/\∃ n',Rf x=.seat st n'):=fun {x st n} e=>by
    obtain ⟨n',e'⟩:=q8.back e;by_cases hx:x=γ.v.h
    . subst hx;rw [upd_same] at e';rcases hrh with ⟨_,m,h⟩|⟨ho,m,h⟩
      . rw [h] at e';cases e'
      . rw [h] at e';cases e';exact .inl ⟨rfl,ho,rfl⟩
    . rw [upd_ne _ _ hx] at e';by_cases hx0:x=0
      . subst hx0;rw [upd_same] at e';cases e'
      . rw [upd_ne _ _ hx0] at e';exact .inr ⟨hx,hx0,n',e'⟩
  have hother:∀ {j:Nat} {u:Ij X},ws[j]?=some u->j≠i->u.h≠γ.v.h:=fun {j u} hu hne h=>hne (Tx hu h);refine ⟨N1+N2,gs2,w2,sl2,T2,UC,upd bd γ.v.h (bX v'),V4,v',g0,runNT_then p1 q1,q3.trans p2,q4,q5,⟨?_,?_,?_,?_,?_,?_,?_,?_,?_,?_,?_,?_,?_⟩,q6,⟨?_,?_,?_⟩,e1,e2,e3,e4,e5,e6,e7,?_,fun b hB hb=>Vb hB hb,dx,hown2,fun b0 h1 h2=>(p5f b0 h1).trans (.rgv h1 h2 q7)⟩
  ·
    intro j j' u u' hu hu' h;have key:∀ {j:Nat} {u:Ij X},ws[j]?=some u->j≠i->(v'.h=u.h\/v'.t=u.t\/∃ b,v'.own b/\u.own b)->False:=fun {j u} hu hne h=>by
      rcases h with h|h|⟨b,h1,h2⟩
      . exact hne (Tx hu (h.symm.trans e1))
      . exact hne (C.apart j i u γ.v hu hv (.inr (.inl (h.symm.trans e4))))
      . rcases hown2 b h1 with h1 | h1
        . exact hne (C.apart j i u γ.v hu hv (.inr (.inr ⟨b,h2,h1⟩)))
        . have:=Px.low _ (Ox j u hu hne b h2);omega
    rcases hset hu with ⟨rfl,hh⟩|⟨hne,hu1⟩ <;> rcases hset hu' with ⟨rfl,hh'⟩|⟨hne',jI⟩
    . rfl
    . rw [hh] at h;exact (key jI hne' h).elim
    . rw [hh'] at h;exact (key hu1 hne (h.imp Eq.symm (Or.imp Eq.symm fun ⟨b,x,y⟩=>⟨b,y,x⟩))).elim
    . exact C.apart j j' u u' hu1 jI h
  . intro j u hu;rcases hset hu with ⟨rfl,hh⟩|⟨hne,hu⟩
    . rw [hh,e1,e2];exact ⟨hpos,hk⟩
    . exact C.pos j u hu
  ·
    intro j u hu h0' ho;rcases hset hu with ⟨_,hh⟩|⟨hne,hu⟩
    . subst hh;rw [e1];rcases hrh with ⟨ho',_⟩|⟨_,m,h⟩
      . rw [ho] at ho';cases ho'
      . obtain ⟨n',h'⟩:=(q8 γ.v.h).1 _ m (by rw [upd_same];exact h)
        exact ⟨⟨n',h'⟩,upd_same _ _ _⟩
    . have hn:=hother hu hne;obtain ⟨⟨n',h⟩,hb⟩:=C.seats j u hu hn ho;obtain ⟨n'',h⟩:=(p7 u.h).1 _ n' h;obtain ⟨n3,h⟩:=(q8 u.h).1 _ n'' (by rw [upd_ne _ _ hn,upd_ne _ _ h0'];exact h);exact ⟨⟨n3,h⟩,by rw [upd_ne _ _ hn];exact hb⟩
  ·
    intro x st n c e hc;rcases Wu e with ⟨rfl,ho,hs⟩|⟨hx,hx0,n',e'⟩
    . subst hs;rcases Tw hc with h|h
      . exact .inr (.inr ⟨i,v',set_self hv,e1,h⟩)
      . exact .inl h
    . rcases Y5 x st n' c e' hc with h | ⟨h,_⟩ | ⟨j,u,hu,Ki,h⟩
      . exact .inl h
      . exact absurd h hx0
      . have hne:=other hu (by rw [Ki];exact hx)
        exact .inr (.inr ⟨j,u,by rw [Q9 hne];exact hu,Ki,h⟩)
  ·
    intro j u hu h0';rcases hset hu with ⟨_,hh⟩|⟨hne,hu⟩
    . subst hh;rw [e8,e2,e3];exact ⟨fun b hb=>.of (Aae b hb),eG,by rw [q7.size];exact Nat.le_refl _⟩
    . obtain ⟨k1,k2,k3⟩:=C.keep j u hu (hother hu hne);refine ⟨fun b hb=>(k1 b hb).trans (.of (Vb (Ox j u hu hne b hb) (C.own j u hu b hb).2.1)),k2,Nat.le_trans k3 dx⟩
  ·
    intro j u hu b hb;rcases hset hu with ⟨_,hh⟩|⟨hne,hu⟩
    . subst hh;obtain ⟨a1',c,e,f,hc⟩:=hown3 b hb;exact ⟨a1',(Xz b hb).1,(Xz b hb).2,c,e,f,by rw [Aae b hb];exact hc⟩
    . obtain ⟨a1',a2',a3',c,e,f,hc⟩:=C.own j u hu b hb;exact ⟨a1',a2',a3',c,e,f,by rw [Vb (Ox j u hu hne b hb) a2'];exact hc⟩
  . intro j u hu;rcases hset hu with ⟨_,hh⟩|⟨hne,hu⟩
    . subst hh;exact ⟨U2,hpb⟩
    . exact C.inside j u hu
  . intro j u hu;rcases hset hu with ⟨_,hh⟩|⟨hne,hu⟩
    . subst hh;obtain ⟨c1,c2,k,hk⟩:=C.chan i _ hv;rw [e4];exact ⟨c1,c2,VB hk⟩
    . obtain ⟨c1,c2,k,hk⟩:=C.chan j u hu;exact ⟨c1,c2,VB hk⟩
  . exact ⟨C.come.1,VB QA⟩
  . exact fun _=>VB Y7
  . exact C.sh
  . intro b hb;obtain ⟨h1,c,e,f,hc⟩:=C.old b hb;exact ⟨h1,c,e,f,by rw [Vb (XQ b hb) h1];exact hc⟩
  . rw [upd_ne _ _ (by omega)];exact C.o8
  . intro j u hu;rcases hset hu with ⟨_,hh⟩|⟨hne,hu⟩
    . rw [hh,e1];exact hL.lt i _ hv
    . exact hL.lt j u hu
  . rw [q9 0 (.inr ⟨_,_,hr0⟩),p8 0 (.inr ⟨_,_,h0⟩)];exact hL.zero
  . intro j u hu ho;rcases hset hu with ⟨_,hh⟩|⟨hne,hu⟩
    . subst hh;rw [e1,q9 _ (.inl rfl)];exact hlv1
    . have hn:=hother hu hne;obtain ⟨⟨n',h⟩,_⟩:=C.seats j u hu hn ho;obtain ⟨n'',h'⟩:=(p7 u.h).1 _ n' h;rw [q9 _ (.inr ⟨_,_,h'⟩),p8 _ (.inr ⟨_,_,h⟩)];exact hL.one j u hu ho
  . refine M.inv_eq _ _ _ (fun b hb=>.of (hblk2 (C.sh b hb).1 (M.TD _ _ b hb hInv))) hInv
end
end
section
section
variable {X Sg:Type}{M:Md X Sg}{ρ:Rn}{P:Program}{ws:List (Ij X)}{hd:Nat}{role:Nat->Ik}{bd:Nat->Nat}{w:World}
noncomputable def holdB (M:Md X Sg)(v:Ij X)(w:World)(b:Nat):Bool:=@decide ((∃ c e f,w.heap[b]?=some (.cells c e f))/\¬ v.own b/\¬ M.Sh b) (Classical.propDecidable _)
theorem JH {v:Ij X}{b:Nat}:holdB M v w b=true↔(∃ c e f,w.heap[b]?=some (.cells c e f))/\¬ v.own b/\¬ M.Sh b:=by unfold holdB;exact @decide_eq_true_iff _ (Classical.propDecidable _)
theorem Oq {v:Ij X}:LT.Rows (holdB M v w) w:=⟨fun b hb=>(JH.1 hb).1,fun b hb=>(by cases hb)⟩
theorem Wt {v:Ij X}(hW:∃ c e f,w.heap[ρ.Wg]?=some (.cells c e f))(h1:¬ v.own ρ.Wg)(h2:¬ M.Sh ρ.Wg):jr M ρ v (holdB M v w) w.heap.size:=by
  refine ⟨JH.2 ⟨hW,h1,h2⟩,fun b hb=>?_,fun b hb=>?_,fun b hb=>?_⟩
  . cases e:holdB M v w b with
    | false=>rfl
    | true=>exact absurd hb (JH.1 e).2.1
  . cases e:holdB M v w b with
    | false=>rfl
    | true=>exact absurd hb (JH.1 e).2.2
  . obtain ⟨⟨c,e,f,hc⟩,_⟩:=JH.1 hb;exact (Array.getElem?_eq_some_iff.1 hc).1
theorem Ko {st sm:Int}(h:WgAt ρ.ty ρ.Wg w st sm):∃ c e f,w.heap[ρ.Wg]?=some (.cells c e f):=by unfold WgAt wgBlock at h;exact ⟨_,_,_,h⟩
theorem K0 (C:OA M ρ P ws hd role bd w):Kc ρ ws 0=fun _=>True:=by
  funext z
  apply propext;constructor
  . exact fun _=>trivial
  . intro _ j u hu Ki;have:=(C.pos j u hu).1;omega
theorem St0 (C:OA M ρ P ws hd role bd w):Qd ws 0=fun _=>False:=by
  funext z
  apply propext;constructor
  . rintro ⟨j,u,hu,Ki,_⟩;have:=(C.pos j u hu).1;omega
  . exact fun h=>h.elim
theorem OA.turn {hd':Nat}{Ia:Nat->Ik}{w':World}(C:OA M ρ P ws hd role bd w)(hhd:hd'≠0->∃ (i:Nat) (v:Ij X),ws[i]?=some v/\v.h=hd')(Sz:∀ (i:Nat) (v:Ij X),ws[i]?=some v->v.h≠hd'->v.over=false->(∃ n,Ia v.h=.seat (Rc M ρ P v) n)/\bd v.h=bX v)(qA:∀ (i:Nat) (st:Seat) (n c:Nat),Ia i=.seat st n->st.has c->c=ρ.gone\/(i=0/\c=ρ.come)\/∃ (j:Nat) (v:Ij X),ws[j]?=some v/\v.h=i/\c=v.t)(hkeep:∀ (i:Nat) (v:Ij X),ws[i]?=some v->v.h≠hd'->v.h≠hd)(hblk:∀ b,b≠ρ.Wg->(∃ c e f,w.heap[b]?=some (.cells c e f))->w'.heap[b]?=w.heap[b]?)(hsz:w.heap.size<=w'.heap.size)(hch:∀ c k:Nat,w.heap[c]?=some (Obj.chan 0 #[] false k k false)->∃ k':Nat,w'.heap[c]?=some (Obj.chan 0 #[] false k' k' false)):OA M ρ P ws hd' Ia bd w':=by
  refine ⟨C.apart,C.pos,Sz,qA,fun i v hv hn=>?_,fun i v hv b hb=>?_,C.inside,fun i v hv=>?_,?_,?_,C.sh,fun b hb=>?_,C.o8⟩
  . obtain ⟨k1,k2,k3⟩:=C.keep i v hv (hkeep i v hv hn);refine ⟨fun b hb=>(k1 b hb).trans (.of ?_),k2,Nat.le_trans k3 hsz⟩;obtain ⟨_,a2,_,a4⟩:=C.own i v hv b hb;exact hblk b a2 a4
  . obtain ⟨a1,a2,a3,c,e,f,hc⟩:=C.own i v hv b hb;exact ⟨a1,a2,a3,c,e,f,by rw [hblk b a2 ⟨c,e,f,hc⟩];exact hc⟩
  . obtain ⟨c1,c2,k,hk⟩:=C.chan i v hv;exact ⟨c1,c2,hch _ _ hk⟩
  . obtain ⟨c1,k,hk⟩:=C.come;exact ⟨c1,hch _ _ hk⟩
  . intro hcl;obtain ⟨k,hk⟩:=C.gone hcl;exact hch _ _ hk
  . obtain ⟨h1,c,e,f,hc⟩:=C.old b hb;exact ⟨h1,c,e,f,by rw [hblk b h1 ⟨c,e,f,hc⟩];exact hc⟩
theorem aP (hcl:¬ ρ.Uh){i:Nat}{v:Ij X}{r s:Nat}{σ:Sg}{Oy:Goroutine->Prop}{n ex:Nat}{live:Nat->Nat}{T:Trace}{gs:Array Goroutine}{sl:Option (Nat × Nat)}{g g₂:Goroutine}{zs:Value}(hv:ws[i]?=some v)(hov:v.over=false)(hr:v.r=r+1)(C:OA M ρ P ws 0 role bd w)(H:Ro M ρ P ws 0 bd role live ex T gs w)(hL:Lv ws gs.size live)(hInv:M.Inv σ w)(hg:gs[0]?=some g)(hrun:g.status=.running)(hstep:∀ w₁,Jc ρ.ty ρ.Wg w w₁->stepG P true g w₁=.comm g₂ #[scase v.t (.int .i64 s) zs] true .send w₁ #[])(hS:Sits P true (fun _=>True) (fun _=>False) 0 (Seat.one ρ.come ρ.zi false Oy) n (g₂.finishComm P #[scase v.t (.int .i64 s) zs] .send (0:Nat) undef false)) :
    ∃ N gs' w' sl' T' Ia cK Iz v' g0,runNT P N (crowd gs w sl) T=(.next (crowd gs' w' sl'),T')/\gs'.size=gs.size/\gs'[0]?=some (g0.finishComm P #[rcase ρ.come ρ.zi] (.recv false) 0 (.int .i64 v.k) true)/\Oy g0/\
      OA M ρ P (ws.set i v') 0 Ia cK w'/\Ro M ρ P (ws.set i v') 0 cK Ia Iz ex T' gs' w'/\Lv (ws.set i v') gs.size Iz/\
      v'.h=v.h/\v'.k=v.k/\v'.b=v.b/\v'.t=v.t/\v'.x=(M.hold v.x s σ).1/\v'.over=(M.hold v.x s σ).2.2/\v'.r=r/\M.Inv (M.hold v.x s σ).2.1 w'/\(∀ b,b≠ρ.Wg->(∃ c e f,w.heap[b]?=some (.cells c e f))->¬ v.own b->¬ M.Sh b->w'.heap[b]?=w.heap[b]?)/\
      w.heap.size<=w'.heap.size/\(∀ b,v'.own b->v.own b\/w.heap.size<=b)/\(∀ b0,b0<=ρ.Wg->b0<=ρ.come->b0<=v.t->QD b0 w w'):=by
  obtain ⟨hpos,hk⟩:=C.pos i v hv;have E:=C.env;obtain ⟨⟨nv,hrv⟩,hbd⟩:=C.seats i v hv (by omega) hov;obtain ⟨ht1,ht2,kt,hkt⟩:=C.chan i v hv;obtain ⟨kc,QA⟩:=C.come.2;have Tx:∀ {j:Nat} {u:Ij X},ws[j]?=some u->u.h=v.h->j=i:=fun {j u} hu he=>C.apart j i u v hu hv (.inl he);have hA:After P ρ.ty ρ.Wg (Kc ρ ws) (Qd ws) bd (fun c=>c=ρ.gone) (OQ ws v.h) (KW ws v.h) role live 0 v.t w (g₂.finishComm P #[scase v.t (.int .i64 s) zs] .send (0:Nat) undef false) (.seat (Seat.one ρ.come ρ.zi false Oy) n):=by
    refine ⟨fun s m d e=>(by cases e),fun st n' e=>?_⟩;cases e
    rw [K0 C,St0 C,C.o8];refine ⟨hS,⟨by omega,.inl rfl⟩,Seat.one_wf _ _ _ _,.inl rfl,Nat.zero_le _,fun c hc=>?_,fun x st' n' c hx hr' hc hc'=>?_,trivial⟩
    . rw [Seat.one_has.1 hc];exact ⟨fun z=>ht1 z.symm,kc,QA⟩
    . rw [Seat.one_has.1 hc] at hc' ⊢;rcases C.known x st' n' _ hr' hc' with h|⟨h,_⟩|⟨j,u,hu,_,h⟩
      . exact h
      . exact absurd h hx
      . exact absurd h.symm (C.chan j u hu).1
  have hO:Ml #[scase v.t (.int .i64 s) zs] 0 v.t (.int .i64 s) w:=⟨⟨zs,rfl⟩,fun m cc hm hc=>by
    rcases m with _|m
    . exact absurd rfl hm
    . simp at hc⟩
  obtain ⟨N1,m1,T1,q1,gs1,gj,w1,sl1,Rf,SH,rfl,q3,q4,q5,q6,q7,q8,q9⟩:=give (sl:=sl) (h:=0) (j:=v.h) (c:=v.t) (k:=0) (kk:=0) (v:=.int .i64 s) (es:=#[]) (Mem':=OQ ws v.h) (Loose':=KW ws v.h) (zj:=ρ.zi) E hKc hg hrun hstep (by simp) hO H (.inl rfl) (by omega) hrv rfl ht2
    (fun x hx=>by
      rcases hx with h|h|h
      . exact .inl h
      . exact .inr (.inr ⟨i,v,hv,h.symm,hov⟩)
      . exact .inr (.inr h))
    (fun x hx _=>by
      rcases hx with h|h|h
      . exact .inl h
      . exact .inl h
      . exact .inr (.inr h))
    (fun x hx hxj=>⟨hxj,hx.2⟩) (fun h=>h.1 rfl) hA
  have hblk1:∀ b,b≠ρ.Wg->(∃ c e f,w.heap[b]?=some (.cells c e f))->w1.heap[b]?=w.heap[b]?:=fun b hb ⟨c,e,f,hc⟩=>q7.block b hb fun z=>by subst z;rw [hkt] at hc;cases hc
  have U1:∀ {c k:Nat},w.heap[c]?=some (.chan 0 #[] false k k false)->c≠ρ.Wg:=fun {c k} hc z=>by subst z;obtain ⟨c',e,f,h⟩:=Ko H.J9.wg;rw [hc] at h;cases h
  have C1:OA M ρ P ws v.h Rf bd w1:=by
    refine C.turn (fun _=>⟨i,v,hv,rfl⟩) (fun j u hu hn ho=>?_) (fun x st n' c e hc=>?_) (fun j u hu _=>by have:=(C.pos j u hu).1;omega) hblk1 (Nat.le_of_eq q7.size.symm) (fun c k hc=>?_)
    . have hu0:u.h≠0:=by have:=(C.pos j u hu).1;omega
      obtain ⟨⟨n',h⟩,hb⟩:=C.seats j u hu hu0 ho;exact ⟨(q8 u.h).1 _ n' (by rw [upd_ne _ _ hu0,upd_ne _ _ hn];exact h),hb⟩
    . obtain ⟨n'',e'⟩:=q8.back e;by_cases hx0:x=0
      . subst hx0;rw [upd_same] at e';cases e'
        exact .inr (.inl ⟨rfl,Seat.one_has.1 hc⟩)
      . rw [upd_ne _ _ hx0] at e';by_cases hxv:x=v.h
        . subst hxv;rw [upd_same] at e';cases e'
        . rw [upd_ne _ _ hxv] at e';exact C.known x st n'' c e' hc
    . by_cases e:c=v.t
      . subst e;obtain ⟨k',_,h⟩:=q7.chan;exact ⟨k'+1,h⟩
      . exact ⟨k,by rw [q7.block c (U1 hc) e];exact hc⟩
  have yD:M.Inv σ w1:=M.inv_eq _ _ _ (fun b hb=>.of (hblk1 b (C.sh b hb).1 (M.TD _ _ b hb hInv))) hInv;have Px:jr M ρ v (holdB M v w1) w1.heap.size:=Wt (Ko q6.J9.wg) (fun h=>(C1.own i v hv _ h).2.1 rfl) (fun h=>(C1.sh _ h).1 rfl);have Ox:∀ (j:Nat) (u:Ij X),ws[j]?=some u->j≠i->∀ b,u.own b->holdB M v w1 b=true:=fun j u hu hne b hb=>by obtain ⟨a1,a2,a3,a4⟩:=C1.own j u hu b hb;exact JH.2 ⟨a4,fun h=>hne (C.apart j i u v hu hv (.inr (.inr ⟨b,hb,h⟩))),a1⟩
  have XQ:∀ b,ρ.Bo b=true->holdB M v w1 b=true:=fun b hb=>by
    obtain ⟨h1,h2⟩:=C1.old b hb;refine JH.2 ⟨h2,fun h=>?_,fun h=>?_⟩
    . have:=(C1.own i v hv b h).2.2.1;rw [hb] at this;cases this
    . have:=(C1.sh b h).2;rw [hb] at this;cases this
  have hkeep:=C.keep i v hv (by omega);have hJ:WJ M ρ P r ⟨v,holdB M v w1,w1.heap.size,M.hold v.x s σ⟩ (gj.finishComm P (JD ρ v.t) .select 0 (.int .i64 s) true) w1:=by have hh:jO M ρ P (bE M ρ P v.r) v gj:=q5.1;rw [hr] at hh;exact hh s σ w1 (holdB M v w1) Px Oq (fun b hb=>(hkeep.1 b hb).trans (.of (hblk1 b (C.own i v hv b hb).2.1 (C.own i v hv b hb).2.2.2))) (Nat.le_trans hkeep.2.2 (Nat.le_of_eq q7.size.symm)) yD
  have hL1:Lv ws gs1.size SH:=⟨fun j u hu=>by rw [q3];exact hL.lt j u hu,by rw [q9 0 (.inl rfl)];exact hL.zero,fun j u hu ho=>by
    have hu0:u.h≠0:=by have:=(C.pos j u hu).1;omega
    obtain ⟨⟨n',h⟩,_⟩:=C.seats j u hu hu0 ho;rw [q9 _ (.inr ⟨_,_,h⟩)];exact hL.one j u hu ho⟩
  obtain ⟨n0,h0⟩:=(q8 0).1 _ n (upd_same _ _ _);obtain ⟨N2,gs2,w2,sl2,T2,UC,bd2,V4,v',g0,r1,r2,r3,r4,r5,r6,r7,a1,a2,a3,a4,a5,a6,a7,a8,a9,qE,kF,a12⟩:=UO (hcl:=hcl) (sl:=sl1) (γ:=⟨v,holdB M v w1,w1.heap.size,M.hold v.x s σ⟩) hv hov rfl C1 q6 hL1 Px Oq XQ Ox q4 hJ h0;refine ⟨N1+N2,gs2,w2,sl2,T2,UC,bd2,V4,v',g0,runNT_then q1 r1,r2.trans q3,r3,r4,r5,r6,by rw [← q3];exact r7,a1,a2,a3,a4,a5,a6,a7,a8,fun b hb hrow ho hs=>?_,by rw [← q7.size];exact qE,fun b hb=>by rw [← q7.size];exact kF b hb,fun b0 h1 h2 h3=>(QD.rgv h1 h3 q7).trans (a12 b0 h1 h2)⟩;have h1:=hblk1 b hb hrow;obtain ⟨c,e,f,hc⟩:=hrow;rw [a9 b (JH.2 ⟨⟨c,e,f,h1.trans hc⟩,ho,hs⟩) hb];exact h1
end
end
section
section
variable {X Sg:Type}{M:Md X Sg}{ρ:Rn}{P:Program}{ws:List (Ij X)}{hd:Nat}{role:Nat->Ik}{bd:Nat->Nat}{w:World}
theorem RS {v u:Ij X}{j:Nat}(h:(ws ++ [v])[j]?=some u):(j < ws.length/\ws[j]?=some u)\/(j=ws.length/\u=v):=by
  rw [List.getElem?_append] at h;split at h
  . rename_i hlt;exact .inl ⟨hlt,h⟩
  . rename_i hge
    right
    cases e:j - ws.length with
    | zero=>rw [e] at h;exact ⟨by omega,(Option.some.inj h).symm⟩
    | succ m=>rw [e] at h;simp at h
theorem Pk {v u:Ij X}{j:Nat}(h:ws[j]?=some u):(ws ++ [v])[j]?=some u:=by have hlt:j < ws.length:=(List.getElem?_eq_some_iff.1 h).1;rw [List.getElem?_append_left hlt];exact h
theorem lZ {v:Ij X}:(ws ++ [v])[ws.length]?=some v:=by simp
theorem aA (hcl:¬ ρ.Uh){v:Ij X}{r:Nat}{tgt:X × Sg × Bool}{Oy:Goroutine->Prop}{n ex:Nat}{live:Nat->Nat}{T:Trace}{gs:Array Goroutine}{sl:Option (Nat × Nat)}{g a' child:Goroutine}(C:OA M ρ P ws 0 role bd w)(H:Ro M ρ P ws 0 bd role live (ex+1) T gs w)(hL:Lv ws gs.size live)(hg:gs[0]?=some g)(hrun:g.status=.running)(hgo:∀ w₁,Jc ρ.ty ρ.Wg w w₁->stepG P true g w₁=.spawn a' child w₁ #[])(hS:Sits P true (fun _=>True) (fun _=>False) 0 (Seat.one ρ.come ρ.zi false Oy) n a')(kE:v.h=gs.size)(hvk:v.k=ws.length)(hov:v.over=false)(hown:∀ b,v.own b->¬ M.Sh b/\b≠ρ.Wg/\ρ.Bo b=false/\(∃ c e f,w.heap[b]?=some (.cells c e f))/\∀ (j:Nat) (u:Ij X),ws[j]?=some u->¬ u.own b)(hin:v.own v.b/\v.own v.pb)(hch:v.t≠ρ.come/\v.t≠ρ.gone/\(∃ k,w.heap[v.t]?=some (.chan 0 #[] false k k false))/\∀ (j:Nat) (u:Ij X),ws[j]?=some u->u.t≠v.t)(hJ:∀ w',Jc ρ.ty ρ.Wg w w'->∀ B,jr M ρ v B w'.heap.size->LT.Rows B w'->WJ M ρ P r ⟨v,B,w'.heap.size,tgt⟩ child w') :
    ∃ N gs' w' sl' T' Ia cK Iz v' g0,runNT P N (crowd gs w sl) T=(.next (crowd gs' w' sl'),T')/\gs'.size=gs.size+1/\gs'[0]?=some (g0.finishComm P #[rcase ρ.come ρ.zi] (.recv false) 0 (.int .i64 v.k) true)/\Oy g0/\
      OA M ρ P (ws ++ [v']) 0 Ia cK w'/\Ro M ρ P (ws ++ [v']) 0 cK Ia Iz ex T' gs' w'/\Lv (ws ++ [v']) gs'.size Iz/\
      v'.h=v.h/\v'.k=v.k/\v'.b=v.b/\v'.t=v.t/\v'.x=tgt.1/\v'.over=tgt.2.2/\v'.r=r/\M.Inv tgt.2.1 w'/\(∀ b,b≠ρ.Wg->(∃ c e f,w.heap[b]?=some (.cells c e f))->¬ v.own b->¬ M.Sh b->w'.heap[b]?=w.heap[b]?)/\
      w.heap.size<=w'.heap.size/\(∀ b,v'.own b->v.own b\/w.heap.size<=b)/\(∀ b0,b0<=ρ.Wg->b0<=ρ.come->QD b0 w w'):=by
  have E:=C.env;have hpos:0 < gs.size:=(Array.getElem?_eq_some_iff.1 hg).1;obtain ⟨kc,QA⟩:=C.come.2;have hfresh:∀ (j:Nat) (u:Ij X),ws[j]?=some u->u.h≠gs.size:=fun j u hu e=>by have:=hL.lt j u hu;omega
  have hmem:∀ g l,Qd ws g l->l.isMemory=true:=by rintro x l ⟨j,u,_,_,_,hs⟩;rcases hs with rfl|rfl|rfl <;> rfl
  obtain ⟨N1,gs1,w1,sl1,T1,Rf,SH,p1,p2,p3,p4,p5,p6,p7,p8⟩:=hire (sl:=sl) (h:=0) (Still':=Qd ws) (ql:=bd) (st:=Seat.one ρ.come ρ.zi false Oy) (n:=n) E E (fun _ _=>by rw [K0 C];trivial)
    (by
      rintro ⟨_,h|⟨j,u,hu,Ki,_⟩⟩
      . omega
      . exact hfresh j u hu Ki) (fun _ _=>rfl) (fun _ _=>rfl)
    (by rintro l ⟨j,u,hu,Ki,_⟩;exact hfresh j u hu Ki) hmem hg hrun hgo (by simp) H (.inl rfl) (by rw [K0 C,St0 C,C.o8];exact hS) (Seat.one_wf _ _ _ _) (by rw [C.o8];exact Nat.zero_le _) (fun c hc=>by rw [Seat.one_has.1 hc];exact ⟨kc,QA⟩)
    (fun x st' n' c hx hr' hc hc'=>by
      rw [Seat.one_has.1 hc] at hc' ⊢;rcases C.known x st' n' _ hr' hc' with h|⟨h,_⟩|⟨j,u,hu,_,h⟩
      . exact h
      . exact absurd h hx
      . exact absurd h.symm (C.chan j u hu).1)
  have hget:=fun {j:Nat} {u:Ij X} (h:(ws ++ [v])[j]?=some u)=>RS h;have hblk1:∀ b,b≠ρ.Wg->w1.heap[b]?=w.heap[b]?:=fun b hb=>p5.block b hb;have XV:=p5.size;have U1:∀ {c k:Nat},w.heap[c]?=some (.chan 0 #[] false k k false)->c≠ρ.Wg:=fun {c k} hc z=>by subst z;obtain ⟨c',e,f,h⟩:=Ko H.J9.wg;rw [hc] at h;cases h
  have H1:Ro M ρ P (ws ++ [v]) v.h bd Rf SH ex T1 gs1 w1:=by
    rw [← kE] at p4;have hr:=p4.re (K':=Kc ρ (ws ++ [v])) (Still':=Qd (ws ++ [v])) (ql:=bd)
      (fun x hx=>by
        funext z
        apply propext;constructor
        . exact fun h j u hu Ki ho=>h j u (Pk hu) Ki ho
        . intro h j u hu Ki ho;rcases hget hu with ⟨_,hu⟩|⟨_,rfl⟩
          . exact h j u hu Ki ho
          . exact absurd Ki.symm hx)
      (fun x hx=>by
        funext z
        apply propext;constructor
        . rintro ⟨j,u,hu,Ki,ho,hs⟩;rcases hget hu with ⟨_,hu⟩|⟨_,rfl⟩
          . exact ⟨j,u,hu,Ki,ho,hs⟩
          . exact absurd Ki.symm hx
        . rintro ⟨j,u,hu,Ki,ho,hs⟩;exact ⟨j,u,Pk hu,Ki,ho,hs⟩)
      (fun _ _=>rfl) (fun l hl=>by
        obtain ⟨j,u,hu,Ki,ho,hs⟩:=hl;have hu':u=v:=by
          rcases hget hu with ⟨_,hu⟩|⟨_,h⟩
          . exact absurd (Ki.trans kE) (hfresh j u hu)
          . exact h
        subst hu';have key:∀ b,u.own b->∀ o,¬ Ku ρ (.cell ⟨b,o,none⟩):=fun b hb o=>by
          rintro ⟨a,ha,h⟩;cases ha
          obtain ⟨_,h1,h2,_⟩:=hown b hb;rcases h with h|h
          . exact h1 h
          . rw [h2] at h;cases h
        rcases hs with rfl|rfl|rfl
        . exact ⟨rfl,key _ hin.1 _⟩
        . exact ⟨rfl,key _ hin.1 _⟩
        . exact ⟨rfl,key _ hin.2 _⟩)
    have eM:(fun g=>OQ ws 0 g\/g=v.h)=OQ (ws ++ [v]) v.h:=by
      funext x
      apply propext;constructor
      . rintro ((h | h | ⟨j,u,hu,Ki,ho⟩) | h)
        . exact .inl h
        . exact .inl h
        . exact .inr (.inr ⟨j,u,Pk hu,Ki,ho⟩)
        . exact .inr (.inl h)
      . rintro (h | h | ⟨j,u,hu,Ki,ho⟩)
        . exact .inl (.inl h)
        . exact .inr h
        . rcases hget hu with ⟨_,hu⟩ | ⟨_,rfl⟩
          . exact .inl (.inr (.inr ⟨j,u,hu,Ki,ho⟩))
          . exact .inr Ki.symm
    have eL:(fun g=>KW ws 0 g\/g=0)=KW (ws ++ [v]) v.h:=by
      funext x
      apply propext;constructor
      . rintro (⟨h0,h | ⟨j,u,hu,Ki,ho⟩⟩ | h)
        . exact absurd h h0
        . exact ⟨fun e=>hfresh j u hu (Ki.trans (e.trans kE)),.inr ⟨j,u,Pk hu,Ki,ho⟩⟩
        . exact ⟨by omega,.inl h⟩
      . rintro ⟨hx,h | ⟨j,u,hu,Ki,ho⟩⟩
        . exact .inr h
        . rcases hget hu with ⟨_,hu⟩ | ⟨_,rfl⟩
          . exact .inl ⟨fun e=>by have:=(C.pos j u hu).1;omega,.inr ⟨j,u,hu,Ki,ho⟩⟩
          . exact absurd Ki.symm hx
    unfold Ro;rw [← eM,← eL];exact hr
  have C1:OA M ρ P (ws ++ [v]) v.h Rf bd w1:=by
    refine ⟨fun j j' u u' hu hu' h=>?_,fun j u hu=>?_,fun j u hu hn ho=>?_,fun x st n' c e hc=>?_,fun j u hu hn=>?_,fun j u hu b hb=>?_,fun j u hu=>?_,fun j u hu=>?_,⟨C.come.1,kc,by rw [hblk1 _ (U1 QA)];exact QA⟩,?_,C.sh,fun b hb=>?_,C.o8⟩
    . have key:∀ {j:Nat} {u:Ij X},ws[j]?=some u->(v.h=u.h\/v.t=u.t\/∃ b,v.own b/\u.own b)->False:=fun {j u} hu h=>by
        rcases h with h|h|⟨b,h1,h2⟩
        . exact hfresh j u hu (h.symm.trans kE)
        . exact hch.2.2.2 j u hu h.symm
        . exact (hown b h1).2.2.2.2 j u hu h2
      rcases hget hu with ⟨_,hu1⟩|⟨hj,hh⟩ <;> rcases hget hu' with ⟨_,jI⟩|⟨hj',hh'⟩
      . exact C.apart j j' u u' hu1 jI h
      . rw [hh'] at h;exact (key hu1 (h.imp Eq.symm (Or.imp Eq.symm fun ⟨b,x,y⟩=>⟨b,y,x⟩))).elim
      . rw [hh] at h;exact (key jI h).elim
      . omega
    . rcases hget hu with ⟨_,hu⟩ | ⟨hj,rfl⟩
      . exact C.pos j u hu
      . exact ⟨by omega,by rw [hj];exact hvk⟩
    . rcases hget hu with ⟨_,hu⟩ | ⟨_,rfl⟩
      . have hu0:u.h≠0:=by have:=(C.pos j u hu).1;omega
        obtain ⟨⟨n',h⟩,hb⟩:=C.seats j u hu hu0 ho;exact ⟨(p6 u.h).1 _ n' (by rw [upd_ne _ _ hu0,upd_ne _ _ (hfresh j u hu)];exact h),hb⟩
      . exact absurd rfl hn
    . obtain ⟨n'',e'⟩:=p6.back e;by_cases hx0:x=0
      . subst hx0;rw [upd_same] at e';cases e'
        exact .inr (.inl ⟨rfl,Seat.one_has.1 hc⟩)
      . rw [upd_ne _ _ hx0] at e';by_cases hxv:x=gs.size
        . subst hxv;rw [upd_same] at e';cases e'
        . rw [upd_ne _ _ hxv] at e';rcases C.known x st n'' c e' hc with h|h|⟨j,u,hu,h⟩
          . exact .inl h
          . exact .inr (.inl h)
          . exact .inr (.inr ⟨j,u,Pk hu,h⟩)
    . rcases hget hu with ⟨_,hu⟩ | ⟨_,rfl⟩
      . obtain ⟨k1,k2,k3⟩:=C.keep j u hu (by have:=(C.pos j u hu).1;omega)
        exact ⟨fun b hb=>(k1 b hb).trans (.of (hblk1 b (C.own j u hu b hb).2.1)),k2,by rw [XV];exact k3⟩
      . exact absurd rfl hn
    . rcases hget hu with ⟨_,hu⟩ | ⟨_,rfl⟩
      . obtain ⟨a1,a2,a3,a4⟩:=C.own j u hu b hb;exact ⟨a1,a2,a3,by rw [hblk1 b a2];exact a4⟩
      . obtain ⟨a1,a2,a3,a4,_⟩:=hown b hb;exact ⟨a1,a2,a3,by rw [hblk1 b a2];exact a4⟩
    . rcases hget hu with ⟨_,hu⟩ | ⟨_,rfl⟩
      . exact C.inside j u hu
      . exact hin
    . rcases hget hu with ⟨_,hu⟩ | ⟨_,rfl⟩
      . obtain ⟨c1,c2,k,hk⟩:=C.chan j u hu;exact ⟨c1,c2,k,by rw [hblk1 _ (U1 hk)];exact hk⟩
      . obtain ⟨c1,c2,⟨k,hk⟩,_⟩:=hch;exact ⟨c1,c2,k,by rw [hblk1 _ (U1 hk)];exact hk⟩
    . intro hcl;obtain ⟨k,hk⟩:=C.gone hcl;exact ⟨k,by rw [hblk1 _ (U1 hk)];exact hk⟩
    . obtain ⟨h1,h2⟩:=C.old b hb;exact ⟨h1,by rw [hblk1 b h1];exact h2⟩
  have hi:(ws ++ [v])[ws.length]?=some v:=lZ;have Px:jr M ρ v (holdB M v w1) w1.heap.size:=Wt (Ko H1.J9.wg) (fun h=>(C1.own _ v hi _ h).2.1 rfl) (fun h=>(C1.sh _ h).1 rfl);have Ox:∀ (j:Nat) (u:Ij X),(ws ++ [v])[j]?=some u->j≠ws.length->∀ b,u.own b->holdB M v w1 b=true:=fun j u hu hne b hb=>by obtain ⟨a1,a2,a3,a4⟩:=C1.own j u hu b hb;exact JH.2 ⟨a4,fun h=>hne (C1.apart j ws.length u v hu hi (.inr (.inr ⟨b,hb,h⟩))),a1⟩
  have XQ:∀ b,ρ.Bo b=true->holdB M v w1 b=true:=fun b hb=>by
    obtain ⟨h1,h2⟩:=C1.old b hb;refine JH.2 ⟨h2,fun h=>?_,fun h=>?_⟩
    . have:=(C1.own _ v hi b h).2.2.1;rw [hb] at this;cases this
    . have:=(C1.sh b h).2;rw [hb] at this;cases this
  have hL1:Lv (ws ++ [v]) gs1.size SH:=by
    refine ⟨fun j u hu=>?_,?_,fun j u hu ho=>?_⟩
    . rcases hget hu with ⟨_,hu⟩ | ⟨_,rfl⟩
      . have:=hL.lt j u hu;omega
      . omega
    . rw [p8 0 (.inl rfl)];exact hL.zero
    . rcases hget hu with ⟨_,hu⟩ | ⟨_,rfl⟩
      . have hu0:u.h≠0:=by have:=(C.pos j u hu).1;omega
        obtain ⟨⟨n',h⟩,_⟩:=C.seats j u hu hu0 ho;rw [p8 _ (.inr ⟨_,_,h⟩)];exact hL.one j u hu ho
      . rw [kE];exact p7
  obtain ⟨n0,h0⟩:=(p6 0).1 _ n (upd_same _ _ _);obtain ⟨N2,gs2,w2,sl2,T2,UC,bd2,V4,v',g0,r1,r2,r3,r4,r5,r6,r7,a1,a2,a3,a4,a5,a6,a7,a8,a9,qE,kF,a12⟩:=UO (hcl:=hcl) (sl:=sl1) (γ:=⟨v,holdB M v w1,w1.heap.size,tgt⟩) hi hov rfl C1 H1 hL1 Px Oq XQ Ox (by rw [kE];exact p3) (hJ w1 p5 _ Px Oq) h0;have hset:(ws ++ [v]).set ws.length v'=ws ++ [v']:=by simp
  rw [hset] at r5 r6 r7;refine ⟨N1+N2,gs2,w2,sl2,T2,UC,bd2,V4,v',g0,runNT_then p1 r1,r2.trans p2,r3,r4,r5,r6,by rw [r2];exact r7,a1,a2,a3,a4,a5,a6,a7,a8,fun b hb hrow ho hs=>?_,by rw [← XV];exact qE,fun b hb=>by rw [← XV];exact kF b hb,fun b0 h1 h2=>(QD.RG h1 p5).trans (a12 b0 h1 h2)⟩;have h1:=hblk1 b hb;obtain ⟨c,e,f,hc⟩:=hrow;rw [a9 b (JH.2 ⟨⟨c,e,f,h1.trans hc⟩,ho,hs⟩) hb];exact h1
end
end
end Go.LK
