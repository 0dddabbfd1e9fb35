/-
  Part 8 of the proof that CellMeets returns true, and leaves its arguments as they were, for every input whose reading is of bulk at most 1048576. No further condition.
-/
import Derived.Test.YticecinjcajmcaaR00
import Derived.Test.YticecinjcajmcaaR07
set_option linter.unusedVariables false
set_option linter.unusedSectionVars false
set_option linter.unusedSimpArgs false
set_option maxHeartbeats 1000000
noncomputable section
namespace Go.LK
open Go Go.Conc Go.LT Go.LC
open Go.ConcN (WgLive sumTo upd sumTo_upd upd_ne upd_same)
open Go.ConcR (KK wgBlock WgAt stA smA rd wr mk)
section
def K3 (w w':World)(b:Nat):Prop:=(w'.heap[b]?).map depend=(w.heap[b]?).map depend
theorem K3.refl (w:World)(b:Nat):K3 w w b:=rfl
theorem K3.of {w w':World}{b:Nat}(h:w'.heap[b]?=w.heap[b]?):K3 w w' b:=by unfold K3;rw [h]
theorem K3.trans {w w' w'':World}{b:Nat}(h:K3 w w' b)(h':K3 w' w'' b):K3 w w'' b:=Eq.trans h' h
theorem K3.symm {w w':World}{b:Nat}(h:K3 w w' b):K3 w' w b:=Eq.symm h
theorem OM (o:Obj):depend (depend o)=depend o:=by cases o <;> rfl
theorem K3.view {B:Hid}{w:World}{b:Nat}(h:B b=false)(hz:B.JJ b=false):K3 w (D7 B w) b:=by
  unfold K3;rw [EA h,hz,Ja];cases w.heap[b]? with
  | none=>rfl
  | some o=>simp [OM]
theorem K3.cells {w w':World}{b:Nat}(h:K3 w w' b){c:Array Value}{e:TypeId}{f:Nat × Nat}(hc:w.heap[b]?=some (.cells c e f)):w'.heap[b]?=some (.cells c e f):=by
  unfold K3 at h;rw [hc] at h;cases ho:w'.heap[b]? with
  | none=>rw [ho] at h;cases h
  | some o=>rw [ho] at h;cases o <;> simp [depend] at h ⊢;exact h
structure Md (X Sg:Type) where
  hold:X->Nat->Sg->X × Sg × Bool
  Sh:Nat->Prop
  Inv:Sg->World->Prop
  Rec:Nat->X->Nat->(Nat->Prop)->World->Prop
  Qc:∀ s w b,Sh b->Inv s w->∃ c e f,w.heap[b]?=some (.cells c e f)
  inv_eq:∀ s w w',(∀ b,Sh b->K3 w w' b)->Inv s w->Inv s w'
  rec_eq:∀ k x b o w w',(∀ b',o b'->K3 w w' b')->Rec k x b o w->Rec k x b o w'
structure Rn where
  ty:TypeId
  Wg:Nat
  come:Nat
  gone:Nat
  zi:Value
  zg:Value
  Bo:Nat->Bool
  shut:Prop
  SN:Prop
structure EK (X:Type) where
  h:Nat
  k:Nat
  b:Nat
  t:Nat
  pb:Nat
  own:Nat->Prop
  x:X
  wy:World
  over:Bool
  r:Nat
structure Gw (X Sg:Type) where
  v:EK X
  B:Nat->Bool
  n0:Nat
  tgt:X × Sg × Bool
structure Oo (b0:Nat)(w w':World):Prop where
  os:w'.os=w.os
  output:w'.output=w.output
  size:w.heap.size<=w'.heap.size
  objs:∀ (b:Nat) (o:Obj),b < b0->w.heap[b]?=some o->(∀ c e f,o≠Obj.cells c e f)->w'.heap[b]?=some o
theorem Oo.refl (b0:Nat)(w:World):Oo b0 w w:=⟨rfl,rfl,Nat.le_refl _,fun _ _ _ h _=>h⟩
theorem Oo.trans {b0:Nat}{a b c:World}(h:Oo b0 a b)(k:Oo b0 b c):Oo b0 a c:=⟨k.os.trans h.os,k.output.trans h.output,Nat.le_trans h.size k.size,fun x o hx ho hn=>k.objs x o hx (h.objs x o hx ho hn) hn⟩
theorem Oo.dk {b0:Nat}{B:Hid}{w w':World}{es:Array Event}(h:DK B w w' es):Oo b0 w w':=⟨h.1.os,h.1.output,h.1.size,fun x o _ ho hn=>h.1.objs x o ho hn⟩
theorem Oo.Xg {b0:Nat}{ty:TypeId}{Wg:Nat}{w w':World}(hb:b0<=Wg)(h:F8 ty Wg w w'):Oo b0 w w':=⟨h.os,h.output,Nat.le_of_eq h.size.symm,fun x o hx ho _=>by rw [h.block x zOM];exact ho⟩
theorem Oo.rgv {b0:Nat}{ty:TypeId}{Wg c:Nat}{w w':World}(hb:b0<=Wg)(hc:b0<=c)(h:sM ty Wg c w w'):Oo b0 w w':=⟨h.os,h.output,Nat.le_of_eq h.size.symm,fun x o hx ho _=>by rw [h.block x zOM zOM];exact ho⟩
theorem Oo.rel {b0:Nat}{w w':World}(h:AtRel w w'):Oo b0 w w':=by obtain ⟨d,rfl⟩:=h;exact ⟨rfl,rfl,Nat.le_refl _,fun _ _ _ h _=>h⟩
structure FE where
  F:Machine->Trace->Prop
  b0:Nat
instance:CoeFun FE (fun _=>Machine->Trace->Prop):=⟨FE.F⟩
abbrev E5 (P:Program)(Fin:FE):Prop:=∀ N m m' T T',runNT P N m T=(.next m',T')->Oo Fin.b0 m.world m'.world->Fin m' T'->Fin m T
structure Lw {X:Type}(b0:Nat)(ρ:Rn)(ws:List (EK X)):Prop where
  wg:b0<=ρ.Wg
  come:b0<=ρ.come
  gone:b0<=ρ.gone
  turn:∀ (i:Nat) (v:EK X),ws[i]?=some v->b0<=v.t
section
variable {X Sg:Type}
def Gb (ρ:Rn)(t:Nat):Array CommCase:=#[rcase t ρ.zi,rcase ρ.gone ρ.zg]
def He (ρ:Rn)(k:Nat):Array CommCase:=#[scase ρ.come (.int .i64 k) ρ.zi,rcase ρ.gone ρ.zg]
def Kv (ρ:Rn)(v:EK X)(w:World):Prop:=
  w.cell? ⟨v.b,2,none⟩=some (.chan (some v.t))/\w.cell? ⟨v.b,4,none⟩=some (.chan (some ρ.gone))/\w.cell? ⟨v.pb,0,none⟩=some (.pointer (some ⟨v.b,0,none⟩))
def vH (v:EK X)(l:Loc):Prop:=l=.cell ⟨v.b,2,none⟩\/l=.cell ⟨v.b,4,none⟩\/l=.cell ⟨v.pb,0,none⟩
def Za (v:EK X):Nat:=max v.b v.pb+1
structure aO (M:Md X Sg)(ρ:Rn)(v:EK X)(B:Nat->Bool)(n0:Nat):Prop where
  wg:B ρ.Wg=true
  own:∀ b,v.own b->B b=false
  sh:∀ b,M.Sh b->B b=false
  low:∀ b,B b=true->b < n0
def bK (M:Md X Sg)(ρ:Rn)(P:Program)(nx:Gw X Sg->Goroutine->World->Prop)(v:EK X)(g:Goroutine):Prop:=
  ∀ (s:Nat) (σ:Sg) (w:World) (B:Nat->Bool),aO M ρ v B w.heap.size->LT.Rows B w->(∀ b,v.own b->K3 v.wy w b)->v.wy.heap.size<=w.heap.size->M.Inv σ w->
    nx ⟨v,B,w.heap.size,M.hold v.x s σ⟩ (g.finishComm P (Gb ρ v.t) .select 0 (.int .i64 s) true) w
def DA (w w':World)(es:Array Event):Prop:=es=#[]/\(w'=w\/∃ o,Pv o/\w'={ w with heap:=w.heap.push o })
def Xq (ρ:Rn)(P:Program)(t:Nat)(g:Goroutine):Prop:=
  ∃ m,∀ w',WgLive ρ.ty ρ.Wg w'->Goes P false (RX ρ.ty ρ.Wg) DA (KQ P ρ.ty ρ.Wg) m (g.finishComm P (Gb ρ t) .select (1:Nat) ρ.zg false) w'
def Lb (M:Md X Sg)(ρ:Rn)(P:Program)(nx:Gw X Sg->Goroutine->World->Prop)(v:EK X):Seat:={ cases:=Gb ρ v.t,shape:=.select,home:=fun g=>bK M ρ P nx v g/\(ρ.shut->Xq ρ P v.t g) }
structure aS (M:Md X Sg)(ρ:Rn)(P:Program)(r:Nat)(nx:Gw X Sg->Goroutine->World->Prop)(γ:Gw X Sg)(g:Goroutine)(w:World):Prop where
  run:g.status=.running
  ex:∃ (g₂:Goroutine) (v':EK X),(∀ w₁,F8 ρ.ty ρ.Wg w w₁->stepG P false g w₁=.comm g₂ (He ρ γ.v.k) true .select w₁ #[])/\
    v'.h=γ.v.h/\v'.k=γ.v.k/\v'.b=γ.v.b/\v'.t=γ.v.t/\v'.x=γ.tgt.1/\v'.over=γ.tgt.2.2/\v'.r=r/\v'.wy=w/\M.Inv γ.tgt.2.1 w/\M.Rec γ.v.k v'.x γ.v.b v'.own w/\
    v'.own v'.pb/\(∀ b,γ.v.own b->v'.own b)/\(∀ b,v'.own b->γ.v.own b\/γ.n0<=b)/\(∀ b,v'.own b->¬ M.Sh b/\∃ c e f,w.heap[b]?=some (.cells c e f))/\
    (if γ.tgt.2.2 then ∃ m,∀ w',WgLive ρ.ty ρ.Wg w'->Fs P ρ.ty ρ.Wg 7 m 0 (g₂.finishComm P (He ρ γ.v.k) .select 0 undef false) w'
      else Kv ρ v' w/\∃ n,Sits P false (Kv ρ v') (vH v') (Za v') (Lb M ρ P nx v') n (g₂.finishComm P (He ρ γ.v.k) .select 0 undef false))
def WJ (M:Md X Sg)(ρ:Rn)(P:Program):Nat->Gw X Sg->Goroutine->World->Prop
  | 0=>fun γ g w=>LT.Way P false (F8 ρ.ty ρ.Wg) (DK γ.B) (aS M ρ P 0 (fun _ _ _=>True) γ) g w
  | r+1=>fun γ g w=>LT.Way P false (F8 ρ.ty ρ.Wg) (DK γ.B) (aS M ρ P (r+1) (WJ M ρ P r) γ) g w
def Yq (M:Md X Sg)(ρ:Rn)(P:Program):Nat->Gw X Sg->Goroutine->World->Prop
  | 0=>fun _ _ _=>True
  | r+1=>WJ M ρ P r
theorem Xw (M:Md X Sg)(ρ:Rn)(P:Program)(r:Nat)(γ:Gw X Sg)(g:Goroutine)(w:World):WJ M ρ P r γ g w=LT.Way P false (F8 ρ.ty ρ.Wg) (DK γ.B) (aS M ρ P r (Yq M ρ P r) γ) g w:=by cases r <;> rfl
variable (M:Md X Sg)(ρ:Rn)(P:Program)(ws:List (EK X))(hd:Nat)
def Kc (i:Nat)(w:World):Prop:=∀ (j:Nat) (v:EK X),ws[j]?=some v->v.h=i->v.over=false->Kv ρ v w
def M7 (i:Nat)(l:Loc):Prop:=∃ (j:Nat) (v:EK X),ws[j]?=some v/\v.h=i/\v.over=false/\vH v l
def LY (i:Nat):Prop:=i=0\/i=hd\/∃ (j:Nat) (v:EK X),ws[j]?=some v/\v.h=i/\v.over=false
def Hw (i:Nat):Prop:=i≠hd/\(i=0\/∃ (j:Nat) (v:EK X),ws[j]?=some v/\v.h=i/\v.over=false)
def GV (l:Loc):Prop:=∃ a,l=.cell a/\(a.block=ρ.Wg\/ρ.Bo a.block=true)
def Nn (v:EK X):Seat:=Lb M ρ P (Yq M ρ P v.r) v
structure Lx (role:Nat->EC)(bd:Nat->Nat)(w:World):Prop where
  apart:∀ (i j:Nat) (v v':EK X),ws[i]?=some v->ws[j]?=some v'->(v.h=v'.h\/v.t=v'.t\/(∃ b,v.own b/\v'.own b))->i=j
  pos:∀ (i:Nat) (v:EK X),ws[i]?=some v->0 < v.h/\v.k=i
  seats:∀ (i:Nat) (v:EK X),ws[i]?=some v->v.h≠hd->v.over=false->(∃ n,role v.h=.seat (Nn M ρ P v) n)/\bd v.h=Za v
  known:∀ (i:Nat) (st:Seat) (n c:Nat),role i=.seat st n->st.has c->c=ρ.gone\/(i=0/\c=ρ.come)\/∃ (j:Nat) (v:EK X),ws[j]?=some v/\v.h=i/\c=v.t
  keep:∀ (i:Nat) (v:EK X),ws[i]?=some v->v.h≠hd->(∀ b,v.own b->K3 v.wy w b)/\M.Rec v.k v.x v.b v.own v.wy/\v.wy.heap.size<=w.heap.size
  own:∀ (i:Nat) (v:EK X),ws[i]?=some v->∀ b,v.own b->¬ M.Sh b/\b≠ρ.Wg/\ρ.Bo b=false/\∃ c e f,w.heap[b]?=some (.cells c e f)
  inside:∀ (i:Nat) (v:EK X),ws[i]?=some v->v.own v.b/\v.own v.pb
  chan:∀ (i:Nat) (v:EK X),ws[i]?=some v->v.t≠ρ.come/\v.t≠ρ.gone/\∃ k,w.heap[v.t]?=some (.chan 0 #[] false k k false)
  come:ρ.come≠ρ.gone/\∃ k,w.heap[ρ.come]?=some (.chan 0 #[] false k k false)
  gone:¬ ρ.SN->∃ k,w.heap[ρ.gone]?=some (.chan 0 #[] false k k false)
  sh:∀ b,M.Sh b->b≠ρ.Wg/\ρ.Bo b=false
  old:∀ b,ρ.Bo b=true->b≠ρ.Wg/\∃ c e f,w.heap[b]?=some (.cells c e f)
  mY:bd 0=0
end
structure Rel (B:Nat->Bool)(Wg:Nat)(w w':World):Prop where
  block:∀ b,B b=true->b≠Wg->w'.heap[b]?=w.heap[b]?
  size:w.heap.size<=w'.heap.size
  objs:∀ (b:Nat) (o:Obj),b≠Wg->w.heap[b]?=some o->(∀ c e f,o≠.cells c e f)->w'.heap[b]?=some o
theorem Rel.refl (B:Nat->Bool)(Wg:Nat)(w:World):Rel B Wg w w:=⟨fun _ _ _=>rfl,Nat.le_refl _,fun _ _ _ h _=>h⟩
theorem Rel.trans {B:Nat->Bool}{Wg:Nat}{w w' w'':World}(h:Rel B Wg w w')(k:Rel B Wg w' w''):Rel B Wg w w'':=
  ⟨fun b hb hw=>(k.block b hb hw).trans (h.block b hb hw),Nat.le_trans h.size k.size,fun b o hb ho hn=>k.objs b o hb (h.objs b o hb ho hn) hn⟩
theorem Rel.Xg {B:Nat->Bool}{ty:TypeId}{Wg:Nat}{w w':World}(h:F8 ty Wg w w'):Rel B Wg w w':=⟨fun b _ hb=>h.block b hb,Nat.le_of_eq h.size.symm,fun b o hb ho _=>by rw [h.block b hb];exact ho⟩
theorem Rel.dk {B:Nat->Bool}{Wg:Nat}{w w':World}{es:Array Event}(h:DK B w w' es):Rel B Wg w w':=⟨fun b hb _=>h.1.block b hb,h.1.size,fun b o _ ho hn=>h.1.objs b o ho hn⟩
theorem R9 {P:Program}{main:Bool}{R:World->World->Prop}{D:World->World->Array Event->Prop}{Stop:Goroutine->World->Prop}{Re:World->World->Prop}(hR:∀ a b,R a b->Re a b)(hD:∀ a b es,D a b es->Re a b)(tr:∀ a b c,Re a b->Re b c->Re a c){g:Goroutine}{w:World}(h:LT.Way P main R D Stop g w):∀ w0,Re w0 w->LT.Way P main R D (fun g w=>Stop g w/\Re w0 w) g w:=by
  induction h with
  | @stop g w h=>exact fun w0 h0=>.stop fun w₁ h₁=>⟨h w₁ h₁,tr _ _ _ h0 (hR _ _ h₁)⟩
  | @step g w hs h k ih=>
    intro w0 h0;refine .one hs fun w₁ h₁=>?_;obtain ⟨g',w',es,e,d⟩:=h w₁ h₁;exact ⟨g',w',es,e,d,ih _ _ _ _ h₁ e w0 (tr _ _ _ h0 (tr _ _ _ (hR _ _ h₁) (hD _ _ _ d)))⟩
theorem cell_of {w w':World}{a:Addr}(h:w'.heap[a.block]?=w.heap[a.block]?):w'.cell? a=w.cell? a:=by simp [World.cell?,h]
section
variable {X Sg:Type}{M:Md X Sg}{ρ:Rn}{P:Program}{ws:List (EK X)}{hd:Nat}{role:Nat->EC}{bd:Nat->Nat}{w:World}
theorem Kv.blk {v:EK X}{w w':World}(h:Kv ρ v w)(hb:w'.heap[v.b]?=w.heap[v.b]?)(hp:w'.heap[v.pb]?=w.heap[v.pb]?):Kv ρ v w':=by obtain ⟨h1,h2,h3⟩:=h;exact ⟨by rw [cell_of hb];exact h1,by rw [cell_of hb];exact h2,by rw [cell_of hp];exact h3⟩
theorem TV (hb:∀ (j:Nat) (v:EK X),ws[j]?=some v->v.over=false->v.b≠ρ.Wg/\v.pb≠ρ.Wg/\ρ.Bo v.b=false/\ρ.Bo v.pb=false):Env ρ.Wg (Kc ρ ws) (M7 ws) (GV ρ):=by
  refine ⟨fun i w w' hw hK j v hv hi ho=>?_,⟨_,rfl,.inl rfl⟩,fun g l hS hsh=>?_⟩
  . obtain ⟨h1,h2,_⟩:=hb j v hv ho;exact (hK j v hv hi ho).blk (hw _ h1) (hw _ h2)
  . obtain ⟨j,v,hv,_,ho,hs⟩:=hS;obtain ⟨h1,h2,h3,h4⟩:=hb j v hv ho;obtain ⟨a,rfl,ha⟩:=hsh;rcases hs with hs|hs|hs <;> (simp only [Loc.cell.injEq] at hs;subst hs;rcases ha with ha|ha <;> simp_all)
end
end
section
section
variable {X Sg:Type}{M:Md X Sg}{ρ:Rn}{P:Program}{ws:List (EK X)}{hd:Nat}{role:Nat->EC}{bd:Nat->Nat}{w:World}
theorem TB {i j:Nat}{v v' u:EK X}(hv:ws[i]?=some v)(h:(ws.set i v')[j]?=some u):(j=i/\u=v')\/(j≠i/\ws[j]?=some u):=by
  rw [List.getElem?_set] at h;by_cases e:i=j
  . subst e;simp only [if_true] at h;split at h
    . exact .inl ⟨rfl,(Option.some.inj h).symm⟩
    . cases h
  . rw [if_neg e] at h;exact .inr ⟨fun z=>e z.symm,h⟩
theorem set_self {i:Nat}{v v':EK X}(hv:ws[i]?=some v):(ws.set i v')[i]?=some v':=by have hlt:i < ws.length:=(List.getElem?_eq_some_iff.1 hv).1;rw [List.getElem?_set];simp [hlt]
theorem Ot {i j:Nat}{v':EK X}(h:j≠i):(ws.set i v')[j]?=ws[j]?:=by rw [List.getElem?_set,if_neg (fun e=>h e.symm)]
theorem Lx.env (C:Lx M ρ P ws hd role bd w):Env ρ.Wg (Kc ρ ws) (M7 ws) (GV ρ):=TV fun j v hv _=>by obtain ⟨h1,h2⟩:=C.inside j v hv;obtain ⟨_,a1,a2,_⟩:=C.own j v hv _ h1;obtain ⟨_,b1,b2,_⟩:=C.own j v hv _ h2;exact ⟨a1,b1,a2,b2⟩
theorem hKc:∀ i w c k,w.heap[c]?=some (.chan 0 #[] false k k false)->Kc ρ ws i w->Kc ρ ws i (w.setChan c 0 #[] false (k+1) (k+1) false):=by
  intro i w c k hc hK j v hv hi ho;have hh:=hK j v hv hi ho;have ne:∀ {a:Addr} {x:Value},w.cell? a=some x->c≠a.block:=fun {a x} h e=>by subst e;simp [World.cell?,hc] at h
  exact hh.blk (heap_setChan_ne _ _ _ _ _ _ _ (ne hh.1)) (heap_setChan_ne _ _ _ _ _ _ _ (ne hh.2.2))
theorem Yl {M:Md X Sg}{nx:Gw X Sg->Goroutine->World->Prop}{v:EK X}(h:v.t≠ρ.gone):(Lb M ρ P nx v).Wf:=by
  have get:∀ (k c:Nat) (z:Value),(Gb ρ v.t)[k]?=some (rcase c z)->(k=0/\c=v.t)\/(k=1/\c=ρ.gone):=by
    intro k c z e;rcases k with _|_|k
    . simp only [Gb,List.getElem?_toArray,List.getElem?_cons_zero,Option.some.injEq,rcase,CommCase.mk.injEq,Value.chan.injEq] at e;exact .inl ⟨rfl,e.1.symm⟩
    . simp only [Gb,List.getElem?_toArray,List.getElem?_cons_succ,List.getElem?_cons_zero,Option.some.injEq,rcase,CommCase.mk.injEq,Value.chan.injEq] at e;exact .inr ⟨rfl,e.1.symm⟩
    . simp [Gb] at e
  refine ⟨fun cc hcc=>?_,fun k m c z z' h1 h2=>?_⟩
  . simp only [Lb,Gb,List.mem_toArray,List.mem_cons,List.not_mem_nil,or_false] at hcc;rcases hcc with rfl|rfl
    . exact ⟨_,_,rfl⟩
    . exact ⟨_,_,rfl⟩
  . rcases get k c z h1 with ⟨rfl,e⟩ | ⟨rfl,e⟩ <;> rcases get m c z' h2 with ⟨rfl,e'⟩ | ⟨rfl,e'⟩ <;> first | rfl | (exact absurd (e.symm.trans e') h) | (exact absurd (e'.symm.trans e) h)
theorem P8 {M:Md X Sg}{nx:Gw X Sg->Goroutine->World->Prop}{v:EK X}{c:Nat}(h:(Lb M ρ P nx v).has c):c=v.t\/c=ρ.gone:=by
  obtain ⟨k,z,e⟩:=h;rcases k with _|_|k
  . simp only [Lb,Gb,List.getElem?_toArray,List.getElem?_cons_zero,Option.some.injEq,rcase,CommCase.mk.injEq,Value.chan.injEq] at e;exact .inl e.1.symm
  . simp only [Lb,Gb,List.getElem?_toArray,List.getElem?_cons_succ,List.getElem?_cons_zero,Option.some.injEq,rcase,CommCase.mk.injEq,Value.chan.injEq] at e;exact .inr e.1.symm
  . simp [Lb,Gb] at e
abbrev OH (M:Md X Sg)(ρ:Rn)(P:Program)(ws:List (EK X))(hd:Nat)(bd:Nat->Nat)(role:Nat->EC)(live:Nat->Nat)(ex:Nat)(T:Trace)(gs:Array Goroutine)(w:World):Prop:=
  Held P ρ.ty ρ.Wg (Kc ρ ws) (M7 ws) bd (GV ρ) (fun c=>c=ρ.gone) (LY ws hd) (Hw ws hd) hd role live ex T gs w
structure Lv (ws:List (EK X))(n:Nat)(live:Nat->Nat):Prop where
  lt:∀ (i:Nat) (v:EK X),ws[i]?=some v->v.h < n
  zero:live 0=0
  one:∀ (i:Nat) (v:EK X),ws[i]?=some v->v.over=false->live v.h=1
theorem RS (hcl:¬ ρ.SN){i:Nat}{v:EK X}{γ:Gw X Sg}{r:Nat}{Lm:Goroutine->Prop}{n0 ex:Nat}{live:Nat->Nat}{T:Trace}{gs:Array Goroutine}{sl:Option (Nat × Nat)}{g:Goroutine}(hv:ws[i]?=some v)(hov:v.over=false)(hγ:γ.v=v)(C:Lx M ρ P ws v.h role bd w)(H:OH M ρ P ws v.h bd role live ex T gs w)(hL:Lv ws gs.size live)(MN:aO M ρ v γ.B γ.n0)(hRB:LT.Rows γ.B w)(VU:∀ b,ρ.Bo b=true->γ.B b=true)(Lh:∀ (j:Nat) (u:EK X),ws[j]?=some u->j≠i->∀ b,u.own b->γ.B b=true)(hg:gs[v.h]?=some g)(hW:WJ M ρ P r γ g w)(h0:role 0=.seat (Seat.one ρ.come ρ.zi false Lm) n0) :
    ∃ N gs' w' sl' T' ER Y7 Fy v' g0,runNT P N (crowd gs w sl) T=(.next (crowd gs' w' sl'),T')/\gs'.size=gs.size/\gs'[0]?=some (g0.finishComm P #[rcase ρ.come ρ.zi] (.recv false) 0 (.int .i64 v.k) true)/\Lm g0/\
      Lx M ρ P (ws.set i v') 0 ER Y7 w'/\OH M ρ P (ws.set i v') 0 Y7 ER Fy ex T' gs' w'/\Lv (ws.set i v') gs.size Fy/\
      v'.h=v.h/\v'.k=v.k/\v'.b=v.b/\v'.t=v.t/\v'.x=γ.tgt.1/\v'.over=γ.tgt.2.2/\v'.r=r/\M.Inv γ.tgt.2.1 w'/\(∀ b,γ.B b=true->b≠ρ.Wg->w'.heap[b]?=w.heap[b]?)/\w.heap.size<=w'.heap.size/\(∀ b,v'.own b->v.own b\/γ.n0<=b)/\(∀ b0,b0<=ρ.Wg->b0<=ρ.come->Oo b0 w w'):=by
  subst hγ;have E:=C.env;obtain ⟨hpos,hk⟩:=C.pos i _ hv;have hmain:(γ.v.h == 0)=false:=by simp;omega
  have other:∀ {j:Nat} {u:EK X},ws[j]?=some u->u.h≠γ.v.h->j≠i:=fun {j u} hu hne e=>by subst e;rw [hu] at hv;cases hv;exact hne rfl
  rw [Xw] at hW;have hW2:=R9 (Re:=fun a b=>Rel γ.B ρ.Wg a b/\∀ b0,b0<=ρ.Wg->Oo b0 a b) (fun a b h=>⟨.Xg h,fun b0 hb=>.Xg hb h⟩) (fun a b es h=>⟨.dk h,fun b0 _=>.dk h⟩) (fun a b c h k=>⟨h.1.trans k.1,fun b0 hb=>(h.2 b0 hb).trans (k.2 b0 hb)⟩) hW w ⟨.refl _ _ _,fun b0 _=>.refl _ _⟩;have hD:∀ w w' es,DK γ.B w w' es->oV (Kc ρ ws) (M7 ws) (GV ρ) (fun _=>True) ρ.Wg γ.v.h w w' es:=fun w w' es hd=>by
    refine DK.hd (fun x hx w w' hb hK j u hu GY ho=>?_) (fun x hx l hl=>?_) (fun l hl=>?_) MN.wg hd
    . have hne:=other hu (by rw [GY];exact hx)
      have hi:=C.inside j u hu;exact (hK j u hu GY ho).blk (hb _ (.inl (Lh j u hu hne _ hi.1))) (hb _ (.inl (Lh j u hu hne _ hi.2)))
    . obtain ⟨j,u,hu,GY,ho,hs⟩:=hl;have hne:=other hu (by rw [GY];exact hx);have hi:=C.inside j u hu;rcases hs with hs|hs|hs
      . exact .inl ⟨_,hs,Lh j u hu hne _ hi.1⟩
      . exact .inl ⟨_,hs,Lh j u hu hne _ hi.1⟩
      . exact .inl ⟨_,hs,Lh j u hu hne _ hi.2⟩
    . obtain ⟨a,rfl,ha⟩:=hl;refine ⟨a,rfl,?_⟩;rcases ha with ha|ha
      . rw [ha];exact MN.wg
      . exact VU _ ha
  obtain ⟨N1,gs1,a1,w1,sl1,T1,OB,Qj,p1,p2,p3,⟨p4,p5,p5f⟩,p6,p7,p8,_,_⟩:=Vn (sl:=sl) E (Ch:=fun _=>True) hD (by rw [hmain];exact hW2) hg H (fun _ _ _ _ _ _=>trivial);obtain ⟨hrun,g₂,v',hstep,e1,e2,e3,e4,e5,e6,e7,e8,hInv,aN,hpb,hown1,hown2,hown3,hend⟩:=p4;have nG:WgLive ρ.ty ρ.Wg w1:=⟨_,_,p6.JG.wg⟩
  have Qx:∀ {c k:Nat},w.heap[c]?=some (.chan 0 #[] false k k false)->w1.heap[c]?=some (.chan 0 #[] false k k false):=fun {c k} hc=>by refine p5.objs c _ (fun e=>?_) hc (fun _ _ _=>by simp);have:=H.JG.wg;unfold WgAt wgBlock at this;rw [e,this] at hc;cases hc
  have Vm:∀ b,v'.own b->b≠ρ.Wg/\ρ.Bo b=false:=fun b hb=>by
    rcases hown2 b hb with hb|hb
    . obtain ⟨_,a,b,_⟩:=C.own i _ hv b hb;exact ⟨a,b⟩
    . have h1:=MN.low _ MN.wg;refine ⟨by omega,?_⟩;cases hB:ρ.Bo b with
      | false=>rfl
      | true=>have:=MN.low _ (VU b hB);omega
  have Rj:v'.own v'.b:=by rw [e3];exact hown1 _ (C.inside i _ hv).1
  have hset:=fun {j:Nat} {u:EK X} (h:(ws.set i v')[j]?=some u)=>TB hv h;have Qo:∀ {j:Nat} {u:EK X},ws[j]?=some u->u.h=γ.v.h->j=i:=fun {j u} hu he=>C.apart j i u γ.v hu hv (.inl he);have Aat:∀ x,x≠γ.v.h->Kc ρ (ws.set i v') x=Kc ρ ws x:=fun x hx=>by
    funext z
    apply propext;constructor
    . intro h j u hu GY ho;have hne:=other hu (by rw [GY];exact hx);exact h j u (by rw [Ot hne];exact hu) GY ho
    . intro h j u hu GY ho;rcases hset hu with ⟨rfl,rfl⟩|⟨hne,hu⟩
      . exact absurd (e1.symm.trans GY).symm hx
      . exact h j u hu GY ho
  have Aa3:∀ x,x≠γ.v.h->M7 (ws.set i v') x=M7 ws x:=fun x hx=>by
    funext z
    apply propext;constructor
    . rintro ⟨j,u,hu,GY,ho,hs⟩;rcases hset hu with ⟨rfl,rfl⟩|⟨hne,hu⟩
      . exact absurd (e1.symm.trans GY).symm hx
      . exact ⟨j,u,hu,GY,ho,hs⟩
    . rintro ⟨j,u,hu,GY,ho,hs⟩;have hne:=other hu (by rw [GY];exact hx);exact ⟨j,u,by rw [Ot hne];exact hu,GY,ho,hs⟩
  have hKv:v'.over=false->Kc ρ (ws.set i v') γ.v.h=Kv ρ v':=fun ho=>by
    funext z
    apply propext;constructor
    . exact fun h=>h i v' (set_self hv) e1 ho
    . intro h j u hu GY ho';rcases hset hu with ⟨rfl,rfl⟩|⟨hne,hu⟩
      . exact h
      . exact absurd (Qo hu GY) hne
  have hSv:v'.over=false->M7 (ws.set i v') γ.v.h=vH v':=fun ho=>by
    funext z
    apply propext;constructor
    . rintro ⟨j,u,hu,GY,ho',hs⟩;rcases hset hu with ⟨rfl,rfl⟩|⟨hne,hu⟩
      . exact hs
      . exact absurd (Qo hu GY) hne
    . exact fun h=>⟨i,v',set_self hv,e1,ho,h⟩
  have VH:∀ b,v'.own b->∀ o,¬ GV ρ (.cell ⟨b,o,none⟩):=fun b hb o=>by
    rintro ⟨a,ha,h⟩;cases ha
    obtain ⟨h1,h2⟩:=Vm b hb;rcases h with h|h
    . exact h1 h
    . rw [h2] at h;cases h
  have fF:∀ l,M7 (ws.set i v') γ.v.h l->l.isMemory=true/\¬ GV ρ l:=by
    rintro l ⟨j,u,hu,GY,ho',hs⟩;rcases hset hu with ⟨_,hu'⟩|⟨hne,hu⟩
    . rw [hu'] at hs;rcases hs with rfl|rfl|rfl
      . exact ⟨rfl,VH _ Rj _⟩
      . exact ⟨rfl,VH _ Rj _⟩
      . exact ⟨rfl,VH _ hpb _⟩
    . exact absurd (Qo hu GY) hne
  have H1:=p6.re (K':=Kc ρ (ws.set i v')) (Still':=M7 (ws.set i v')) (ko:=upd bd γ.v.h (Za v')) Aat Aa3 (fun x hx=>upd_ne bd _ hx) fF;have E1:Env ρ.Wg (Kc ρ (ws.set i v')) (M7 (ws.set i v')) (GV ρ):=TV fun j u hu ho=>by
    rcases hset hu with ⟨_,hu'⟩|⟨hne,hu⟩
    . rw [hu'];exact ⟨(Vm _ Rj).1,(Vm _ hpb).1,(Vm _ Rj).2,(Vm _ hpb).2⟩
    . obtain ⟨h1,h2⟩:=C.inside j u hu;obtain ⟨_,a1,a2,_⟩:=C.own j u hu _ h1;obtain ⟨_,b1,b2,_⟩:=C.own j u hu _ h2;exact ⟨a1,b1,a2,b2⟩
  obtain ⟨n1,hr0⟩:=(p7 0).1 _ _ h0;obtain ⟨kc,Nv⟩:=C.come.2;obtain ⟨kg,RY⟩:=C.gone hcl;have aP:∀ {b:Nat},v'.own b->b < w1.heap.size:=fun {b} hb=>by obtain ⟨_,c,e,f,hc⟩:=hown3 b hb;exact (zGE hc).1
  have hlv1:Qj γ.v.h=1:=(p8 γ.v.h (.inl rfl)).trans (hL.one i _ hv hov);have XF:∀ (x:Nat) (st:Seat) (n c:Nat),OB x=.seat st n->st.has c->c=ρ.gone\/(x=0/\c=ρ.come)\/∃ (j:Nat) (u:EK X),ws[j]?=some u/\u.h=x/\c=u.t:=fun x st n c e hc=>by obtain ⟨n',e'⟩:=p7.back e;exact C.known x st n' c e' hc
  obtain ⟨rh,hA,hrh⟩:∃ rh,After P ρ.ty ρ.Wg (Kc ρ (ws.set i v')) (M7 (ws.set i v')) (upd bd γ.v.h (Za v')) (fun c=>c=ρ.gone) (LY (ws.set i v') 0) (Hw (ws.set i v') 0) OB Qj γ.v.h ρ.come w1 (g₂.finishComm P (He ρ γ.v.k) .select (0:Nat) undef false) rh/\
      ((v'.over=true/\∃ m,rh=.fin 7 m 0)\/(v'.over=false/\∃ n,rh=.seat (Nn M ρ P v') n)):=by
    have hwf:(Nn M ρ P v').Wf:=Yl (by rw [e4];exact (C.chan i _ hv).2.1);cases iI:γ.tgt.2.2 with
    | true=>
      rw [iI] at hend e6;simp only [if_true] at hend;obtain ⟨m,hF⟩:=hend;refine ⟨.fin 7 m 0,⟨fun s m' d e=>?_,fun st n e=>(by cases e)⟩,.inl ⟨e6,m,rfl⟩⟩;cases e
      refine ⟨hpos,hF,rfl,?_,hlv1,.inl rfl⟩;rintro (h|h|⟨j,u,hu,GY,ho⟩)
      . omega
      . omega
      . rcases hset hu with ⟨_,hu'⟩ | ⟨hne,hu⟩
        . rw [hu',e6] at ho;cases ho
        . exact hne (Qo hu GY)
    | false=>
      rw [iI] at hend e6;simp only [Bool.false_eq_true,if_false] at hend;obtain ⟨Ace,n,hS⟩:=hend;have PI:Lb M ρ P (Yq M ρ P r) v'=Nn M ρ P v':=by unfold Nn;rw [e7]
      rw [PI] at hS;refine ⟨.seat (Nn M ρ P v') n,⟨fun s m' d e=>(by cases e),fun st n' e=>?_⟩,.inr ⟨e6,n,rfl⟩⟩;cases e
      rw [hKv e6,hSv e6,upd_same,hmain];refine ⟨hS,⟨by omega,.inr ⟨i,v',set_self hv,e1,e6⟩⟩,hwf,.inr (.inr ⟨i,v',set_self hv,e1,e6⟩),?_,fun c hc=>?_,fun x st' n' c hx hr hc hc'=>?_,Ace⟩
      . have h1:=aP Rj;have h2:=aP hpb;unfold Za;omega
      . rcases P8 hc with rfl | rfl
        . obtain ⟨k,hk⟩:=(C.chan i _ hv).2.2;rw [e4];exact ⟨(C.chan i _ hv).1,k,Qx hk⟩
        . exact ⟨fun z=>C.come.1 z.symm,kg,Qx RY⟩
      . rcases P8 hc with rfl | rfl
        . rcases XF x st' n' _ hr hc' with h | ⟨_,h⟩ | ⟨j,u,hu,GY,h⟩
          . exact h
          . rw [e4] at h;exact absurd h (C.chan i _ hv).1
          . exfalso
            have:=C.apart j i u γ.v hu hv (.inr (.inl (h.symm.trans e4)));subst this;rw [hu] at hv;cases hv
            exact hx GY.symm
        . rfl
  have hO:Jr (He ρ γ.v.k) 0 ρ.come (.int .i64 γ.v.k) w1:=⟨⟨ρ.zi,rfl⟩,fun m cc hm hc=>by
    rcases m with _|_|m
    . exact absurd rfl hm
    . simp only [He,List.getElem?_toArray,List.getElem?_cons_succ,List.getElem?_cons_zero,Option.some.injEq] at hc;subst hc;exact ⟨ρ.gone,ρ.zg,kg,rfl,Qx RY⟩
    . simp [He] at hc⟩
  have hM1:∀ g,LY (ws.set i v') 0 g->LY ws γ.v.h g:=by
    rintro x (h|h|⟨j,u,hu,GY,ho⟩)
    . exact .inl h
    . exact .inl h
    . rcases hset hu with ⟨_,hu'⟩ | ⟨hne,hu⟩
      . rw [hu'] at GY;exact .inr (.inl (GY.symm.trans e1))
      . exact .inr (.inr ⟨j,u,hu,GY,ho⟩)
  have hM2:∀ g,LY ws γ.v.h g->g≠γ.v.h->LY (ws.set i v') 0 g:=by
    rintro x (h|h|⟨j,u,hu,GY,ho⟩) hx
    . exact .inl h
    . exact absurd h hx
    . have hne:=other hu (by rw [GY];exact hx)
      exact .inr (.inr ⟨j,u,by rw [Ot hne];exact hu,GY,ho⟩)
  have hLo:∀ g,Hw ws γ.v.h g->g≠0->Hw (ws.set i v') 0 g:=by
    rintro x ⟨hx,h⟩ hx0;refine ⟨hx0,?_⟩;rcases h with h|⟨j,u,hu,GY,ho⟩
    . exact .inl h
    . have hne:=other hu (by rw [GY];exact hx)
      exact .inr ⟨j,u,by rw [Ot hne];exact hu,GY,ho⟩
  obtain ⟨N2,m2,T2,q1,gs2,g0,w2,sl2,RI,Uu,rfl,q3,q4,q5,q6,q7,q8,q9⟩:=give (sl:=sl1) (h:=γ.v.h) (j:=0) (c:=ρ.come) (k:=0) (kk:=0) (v:=.int .i64 γ.v.k) (es:=#[]) (Mem':=LY (ws.set i v') 0) (Loose':=Hw (ws.set i v') 0) E1 hKc p3 hrun (by rw [hmain];exact hstep) (by simp) hO H1 (.inr (.inl rfl)) zOM hr0 (zj:=ρ.zi) rfl C.come.1
    hM1 hM2 hLo (fun h=>h.1 rfl) hA
  have hblk2:∀ {b:Nat},b≠ρ.Wg->(∃ c e f,w1.heap[b]?=some (.cells c e f))->w2.heap[b]?=w1.heap[b]?:=fun {b} hb ⟨c,e,f,hc⟩=>q7.block b hb fun z=>by subst z;rw [Qx Nv] at hc;cases hc
  have Sv:∀ {c k:Nat},w.heap[c]?=some (.chan 0 #[] false k k false)->∃ k',w2.heap[c]?=some (.chan 0 #[] false k' k' false):=fun {c k} hc=>by
    have h1:=Qx hc;by_cases e:c=ρ.come
    . subst e;obtain ⟨k',_,h⟩:=q7.chan;exact ⟨k'+1,h⟩
    . refine ⟨k,?_⟩;rw [q7.block c (fun z=>?_) e]
      . exact h1
      . subst z;obtain ⟨st,sm,hl⟩:=nG;unfold WgAt wgBlock at hl;rw [hl] at h1;cases h1
  have Zj:w.heap.size<=w2.heap.size:=by rw [q7.size];exact p5.size
  have Aev:∀ {b:Nat},(∃ c e f,w.heap[b]?=some (.cells c e f))->γ.B b=true->b≠ρ.Wg->∃ c e f,w1.heap[b]?=some (.cells c e f):=fun {b} ⟨c,e,f,hc⟩ hB hb=>⟨c,e,f,by rw [p5.block b hB hb];exact hc⟩
  have qw:γ.B ρ.come=false:=by
    cases hB:γ.B ρ.come with
    | false=>rfl
    | true=>obtain ⟨c,e,f,hc⟩:=hRB _ hB;rw [Nv] at hc;cases hc
  have TI:∀ {b:Nat},γ.B b=true->b≠ρ.Wg->w2.heap[b]?=w.heap[b]?:=fun {b} hB hb=>by rw [q7.block b hb fun z=>by subst z;rw [qw] at hB;cases hB];exact p5.block b hB hb
  have wX:∀ b,v'.own b->w2.heap[b]?=w1.heap[b]?:=fun b hb=>hblk2 (Vm b hb).1 (hown3 b hb).2;have vU:∀ {x:Nat} {st:Seat} {n:Nat},RI x=.seat st n->(x=γ.v.h/\v'.over=false/\st=Nn M ρ P v')\/(x≠γ.v.h/\x≠0/\∃ n',OB x=.seat st n'):=fun {x st n} e=>by
    obtain ⟨n',e'⟩:=q8.back e;by_cases hx:x=γ.v.h
    . subst hx;rw [upd_same] at e';rcases hrh with ⟨_,m,h⟩|⟨ho,m,h⟩
      . rw [h] at e';cases e'
      . rw [h] at e';cases e';exact .inl ⟨rfl,ho,rfl⟩
    . rw [upd_ne _ _ hx] at e';by_cases hx0:x=0
      . subst hx0;rw [upd_same] at e';cases e'
      . rw [upd_ne _ _ hx0] at e';exact .inr ⟨hx,hx0,n',e'⟩
  have hother:∀ {j:Nat} {u:EK X},ws[j]?=some u->j≠i->u.h≠γ.v.h:=fun {j u} hu hne h=>hne (Qo hu h);refine ⟨N1+N2,gs2,w2,sl2,T2,RI,upd bd γ.v.h (Za v'),Uu,v',g0,runNT_then p1 q1,q3.trans p2,q4,q5,⟨?_,?_,?_,?_,?_,?_,?_,?_,?_,?_,?_,?_,?_⟩,q6,⟨?_,?_,?_⟩,e1,e2,e3,e4,e5,e6,e7,?_,fun b hB hb=>TI hB hb,Zj,hown2,fun b0 h1 h2=>(p5f b0 h1).trans (.rgv h1 h2 q7)⟩
  ·
    intro j j' u u' hu hu' h;have key:∀ {j:Nat} {u:EK X},ws[j]?=some u->j≠i->(v'.h=u.h\/v'.t=u.t\/∃ b,v'.own b/\u.own b)->False:=fun {j u} hu hne h=>by
      rcases h with h|h|⟨b,h1,h2⟩
      . exact hne (Qo hu (h.symm.trans e1))
      . exact hne (C.apart j i u γ.v hu hv (.inr (.inl (h.symm.trans e4))))
      . rcases hown2 b h1 with h1 | h1
        . exact hne (C.apart j i u γ.v hu hv (.inr (.inr ⟨b,h2,h1⟩)))
        . have:=MN.low _ (Lh j u hu hne b h2);omega
    rcases hset hu with ⟨rfl,hh⟩|⟨hne,hu1⟩ <;> rcases hset hu' with ⟨rfl,hh'⟩|⟨hne',ZN⟩
    . rfl
    . rw [hh] at h;exact (key ZN hne' h).elim
    . rw [hh'] at h;exact (key hu1 hne (h.imp Eq.symm (Or.imp Eq.symm fun ⟨b,x,y⟩=>⟨b,y,x⟩))).elim
    . exact C.apart j j' u u' hu1 ZN h
  . intro j u hu;rcases hset hu with ⟨rfl,hh⟩|⟨hne,hu⟩
    . rw [hh,e1,e2];exact ⟨hpos,hk⟩
    . exact C.pos j u hu
  ·
    intro j u hu h0' ho;rcases hset hu with ⟨_,hh⟩|⟨hne,hu⟩
    . subst hh;rw [e1];rcases hrh with ⟨ho',_⟩|⟨_,m,h⟩
      . rw [ho] at ho';cases ho'
      . obtain ⟨n',h'⟩:=(q8 γ.v.h).1 _ m (by rw [upd_same];exact h)
        exact ⟨⟨n',h'⟩,upd_same _ _ _⟩
    . have hn:=hother hu hne;obtain ⟨⟨n',h⟩,hb⟩:=C.seats j u hu hn ho;obtain ⟨n'',h⟩:=(p7 u.h).1 _ n' h;obtain ⟨n3,h⟩:=(q8 u.h).1 _ n'' (by rw [upd_ne _ _ hn,upd_ne _ _ h0'];exact h);exact ⟨⟨n3,h⟩,by rw [upd_ne _ _ hn];exact hb⟩
  ·
    intro x st n c e hc;rcases vU e with ⟨rfl,ho,hs⟩|⟨hx,hx0,n',e'⟩
    . subst hs;rcases P8 hc with h|h
      . exact .inr (.inr ⟨i,v',set_self hv,e1,h⟩)
      . exact .inl h
    . rcases XF x st n' c e' hc with h | ⟨h,_⟩ | ⟨j,u,hu,GY,h⟩
      . exact .inl h
      . exact absurd h hx0
      . have hne:=other hu (by rw [GY];exact hx)
        exact .inr (.inr ⟨j,u,by rw [Ot hne];exact hu,GY,h⟩)
  ·
    intro j u hu h0';rcases hset hu with ⟨_,hh⟩|⟨hne,hu⟩
    . subst hh;rw [e8,e2,e3];exact ⟨fun b hb=>.of (wX b hb),aN,by rw [q7.size];exact Nat.le_refl _⟩
    . obtain ⟨k1,k2,k3⟩:=C.keep j u hu (hother hu hne);refine ⟨fun b hb=>(k1 b hb).trans (.of (TI (Lh j u hu hne b hb) (C.own j u hu b hb).2.1)),k2,Nat.le_trans k3 Zj⟩
  ·
    intro j u hu b hb;rcases hset hu with ⟨_,hh⟩|⟨hne,hu⟩
    . subst hh;obtain ⟨a1',c,e,f,hc⟩:=hown3 b hb;exact ⟨a1',(Vm b hb).1,(Vm b hb).2,c,e,f,by rw [wX b hb];exact hc⟩
    . obtain ⟨a1',a2',a3',c,e,f,hc⟩:=C.own j u hu b hb;exact ⟨a1',a2',a3',c,e,f,by rw [TI (Lh j u hu hne b hb) a2'];exact hc⟩
  . intro j u hu;rcases hset hu with ⟨_,hh⟩|⟨hne,hu⟩
    . subst hh;exact ⟨Rj,hpb⟩
    . exact C.inside j u hu
  . intro j u hu;rcases hset hu with ⟨_,hh⟩|⟨hne,hu⟩
    . subst hh;obtain ⟨c1,c2,k,hk⟩:=C.chan i _ hv;rw [e4];exact ⟨c1,c2,Sv hk⟩
    . obtain ⟨c1,c2,k,hk⟩:=C.chan j u hu;exact ⟨c1,c2,Sv hk⟩
  . exact ⟨C.come.1,Sv Nv⟩
  . exact fun _=>Sv RY
  . exact C.sh
  . intro b hb;obtain ⟨h1,c,e,f,hc⟩:=C.old b hb;exact ⟨h1,c,e,f,by rw [TI (VU b hb) h1];exact hc⟩
  . rw [upd_ne _ _ zOM];exact C.mY
  . intro j u hu;rcases hset hu with ⟨_,hh⟩|⟨hne,hu⟩
    . rw [hh,e1];exact hL.lt i _ hv
    . exact hL.lt j u hu
  . rw [q9 0 (.inr ⟨_,_,hr0⟩),p8 0 (.inr ⟨_,_,h0⟩)];exact hL.zero
  . intro j u hu ho;rcases hset hu with ⟨_,hh⟩|⟨hne,hu⟩
    . subst hh;rw [e1,q9 _ (.inl rfl)];exact hlv1
    . have hn:=hother hu hne;obtain ⟨⟨n',h⟩,_⟩:=C.seats j u hu hn ho;obtain ⟨n'',h'⟩:=(p7 u.h).1 _ n' h;rw [q9 _ (.inr ⟨_,_,h'⟩),p8 _ (.inr ⟨_,_,h⟩)];exact hL.one j u hu ho
  . refine M.inv_eq _ _ _ (fun b hb=>.of (hblk2 (C.sh b hb).1 (M.Qc _ _ b hb hInv))) hInv
end
end
section
section
variable {X Sg:Type}{M:Md X Sg}{ρ:Rn}{P:Program}{ws:List (EK X)}{hd:Nat}{role:Nat->EC}{bd:Nat->Nat}{w:World}
def holdB (M:Md X Sg)(v:EK X)(w:World)(b:Nat):Bool:=@decide ((∃ c e f,w.heap[b]?=some (.cells c e f))/\¬ v.own b/\¬ M.Sh b) (Classical.propDecidable _)
theorem Gm {v:EK X}{b:Nat}:holdB M v w b=true↔(∃ c e f,w.heap[b]?=some (.cells c e f))/\¬ v.own b/\¬ M.Sh b:=by unfold holdB;exact @decide_eq_true_iff _ (Classical.propDecidable _)
theorem KW {v:EK X}:LT.Rows (holdB M v w) w:=⟨fun b hb=>(Gm.1 hb).1,fun b hb=>(by cases hb)⟩
theorem UE {v:EK X}(hW:∃ c e f,w.heap[ρ.Wg]?=some (.cells c e f))(h1:¬ v.own ρ.Wg)(h2:¬ M.Sh ρ.Wg):aO M ρ v (holdB M v w) w.heap.size:=by
  refine ⟨Gm.2 ⟨hW,h1,h2⟩,fun b hb=>?_,fun b hb=>?_,fun b hb=>?_⟩
  . cases e:holdB M v w b with
    | false=>rfl
    | true=>exact absurd hb (Gm.1 e).2.1
  . cases e:holdB M v w b with
    | false=>rfl
    | true=>exact absurd hb (Gm.1 e).2.2
  . obtain ⟨⟨c,e,f,hc⟩,_⟩:=Gm.1 hb;exact (zGE hc).1
theorem G6 {st sm:Int}(h:WgAt ρ.ty ρ.Wg w st sm):∃ c e f,w.heap[ρ.Wg]?=some (.cells c e f):=by unfold WgAt wgBlock at h;exact ⟨_,_,_,h⟩
theorem K0 (C:Lx M ρ P ws hd role bd w):Kc ρ ws 0=fun _=>True:=by
  funext z
  apply propext;constructor
  . exact fun _=>trivial
  . intro _ j u hu GY;have:=(C.pos j u hu).1;omega
theorem St0 (C:Lx M ρ P ws hd role bd w):M7 ws 0=fun _=>False:=by
  funext z
  apply propext;constructor
  . rintro ⟨j,u,hu,GY,_⟩;have:=(C.pos j u hu).1;omega
  . exact fun h=>h.elim
theorem Lx.turn {hd':Nat}{ER:Nat->EC}{w':World}(C:Lx M ρ P ws hd role bd w)(hhd:hd'≠0->∃ (i:Nat) (v:EK X),ws[i]?=some v/\v.h=hd')(PI:∀ (i:Nat) (v:EK X),ws[i]?=some v->v.h≠hd'->v.over=false->(∃ n,ER v.h=.seat (Nn M ρ P v) n)/\bd v.h=Za v)(mH:∀ (i:Nat) (st:Seat) (n c:Nat),ER i=.seat st n->st.has c->c=ρ.gone\/(i=0/\c=ρ.come)\/∃ (j:Nat) (v:EK X),ws[j]?=some v/\v.h=i/\c=v.t)(hkeep:∀ (i:Nat) (v:EK X),ws[i]?=some v->v.h≠hd'->v.h≠hd)(hblk:∀ b,b≠ρ.Wg->(∃ c e f,w.heap[b]?=some (.cells c e f))->w'.heap[b]?=w.heap[b]?)(hsz:w.heap.size<=w'.heap.size)(hch:∀ c k:Nat,w.heap[c]?=some (Obj.chan 0 #[] false k k false)->∃ k':Nat,w'.heap[c]?=some (Obj.chan 0 #[] false k' k' false)):Lx M ρ P ws hd' ER bd w':=by
  refine ⟨C.apart,C.pos,PI,mH,fun i v hv hn=>?_,fun i v hv b hb=>?_,C.inside,fun i v hv=>?_,?_,?_,C.sh,fun b hb=>?_,C.mY⟩
  . obtain ⟨k1,k2,k3⟩:=C.keep i v hv (hkeep i v hv hn);refine ⟨fun b hb=>(k1 b hb).trans (.of ?_),k2,Nat.le_trans k3 hsz⟩;obtain ⟨_,a2,_,a4⟩:=C.own i v hv b hb;exact hblk b a2 a4
  . obtain ⟨a1,a2,a3,c,e,f,hc⟩:=C.own i v hv b hb;exact ⟨a1,a2,a3,c,e,f,by rw [hblk b a2 ⟨c,e,f,hc⟩];exact hc⟩
  . obtain ⟨c1,c2,k,hk⟩:=C.chan i v hv;exact ⟨c1,c2,hch _ _ hk⟩
  . obtain ⟨c1,k,hk⟩:=C.come;exact ⟨c1,hch _ _ hk⟩
  . intro hcl;obtain ⟨k,hk⟩:=C.gone hcl;exact hch _ _ hk
  . obtain ⟨h1,c,e,f,hc⟩:=C.old b hb;exact ⟨h1,c,e,f,by rw [hblk b h1 ⟨c,e,f,hc⟩];exact hc⟩
theorem YX (hcl:¬ ρ.SN){i:Nat}{v:EK X}{r s:Nat}{σ:Sg}{Lm:Goroutine->Prop}{n ex:Nat}{live:Nat->Nat}{T:Trace}{gs:Array Goroutine}{sl:Option (Nat × Nat)}{g g₂:Goroutine}{zs:Value}(hv:ws[i]?=some v)(hov:v.over=false)(hr:v.r=r+1)(C:Lx M ρ P ws 0 role bd w)(H:OH M ρ P ws 0 bd role live ex T gs w)(hL:Lv ws gs.size live)(hInv:M.Inv σ w)(hg:gs[0]?=some g)(hrun:g.status=.running)(hstep:∀ w₁,F8 ρ.ty ρ.Wg w w₁->stepG P true g w₁=.comm g₂ #[scase v.t (.int .i64 s) zs] true .send w₁ #[])(hS:Sits P true (fun _=>True) (fun _=>False) 0 (Seat.one ρ.come ρ.zi false Lm) n (g₂.finishComm P #[scase v.t (.int .i64 s) zs] .send (0:Nat) undef false)) :
    ∃ N gs' w' sl' T' ER Y7 Fy v' g0,runNT P N (crowd gs w sl) T=(.next (crowd gs' w' sl'),T')/\gs'.size=gs.size/\gs'[0]?=some (g0.finishComm P #[rcase ρ.come ρ.zi] (.recv false) 0 (.int .i64 v.k) true)/\Lm g0/\
      Lx M ρ P (ws.set i v') 0 ER Y7 w'/\OH M ρ P (ws.set i v') 0 Y7 ER Fy ex T' gs' w'/\Lv (ws.set i v') gs.size Fy/\
      v'.h=v.h/\v'.k=v.k/\v'.b=v.b/\v'.t=v.t/\v'.x=(M.hold v.x s σ).1/\v'.over=(M.hold v.x s σ).2.2/\v'.r=r/\M.Inv (M.hold v.x s σ).2.1 w'/\(∀ b,b≠ρ.Wg->(∃ c e f,w.heap[b]?=some (.cells c e f))->¬ v.own b->¬ M.Sh b->w'.heap[b]?=w.heap[b]?)/\
      w.heap.size<=w'.heap.size/\(∀ b,v'.own b->v.own b\/w.heap.size<=b)/\(∀ b0,b0<=ρ.Wg->b0<=ρ.come->b0<=v.t->Oo b0 w w'):=by
  obtain ⟨hpos,hk⟩:=C.pos i v hv;have E:=C.env;obtain ⟨⟨nv,hrv⟩,hbd⟩:=C.seats i v hv zOM hov;obtain ⟨ht1,ht2,kt,hkt⟩:=C.chan i v hv;obtain ⟨kc,Nv⟩:=C.come.2;have Qo:∀ {j:Nat} {u:EK X},ws[j]?=some u->u.h=v.h->j=i:=fun {j u} hu he=>C.apart j i u v hu hv (.inl he);have hA:After P ρ.ty ρ.Wg (Kc ρ ws) (M7 ws) bd (fun c=>c=ρ.gone) (LY ws v.h) (Hw ws v.h) role live 0 v.t w (g₂.finishComm P #[scase v.t (.int .i64 s) zs] .send (0:Nat) undef false) (.seat (Seat.one ρ.come ρ.zi false Lm) n):=by
    refine ⟨fun s m d e=>(by cases e),fun st n' e=>?_⟩;cases e
    rw [K0 C,St0 C,C.mY];refine ⟨hS,⟨by omega,.inl rfl⟩,Seat.one_wf _ _ _ _,.inl rfl,Nat.zero_le _,fun c hc=>?_,fun x st' n' c hx hr' hc hc'=>?_,trivial⟩
    . rw [Seat.one_has.1 hc];exact ⟨fun z=>ht1 z.symm,kc,Nv⟩
    . rw [Seat.one_has.1 hc] at hc' ⊢;rcases C.known x st' n' _ hr' hc' with h|⟨h,_⟩|⟨j,u,hu,_,h⟩
      . exact h
      . exact absurd h hx
      . exact absurd h.symm (C.chan j u hu).1
  have hO:Jr #[scase v.t (.int .i64 s) zs] 0 v.t (.int .i64 s) w:=⟨⟨zs,rfl⟩,fun m cc hm hc=>by
    rcases m with _|m
    . exact absurd rfl hm
    . simp at hc⟩
  obtain ⟨N1,m1,T1,q1,gs1,gj,w1,sl1,OB,Qj,rfl,q3,q4,q5,q6,q7,q8,q9⟩:=give (sl:=sl) (h:=0) (j:=v.h) (c:=v.t) (k:=0) (kk:=0) (v:=.int .i64 s) (es:=#[]) (Mem':=LY ws v.h) (Loose':=Hw ws v.h) (zj:=ρ.zi) E hKc hg hrun hstep (by simp) hO H (.inl rfl) zOM hrv rfl ht2
    (fun x hx=>by
      rcases hx with h|h|h
      . exact .inl h
      . exact .inr (.inr ⟨i,v,hv,h.symm,hov⟩)
      . exact .inr (.inr h))
    (fun x hx _=>by
      rcases hx with h|h|h
      . exact .inl h
      . exact .inl h
      . exact .inr (.inr h))
    (fun x hx hxj=>⟨hxj,hx.2⟩) (fun h=>h.1 rfl) hA
  have hblk1:∀ b,b≠ρ.Wg->(∃ c e f,w.heap[b]?=some (.cells c e f))->w1.heap[b]?=w.heap[b]?:=fun b hb ⟨c,e,f,hc⟩=>q7.block b hb fun z=>by subst z;rw [hkt] at hc;cases hc
  have RB:∀ {c k:Nat},w.heap[c]?=some (.chan 0 #[] false k k false)->c≠ρ.Wg:=fun {c k} hc z=>by subst z;obtain ⟨c',e,f,h⟩:=G6 H.JG.wg;rw [hc] at h;cases h
  have C1:Lx M ρ P ws v.h OB bd w1:=by
    refine C.turn (fun _=>⟨i,v,hv,rfl⟩) (fun j u hu hn ho=>?_) (fun x st n' c e hc=>?_) (fun j u hu _=>by have:=(C.pos j u hu).1;omega) hblk1 (Nat.le_of_eq q7.size.symm) (fun c k hc=>?_)
    . have hu0:u.h≠0:=by have:=(C.pos j u hu).1;omega
      obtain ⟨⟨n',h⟩,hb⟩:=C.seats j u hu hu0 ho;exact ⟨(q8 u.h).1 _ n' (by rw [upd_ne _ _ hu0,upd_ne _ _ hn];exact h),hb⟩
    . obtain ⟨n'',e'⟩:=q8.back e;by_cases hx0:x=0
      . subst hx0;rw [upd_same] at e';cases e'
        exact .inr (.inl ⟨rfl,Seat.one_has.1 hc⟩)
      . rw [upd_ne _ _ hx0] at e';by_cases hxv:x=v.h
        . subst hxv;rw [upd_same] at e';cases e'
        . rw [upd_ne _ _ hxv] at e';exact C.known x st n'' c e' hc
    . by_cases e:c=v.t
      . subst e;obtain ⟨k',_,h⟩:=q7.chan;exact ⟨k'+1,h⟩
      . exact ⟨k,by rw [q7.block c (RB hc) e];exact hc⟩
  have uE:M.Inv σ w1:=M.inv_eq _ _ _ (fun b hb=>.of (hblk1 b (C.sh b hb).1 (M.Qc _ _ b hb hInv))) hInv;have MN:aO M ρ v (holdB M v w1) w1.heap.size:=UE (G6 q6.JG.wg) (fun h=>(C1.own i v hv _ h).2.1 rfl) (fun h=>(C1.sh _ h).1 rfl);have Lh:∀ (j:Nat) (u:EK X),ws[j]?=some u->j≠i->∀ b,u.own b->holdB M v w1 b=true:=fun j u hu hne b hb=>by obtain ⟨a1,a2,a3,a4⟩:=C1.own j u hu b hb;exact Gm.2 ⟨a4,fun h=>hne (C.apart j i u v hu hv (.inr (.inr ⟨b,hb,h⟩))),a1⟩
  have VU:∀ b,ρ.Bo b=true->holdB M v w1 b=true:=fun b hb=>by
    obtain ⟨h1,h2⟩:=C1.old b hb;refine Gm.2 ⟨h2,fun h=>?_,fun h=>?_⟩
    . have:=(C1.own i v hv b h).2.2.1;rw [hb] at this;cases this
    . have:=(C1.sh b h).2;rw [hb] at this;cases this
  have hkeep:=C.keep i v hv zOM;have hJ:WJ M ρ P r ⟨v,holdB M v w1,w1.heap.size,M.hold v.x s σ⟩ (gj.finishComm P (Gb ρ v.t) .select 0 (.int .i64 s) true) w1:=by have hh:bK M ρ P (Yq M ρ P v.r) v gj:=q5.1;rw [hr] at hh;exact hh s σ w1 (holdB M v w1) MN KW (fun b hb=>(hkeep.1 b hb).trans (.of (hblk1 b (C.own i v hv b hb).2.1 (C.own i v hv b hb).2.2.2))) (Nat.le_trans hkeep.2.2 (Nat.le_of_eq q7.size.symm)) uE
  have hL1:Lv ws gs1.size Qj:=⟨fun j u hu=>by rw [q3];exact hL.lt j u hu,by rw [q9 0 (.inl rfl)];exact hL.zero,fun j u hu ho=>by
    have hu0:u.h≠0:=by have:=(C.pos j u hu).1;omega
    obtain ⟨⟨n',h⟩,_⟩:=C.seats j u hu hu0 ho;rw [q9 _ (.inr ⟨_,_,h⟩)];exact hL.one j u hu ho⟩
  obtain ⟨n0,h0⟩:=(q8 0).1 _ n (upd_same _ _ _);obtain ⟨N2,gs2,w2,sl2,T2,RI,bd2,Uu,v',g0,r1,r2,r3,r4,r5,r6,r7,a1,a2,a3,a4,a5,a6,a7,a8,a9,oz,eu,a12⟩:=RS (hcl:=hcl) (sl:=sl1) (γ:=⟨v,holdB M v w1,w1.heap.size,M.hold v.x s σ⟩) hv hov rfl C1 q6 hL1 MN KW VU Lh q4 hJ h0;refine ⟨N1+N2,gs2,w2,sl2,T2,RI,bd2,Uu,v',g0,runNT_then q1 r1,r2.trans q3,r3,r4,r5,r6,by rw [← q3];exact r7,a1,a2,a3,a4,a5,a6,a7,a8,fun b hb hrow ho hs=>?_,by rw [← q7.size];exact oz,fun b hb=>by rw [← q7.size];exact eu b hb,fun b0 h1 h2 h3=>(Oo.rgv h1 h3 q7).trans (a12 b0 h1 h2)⟩;have h1:=hblk1 b hb hrow;obtain ⟨c,e,f,hc⟩:=hrow;rw [a9 b (Gm.2 ⟨⟨c,e,f,h1.trans hc⟩,ho,hs⟩) hb];exact h1
end
end
end Go.LK
end
