/-
  Part 2 of the proof that CellMeets returns true, and leaves its arguments as they were, for every input whose reading is of bulk at most 1048576. No further condition.
-/
import Derived.Test.YticecinjcajmcaaR00
import Derived.StepT
import Derived.Laws.World
import Derived.Laws.Sem
import Derived.Conc.Events
set_option linter.unusedVariables false
set_option linter.unusedSectionVars false
set_option linter.unusedSimpArgs false
noncomputable section
namespace Go.LT
open Go
section
def WO:Mark->Prop
  | .noRoom=>True
  | .extern _=>True
  | _=>False
def Pv:Obj->Prop
  | .view ..=>False
  | .pending ..=>False
  | _=>True
def XE:Unsupported->Prop
  | .initOrder _=>False
  | _=>True
def rT:Halt->Prop
  | .panic _=>True
  | .stuck _=>True
  | .unsupported u=>XE u
  | _=>False
def F3 {α:Type}:Result α->Option ((α ⊕ Value) × World)
  | .ok a w=>some (.inl a,w)
  | .halt (.panic v) w=>some (.inr v,w)
  | _=>none
def Dead (P:Program){α:Type}(m:Sem α):Prop:=∀ w,F3 (m.run P w)=none
theorem Dead.bind {P:Program}{α β:Type}{m:Sem α}(h:Dead P m)(f:α->Sem β):Dead P (m.bind f):=by
  intro w;have hw:=h w;rw [Sem.run_bind'];generalize m.run P w=r at hw;cases r with
  | ok a w=>simp [F3] at hw
  | halt x w=>cases x <;> simp [F3] at hw <;> simp [Result.andThen,F3]
def Ed (P:Program){α:Type}(Q:α->Prop):Sem α->Prop
  | .pure a=>Q a
  | .load _ _ k=>∀ v,Ed P Q (k v)
  | .store _ _ _ k=>Ed P Q k
  | .new o k=>Pv o/\∀ r,Ed P Q (k r)
  | .shape _ k=>(∀ s,Ed P Q (k s))/\∀ e n,Dead P (k (some (e,0)))\/k (some (e,n))=k (some (e,0))
  | .freeze _ _ _=>False
  | .frozen _ k=>(∀ b,Ed P Q (k b))/\∀ w es,F3 ((k true).runT P w es).1≠none->(k false).runT P w es=(k true).runT P w es
  | .getObj _ k=>(∀ o,Ed P Q (k o))/\∀ c e,Dead P (k (.coro none))\/k (.pending c e)=k (.coro none)
  | .setObj _ _ _=>False
  | .choose _ k=>∀ n,Ed P Q (k n)
  | .sys _ _=>False
  | .program k=>Ed P Q (k P)
  | .mark m k=>WO m/\Ed P Q k
  | .halt h=>rT h
theorem YW {P:Program}{α β:Type}{m:Sem α}{f:α->Sem β}{w:World}{es:Array Event}(h:F3 ((m.bind f).runT P w es).1≠none):F3 (m.runT P w es).1≠none:=by
  intro hn;rw [Sem.runT_fst] at h hn;rw [Sem.run_bind'] at h;generalize m.run P w=r at h hn;cases r with
  | ok a w=>simp [F3] at hn
  | halt x w=>cases x <;> simp [F3] at hn <;> simp [Result.andThen,F3] at h
theorem Yh {P:Program}{α β:Type}{k:Bool->Sem α}{f:α->Sem β}(h:∀ w es,F3 ((k true).runT P w es).1≠none->(k false).runT P w es=(k true).runT P w es) :
    ∀ w es,F3 (((k true).bind f).runT P w es).1≠none->((k false).bind f).runT P w es=((k true).bind f).runT P w es:=by
  intro w es ho;have:=h w es (YW ho);rw [Sem.runT_bind',Sem.runT_bind',this]
theorem Ed.mono {P:Program}{α:Type}{Q Q':α->Prop}(h:∀ a,Q a->Q' a):∀ {m:Sem α},Ed P Q m->Ed P Q' m:=by
  intro m;induction m with
  | pure a=>exact h a
  | load m a k ih=>exact fun x v=>ih v (x v)
  | store m a v k ih=>exact ih
  | new o k ih=>exact fun x=>⟨x.1,fun r=>ih r (x.2 r)⟩
  | shape r k ih=>exact fun x=>⟨fun s=>ih s (x.1 s),x.2⟩
  | freeze a n k ih=>exact id
  | frozen a k ih=>exact fun x=>⟨fun b=>ih b (x.1 b),x.2⟩
  | getObj r k ih=>exact fun x=>⟨fun o=>ih o (x.1 o),x.2⟩
  | setObj r o k ih=>exact id
  | choose q k ih=>exact fun x n=>ih n (x n)
  | sys c k ih=>exact id
  | program k ih=>exact fun x=>ih P x
  | mark m k ih=>exact fun x=>⟨x.1,ih x.2⟩
  | halt x=>exact id
theorem D9 {P:Program}{α β:Type}{Q:β->Prop}{f:α->Sem β}:∀ {m:Sem α},Ed P (fun a=>Ed P Q (f a)) m->Ed P Q (m >>= f):=by
  intro m;induction m with
  | pure a=>exact id
  | load m a k ih=>exact fun x v=>ih v (x v)
  | store m a v k ih=>exact fun x=>ih x
  | new o k ih=>exact fun x=>⟨x.1,fun r=>ih r (x.2 r)⟩
  | shape r k ih=>exact fun x=>⟨fun s=>ih s (x.1 s),fun e n=>(x.2 e n).imp (fun h=>h.bind f) (fun h=>by show (k (some (e,n))).bind f=(k (some (e,0))).bind f;rw [h])⟩
  | freeze a n k ih=>exact id
  | frozen a k ih=>exact fun x=>⟨fun b=>ih b (x.1 b),Yh x.2⟩
  | getObj r k ih=>exact fun x=>⟨fun o=>ih o (x.1 o),fun c e=>(x.2 c e).imp (fun h=>h.bind f) (fun h=>by show (k (.pending c e)).bind f=(k (.coro none)).bind f;rw [h])⟩
  | setObj r o k ih=>exact id
  | choose q k ih=>exact fun x n=>ih n (x n)
  | sys c k ih=>exact id
  | program k ih=>exact fun x=>ih P x
  | mark m k ih=>exact fun x=>⟨x.1,ih x.2⟩
  | halt x=>exact id
def KZ:Obj->Obj
  | .cells _ e f=>.cells #[] e f
  | o=>o
def depend:Obj->Obj
  | .pending _ _=>.coro none
  | o=>o
theorem RJ {o:Obj}(h:Pv o):depend o=o:=by cases o <;> first | rfl | exact h.elim
structure Hid where
  hol:Nat->Bool
  JJ:Nat->Bool:=fun _=>false
instance:CoeFun Hid (fun _=>Nat->Bool):=⟨Hid.hol⟩
instance:Coe (Nat->Bool) Hid:=⟨fun f=>{ hol:=f }⟩
def dep (z:Bool):Obj->Obj
  | .cells c e f=>.cells c e (if z then (0,max c.size f.2) else f)
  | .pending _ _=>.coro none
  | o=>o
@[simp] theorem Ja:dep false=depend:=by funext o;cases o <;> rfl
def D7 (B:Hid)(w:World):World:={ w with heap:=w.heap.mapIdx fun i o=>if B i then KZ o else dep (B.JJ i) o }
structure Rows (B:Hid)(w:World):Prop where
  hol:∀ b,B b=true->∃ c e f,w.heap[b]?=some (.cells c e f)
  JJ:∀ b,B.JJ b=true->∃ c e f,w.heap[b]?=some (.cells c e f)
instance {B:Hid}{w:World}:CoeFun (Rows B w) (fun _=>∀ b,B b=true->∃ c e f,w.heap[b]?=some (.cells c e f)):=⟨Rows.hol⟩
section
variable {B:Hid}{w:World}
@[simp] theorem F9:(D7 B w).heap.size=w.heap.size:=by simp [D7]
theorem Ez (b:Nat):(D7 B w).heap[b]?=(w.heap[b]?).map fun o=>if B b then KZ o else dep (B.JJ b) o:=by simp [D7]
theorem EA {b:Nat}(h:B b=false):(D7 B w).heap[b]?=(w.heap[b]?).map (dep (B.JJ b)):=by simp [Ez,h]
theorem Gu {b:Nat}{c:Array Value}{e:TypeId}{f:Nat × Nat}(h:B b=true)(hb:w.heap[b]?=some (.cells c e f)):(D7 B w).heap[b]?=some (.cells #[] e f):=by simp [Ez,h,hb,KZ]
theorem I6 {a:Addr}(hR:Rows B w)(h:B a.block=true):(D7 B w).cell? a=none:=by obtain ⟨c,e,f,hc⟩:=hR _ h;simp [World.cell?,Gu h hc]
theorem ED {a:Addr}(h:B a.block=false):(D7 B w).cell? a=w.cell? a:=by
  simp only [World.cell?,EA h];cases w.heap[a.block]? with
  | none=>rfl
  | some o=>cases o <;> rfl
theorem Ie (hR:Rows B w){a:Addr}(hz:B a.block=true\/B.JJ a.block=false):(D7 B w).frozen? a=w.frozen? a:=by
  cases h:B a.block with
  | false=>
    have hz:B.JJ a.block=false:=by rcases hz with hz | hz <;> simp_all
    simp only [World.frozen?,EA h,hz,Ja];cases w.heap[a.block]? with
    | none=>rfl
    | some o=>cases o <;> rfl
  | true=>
    obtain ⟨c,e,f,hc⟩:=hR _ h;simp [World.frozen?,Gu h hc,hc]
theorem QN {a:Addr}(hf:w.frozen? a=true)(hR:Rows B w):(D7 B w).frozen? a=true:=by
  cases h:B a.block with
  | true=>rw [Ie hR (.inl h)];exact hf
  | false=>
    cases hz:B.JJ a.block with
    | false=>rw [Ie hR (.inr hz)];exact hf
    | true=>
      obtain ⟨c,e,f,hc⟩:=hR.JJ _ hz;simp only [World.frozen?,hc,EA h,hz,Option.map_some,dep,if_true] at hf ⊢;obtain ⟨lo,hi⟩:=f;simp only [Bool.and_eq_true,decide_eq_true_eq] at hf ⊢;omega
theorem Tt {a:Addr}{v:Value}(hR:Rows B w)(h:B a.block=false)(hz:B.JJ a.block=true)(hv:w.cell? a=some v):(D7 B w).frozen? a=true:=by
  obtain ⟨c,e,f,hc⟩:=hR.JJ _ hz;have hlt:a.off < c.size:=by
    simp only [World.cell?,hc] at hv;split at hv
    . cases hv
    . exact (zGE hv).1
  simp only [World.frozen?,EA h,hc,hz,Option.map_some,dep,if_true,Bool.and_eq_true,decide_eq_true_eq];omega
theorem Oq {a:Addr}(h:B a.block=false)(hz:B.JJ a.block=false)(v:Value):D7 B (w.setCell a v)=(D7 B w).setCell a v:=by
  have:(D7 B (w.setCell a v)).heap=((D7 B w).setCell a v).heap:=by
    apply Array.ext_getElem?;intro i;rw [Ez];simp only [World.setCell,Array.getElem?_modify,Ez];by_cases hi:a.block=i
    . subst hi;simp only [h,hz,Ja,Bool.false_eq_true,if_false,if_true,Option.map_map];congr 1
      funext o
      cases o <;> rfl
    . simp [hi]
  simp only [D7,World.setCell] at this ⊢;rw [this]
theorem Q5 {o:Obj}(ho:Pv o)(h:B w.heap.size=false)(hz:B.JJ w.heap.size=false):D7 B { w with heap:=w.heap.push o }={ D7 B w with heap:=(D7 B w).heap.push o }:=by
  have:(D7 B { w with heap:=w.heap.push o }).heap=(D7 B w).heap.push o:=by
    apply Array.ext_getElem?;intro i;rw [Ez];simp only [Array.getElem?_push,F9,Ez];by_cases hi:i=w.heap.size
    . subst hi;simp [h,hz,RJ ho]
    . simp [hi]
  simp only [D7] at this ⊢;rw [this]
theorem OU {r:Nat}{o:Obj}(ho:Pv o)(h:B r=false)(hz:B.JJ r=false):D7 B { w with heap:=w.heap.setIfInBounds r o }={ D7 B w with heap:=(D7 B w).heap.setIfInBounds r o }:=by
  have:(D7 B { w with heap:=w.heap.setIfInBounds r o }).heap=(D7 B w).heap.setIfInBounds r o:=by
    apply Array.ext_getElem?;intro i;rw [Ez];simp only [Array.getElem?_setIfInBounds,F9,Ez];by_cases hi:r=i
    . subst hi;by_cases hs:r < w.heap.size <;> simp [h,hz,hs,RJ ho]
    . simp [hi]
  simp only [D7] at this ⊢;rw [this]
end
theorem RU {v:Value}{bs:List UInt8}(h:v.bytes?=some bs):bs.length≠0:=by
  have le:∀ s n,(leBytes s n).length=s:=by
    intro s;induction s with
    | zero=>intro n;rfl
    | succ s ih=>intro n;simp [leBytes,ih]
  cases v <;> simp only [Value.bytes?,Option.some.injEq,reduceCtorEq] at h <;> subst h
  . simp
  . rename_i k n;rw [le];cases k <;> decide
  . rename_i k n;rw [le];cases k <;> decide
  . rename_i k a b;rw [List.length_append,le,le];cases k <;> decide
section
variable {B:Hid}{w:World}{P:Program}
theorem Qk {at_:Addr}(h:B at_.block=false)(hz:B.JJ at_.block=false)(u:TypeId)(k:Addr)(atomic:Bool):(D7 B w).seen P at_ u k atomic=w.seen P at_ u k atomic:=by
  unfold World.seen;rw [EA h,hz,Ja];cases w.heap[at_.block]? with
  | none=>rfl
  | some o=>cases o <;> rfl
theorem Vl {at_:Addr}(h:B at_.block=false)(hz:B.JJ at_.block=true)(u:TypeId)(k:Addr)(atomic:Bool):(D7 B w).seen P at_ u k atomic=(w.seen P at_ u k atomic).map fun r=>(r.1,r.2.1,(0,max r.1.size r.2.2.1.2),r.2.2.2):=by
  unfold World.seen;rw [EA h,hz];cases w.heap[at_.block]? with
  | none=>
            simp only [Option.map_none,bind,Except.bind,pure,Except.pure,throw,throwThe,MonadExceptOf.throw];repeat' split
            all_goals rfl
  | some o=>
    cases o <;> (simp only [Option.map_some,dep,if_true,bind,Except.bind,pure,Except.pure,throw,throwThe,MonadExceptOf.throw];repeat' split) <;> first | rfl | (simp_all [Except.map,throw,throwThe,MonadExcept.throw,MonadExceptOf.throw];done)
theorem XO {at_:Addr}(hR:Rows B w)(h:B at_.block=true)(u:TypeId)(k:Addr)(atomic:Bool)(r):(D7 B w).seen P at_ u k atomic≠.ok r:=by
  obtain ⟨c,e,f,hc⟩:=hR _ h;intro hr;unfold World.seen at hr;rw [Gu h hc] at hr;simp only [bind,Except.bind,pure,Except.pure] at hr;split at hr
  . cases hr
  . split at hr
    . rename_i like hl
      split at hr
      . rename_i size hs
        obtain ⟨bs,hb,rfl⟩:=Option.map_eq_some_iff.1 hs;have:=RU hb;split at hr
        . split at hr
          . cases hr
          . split at hr
            . split at hr
              . cases hr
              . rename_i cells hcells
                rw [seenCells] at hcells;rw [if_neg zOM] at hcells;simp only [] at hcells;split at hcells
                . cases hcells
                . split at hcells
                  . cases hcells
                  . simp at hcells
            . cases hr
        . cases hr
      . cases hr
    . cases hr
end
section
variable {B:Hid}{w:World}{P:Program}
theorem S9 {at_:Addr}(h:B at_.block=false)(u:TypeId)(k:Addr)(atomic:Bool):(D7 B w).viewLoad P at_ u k atomic=w.viewLoad P at_ u k atomic:=by
  unfold World.viewLoad;cases hz:B.JJ at_.block with
  | false=>rw [Qk h hz]
  | true=>
    rw [Vl h hz];cases w.seen P at_ u k atomic <;> rfl
theorem fA {at_:Addr}{u:TypeId}{k:Addr}{atomic:Bool}{r}(hr:w.seen P at_ u k atomic=.ok r):(∃ x,r.2.2.2.2.2=x :: r.2.2.2.2.2.tail)/\∀ c e f,w.heap[at_.block]?=some (.cells c e f)->r.1=c/\r.2.2.1=f:=by
  unfold World.seen at hr;simp only [bind,Except.bind,pure,Except.pure] at hr;split at hr
  . cases hr
  . split at hr
    . split at hr
      . rename_i size hs
        obtain ⟨bs,hb,rfl⟩:=Option.map_eq_some_iff.1 hs;have:=RU hb;split at hr
        . split at hr
          . split at hr
            . cases hr
            . split at hr
              . split at hr
                . cases hr
                . rename_i cells hcells
                  rw [seenCells] at hcells;rw [if_neg zOM] at hcells;simp only [] at hcells;have hne:∃ x,cells=x :: cells.tail:=by
                    cases cells with
                    | cons x l=>exact ⟨x,rfl⟩
                    | nil=>
                      exfalso
                      repeat' split at hcells
                      all_goals first | (cases hcells;done) | (simp only [Except.map] at hcells;split at hcells <;> cases hcells)
                  repeat' split at hr
                  all_goals first | (cases hr;done) | (cases hr;exact ⟨hne,fun c e f hc=>by simp_all⟩)
              . cases hr
          . cases hr
        . cases hr
      . cases hr
    . cases hr
theorem QS {at_:Addr}(hR:Rows B w)(h:B at_.block=false)(hz:B.JJ at_.block=true)(u:TypeId)(k:Addr)(v:Value)(atomic:Bool):∃ why,(D7 B w).viewStore P at_ u k v atomic=.error why:=by
  cases hvl:(D7 B w).viewStore P at_ u k v atomic with
  | error why=>exact ⟨why,rfl⟩
  | ok r=>
    exfalso
    unfold World.viewStore at hvl;rw [Vl h hz] at hvl;cases hse:w.seen P at_ u k atomic with
    | error e=>
      simp only [hse,Except.map,bind,Except.bind,pure,Except.pure,throw,throwThe,MonadExceptOf.throw] at hvl;split at hvl <;> cases hvl
    | ok q=>
      obtain ⟨⟨x,hx⟩,_⟩:=fA hse;obtain ⟨c,e,f,first,like,cells⟩:=q;simp only at hx;cases cells with
      | nil=>cases hx
      | cons y l=>
      clear hx;obtain ⟨i,s,bs⟩:=y;simp only [hse,Except.map,bind,Except.bind,pure,Except.pure,throw,throwThe,MonadExceptOf.throw] at hvl;simp only [List.foldlM_cons,bind,Except.bind,pure,Except.pure,throw,throwThe,MonadExceptOf.throw] at hvl;by_cases hi:i < c.size
      . have h1:(decide (0<=i) && decide (i < max c.size f.2))=true:=by simp;omega
        rw [h1] at hvl;clear h1;repeat' split at hvl
        all_goals first | (cases hvl;done) | (rename_i hq;simp only [MonadExcept.throw,throwThe,MonadExceptOf.throw,if_true] at hq;repeat' split at hq;all_goals first | (cases hq;done) | (rename_i hz';(split at hz' <;> cases hz');done) | (simp_all;done))
      . have h2:c[i]?=none:=Array.getElem?_eq_none zOM;rw [h2] at hvl;clear h2;simp only [MonadExcept.throw,throwThe,MonadExceptOf.throw] at hvl;split at hvl
        . cases hvl
        . split at hvl
          . split at hvl
            . cases hvl
            . split at hvl
              . cases hvl
              . rename_i hq
                split at hq
                . cases hq
                . rename_i hz'
                  split at hz'
                  . cases hz'
                  . split at hz' <;> cases hz'
          . cases hvl
end
theorem Qy {w:World}{a:Addr}{v:Value}(h:w.cell? a=some v):∃ c e f,w.heap[a.block]?=some (.cells c e f):=by
  unfold World.cell? at h;cases ho:w.heap[a.block]? with
  | none=>rw [ho] at h;simp at h
  | some o=>
    rw [ho] at h;cases o with
    | cells c e f=>exact ⟨c,e,f,rfl⟩
    | _=>simp at h
theorem EN {w:World}{a:Addr}{v:Value}(h:w.cell? a=some v):a.block < w.heap.size:=by obtain ⟨c,e,f,hc⟩:=Qy h;exact (zGE hc).1
theorem seen_cells {P:Program}{w:World}{at_:Addr}{u:TypeId}{k:Addr}{atomic:Bool}{r}(h:w.seen P at_ u k atomic=.ok r):∃ c e f,w.heap[at_.block]?=some (.cells c e f):=by
  unfold World.seen at h;simp only [bind,Except.bind,pure,Except.pure] at h;cases ho:w.heap[at_.block]? with
  | none=>
    rw [ho] at h;exfalso
    repeat' split at h
    all_goals first | (cases h;done) | (simp_all;done)
  | some o=>
    cases o with
    | cells c e f=>exact ⟨c,e,f,rfl⟩
    | _=>
      rw [ho] at h;exfalso
      repeat' split at h
      all_goals first | (cases h;done) | (simp_all;done)
theorem ji {P:Program}{w:World}{at_:Addr}{u:TypeId}{k:Addr}{atomic:Bool}{r}(h:w.seen P at_ u k atomic=.ok r):at_.block < w.heap.size:=by obtain ⟨c,e,f,hc⟩:=seen_cells h;exact (zGE hc).1
theorem IJ {α:Type}{r:Result α}{a:α}{w:World}(h:F3 r=some (.inl a,w)):r=.ok a w:=by
  cases r with
  | ok b w'=>simp [F3] at h;rw [h.1,h.2]
  | halt x w'=>cases x <;> simp [F3] at h
theorem K9 {α:Type}{r:Result α}{v:Value}{w:World}(h:F3 r=some (.inr v,w)):r=.halt (.panic v) w:=by
  cases r with
  | ok b w'=>simp [F3] at h
  | halt x w'=>cases x <;> simp [F3] at h;rw [h.1,h.2]
def IG (B:Hid)(n:Nat)(e:Event):Prop:=
  match e.loc with
  | .cell a=>B a.block=false/\a.block < n/\(e.write=true->B.JJ a.block=false)
  | .obj r=>B r=false/\r < n
  | .mark m=>WO m
  | _=>False
theorem IG.mono {B:Hid}{n n':Nat}{e:Event}(h:IG B n e)(hn:n<=n'):IG B n' e:=by
  obtain ⟨loc,wr,sy⟩:=e;cases loc <;> simp only [IG] at h ⊢
  . exact ⟨h.1,Nat.lt_of_lt_of_le h.2.1 hn,h.2.2⟩
  . exact ⟨h.1,Nat.lt_of_lt_of_le h.2 hn⟩
  . exact h
structure Kept (B:Hid)(w w':World):Prop where
  tape:w'.tape=w.tape
  os:w'.os=w.os
  output:w'.output=w.output
  drawn:w.drawn<=w'.drawn
  size:w.heap.size<=w'.heap.size
  block:∀ b,B b=true->w'.heap[b]?=w.heap[b]?
  objs:∀ (b:Nat) (o:Obj),w.heap[b]?=some o->(∀ c e f,o≠Obj.cells c e f)->w'.heap[b]?=some o
  pend:∀ (b:Nat) c e,w'.heap[b]?=some (Obj.pending c e)->w.heap[b]?=some (Obj.pending c e)
  still:∀ b,B.JJ b=true->w'.heap[b]?=w.heap[b]?
theorem Kept.refl (B:Hid)(w:World):Kept B w w:=⟨rfl,rfl,rfl,Nat.le_refl _,Nat.le_refl _,fun _ _=>rfl,fun _ _ h _=>h,fun _ _ _ h=>h,fun _ _=>rfl⟩
theorem Kept.trans {B:Hid}{w w' w'':World}(h:Kept B w w')(k:Kept B w' w''):Kept B w w'':=
  ⟨k.tape.trans h.tape,k.os.trans h.os,k.output.trans h.output,Nat.le_trans h.drawn k.drawn,Nat.le_trans h.size k.size,fun b hb=>(k.block b hb).trans (h.block b hb),fun b o ho hn=>k.objs b o (h.objs b o ho hn) hn,fun b c e hp=>h.pend b c e (k.pend b c e hp),fun b hb=>(k.still b hb).trans (h.still b hb)⟩
theorem Rows.kept {B:Hid}{w w':World}(h:Rows B w)(k:Kept B w w'):Rows B w':=⟨fun b hb=>by
  obtain ⟨c,e,f,hc⟩:=h b hb;exact ⟨c,e,f,by rw [k.block b hb];exact hc⟩,fun b hb=>by
  obtain ⟨c,e,f,hc⟩:=h.JJ b hb;exact ⟨c,e,f,by rw [k.still b hb];exact hc⟩⟩
theorem Rows.lt {B:Hid}{w:World}(h:Rows B w){b:Nat}(hb:B b=true):b < w.heap.size:=by obtain ⟨c,e,f,hc⟩:=h b hb;exact (zGE hc).1
theorem Rows.ltz {B:Hid}{w:World}(h:Rows B w){b:Nat}(hb:B.JJ b=true):b < w.heap.size:=by obtain ⟨c,e,f,hc⟩:=h.JJ b hb;exact (zGE hc).1
theorem Rows.above {B:Hid}{w:World}(h:Rows B w){b:Nat}(hb:w.heap.size<=b):B b=false:=by
  cases hB:B b with
  | false=>rfl
  | true=>have:=h.lt hB;omega
theorem Rows.lZ {B:Hid}{w:World}(h:Rows B w){b:Nat}(hb:w.heap.size<=b):B.JJ b=false:=by
  cases hB:B.JJ b with
  | false=>rfl
  | true=>have:=h.ltz hB;omega
section
variable {B:Hid}{P:Program}{α:Type}{Q:α->Prop}
def Through (B:Hid)(P:Program)(Q:α->Prop)(m:Sem α)(w:World)(es:Array Event):Prop:=
  ∀ x w1,F3 (m.runT P (D7 B w) es).1=some (x,w1)->∃ w2 es2,F3 (m.runT P w es).1=some (x,w2)/\w1=D7 B w2/\Kept B w w2/\(∀ a,x=.inl a->Q a)/\
    (m.runT P w es).2=es ++ es2/\(m.runT P (D7 B w) es).2=es ++ es2/\∀ e∈es2,IG B w2.heap.size e
theorem Through.step {m k:Sem α}{w w':World}{es es':Array Event}(hk:Kept B w w')(hs:m.runT P w es=k.runT P w' (es ++ es'))(hs':m.runT P (D7 B w) es=k.runT P (D7 B w') (es ++ es'))(he:∀ e∈es',IG B w'.heap.size e)(h:Through B P Q k w' (es ++ es')):Through B P Q m w es:=by
  intro x w1 hx;rw [hs'] at hx;obtain ⟨w2,es2,h1,h2,h3,h4,h5,h6,h7⟩:=h x w1 hx;refine ⟨w2,es' ++ es2,by rw [hs];exact h1,h2,hk.trans h3,h4,by rw [hs,h5,Array.append_assoc],by rw [hs',h6,Array.append_assoc],fun e hm=>?_⟩;rcases Array.mem_append.1 hm with h|h
  . exact (he e h).mono h3.size
  . exact h7 e h
theorem Through.step0 {m k:Sem α}{w w':World}{es:Array Event}(hk:Kept B w w')(hs:m.runT P w es=k.runT P w' es)(hs':m.runT P (D7 B w) es=k.runT P (D7 B w') es)(h:Through B P Q k w' es):Through B P Q m w es:=
  Through.step (es':=#[]) hk (by simpa [-Sem.runT_eq] using hs) (by simpa [-Sem.runT_eq] using hs') (by simp) (by simpa using h)
theorem Through.none {m:Sem α}{w:World}{es:Array Event}(h:F3 (m.runT P (D7 B w) es).1=none):Through B P Q m w es:=fun x w1 hx=>by rw [h] at hx;cases hx
theorem bW:∀ {m:Sem α} {w:World} {es:Array Event},Ed P Q m->Rows B w->Through B P Q m w es:=by
  intro m;induction m with
  | pure a=>
    intro w es ht hR x w1 hx;simp only [Sem.runT,F3,Option.some.injEq,Prod.mk.injEq] at hx;obtain ⟨rfl,rfl⟩:=hx;exact ⟨w,#[],rfl,rfl,Kept.refl B w,fun a e=>by cases e;exact ht,by simp [-Sem.runT_eq,Sem.runT],by simp [-Sem.runT_eq,Sem.runT],by simp⟩
  | load m a k ih=>
    intro w es ht hR;cases hB:B a.block with
    | true=>
      obtain ⟨c,e,f,hc⟩:=hR _ hB;refine Through.none ?_;simp [-Sem.runT_eq,Sem.runT,I6 hR hB,World.farLoad,Gu hB hc,World.noCell,F3]
    | false=>
      cases hv:w.cell? a with
      | some v=>
        exact Through.step (k:=k v) (es':=#[⟨.cell a,false,m == .atomic⟩]) (Kept.refl B w) (by simp [-Sem.runT_eq,Sem.runT,hv]) (by simp [-Sem.runT_eq,Sem.runT,ED hB,hv]) (by simp [IG,hB,EN hv]) (ih v (ht v) hR)
      | none=>
        have qN : (D7 B w).farLoad P a (m == .atomic) = .error ((D7 B w).noCell a "load: no such cell") \/ ∃ at_ u, w.heap[a.block]? = some (.view at_ u) /\ ((∃ why, (D7 B w).farLoad P a (m == .atomic) = .error (.unsupported (.unsafePointer why))) \/ ∃ v ts, (D7 B w).farLoad P a (m == .atomic) = .ok (v, ts) /\ w.farLoad P a (m == .atomic) = .ok (v, ts) /\ ∀ t ∈ ts, B t.block = false /\ t.block < w.heap.size) := by
          unfold World.farLoad;rw [EA hB];cases ho:w.heap[a.block]? with
          | none=>exact .inl rfl
          | some o=>
            cases o with
            | view at_ u=>
              refine .inr ⟨at_,u,rfl,?_⟩;simp only [Option.map_some,dep];cases hBa:B at_.block with
              | true=>
                left
                cases hvl:(D7 B w).viewLoad P at_ u a (m == .atomic) with
                | error why=>exact ⟨why,rfl⟩
                | ok r=>
                  exfalso
                  unfold World.viewLoad at hvl;cases hse:(D7 B w).seen P at_ u a (m == .atomic) with
                  | error e=>rw [hse] at hvl;cases hvl
                  | ok r=>exact XO hR hBa u a _ r hse
              | false=>
                have e:(D7 B w).viewLoad P at_ u a (m == .atomic)=w.viewLoad P at_ u a (m == .atomic):=S9 hBa _ _ _;rw [e];cases hvl:w.viewLoad P at_ u a (m == .atomic) with
                | error why=>exact .inl ⟨why,rfl⟩
                | ok r=>
                  refine .inr ⟨r.1,r.2,rfl,rfl,?_⟩;unfold World.viewLoad at hvl;cases hse:w.seen P at_ u a (m == .atomic) with
                  | error e=>rw [hse] at hvl;cases hvl
                  | ok q=>
                    obtain ⟨q1,q2,q3,q4,q5,q6⟩:=q;rw [hse] at hvl;simp only [bind,Except.bind,pure,Except.pure] at hvl;split at hvl
                    . cases hvl
                      intro t eG;obtain ⟨z,_,rfl⟩:=List.mem_map.1 eG;exact ⟨hBa,by have:=ji hse;exact this⟩
                    . cases hvl
            | _=>exact .inl rfl
        rcases qN with he|⟨at_,u,ho,⟨why,he⟩|⟨v,ts,he,he',hts⟩⟩
        . refine Through.none ?_;simp only [Sem.runT,ED hB,hv,he];unfold World.noCell;split <;> simp [F3]
        . exact Through.none (by simp [-Sem.runT_eq,Sem.runT,ED hB,hv,he,F3])
        . exact Through.step (k:=k v) (es':=ts.toArray.map (⟨.cell ·,false,m == .atomic⟩)) (Kept.refl B w) (by simp [-Sem.runT_eq,Sem.runT,hv,he']) (by simp [-Sem.runT_eq,Sem.runT,ED hB,hv,he])
            (fun e hm=>by obtain ⟨t,eG,rfl⟩:=Array.mem_map.1 hm;exact ⟨(hts t (by simpa using eG)).1,(hts t (by simpa using eG)).2,by simp⟩) (ih v (ht v) hR)
  | store m a v k ih=>
    intro w es ht hR;have hagg:(∃ cs,v=.agg cs)\/(∃ cs,v=.tuple cs)\/((∀ cs,v≠.agg cs)/\∀ cs,v≠.tuple cs):=by cases v <;> simp
    rcases hagg with ⟨cs,rfl⟩|⟨cs,rfl⟩|⟨n1,n2⟩
    . exact Through.none (by simp [-Sem.runT_eq,Sem.runT,F3])
    . exact Through.none (by simp [-Sem.runT_eq,Sem.runT,F3])
    have run:∀ w:World,(Sem.store m a v k).runT P w es=match w.cell? a with
        | some _ => if w.frozen? a then (.halt (.unsupported (.unsafePointer "a write to bytes that a string shares")) w, es) else k.runT P (w.setCell a v) (es.push ⟨.cell a, true, m == .atomic⟩)
        | none=>match w.farStore P a v (m == .atomic) with
          | .ok (w,touched)=>k.runT P w (es ++ touched.toArray.map (⟨.cell ·,true,m == .atomic⟩))
          | .error h=>(.halt h w,es):=by
      intro w;cases v <;> first | (exact absurd rfl (n1 _)) | (exact absurd rfl (n2 _)) | (simp only [Sem.runT] <;> rfl)
    cases hB:B a.block with
    | true=>
      obtain ⟨c,e,f,hc⟩:=hR _ hB;refine Through.none ?_;simp [-Sem.runT_eq,run,I6 hR hB,World.farStore,Gu hB hc,World.noCell,F3]
    | false=>
      cases hv:w.cell? a with
      | some v0=>
        cases hz:B.JJ a.block with
        | true=>exact Through.none (by simp [-Sem.runT_eq,run,ED hB,hv,Tt hR hB hz hv,F3])
        | false=>
        cases hf:w.frozen? a with
        | true=>exact Through.none (by simp [-Sem.runT_eq,run,ED hB,hv,Ie hR (.inr hz),hf,F3])
        | false=>
          have hk:Kept B w (w.setCell a v):=⟨rfl,rfl,rfl,Nat.le_refl _,by simp [World.setCell],fun b hb=>by
            have:a.block≠b:=by rintro rfl;rw [hB] at hb;cases hb
            simp [World.setCell,Array.getElem?_modify,this],fun b o ho hn=>by
            have:a.block≠b:=by rintro rfl;obtain ⟨c,e,f,hc⟩:=Qy hv;exact hn c e f (Option.some.inj (ho.symm.trans hc))
            simpa [World.setCell,Array.getElem?_modify,this] using ho,fun b c e hp=>by
            simp only [World.setCell,Array.getElem?_modify] at hp;split at hp
            . cases ho:w.heap[b]? with
              | none=>rw [ho] at hp;cases hp
              | some o=>
                rw [ho] at hp;cases o <;> simp at hp ⊢
                exact hp
            . exact hp,fun b hb=>by
            have:a.block≠b:=by rintro rfl;rw [hz] at hb;cases hb
            simp [World.setCell,Array.getElem?_modify,this]⟩
          exact Through.step (k:=k) (es':=#[⟨.cell a,true,m == .atomic⟩]) hk (by simp [-Sem.runT_eq,run,hv,hf]) (by simp [-Sem.runT_eq,run,ED hB,hv,Ie hR (.inr hz),hf,Oq hB hz]) (by have:=EN hv;simp [IG,hB,hz,World.setCell,this]) (ih ht (hR.kept hk))
      | none=>
        have qN:(∃ h,(D7 B w).farStore P a v (m == .atomic)=.error h/\∀ v,h≠.panic v)\/∃ w' ts,(D7 B w).farStore P a v (m == .atomic)=.ok (D7 B w',ts)/\w.farStore P a v (m == .atomic)=.ok (w',ts)/\Kept B w w'/\∀ t∈ts,B t.block=false/\t.block < w'.heap.size/\B.JJ t.block=false:=by
          unfold World.farStore;rw [EA hB];have hno:∀ (what:String) v,(D7 B w).noCell a what≠.panic v:=by intro what v;unfold World.noCell;split <;> simp
          cases ho:w.heap[a.block]? with
          | none=>exact .inl ⟨_,rfl,hno _⟩
          | some o=>
            cases o with
            | view at_ u=>
              simp only [Option.map_some,dep];cases hBa:B at_.block with
              | true=>
                left
                cases hvl:(D7 B w).viewStore P at_ u a v (m == .atomic) with
                | error why=>exact ⟨_,rfl,by simp⟩
                | ok r=>
                  exfalso
                  unfold World.viewStore at hvl;cases hse:(D7 B w).seen P at_ u a (m == .atomic) with
                  | error e=>
                    simp only [hse,bind,Except.bind,pure,Except.pure,throw,throwThe,MonadExceptOf.throw] at hvl;split at hvl <;> cases hvl
                  | ok r=>exact XO hR hBa u a _ r hse
              | false=>
                cases hz:B.JJ at_.block with
                | true=>
                  obtain ⟨why,he⟩:=QS (P:=P) hR hBa hz u a v (m == .atomic);exact .inl ⟨_,by rw [he],by simp⟩
                | false=>
                cases hvl:w.viewStore P at_ u a v (m == .atomic) with
                | error why=>
                  left
                  cases mX:(D7 B w).viewStore P at_ u a v (m == .atomic) with
                  | error Agd=>exact ⟨_,rfl,by simp⟩
                  | ok r=>
                    exfalso
                    unfold World.viewStore at hvl mX;rw [Qk hBa hz] at mX;simp only [bind,Except.bind,pure,Except.pure,throw,throwThe,MonadExceptOf.throw] at hvl mX;repeat' split at hvl
                    all_goals first | (cases hvl;done) | (simp_all;done)
                | ok r=>
                  right
                  obtain ⟨w',ts⟩:=r;have Aix:=hvl;have hsc:∃ c e f,w.heap[at_.block]?=some (.cells c e f):=by
                    unfold World.viewStore at hvl;cases hse:w.seen P at_ u a (m == .atomic) with
                    | error e=>
                      simp only [hse,bind,Except.bind,pure,Except.pure,throw,throwThe,MonadExceptOf.throw] at hvl;split at hvl <;> cases hvl
                    | ok r=>exact seen_cells hse
                  unfold World.viewStore at hvl;simp only [bind,Except.bind,pure,Except.pure,throw,throwThe,MonadExceptOf.throw] at hvl;have key:∃ c e f zG,w'={ w with heap:=w.heap.setIfInBounds at_.block (.cells c e f) }/\ts=zG/\(D7 B w).viewStore P at_ u a v (m == .atomic)=.ok ({ D7 B w with heap:=(D7 B w).heap.setIfInBounds at_.block (.cells c e f) },zG)/\∀ t∈zG,B t.block=false/\t.block=at_.block:=by
                    unfold World.viewStore;rw [Qk hBa hz];simp only [bind,Except.bind,pure,Except.pure,throw,throwThe,MonadExceptOf.throw];repeat' split at hvl
                    all_goals first
                      | (cases hvl;done)
                      | (cases hvl
                         refine ⟨_,_,_,_,rfl,rfl,?_,fun t eG=>by obtain ⟨z,_,rfl⟩:=List.mem_map.1 eG;exact ⟨hBa,rfl⟩⟩
                         simp_all)
                  obtain ⟨c,e,f,zG,rfl,rfl,hj,hts⟩:=key;obtain ⟨c0,e0,f0,hc0⟩:=hsc;have Abl:=(zGE hc0).1;refine ⟨_,_,?_,rfl,⟨rfl,rfl,rfl,Nat.le_refl _,by simp,fun b hb=>?_,fun b o ho hn=>?_,fun b c e hp=>?_,fun b hb=>?_⟩,fun t ht=>⟨(hts t ht).1,by rw [(hts t ht).2];simpa using Abl,by rw [(hts t ht).2];exact hz⟩⟩
                  . rw [hj];simp only [OU (o:=.cells _ _ _) trivial hBa hz]
                  . have:at_.block≠b:=by rintro rfl;rw [hBa] at hb;cases hb
                    simp [Array.getElem?_setIfInBounds,this]
                  . have:at_.block≠b:=by rintro rfl;exact hn c0 e0 f0 (Option.some.inj (ho.symm.trans hc0))
                    simpa [Array.getElem?_setIfInBounds,this] using ho
                  . simp only [Array.getElem?_setIfInBounds] at hp;split at hp
                    . first | (split at hp <;> cases hp) | cases hp
                    . exact hp
                  . have:at_.block≠b:=by rintro rfl;rw [hz] at hb;cases hb
                    simp [Array.getElem?_setIfInBounds,this]
            | _=>exact .inl ⟨_,rfl,hno _⟩
        rcases qN with ⟨h,he,hp⟩|⟨w',ts,he,he',hk,hts⟩
        . refine Through.none ?_;simp only [run,ED hB,hv,he];cases h <;> first | (exact absurd rfl (hp _)) | rfl
        . exact Through.step (k:=k) (es':=ts.toArray.map (⟨.cell ·,true,m == .atomic⟩)) hk (by simp [-Sem.runT_eq,run,hv,he']) (by simp [-Sem.runT_eq,run,ED hB,hv,he])
            (fun e hm=>by obtain ⟨t,eG,rfl⟩:=Array.mem_map.1 hm;exact ⟨(hts t (by simpa using eG)).1,(hts t (by simpa using eG)).2.1,fun _=>(hts t (by simpa using eG)).2.2⟩) (ih ht (hR.kept hk))
  | new o k ih=>
    intro w es ht hR;have hs:B w.heap.size=false:=hR.above (Nat.le_refl _);have hz:B.JJ w.heap.size=false:=hR.lZ (Nat.le_refl _);have hk:Kept B w { w with heap:=w.heap.push o }:=⟨rfl,rfl,rfl,Nat.le_refl _,by simp,fun b hb=>by
      have:=hR.lt hb;rw [Array.getElem?_push];simp [Nat.ne_of_lt this],fun b o' ho hn=>by
      have:=(zGE ho).1;rw [Array.getElem?_push]
      simpa [Nat.ne_of_lt this] using ho,fun b c e hp=>by
      simp only [Array.getElem?_push] at hp;split at hp
      . obtain rfl:=Option.some.inj hp;exact ht.1.elim
      . exact hp,fun b hb=>by
      have:=hR.ltz hb;rw [Array.getElem?_push];simp [Nat.ne_of_lt this]⟩
    exact Through.step0 (k:=k w.heap.size) hk (by simp [-Sem.runT_eq,Sem.runT]) (by simp only [Sem.runT,F9,Q5 ht.1 hs hz]) (ih _ (ht.2 _) (hR.kept hk))
  | shape r k ih=>
    intro w es ht hR;have e:Dead P (k ((D7 B w).shape? r))\/k ((D7 B w).shape? r)=k (w.shape? r):=by
      cases hB:B r with
      | false=>
        refine .inr ?_;simp only [World.shape?,EA hB];cases w.heap[r]? with
        | none=>rfl
        | some o=>cases o <;> rfl
      | true=>
        obtain ⟨c,e,f,hc⟩:=hR _ hB;simp only [World.shape?,Gu hB hc,hc];exact (ht.2 e c.size).imp id Eq.symm
    rcases e with e|e
    . exact Through.none (by simp only [Sem.runT];rw [Sem.runT_fst];exact e _)
    . exact Through.step0 (k:=k (w.shape? r)) (Kept.refl B w) (by simp [-Sem.runT_eq,Sem.runT]) (by simp only [Sem.runT];rw [e]) (ih _ (ht.1 _) hR)
  | freeze a n k ih=>exact fun ht=>ht.elim
  | frozen a k ih=>
    intro w es ht hR;by_cases he:(D7 B w).frozen? a=w.frozen? a
    . exact Through.step0 (k:=k (w.frozen? a)) (Kept.refl B w) (by simp [-Sem.runT_eq,Sem.runT]) (by simp only [Sem.runT,he]) (ih _ (ht.1 _) hR)
    . have h1:w.frozen? a=false:=by
        cases h:w.frozen? a with
        | false=>rfl
        | true=>exact absurd ((QN h hR).trans h.symm) he
      have h2:(D7 B w).frozen? a=true:=by
        cases h:(D7 B w).frozen? a with
        | true=>rfl
        | false=>exact absurd (h.trans h1.symm) he
      intro x w1 hx;have e1:(Sem.frozen a k).runT P w es=(k false).runT P w es:=by simp [-Sem.runT_eq,Sem.runT,h1]
      have e2:(Sem.frozen a k).runT P (D7 B w) es=(k true).runT P (D7 B w) es:=by simp [-Sem.runT_eq,Sem.runT,h2]
      rw [e2] at hx;have e3:=ht.2 (D7 B w) es (by rw [hx];simp);rw [← e3] at hx;obtain ⟨w2,es2,a1,a2,a3,a4,a5,a6,a7⟩:=ih false (ht.1 false) hR x w1 hx;exact ⟨w2,es2,by rw [e1];exact a1,a2,a3,a4,by rw [e1];exact a5,by rw [e2,← e3];exact a6,a7⟩
  | getObj r k ih=>
    intro w es ht hR;cases hB:B r with
    | true=>
      obtain ⟨c,e,f,hc⟩:=hR _ hB;exact Through.none (by simp [-Sem.runT_eq,Sem.runT,Gu hB hc,F3])
    | false=>
      cases ho:w.heap[r]? with
      | none=>exact Through.none (by simp [-Sem.runT_eq,Sem.runT,EA hB,ho,F3])
      | some o=>
        by_cases hc:∃ c e f,o=.cells c e f
        . obtain ⟨c,e,f,rfl⟩:=hc;exact Through.none (by simp [-Sem.runT_eq,Sem.runT,EA hB,ho,F3,dep])
        . have run:∀ (o:Obj) (w:World),(¬ ∃ c e f,o=.cells c e f)->w.heap[r]?=some o->(Sem.getObj r k).runT P w es=(k o).runT P w (es.push ⟨.obj r,false,o.isChan⟩):=by intro o w hc hw;cases o <;> first | (exact absurd ⟨_,_,_,rfl⟩ hc) | simp [-Sem.runT_eq,Sem.runT,hw]
          by_cases hp:∃ c e,o=.pending c e
          . obtain ⟨c,e,rfl⟩:=hp;have hh:(D7 B w).heap[r]?=some (.coro none):=by rw [EA hB,ho];rfl
            have rh:=run (.coro none) (D7 B w) (by rintro ⟨_,_,_,h⟩;cases h) hh;rcases ht.2 c e with hd|he
            . exact Through.none (by rw [rh,Sem.runT_fst];exact hd _)
            . exact Through.step (k:=k (.pending c e)) (es':=#[⟨.obj r,false,false⟩]) (Kept.refl B w) (by simpa [-Sem.runT_eq,Obj.isChan] using run _ w hc ho) (by rw [rh,he];simp [-Sem.runT_eq,Obj.isChan]) (by have:=(zGE ho).1;simp [IG,hB,this]) (ih _ (ht.1 _) hR)
          . have hd:dep (B.JJ r) o=o:=by cases o <;> first | rfl | exact absurd ⟨_,_,rfl⟩ hp | exact absurd ⟨_,_,_,rfl⟩ hc
            exact Through.step (k:=k o) (es':=#[⟨.obj r,false,o.isChan⟩]) (Kept.refl B w) (by simpa [-Sem.runT_eq] using run o w hc ho) (by simpa [-Sem.runT_eq] using run o _ hc ((EA hB).trans (by rw [ho,Option.map_some,hd]))) (by have:=(zGE ho).1;simp [IG,hB,this]) (ih _ (ht.1 _) hR)
  | setObj r o k ih=>exact fun ht=>ht.elim
  | choose q k ih=>
    intro w es ht hR;cases hq:q.forced with
    | true=>exact Through.step0 (k:=k 0) (Kept.refl B w) (by simp [-Sem.runT_eq,Sem.runT,hq]) (by simp [-Sem.runT_eq,Sem.runT,hq]) (ih _ (ht _) hR)
    | false=>
      have hk:Kept B w { w with drawn:=w.drawn+1 }:=⟨rfl,rfl,rfl,Nat.le_succ _,Nat.le_refl _,fun _ _=>rfl,fun _ _ h _=>h,fun _ _ _ h=>h,fun _ _=>rfl⟩
      exact Through.step0 (k:=k (q.cut (w.tape w.drawn q))) hk (by simp [-Sem.runT_eq,Sem.runT,hq]) (by simp [-Sem.runT_eq,Sem.runT,hq,D7]) (ih _ (ht _) (hR.kept hk))
  | sys c k ih=>exact fun ht=>ht.elim
  | program k ih=>
    intro w es ht hR;exact Through.step0 (k:=k P) (Kept.refl B w) (by simp [-Sem.runT_eq,Sem.runT]) (by simp [-Sem.runT_eq,Sem.runT]) (ih _ ht hR)
  | mark m k ih=>
    intro w es ht hR;exact Through.step (k:=k) (es':=#[⟨.mark m,false,true⟩]) (Kept.refl B w) (by simp [-Sem.runT_eq,Sem.runT]) (by simp [-Sem.runT_eq,Sem.runT]) (by simp [IG];exact ht.1) (ih ht.2 hR)
  | halt x=>
    intro w es ht hR x' w1 hx;cases x with
    | panic v=>
      simp only [Sem.runT,F3,Option.some.injEq,Prod.mk.injEq] at hx;obtain ⟨rfl,rfl⟩:=hx;exact ⟨w,#[],rfl,rfl,Kept.refl B w,(fun a e=>by cases e),by simp [-Sem.runT_eq,Sem.runT],by simp [-Sem.runT_eq,Sem.runT],by simp⟩
    | _=>simp [-Sem.runT_eq,Sem.runT,F3] at hx
end
end
end Go.LT
end
