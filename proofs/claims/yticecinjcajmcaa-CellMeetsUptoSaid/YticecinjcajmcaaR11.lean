/-
  Part 11 of the proof that CellMeets returns true, and leaves its arguments as they were, for every input whose reading is of bulk at most 1048576. No further condition.
-/
import Derived.Test.YticecinjcajmcaaR00
import Derived.Test.YticecinjcajmcaaR09
import Derived.Test.YticecinjcajmcaaR10
import Derived.Conc.Listed
import Derived.Conc.WgLib
import Derived.Conc.TokenWalk
import Derived.Conc.WgArith
import Derived.Conc.WgGenW
set_option linter.unusedVariables false
set_option linter.unusedSectionVars false
set_option linter.unusedSimpArgs false
noncomputable section
namespace Go.LT
open Go Go.Conc
section
def Alike (W W₁:World):Prop:=∃ τ d,W₁=sh W τ d
theorem Alike.refl (W:World):Alike W W:=⟨W.tape,W.drawn,rfl⟩
def GQ (B:Hid)(w W:World):Prop:=Alike (D7 B w) W/\Rows B w
def JV {Γ:Type}(B:Γ->Hid)(J:Γ->Goroutine->World->Prop)(γ:Γ)(g:Goroutine)(W:World):Prop:=∀ w,GQ (B γ) w W->J γ g w
structure Sy (P:Program)(main:Bool)(Γ:Type) where
  B:Γ->Hid
  J:Γ->Goroutine->World->Prop
  silent:∀ γ g g' W,g.status=.running->(∀ w,stepG P main g w=.go g' w #[])->JV B J γ g' W->JV B J γ g W
structure EL (P:Program)(main:Bool)(Γ:Type) where
  B:Γ->Hid
  R:Γ->World->World->Prop
  D:Γ->World->World->Array Event->Prop
  J:Γ->Goroutine->World->Prop
  refl:∀ γ w,R γ w w
  trans:∀ γ a b c,R γ a b->R γ b c->R γ a c
  turns:∀ γ w w₁,R γ w w₁->Turns (B γ) w w₁
  kept:∀ γ w w' es,Rows (B γ) w->Kept (B γ) w w'->(∀ e∈es,IG (B γ) w'.heap.size e)->D γ w w' es
  way:∀ γ g w,Way P main (R γ) (D γ) (J γ) g w->J γ g w
theorem EL.turn {P:Program}{main:Bool}{Γ:Type}(S:EL P main Γ){γ:Γ}{W w w₁:World}(h:GQ (S.B γ) w W)(hr:S.R γ w w₁):GQ (S.B γ) w₁ W:=by obtain ⟨⟨τ,d,rfl⟩,hR⟩:=h;have ht:=S.turns _ _ _ hr;exact ⟨⟨τ,d,by rw [ht.same];rfl⟩,ht.rows hR⟩
theorem EL.step {P:Program}{main:Bool}{Γ:Type}(S:EL P main Γ){γ:Γ}{W:World}{g:Goroutine}(hs:g.status=.running)(h:∀ w,GQ (S.B γ) w W->∃ g' w' es,stepG P main g w=.go g' w' es/\Kept (S.B γ) w w'/\(∀ e∈es,IG (S.B γ) w'.heap.size e)/\∃ W',GQ (S.B γ) w' W'/\JV S.B S.J γ g' W'):JV S.B S.J γ g W:=by intro w hw;refine S.way _ _ _ (.one hs fun w₁ h₁=>?_);obtain ⟨g',w',es,e1,e2,e3,W',e4,e5⟩:=h w₁ (S.turn hw h₁);exact ⟨g',w',es,e1,S.kept _ _ _ _ (S.turn hw h₁).2 e2 e3,.stop fun w₂ h₂=>e5 w₂ (S.turn e4 h₂)⟩
def EL.base {P:Program}{main:Bool}{Γ:Type}(S:EL P main Γ):Sy P main Γ where
  B:=S.B
  J:=S.J
  silent:=fun γ g g' W hs h hJ=>S.step hs fun w hw=>⟨g',w,#[],h w,Kept.refl _ _,by simp,W,hw,hJ⟩
section
variable {P:Program}{main:Bool}{Γ:Type}(S:Sy P main Γ)
abbrev JW (γ:Γ)(g:Goroutine)(W:World):Prop:=JV S.B S.J γ g W
def After (fn:FuncId)(κ:CallKind)(k:List Item)(cs:List Frame)(e:Exit)(a:Act)(γ:Γ)(W:World):Prop:=
  match e with
  | .normal=>JW S γ (G (FT fn a.tmps k a.defers .run κ) cs) W
  | .exit id=>∃ k',exitTo id k=some k'/\JW S γ (G (FT fn a.tmps k' a.defers .run κ) cs) W
  | .goto l=>∃ k',gotoIn l k=some k'/\JW S γ (G (FT fn a.tmps k' a.defers .run κ) cs) W
  | .ret=>∀ Y,JW S γ (G (FT fn a.tmps Y a.defers .returning κ) cs) W
  | .panic ch=>∀ Y,JW S γ (G (FT fn a.tmps Y a.defers (.panicking ch) κ) cs) W
  | .outgrown=>False
abbrev Post (Γ:Type):=Exit->Act->Γ->World->Prop
def Runs (L:FuncId->Prop)(c:Code)(Q:Post Γ)(a:Act)(γ:Γ)(W:World):Prop:=
  ∀ fn κ k cs,L fn->κ≠.early->(∀ e a' γ' W',Q e a' γ' W'->After S fn κ k cs e a' γ' W')->JW S γ (G (FT fn a.tmps (.code c :: k) a.defers .run κ) cs) W
def QB (L:FuncId->Prop)(ops:Array Oper)(l:List Nat)(Q:Post Γ)(a:Act)(γ:Γ)(W:World):Prop:=
  ∀ fn κ k cs,L fn->κ≠.early->(∀ e a' γ' W',Q e a' γ' W'->After S fn κ k cs e a' γ' W')->JW S γ (G (FT fn a.tmps (.inRegion ops l :: k) a.defers .run κ) cs) W
def MP (f:FuncId)(args:Array Value)(γ:Γ)(W:World)(R:Ending->Γ->World->Prop):Prop:=
  ∀ c cs,(∀ v γ' W',R (.returned v) γ' W'->JW S γ' (G (c.finish v) cs) W')->(∀ ch γ' W',R (.panicked ch) γ' W'->JW S γ' (G (c.raise ch) cs) W')->JW S γ (G (Frame.enter P f args .normal) (c :: cs)) W
end
section
variable {P:Program}{main:Bool}{Γ:Type}{S:Sy P main Γ}{L:FuncId->Prop}{γ:Γ}{W:World}{a:Act}{Q Q':Post Γ}
theorem JW.tape {W₁:World}{g:Goroutine}(h:JW S γ g W)(hW:Alike W W₁):JW S γ g W₁:=by
  rintro w ⟨⟨τ,d,e⟩,hR⟩;obtain ⟨τ',d',rfl⟩:=hW;refine h w ⟨⟨W.tape,W.drawn,?_⟩,hR⟩;show W={ D7 (S.B γ) w with tape:=W.tape,drawn:=W.drawn }
  have:sh (sh W τ' d') W.tape W.drawn=sh (sh (D7 (S.B γ) w) τ d) W.tape W.drawn:=by rw [e]
  exact this
theorem JW.silent {g g':Goroutine}(hs:g.status=.running)(h:∀ w,stepG P main g w=.go g' w #[])(hJ:JW S γ g' W):JW S γ g W:=S.silent γ g g' W hs h hJ
theorem Runs.mono {c:Code}(h:Runs S L c Q a γ W)(hq:∀ e a γ W,Q e a γ W->Q' e a γ W):Runs S L c Q' a γ W:=fun fn κ k cs hf hk hA=>h fn κ k cs hf hk fun e a' γ' W' q=>hA _ _ _ _ (hq _ _ _ _ q)
def Exit.andThen (next:Act->Γ->World->Prop)(Q:Post Γ):Post Γ
  | .normal,a,γ,W=>next a γ W
  | e,a,γ,W=>Q e a γ W
theorem Runs.seq {x y:Code}(h:Runs S L x (Exit.andThen (Runs S L y Q) Q) a γ W):Runs S L (.seq x y) Q a γ W:=fun fn κ k cs hf hk hA=>
  .silent rfl (g':=G (FT fn a.tmps (.code x :: .code y :: k) a.defers .run κ) cs) (fun w=>by simp [G,stepG,stepG.exec]) (h fn κ (.code y :: k) cs hf hk fun e a' γ' W' q=>by
    cases e with
    | normal=>exact q fn κ k cs hf hk hA
    | exit id=>obtain ⟨k',h1,h2⟩:=hA _ _ _ _ q;exact ⟨k',by simpa [exitTo] using h1,h2⟩
    | goto l=>obtain ⟨k',h1,h2⟩:=hA _ _ _ _ q;exact ⟨k',by simpa [gotoIn] using h1,h2⟩
    | ret=>exact hA _ _ _ _ q
    | panic ch=>exact hA _ _ _ _ q
    | outgrown=>exact hA _ _ _ _ q)
theorem Runs.cond {c:Operand}{x y:Code}{t:Bool}(hc:a.eval c=.bool t)(h:Runs S L (if t then x else y) Q a γ W):Runs S L (.cond c x y) Q a γ W:=fun fn κ k cs hf hk hA=>
  .silent rfl (g':=G (FT fn a.tmps (.code (if t then x else y) :: k) a.defers .run κ) cs) (fun w=>by
    have he:Frame.eval (FT fn a.tmps (.code (.cond c x y) :: k) a.defers .run κ) c=.bool t:=by rw [← hc];cases c <;> rfl
    simp only [FT] at he;simp [G,stepG,stepG.exec,he]) (h fn κ k cs hf hk hA)
theorem Runs.skip (h:Q .normal a γ W):Runs S L .skip Q a γ W:=fun fn κ k cs hf hk hA=>.silent rfl (g':=G (FT fn a.tmps k a.defers .run κ) cs) (fun w=>by simp [G,stepG,stepG.exec]) (hA _ _ _ _ h)
theorem Runs.ret (h:Q .ret a γ W):Runs S L .ret Q a γ W:=fun fn κ k cs hf hk hA=>.silent rfl (g':=G (FT fn a.tmps (.code .ret :: k) a.defers .returning κ) cs) (fun w=>by simp [G,stepG,stepG.exec]) (hA _ _ _ _ h _)
theorem Runs.exit {id:Nat}(h:Q (.exit id) a γ W):Runs S L (.exit id) Q a γ W:=fun fn κ k cs hf hk hA=>by obtain ⟨k',h1,h2⟩:=hA _ _ _ _ h;exact .silent rfl (g':=G (FT fn a.tmps k' a.defers .run κ) cs) (fun w=>by simp [G,stepG,stepG.exec,h1]) h2
def Exit.within (id:Nat)(Q:Post Γ):Post Γ
  | .exit id',a,γ,W=>if id'=id then Q .normal a γ W else Q (.exit id') a γ W
  | e,a,γ,W=>Q e a γ W
theorem Runs.block {id:Nat}{c:Code}(h:Runs S L c (Exit.within id Q) a γ W):Runs S L (.block id c) Q a γ W:=fun fn κ k cs hf hk hA=>
  .silent rfl (g':=G (FT fn a.tmps (.code c :: .inBlock id :: k) a.defers .run κ) cs) (fun w=>by simp [G,stepG,stepG.exec]) (h fn κ (.inBlock id :: k) cs hf hk fun e a' γ' W' q=>by
    cases e with
    | normal=>exact .silent rfl (g':=G (FT fn a'.tmps k a'.defers .run κ) cs) (fun w=>by simp [G,stepG,stepG.exec]) (hA _ _ _ _ (show Q .normal a' γ' W' from q))
    | exit id'=>
      by_cases hid:id'=id
      . have q:Q .normal a' γ' W':=by simpa [Exit.within,hid] using q
        exact ⟨k,by simp [exitTo,hid],hA _ _ _ _ q⟩
      . have q:Q (.exit id') a' γ' W':=by simpa [Exit.within,hid] using q
        obtain ⟨k',h1,h2⟩:=hA _ _ _ _ q;exact ⟨k',by
                      have:(id == id')=false:=by simp;exact fun h=>hid h.symm
                      simpa [exitTo,this] using h1,h2⟩
    | goto l=>obtain ⟨k',h1,h2⟩:=hA _ _ _ _ (show Q (.goto l) a' γ' W' from q);exact ⟨k',by simpa [gotoIn] using h1,h2⟩
    | ret=>exact hA _ _ _ _ (show Q .ret a' γ' W' from q)
    | panic ch=>exact hA _ _ _ _ (show Q (.panic ch) a' γ' W' from q)
    | outgrown=>exact hA _ _ _ _ (show Q .outgrown a' γ' W' from q))
theorem Runs.loop {c:Code}(I:Nat->Act->Γ->World->Prop){n:Nat}(h0:I n a γ W)(h:∀ n a γ W,I n a γ W->Runs S L c (Exit.andThen (fun a' γ' W'=>∃ m,m < n/\I m a' γ' W') Q) a γ W):Runs S L (.loop c) Q a γ W:=fun fn κ k cs hf hk hA=>by
  have key:∀ n a γ W,I n a γ W->JW S γ (G (FT fn a.tmps (.code c :: .inLoop c :: k) a.defers .run κ) cs) W:=by
    intro n;induction n using Nat.strongRecOn with
    | _ n ih=>
      intro a γ W hI;refine h n a γ W hI fn κ (.inLoop c :: k) cs hf hk fun e a' γ' W' q=>?_;cases e with
      | normal=>
        obtain ⟨m,hm,hI'⟩:=q;exact .silent rfl (g':=G (FT fn a'.tmps (.code c :: .inLoop c :: k) a'.defers .run κ) cs) (fun w=>by simp [G,stepG,stepG.exec]) (ih m hm _ _ _ hI')
      | exit id=>obtain ⟨k',h1,h2⟩:=hA _ _ _ _ q;exact ⟨k',by simpa [exitTo] using h1,h2⟩
      | goto l=>obtain ⟨k',h1,h2⟩:=hA _ _ _ _ q;exact ⟨k',by simpa [gotoIn] using h1,h2⟩
      | ret=>exact hA _ _ _ _ q
      | panic ch=>exact hA _ _ _ _ q
      | outgrown=>exact hA _ _ _ _ q
  exact .silent rfl (g':=G (FT fn a.tmps (.code c :: .inLoop c :: k) a.defers .run κ) cs) (fun w=>by simp [G,stepG,stepG.exec]) (key n a γ W h0)
theorem Runs.region {id:Nat}{ops:Array Oper}(h:QB S L ops (List.range ops.size) Q a γ W):Runs S L (.region id ops false) Q a γ W:=fun fn κ k cs hf hk hA=>
  .silent rfl (g':=G (FT fn a.tmps (.inRegion ops (List.range ops.size) :: k) a.defers .run κ) cs) (fun w=>by simp [G,stepG,stepG.exec]) (h fn κ k cs hf hk hA)
theorem QB.nil {ops:Array Oper}(h:Q .normal a γ W):QB S L ops [] Q a γ W:=fun fn κ k cs hf hk hA=>
  .silent rfl (g':=G (FT fn a.tmps k a.defers .run κ) cs) (fun w=>by simp [G,stepG,stepG.exec]) (hA _ _ _ _ h)
theorem QB.skip {ops:Array Oper}{i:Nat}{rest:List Nat}{o:Oper}(ho:ops[i]?=some o)(hw:Region.wanted o (yielded ops a.tmps)=false)(h:QB S L ops rest Q (a.put o.dst undef) γ W):QB S L ops (i :: rest) Q a γ W:=fun fn κ k cs hf hk hA=>
  .silent rfl (g':=G (FT fn (a.put o.dst undef).tmps (.inRegion ops rest :: k) (a.put o.dst undef).defers .run κ) cs) (fun w=>by obtain ⟨dst,op,type,pos,after,guard⟩:=o;cases dst <;> simp [G,stepG,stepG.exec,ho,hw,Frame.finish,Act.put]) (h fn κ k cs hf hk hA)
theorem stepG_op {fn:FuncId}{κ:CallKind}{k:List Item}{cs:List Frame}{ops:Array Oper}{i:Nat}{rest:List Nat}{o:Oper}(ho:ops[i]?=some o)(hw:Region.wanted o (yielded ops a.tmps)=true)(m:Bool)(w:World) :
    stepG P m (G (FT fn a.tmps (.inRegion ops (i :: rest) :: k) a.defers .run κ) cs) w=stepG.apply P true (FT fn a.tmps (.inRegion ops (i :: rest) :: k) a.defers .run κ) cs none (execOp a.eval o) w:=by
  have he:Frame.eval (FT fn a.tmps (.inRegion ops (i :: rest) :: k) a.defers .run κ)=a.eval:=funext fun z=>by cases z <;> rfl
  rw [← he];obtain ⟨dst,op,type,pos,after,guard⟩:=o;simp [G,stepG,stepG.exec,stepG.oper,Frame.oper?,ho,hw]
theorem MW {fn:FuncId}{κ:CallKind}{k:List Item}{ops:Array Oper}{i:Nat}{rest:List Nat}{o:Oper}(ho:ops[i]?=some o)(v:Value) :
    Frame.finish (FT fn a.tmps (.inRegion ops (i :: rest) :: k) a.defers .run κ) v=FT fn (a.put o.dst v).tmps (.inRegion ops rest :: k) (a.put o.dst v).defers .run κ:=by
  obtain ⟨dst,op,type,pos,after,guard⟩:=o;cases dst <;> simp [Frame.finish,Act.put,ho]
theorem QB.value {ops:Array Oper}{i:Nat}{rest:List Nat}{o:Oper}{v:Value}(ho:ops[i]?=some o)(hw:Region.wanted o (yielded ops a.tmps)=true)(hv:∀ w,(execOp a.eval o).runT P w #[]=(.ok (.value v) w,#[]))(h:QB S L ops rest Q (a.put o.dst v) γ W):QB S L ops (i :: rest) Q a γ W:=fun fn κ k cs hf hk hA=>
  .silent rfl (g':=G (FT fn (a.put o.dst v).tmps (.inRegion ops rest :: k) (a.put o.dst v).defers .run κ) cs) (fun w=>by rw [stepG_op ho hw];unfold stepG.apply;simp only [if_true,hv w];rw [MW ho];cases κ <;> rfl) (h fn κ k cs hf hk hA)
theorem QB.call {ops:Array Oper}{i:Nat}{rest:List Nat}{o:Oper}{f:FuncId}{args:Array Value}(ho:ops[i]?=some o)(hw:Region.wanted o (yielded ops a.tmps)=true)(hv:∀ w,(execOp a.eval o).runT P w #[]=(.ok (.enter f args) w,#[]))(h:MP S f args γ W fun
      | .returned v,γ',W'=>QB S L ops rest Q (a.put o.dst v) γ' W'
      | .panicked ch,γ',W'=>Q (.panic ch) a γ' W'
      | .outgrown,_,_=>False):QB S L ops (i :: rest) Q a γ W:=fun fn κ k cs hf hk hA=>
  .silent rfl (g':=G (Frame.enter P f args .normal) (FT fn a.tmps (.inRegion ops (i :: rest) :: k) a.defers .run κ :: cs)) (fun w=>by
    rw [stepG_op ho hw];unfold stepG.apply;simp only [if_true,hv w];cases κ <;> rfl) (h _ _ (fun v γ' W' hR=>by rw [MW ho];exact hR fn κ k cs hf hk hA) fun ch γ' W' hR=>hA _ _ _ _ hR _)
theorem QB.defer {ops:Array Oper}{i:Nat}{rest:List Nat}{o:Oper}{d:Deferred}(ho:ops[i]?=some o)(hw:Region.wanted o (yielded ops a.tmps)=true)(hv:∀ w,(execOp a.eval o).runT P w #[]=(.ok (.defer d) w,#[]))(h:QB S L ops rest Q ({ a with defers:=d :: a.defers }.put o.dst undef) γ W):QB S L ops (i :: rest) Q a γ W:=fun fn κ k cs hf hk hA=>
  .silent rfl (g':=G (FT fn ({ a with defers:=d :: a.defers }.put o.dst undef).tmps (.inRegion ops rest :: k) ({ a with defers:=d :: a.defers }.put o.dst undef).defers .run κ) cs) (fun w=>by rw [stepG_op ho hw];unfold stepG.apply;simp only [if_true,hv w];have:=MW (a:={ a with defers:=d :: a.defers }) (fn:=fn) (κ:=κ) (k:=k) (rest:=rest) ho undef;simp only [FT] at this ⊢;rw [this];cases κ <;> rfl) (h fn κ k cs hf hk hA)
end
section
variable [Host]
variable {P:Program}{main:Bool}{Γ:Type}{S:EL P main Γ}{L:List FuncId}{γ:Γ}{W:World}{a:Act}{Q Q':Post Γ}
def lC (Q:Post Γ)(ds:List Deferred)(γ:Γ)(e:Exit)(a:Act)(W:World):Prop:=
  match e with
  | .normal=>Q .normal ⟨a.tmps,ds⟩ γ W
  | .ret=>Q .ret ⟨a.tmps,ds⟩ γ W
  | .panic ch=>Q (.panic ch) ⟨a.tmps,ds⟩ γ W
  | _=>False
def wD (next:Act->World->Prop)(Q:Post Γ)(ds:List Deferred)(γ:Γ)(e:Exit)(a:Act)(W:World):Prop:=
  match e with
  | .normal=>next ⟨a.tmps,ds⟩ W
  | .panic ch=>Q (.panic ch) ⟨a.tmps,ds⟩ γ W
  | _=>False
theorem Runs.lone (hL:∀ f∈L,Lets P f){c:Code}(hc:Gg P c=true)(h:∀ W₁,Alike W W₁->c.wpIn (Fence.list L none) 0 P (lC Q a.defers γ) ⟨a.tmps,[]⟩ W₁):Runs S.base (·∈L) c Q a γ W:=by
  intro fn κ k cs hf hk hA w hw;refine S.way _ _ _ ((aG (R:=S.R γ) (D:=S.D γ) (F:=(·∈L)) (Fn:=Fence.list L none) (n:=0) (Q:=lC Q a.defers γ) (S.turns γ) (S.kept γ) hL (fun _ h=>h) rfl rfl rfl hf hk hc (k:=k) (ds:=a.defers) (cs:=cs) hw.2 (fun e a w q=>?_) fun τ=>?_).mono fun g w' hst=>?_)
  . cases e with
    | normal=>exact .inl rfl
    | ret=>exact .inr (.inl rfl)
    | panic ch=>exact .inr (.inr ⟨ch,rfl⟩)
    | _=>exact q.elim
  . obtain ⟨⟨τ',d',rfl⟩,_⟩:=hw;exact h _ ⟨τ,0,rfl⟩
  . obtain ⟨e,tm',τ,d,hR,hq,hg⟩:=hst;have hs:GQ (S.B γ) w' (sh (D7 (S.B γ) w') τ d):=⟨⟨τ,d,rfl⟩,hR⟩
    cases e with
    | normal=>exact hg ▸ hA _ _ _ _ hq w' hs
    | ret=>obtain ⟨Y,rfl⟩:=hg;exact hA _ _ _ _ hq Y w' hs
    | panic ch=>obtain ⟨Y,rfl⟩:=hg;exact hA _ _ _ _ hq Y w' hs
    | _=>exact hq.elim
theorem Alike.trans {W W₁ W₂:World}(h:Alike W W₁)(h':Alike W₁ W₂):Alike W W₂:=by obtain ⟨τ,d,rfl⟩:=h;obtain ⟨τ',d',rfl⟩:=h';exact ⟨τ',d',rfl⟩
theorem Alike.symm {W W₁:World}(h:Alike W W₁):Alike W₁ W:=by obtain ⟨τ,d,rfl⟩:=h;exact ⟨W.tape,W.drawn,rfl⟩
theorem Ms {Fn:Fence}{n:Nat}{ops:Array Oper}{R:Exit->Act->World->Prop}(l:List Oper):∀ j,(∀ i o,l[i]?=some o->ops[j+i]?=some o)->wpOpsIn Fn n P ops R (List.range' j l.length)=wpListIn Fn n P ops R l:=by
  induction l with
  | nil=>intro j _;funext a w;simp [wpOpsIn,wpListIn]
  | cons o l ih=>
    intro j h;have h0:ops[j]?=some o:=by simpa using h 0 o rfl
    have ih':=ih (j+1) (fun i o ho=>by have:=h (i+1) o (by simpa using ho);simpa [Nat.add_assoc,Nat.add_comm 1 i] using this)
    funext a w
    simp only [List.length_cons,List.range'_succ,wpOpsIn,h0,wpListIn,ih']
theorem QB.lone (hL:∀ f∈L,Lets P f){ops:Array Oper}{j:Nat}(l:List Oper){rest:List Nat}(hl:∀ i o,l[i]?=some o->ops[j+i]?=some o)(hok:l.all (J5 P)=true)(h:∀ W₁,Alike W W₁->wpListIn (Fence.list L none) 0 P ops (wD (fun a' W'=>QB S.base (·∈L) ops rest Q a' γ W') Q a.defers γ) l ⟨a.tmps,[]⟩ W₁):QB S.base (·∈L) ops (List.range' j l.length ++ rest) Q a γ W:=by
  intro fn κ k cs hf hk hA w hw;have zT:FH P (.inRegion ops (List.range' j l.length))=true:=by show ((List.range' j l.length).all fun i=>(ops[i]?).all (J5 P))=true;rw [List.all_eq_true] at hok ⊢;intro i hi;obtain ⟨m,hm,rfl⟩:=List.mem_range'.1 hi;have hlo:l[m]?=some l[m]:=List.getElem?_eq_getElem hm;have:=hl m _ hlo;simp only [Nat.one_mul,this,Option.all_some];exact hok _ (List.getElem_mem hm)
  refine S.way _ _ _ ((SL (R:=S.R γ) (D:=S.D γ) (F:=(·∈L)) (Fn:=Fence.list L none) (n:=0) (Q:=wD (fun a' W'=>QB S.base (·∈L) ops rest Q a' γ W') Q a.defers γ) (S.turns γ) (S.kept γ) hL (fun _ h=>h) rfl rfl rfl hf hk zT (l':=rest) (k:=k) (ds:=a.defers) (cs:=cs) hw.2 (fun e a w q=>?_) fun τ=>?_).mono fun g w' hst=>?_)
  . cases e with
    | normal=>exact .inl rfl
    | panic ch=>exact .inr ⟨ch,rfl⟩
    | _=>exact q.elim
  . obtain ⟨⟨τ',d',rfl⟩,_⟩:=hw;rw [Ms l j hl];exact h _ ⟨τ,0,rfl⟩
  . obtain ⟨e,tm',τ,d,hR,hq,hg⟩:=hst;have hs:GQ (S.B γ) w' (sh (D7 (S.B γ) w') τ d):=⟨⟨τ,d,rfl⟩,hR⟩
    cases e with
    | normal=>exact hg ▸ hq fn κ k cs hf hk hA w' hs
    | panic ch=>obtain ⟨Y,rfl⟩:=hg;exact hA _ _ _ _ hq Y w' hs
    | _=>exact hq.elim
end
end
section
def Reads (P:Program)(fn:Func)(tm:Array Value)(W:World)(v:Value):Prop:=∀ W₁,Alike W W₁->(results fn tm).run P W₁=.ok v W₁
def behind (c:Frame):Frame:=
  match c.mode with
  | .panicking ({ recovered:=true,.. } :: older)=>
    match older.dropWhile (!·.goexit) with
    | []=>{ c with mode:=.returning }
    | rest=>{ c with mode:=.panicking rest }
  | _=>c
section
variable {P:Program}{main:Bool}{Γ:Type}{S:Sy P main Γ}{γ:Γ}{W:World}
theorem JW.raises {f:FuncId}{fn:Func}(hf:P.funcs[f]?=some fn){tm:Array Value}{Y:List Item}{κ:CallKind}{c:Frame}{cs:List Frame}{ch:List PanicEntry}(h:JW S γ (G (c.raise ch) cs) W):JW S γ (G (FT f tm Y [] (.panicking ch) κ) (c :: cs)) W:=
  .silent rfl (fun w=>by simp [G,FT,stepG,unwind,Frame.catches,hf]) h
theorem Jz {g : FuncId}{fn : Func}{b : Code}(hg : P.funcs[g]? = some fn)(hn : (fn.name == "runtime.NumGoroutine") = false)(hb : fn.body = some b)(args : Array Value)(w : World)(es : Array Event) : (callFunc g args).runT P w es = (.ok (.enter g args) w, es) := by show (match P.funcs[g]? with | none=>_ | some fn=>_:Sem Next).runT P w es=_;rw [hg];simp only [hn,hb,Option.isNone_some,Bool.false_eq_true,if_false];rfl
theorem JW.defers {f g : FuncId}{fn : Func}{b : Code}(hg : P.funcs[g]? = some fn)(hn : (fn.name == "runtime.NumGoroutine") = false)(hb : fn.body = some b){tm : Array Value}{Y : List Item}{args captured : Array Value}{ds : List Deferred}{mode : FrameMode}(hm : mode ≠ .run){κ : CallKind}{cs : List Frame}(h:JW S γ (G (Frame.enter P g (args ++ captured) .deferred) (FT f tm Y ds mode κ :: cs)) W):JW S γ (G (FT f tm Y ({ target:=.fn (.func g) captured,args } :: ds) mode κ) cs) W:=
  .silent rfl (fun w=>by
    have hc:(invoke (.fn (.func g) captured) args).runT P w #[]=(.ok (.enter g (args ++ captured)) w,#[]):=Jz hg hn hb _ _ _;cases mode with
    | run=>exact absurd rfl hm
    | _=>simp [G,FT,stepG,unwind,callDeferred,hc,GStep.after,seen,-Sem.runT_eq]) h
def kL (Rd:Array Value->World->Value->Prop)(R:Ending->Γ->World->Prop):Post Γ
  | .normal,a,γ,W=>a.defers=[]/\∃ v,Rd a.tmps W v/\R (.returned v) γ W
  | .ret,a,γ,W=>a.defers=[]/\∃ v,Rd a.tmps W v/\R (.returned v) γ W
  | .panic ch,a,γ,W=>a.defers=[]/\R (.panicked ch) γ W
  | _,_,_,_=>False
theorem MP.gy {L:FuncId->Prop}{f:FuncId}{fn:Func}{c:Code}{args:Array Value}{R:Ending->Γ->World->Prop}{Rd:Array Value->World->Value->Prop}(hf:P.funcs[f]?=some fn)(hb:fn.body=some c)(hL:L f)(hrd:∀ tm Y c cs v γ W,Rd tm W v->JW S γ (G (c.finish v) cs) W->JW S γ (G (FT f tm Y [] .returning .normal) (c :: cs)) W)(h:Runs S L c (kL Rd R) { tmps:=args ++ Array.replicate (fn.ntmps - args.size) undef,defers:=[] } γ W):MP S f args γ W R:=by
  intro cf cs hret Adb;have he:Frame.enter P f args .normal=FT f (args ++ Array.replicate (fn.ntmps - args.size) undef) [.code c] [] .run .normal:=by simp [Frame.enter,hf,hb]
  rw [he];refine h f .normal [] (cf :: cs) hL (by simp) fun e a' γ' W' q=>?_;obtain ⟨tm,ds⟩:=a';cases e with
  | normal=>
    obtain ⟨rfl,v,hr,hR⟩:=q;exact .silent rfl (g':=G (FT f tm [] [] .returning .normal) (cf :: cs)) (fun w=>by simp [G,stepG,stepG.exec]) (hrd _ _ _ _ _ _ _ hr (hret _ _ _ hR))
  | ret=>
    obtain ⟨rfl,v,hr,hR⟩:=q;exact fun Y=>hrd _ _ _ _ _ _ _ hr (hret _ _ _ hR)
  | panic ch=>
    obtain ⟨rfl,hR⟩:=q;exact fun Y=>.raises hf (Adb _ _ _ hR)
  | _=>exact q.elim
theorem MP.mono {f:FuncId}{args:Array Value}{R R':Ending->Γ->World->Prop}(h:MP S f args γ W R)(hr:∀ e γ W,R e γ W->R' e γ W):MP S f args γ W R':=fun c cs h1 h2=>h c cs (fun v γ' W' hR=>h1 _ _ _ (hr _ _ _ hR)) fun ch γ' W' hR=>h2 _ _ _ (hr _ _ _ hR)
end
section
variable {P:Program}{main:Bool}{Γ:Type}{S:EL P main Γ}{γ:Γ}{W:World}
theorem Qs {f:FuncId}{fn:Func}(hf:P.funcs[f]?=some fn){tm:Array Value}{Y:List Item}{κ:CallKind}{cs:List Frame}{W:World}{v:Value}(hr:Reads P fn tm W v){w:World}(hw:GQ (S.B γ) w W) :
    ∃ w' es,stepG P main (G (FT f tm Y [] .returning κ) cs) w=GStep.after es (doReturn P main (FT f tm Y [] .returning κ) cs none v w')/\Kept (S.B γ) w w'/\(∀ e∈es,IG (S.B γ) w'.heap.size e)/\GQ (S.B γ) w' W:=by
  obtain ⟨⟨τ,d,rfl⟩,hR⟩:=hw;have hT:Ed P (fun _=>True) (results fn tm):=NZ fun _=>trivial;obtain ⟨w2,es2,h1,h2,h3,_,h5,_,h7⟩:=Kt (es:=#[]) (τ:=w.tape) (d:=w.drawn) hT hR (x:=.inl v) (w1:=sh (D7 (S.B γ) w) w.tape w.drawn) (by rw [Sem.runT_fst,hr (sh (D7 (S.B γ) w) w.tape w.drawn) ⟨w.tape,w.drawn,rfl⟩];rfl) (fun i hi=>rfl);refine ⟨w2,seen P f es2,?_,h3,fun e he=>h7 e (mem_seen he),⟨τ,d,?_⟩,hR.kept h3⟩
  . simp only [Array.empty_append] at h5;simp only [G,FT,stepG,unwind,hf];generalize (results fn tm).runT P w #[]=r at h1 h5;obtain ⟨r,es⟩:=r;obtain rfl:=IJ h1;obtain rfl:es=es2:=h5;rfl
  . have:sh (sh (D7 (S.B γ) w) w.tape w.drawn) τ d=sh (sh (D7 (S.B γ) w2) w.tape (w.drawn+(w2.drawn - w.drawn))) τ d:=by rw [h2]
    exact this
theorem JW.returns {f:FuncId}{fn:Func}(hf:P.funcs[f]?=some fn){tm:Array Value}{Y:List Item}{c:Frame}{cs:List Frame}{v:Value}(hr:Reads P fn tm W v)(h:JW S.base γ (G (c.finish v) cs) W):JW S.base γ (G (FT f tm Y [] .returning .normal) (c :: cs)) W:=
  S.step rfl fun w hw=>by obtain ⟨w',es,e1,e2,e3,e4⟩:=Qs (cs:=c :: cs) (κ:=.normal) (Y:=Y) hf hr hw;exact ⟨_,w',es,by rw [e1];simp [doReturn,GStep.after,G],e2,e3,W,e4,h⟩
theorem MP.body {L:FuncId->Prop}{f:FuncId}{fn:Func}{c:Code}{args:Array Value}{R:Ending->Γ->World->Prop}(hf:P.funcs[f]?=some fn)(hb:fn.body=some c)(hL:L f)(h:Runs S.base L c (kL (Reads P fn) R) { tmps:=args ++ Array.replicate (fn.ntmps - args.size) undef,defers:=[] } γ W):MP S.base f args γ W R:=
  .gy hf hb hL (fun tm Y c cs v γ W hr hJ=>JW.returns hf hr hJ) h
variable [Host] in
theorem MP.lone {L:List FuncId}(hL:∀ f∈L,Lets P f){f:FuncId}(hbar:Host.bar f=false){args:Array Value}{R:Ending->Γ->World->Prop}(h:∀ W₁,Alike W W₁->CallsIn (Fence.list L none) 0 P f args W₁ fun e W'=>∃ v,e=.returned v/\R (.returned v) γ W'):MP S.base f args γ W R:=by
  intro c cs hret _ w hw;refine S.way _ _ _ (Y4 (R:=S.R γ) (D:=S.D γ) (F:=(·∈L)) (Fn:=Fence.list L none) (n:=0) (S.refl γ) (S.trans γ) (S.turns γ) (S.kept γ) hL (fun _ h=>h) rfl rfl hbar hw.2 (Rp:=fun _ e W'=>∃ v,e=.returned v/\R (.returned v) γ W') (fun _ _ _ ⟨v,h,_⟩=>⟨v,h⟩) (fun τ=>?_) fun v w' τ d hR hv=>?_)
  . obtain ⟨⟨τ',d',rfl⟩,_⟩:=hw;exact h _ ⟨τ,0,rfl⟩
  . obtain ⟨v',e,hR'⟩:=hv;cases e
    exact .stop fun w₁ h₁=>hret v _ _ hR' w₁ (S.turn (show GQ (S.B γ) w' (sh (D7 (S.B γ) w') τ d) from ⟨⟨τ,d,rfl⟩,hR⟩) h₁)
end
end
section
section
variable {P:Program}{main:Bool}{Γ:Type}{S:Sy P main Γ}{L:FuncId->Prop}{γ:Γ}{W:World}{a:Act}{Q:Post Γ}
theorem QB.pure {ops:Array Oper}{i:Nat}{rest:List Nat}{o:Oper}{v:Value}(ho:ops[i]?=some o)(hw:Region.wanted o (yielded ops a.tmps)=true)(hv:∀ w,(execOp a.eval o).run P w=.ok (.value v) w)(he:∀ w,∀ e∈(execOp a.eval o).events P w #[],False)(h:QB S L ops rest Q (a.put o.dst v) γ W):QB S L ops (i :: rest) Q a γ W:=.value ho hw (fun w=>by
  have h1:((execOp a.eval o).runT P w #[]).1=.ok (.value v) w:=by rw [Sem.runT_fst];exact hv w
  have h2:((execOp a.eval o).runT P w #[]).2=#[]:=by have:=he w;rw [Sem.events] at this;exact Array.eq_empty_of_size_eq_zero (Classical.byContradiction fun hn=>this _ (Array.getElem_mem (Nat.pos_of_ne_zero hn)))
  exact Prod.ext h1 h2) h
end
end
end Go.LT
namespace Go.LK
open Go Go.Conc Go.LT Go.LC
open Go.ConcN (WgLive sumTo upd sumTo_upd upd_ne upd_same)
open Go.ConcR (KK wgBlock WgAt stA smA rd wr mk)
section
inductive G0 (X Sg:Type)
  | Gp (B:Nat->Bool) (n:Nat)
  | Ev (M:Md X Sg) (ρ:Rn) (ws:List (EK X)) (ex:Nat) (df:Bool) (n:Nat)
section
variable {X Sg:Type}
def ownB (ws:List (EK X))(b:Nat):Bool:=@decide (∃ (i:Nat) (v:EK X),ws[i]?=some v/\v.own b) (Classical.propDecidable _)
theorem IQ {ws:List (EK X)}{b:Nat}:ownB ws b=true↔∃ (i:Nat) (v:EK X),ws[i]?=some v/\v.own b:=by unfold ownB;exact @decide_eq_true_iff _ (Classical.propDecidable _)
theorem JK {ws:List (EK X)}{b:Nat}(h:∀ (i:Nat) (v:EK X),ws[i]?=some v->¬ v.own b):ownB ws b=false:=by
  cases e:ownB ws b with
  | false=>rfl
  | true=>obtain ⟨i,v,hv,ho⟩:=IQ.1 e;exact absurd ho (h i v hv)
def EX (ρ:Rn)(ws:List (EK X)):Hid:={ hol:=fun b=>ρ.Bo b || b == ρ.Wg,JJ:=ownB ws }
def G0.B:G0 X Sg->Hid
  | .Gp B _=>{ hol:=B }
  | .Ev _ ρ ws _ _ _=>EX ρ ws
def G0.R:G0 X Sg->World->World->Prop
  | .Gp _ _=>AtRel
  | .Ev _ ρ _ _ _ _=>F8 ρ.ty ρ.Wg
def J0 (P:Program)(Fin:FE):G0 X Sg->Goroutine->World->Prop
  | .Gp B n,g,w=>∀ gs T sl q,gs[0]?=some g->gs.size=n->Nh P (Y9 { hol:=B }) q T gs w->Fin.b0<=w.heap.size->Fin (crowd gs w sl) T
  | .Ev M ρ ws ex df n,g,w=>∀ gs T sl role bd live,gs[0]?=some g->gs.size=n->Lx M ρ P ws 0 role bd w->Held P ρ.ty ρ.Wg (Kc ρ ws) (M7 ws) bd (GV ρ) (fun c=>c=ρ.gone) (gH (LY ws 0) 0 df) (Hw ws 0) 0 role live ex T gs w->
      Lv ws n live->Deaf T 0=df.toNat->Lw Fin.b0 ρ ws->Fin (crowd gs w sl) T
theorem DK.Gp {B:Hid}{Shun:Loc->Prop}(YO:∀ l,Shun l->Y9 B l){w w':World}{es:Array Event}(hd:DK B w w' es):qI Shun w w' es:=
  ⟨hd.1.size,fun e he=>Uf (hd.2 e he) (fun _ _ _ h=>h.elim) YO⟩
def gL (B:Hid)(b:Nat):Bool:=B b || B.JJ b
theorem Rel.dkz {B:Hid}{Wg:Nat}{w w':World}{es:Array Event}(h:DK B w w' es):Rel (gL B) Wg w w':=
  ⟨fun b hb _=>by
    rcases Bool.or_eq_true _ _ ▸ hb with hb|hb
    . exact h.1.block b hb
    . exact h.1.still b hb,h.1.size,fun b o _ ho hn=>h.1.objs b o ho hn⟩
variable {P:Program}{Fin:FE}
theorem Lx.walk {M:Md X Sg}{ρ:Rn}{ws:List (EK X)}{role ER:Nat->EC}{bd:Nat->Nat}{w w':World}{B:Nat->Bool}(C:Lx M ρ P ws 0 role bd w)(hS:Same role ER)(hO:∀ (i:Nat) (v:EK X),ws[i]?=some v->∀ b,v.own b->B b=true)(VU:∀ b,ρ.Bo b=true->B b=true)(h:Rel B ρ.Wg w w')(V8:∃ c e f,w.heap[ρ.Wg]?=some (.cells c e f)) :
    Lx M ρ P ws 0 ER bd w':=by
  have hch:∀ c k:Nat,w.heap[c]?=some (Obj.chan 0 #[] false k k false)->∃ k':Nat,w'.heap[c]?=some (Obj.chan 0 #[] false k' k' false):=fun c k hc=>⟨k,h.objs c _ (fun z=>by subst z;obtain ⟨c,e,f,hw⟩:=V8;rw [hw] at hc;cases hc) hc (fun _ _ _=>by simp)⟩
  refine ⟨C.apart,C.pos,fun i v hv hn ho=>?_,fun i st n c e hc=>?_,fun i v hv hn=>?_,fun i v hv b hb=>?_,C.inside,fun i v hv=>?_,?_,?_,C.sh,fun b hb=>?_,C.mY⟩
  . obtain ⟨⟨n,h⟩,hb⟩:=C.seats i v hv hn ho;exact ⟨(hS v.h).1 _ n h,hb⟩
  . obtain ⟨n',e'⟩:=hS.back e;exact C.known i st n' c e' hc
  . obtain ⟨k1,k2,k3⟩:=C.keep i v hv hn;exact ⟨fun b hb=>(k1 b hb).trans (.of (h.block b (hO i v hv b hb) (C.own i v hv b hb).2.1)),k2,Nat.le_trans k3 h.size⟩
  . obtain ⟨a1,a2,a3,c,e,f,hc⟩:=C.own i v hv b hb;exact ⟨a1,a2,a3,c,e,f,by rw [h.block b (hO i v hv b hb) a2];exact hc⟩
  . obtain ⟨c1,c2,k,hk⟩:=C.chan i v hv;exact ⟨c1,c2,hch _ _ hk⟩
  . obtain ⟨c1,k,hk⟩:=C.come;exact ⟨c1,hch _ _ hk⟩
  . intro hcl;obtain ⟨k,hk⟩:=C.gone hcl;exact hch _ _ hk
  . obtain ⟨h1,c,e,f,hc⟩:=C.old b hb;exact ⟨h1,c,e,f,by rw [h.block b (VU b hb) h1];exact hc⟩
theorem Lv.keep {ws:List (EK X)}{n:Nat}{live Fy:Nat->Nat}{role:Nat->EC}{M:Md X Sg}{ρ:Rn}{bd:Nat->Nat}{w:World}(hL:Lv ws n live)(C:Lx M ρ P ws 0 role bd w)(h:Ll 0 role live Fy):Lv ws n Fy:=
  ⟨hL.lt,by rw [h 0 (.inl rfl)];exact hL.zero,fun i v hv ho=>by obtain ⟨⟨n,e⟩,_⟩:=C.seats i v hv (by have:=(C.pos i v hv).1;omega) ho;rw [h _ (.inr ⟨_,_,e⟩)];exact hL.one i v hv ho⟩
section
variable {M:Md X Sg}{ρ:Rn}{ws:List (EK X)}{role:Nat->EC}{bd:Nat->Nat}{w:World}
theorem JF {i:Nat}{v:EK X}(hv:ws[i]?=some v){b:Nat}(hb:v.own b):(EX ρ ws).JJ b=true:=IQ.2 ⟨i,v,hv,hb⟩
theorem KJ:(EX ρ ws) ρ.Wg=true:=by simp [EX]
theorem Ru {b:Nat}(hb:ρ.Bo b=true):(EX ρ ws) b=true:=by simp [EX,hb]
theorem DK.Ev (C:Lx M ρ P ws 0 role bd w){w₁ w':World}{es:Array Event}(hd:DK (EX ρ ws) w₁ w' es):oV (Kc ρ ws) (M7 ws) (GV ρ) (fun _=>True) ρ.Wg 0 w₁ w' es:=by
  refine DK.hd (fun x hx w w' hb hK j u hu GY ho=>?_) (fun x hx l hl=>?_) (fun l hl=>?_) KJ hd
  . have hi:=C.inside j u hu;exact (hK j u hu GY ho).blk (hb _ (.inr (JF hu hi.1))) (hb _ (.inr (JF hu hi.2)))
  . obtain ⟨j,u,hu,GY,ho,hs⟩:=hl;have hi:=C.inside j u hu;rcases hs with hs|hs|hs
    . exact .inr ⟨_,hs,JF hu hi.1⟩
    . exact .inr ⟨_,hs,JF hu hi.1⟩
    . exact .inr ⟨_,hs,JF hu hi.2⟩
  . obtain ⟨a,rfl,ha⟩:=hl;refine ⟨a,rfl,?_⟩;rcases ha with ha|ha
    . rw [ha];exact KJ
    . exact Ru ha
end
def S0 (P:Program)(Fin:FE)(Ea:E5 P Fin):EL P true (G0 X Sg) where
  B:=G0.B
  R:=G0.R
  D:=fun γ=>DK γ.B
  J:=J0 P Fin
  refl:=fun γ w=>by cases γ with
    | Gp B n=>exact ⟨w.drawn,rfl⟩
    | Ev M ρ ws ex df n=>exact F8.refl w
  trans:=fun γ a b c h k=>by cases γ with
    | Gp B n=>obtain ⟨d,rfl⟩:=h;obtain ⟨d',rfl⟩:=k;exact ⟨d',rfl⟩
    | Ev M ρ ws ex df n=>exact F8.trans h k
  turns:=fun γ w w₁ h=>by cases γ with
    | Gp B n=>exact Uh h
    | Ev M ρ ws ex df n=>exact F8.turns KJ h
  kept:=fun γ w w' es _ hk he=>⟨hk,he⟩
  way:=fun γ g w hW=>by
    cases γ with
    | Gp B n=>
      intro gs T sl q hg hn C hlow;have hW2:=R9 (Re:=Oo Fin.b0) (fun a b h=>.rel h) (fun a b es h=>.dk h) (fun a b c h k=>h.trans k) hW w (.refl _ _);obtain ⟨N,gs',a',w',sl',T',q',p1,p2,p3,p4,p5⟩:=XI (sl:=sl) (fun w w' es hd=>DK.Gp (fun _ h=>h) hd) hW2 hg C;exact Ea _ _ _ _ _ p1 (p4 w' ⟨w'.drawn,rfl⟩).2 ((p4 w' ⟨w'.drawn,rfl⟩).1 gs' T' sl' q' p3 (p2.trans hn) p5 (Nat.le_trans hlow (p4 w' ⟨w'.drawn,rfl⟩).2.size))
    | Ev M ρ ws ex df n=>
      intro gs T sl role bd live hg hn C H hL hdf Jw;have hW2:=R9 (Re:=fun a b=>Rel (gL (EX ρ ws)) ρ.Wg a b/\Oo Fin.b0 a b) (fun a b h=>⟨.Xg h,.Xg Jw.wg h⟩) (fun a b es h=>⟨.dkz h,.dk h⟩) (fun a b c h k=>⟨h.1.trans k.1,h.2.trans k.2⟩) hW w ⟨.refl _ _ _,.refl _ _⟩;obtain ⟨N,gs',a',w',sl',T',ER,Fy,p1,p2,p3,⟨p4,p5,p5f⟩,p6,p7,p8,p9,_⟩:=Vn (h:=0) (sl:=sl) C.env (Ch:=fun _=>True) (fun w w' es hd=>DK.Ev C hd) hW2 hg H (fun _ _ _ _ _ _=>trivial);refine Ea _ _ _ _ _ p1 p5f (p4 gs' T' sl' ER bd Fy p3 (p2.trans hn) (C.walk p7 (fun i v hv b hb=>?_) (fun b hb=>?_) p5 (G6 H.JG.wg)) p6 (hL.keep C p8) (p9.trans hdf) Jw)
      . simp [gL,JF hv hb]
      . simp [gL,Ru hb]
end
end
section
section
variable {X Sg:Type}
structure Known (M:Md X Sg)(ρ:Rn)(ws:List (EK X))(W:World):Prop where
  record:∀ (i:Nat) (v:EK X),ws[i]?=some v->M.Rec v.k v.x v.b v.own v.wy
  cell:∀ (i:Nat) (v:EK X),ws[i]?=some v->∀ a:Addr,v.own a.block->W.cell? a=v.wy.cell? a
  turn:∀ (i:Nat) (v:EK X),ws[i]?=some v->v.over=false->W.cell? ⟨v.b,2,none⟩=some (.chan (some v.t))
  own:∀ (i:Nat) (v:EK X),ws[i]?=some v->∀ b,v.own b->¬ M.Sh b/\b≠ρ.Wg/\ρ.Bo b=false/\∃ c e f,W.heap[b]?=some (.cells c e f)
  inside:∀ (i:Nat) (v:EK X),ws[i]?=some v->v.own v.b/\v.own v.pb
  sh:∀ b,M.Sh b->b≠ρ.Wg/\ρ.Bo b=false
  num:∀ (i:Nat) (v:EK X),ws[i]?=some v->v.k=i
variable {P:Program}{Fin:FE}{Ea:E5 P Fin}
variable {M:Md X Sg}{ρ:Rn}{ws:List (EK X)}{role:Nat->EC}{bd:Nat->Nat}{w W:World}{ex n:Nat}{df:Bool}{g:Goroutine}
theorem FJ {B:Hid}(h:GQ B w W):W.heap=(D7 B w).heap:=by obtain ⟨⟨τ,d,rfl⟩,_⟩:=h;rfl
theorem Ho {B:Hid}(h:GQ B w W):W.heap.size=w.heap.size:=by rw [FJ h];simp
theorem Ij {b:Nat}(h1:b≠ρ.Wg)(h2:ρ.Bo b=false):(EX ρ ws) b=false:=by simp [EX,h1,h2]
theorem Lx.mR (C:Lx M ρ P ws 0 role bd w){b:Nat}(hb:M.Sh b):(EX ρ ws) b=false/\(EX ρ ws).JJ b=false:=by obtain ⟨h1,h2⟩:=C.sh b hb;exact ⟨Ij h1 h2,JK fun i v hv ho=>(C.own i v hv b ho).1 hb⟩
theorem Lx.inv (C:Lx M ρ P ws 0 role bd w)(hs:GQ (EX ρ ws) w W)(σ:Sg):M.Inv σ W↔M.Inv σ w:=by
  have hh:=FJ hs;have e:∀ b,M.Sh b->K3 w W b:=fun b hb=>by obtain ⟨h1,h2⟩:=C.mR hb;have:=K3.view (w:=w) h1 h2;unfold K3 at this ⊢;rw [hh];exact this
  exact ⟨fun h=>M.inv_eq _ _ _ (fun b hb=>(e b hb).symm) h,fun h=>M.inv_eq _ _ _ e h⟩
theorem Lx.knows (C:Lx M ρ P ws 0 role bd w)(hs:GQ (EX ρ ws) w W)(hK:∀ (i:Nat) (v:EK X),ws[i]?=some v->v.over=false->Kc ρ ws v.h w):Known M ρ ws W:=by
  have hh:=FJ hs;have hcell:∀ (i:Nat) (v:EK X),ws[i]?=some v->∀ a:Addr,v.own a.block->W.cell? a=w.cell? a:=fun i v hv a ha=>by
    obtain ⟨_,h1,h2,_⟩:=C.own i v hv _ ha;have:W.cell? a=(D7 (EX ρ ws) w).cell? a:=by simp [World.cell?,hh]
    rw [this];exact ED (Ij h1 h2)
  refine ⟨fun i v hv=>(C.keep i v hv (by have:=(C.pos i v hv).1;omega)).2.1,fun i v hv a ha=>?_,fun i v hv ho=>?_,fun i v hv b hb=>?_,C.inside,C.sh,fun i v hv=>(C.pos i v hv).2⟩
  . rw [hcell i v hv a ha];have he:=(C.keep i v hv (by have:=(C.pos i v hv).1;omega)).1 _ ha;obtain ⟨_,_,_,c,e,f,hc⟩:=C.own i v hv _ ha;have:=he.symm.cells hc;simp [World.cell?,hc,this]
  . rw [hcell i v hv _ (C.inside i v hv).1];exact (hK i v hv ho i v hv rfl ho).1
  . obtain ⟨a1,a2,a3,c,e,f,hc⟩:=C.own i v hv b hb;refine ⟨a1,a2,a3,?_⟩;rw [hh,EA (Ij a2 a3),hc];exact ⟨_,_,_,rfl⟩
theorem Lx.kc (C:Lx M ρ P ws 0 role bd w){Mem:Nat->Prop}{live:Nat->Nat}{T:Trace}{gs:Array Goroutine}{ex:Nat}(H:Held P ρ.ty ρ.Wg (Kc ρ ws) (M7 ws) bd (GV ρ) (fun c=>c=ρ.gone) Mem (Hw ws 0) 0 role live ex T gs w){i:Nat}{v:EK X}(hv:ws[i]?=some v)(ho:v.over=false):Kc ρ ws v.h w:=by obtain ⟨⟨n,h⟩,_⟩:=C.seats i v hv (by have:=(C.pos i v hv).1;omega) ho;exact H.JG.keep _ _ _ h
theorem J0.know (h:Known M ρ ws W->JW (S0 P Fin Ea).base (.Ev M ρ ws ex df n) g W):JW (S0 P Fin Ea).base (.Ev M ρ ws ex df n) g W:=by intro w hw gs T sl role bd live hg hn C H hL hdf Jw;exact h (C.knows hw fun i v hv ho=>C.kc H hv ho) w hw gs T sl role bd live hg hn C H hL hdf Jw
theorem J0.Abx {B:Nat->Bool}(h:Fin.b0<=W.heap.size->JW (S0 (X:=X) (Sg:=Sg) P Fin Ea).base (.Gp B n) g W):JW (S0 (X:=X) (Sg:=Sg) P Fin Ea).base (.Gp B n) g W:=by intro w hw gs T sl q hg hn C hlow;exact h (by rw [Ho hw];exact hlow) w hw gs T sl q hg hn C hlow
theorem J0.low (h:Lw Fin.b0 ρ ws->Fin.b0<=W.heap.size->JW (S0 P Fin Ea).base (.Ev M ρ ws ex df n) g W):JW (S0 P Fin Ea).base (.Ev M ρ ws ex df n) g W:=by intro w hw gs T sl role bd live hg hn C H hL hdf Jw;refine h Jw ?_ w hw gs T sl role bd live hg hn C H hL hdf Jw;obtain ⟨c,e,f,hc⟩:=G6 H.JG.wg;have:=(zGE hc).1;have:=Jw.wg;rw [Ho hw];omega
structure aL (M:Md X Sg)(ρ:Rn)(ws:List (EK X))(v:EK X)(tgt:X × Sg × Bool)(r:Nat)(W:World)(v':EK X)(W':World):Prop where
  h:v'.h=v.h
  k:v'.k=v.k
  b:v'.b=v.b
  t:v'.t=v.t
  x:v'.x=tgt.1
  over:v'.over=tgt.2.2
  r:v'.r=r
  inv:M.Inv tgt.2.1 W'
  block:∀ b,(∃ c e f,W.heap[b]?=some (.cells c e f))->(EX ρ ws) b=false->¬ v.own b->¬ M.Sh b->W'.heap[b]?=W.heap[b]?
  size:W.heap.size<=W'.heap.size
  own:∀ b,v'.own b->v.own b\/W.heap.size<=b
theorem Ql {B:Hid}{b:Nat}(hs:GQ B w W)(h:∃ c e f,W.heap[b]?=some (.cells c e f)):∃ c e f,w.heap[b]?=some (.cells c e f):=by
  obtain ⟨c,e,f,hc⟩:=h;rw [FJ hs,Ez] at hc;cases ho:w.heap[b]? with
  | none=>rw [ho] at hc;cases hc
  | some o=>
    rw [ho] at hc;simp only [Option.map_some,Option.some.injEq] at hc;split at hc <;> cases o <;> first | (exact ⟨_,_,_,rfl⟩) | (simp [KZ,dep] at hc)
theorem Qh {ws':List (EK X)}{w':World}{b:Nat}(hs:GQ (EX ρ ws) w W)(hz:(EX ρ ws').JJ b=(EX ρ ws).JJ b)(h:w'.heap[b]?=w.heap[b]?):(D7 (EX ρ ws') w').heap[b]?=W.heap[b]?:=by rw [FJ hs,Ez,Ez,h,hz];rfl
theorem J0.give (hcl:¬ ρ.SN){i:Nat}{v:EK X}{r s:Nat}{σ:Sg}{g₂ g0:Goroutine}{zs:Value}{nq:Nat}(hv:ws[i]?=some v)(hov:v.over=false)(hr:v.r=r+1)(hInv:M.Inv σ W)(hrun:g.status=.running)(hstep:∀ w,stepG P true g w=.comm g₂ #[scase v.t (.int .i64 s) zs] true .send w #[])(hS:Sits P true (fun _=>True) (fun _=>False) 0 (Seat.one ρ.come ρ.zi false (·=g0)) nq (g₂.finishComm P #[scase v.t (.int .i64 s) zs] .send (0:Nat) undef false))(hK:∀ v' W',aL M ρ ws v (M.hold v.x s σ) r W v' W'->JW (S0 P Fin Ea).base (.Ev M ρ (ws.set i v') ex false n) (g0.finishComm P #[rcase ρ.come ρ.zi] (.recv false) 0 (.int .i64 v.k) true) W') :
    JW (S0 P Fin Ea).base (.Ev M ρ ws ex false n) g W:=by
  intro w hw gs T sl role bd live hg hn C H hL hdf Jw;subst hn;obtain ⟨N,gs',w',sl',T',ER,Y7,Fy,v',g0',p1,p2,p3,rfl,p5,p6,p7,a1,a2,a3,a4,a5,a6,a7,a8,a9,oz,eu,a12⟩:=YX (hcl:=hcl) (sl:=sl) (Lm:=(·=g0)) hv hov hr C H hL ((C.inv hw σ).1 hInv) hg hrun (fun w₁ _=>hstep w₁) hS;have hs':GQ (EX ρ (ws.set i v')) w' (D7 (EX ρ (ws.set i v')) w'):=⟨.refl _,⟨fun b hb=>?_,fun b hb=>?_⟩⟩
  . have hsz:(D7 (EX ρ (ws.set i v')) w').heap.size=w'.heap.size:=by simp
    refine Ea _ _ _ _ _ p1 (a12 _ Jw.wg Jw.come (Jw.turn _ _ hv)) (hK v' _ ⟨a1,a2,a3,a4,a5,a6,a7,(p5.inv hs' _).2 a8,fun b hrow hB ho hsh=>?_,by rw [hsz,Ho hw];exact oz,fun b hb=>by rw [Ho hw];exact eu b hb⟩ w' hs' gs' T' sl' ER Y7 Fy p3 p2 p5 p6 p7 ?_ ⟨Jw.wg,Jw.come,Jw.gone,fun j u hu=>?_⟩)
    . have hrw:=Ql hw hrow;have V8:b≠ρ.Wg:=fun e=>by rw [e,KJ] at hB;cases hB
      refine Qh hw ?_ (a9 b V8 hrw ho hsh);obtain ⟨c,e,f,hc⟩:=hrw;have hlt:b < w.heap.size:=(zGE hc).1;have hv':¬ v'.own b:=fun h=>(eu b h).elim ho zOM;show ownB (ws.set i v') b=ownB ws b;rw [Bool.eq_iff_iff,IQ,IQ];constructor
      . rintro ⟨j,u,hu,hb⟩;rcases TB hv hu with ⟨_,rfl⟩|⟨_,hu⟩
        . exact absurd hb hv'
        . exact ⟨j,u,hu,hb⟩
      . rintro ⟨j,u,hu,hb⟩;by_cases e:j=i
        . subst e;rw [hv] at hu;cases hu;exact absurd hb ho
        . exact ⟨j,u,by rw [Ot e];exact hu,hb⟩
    . exact p6.JG.past.hears 0 (.inl rfl)
    . rcases TB hv hu with ⟨_,rfl⟩ | ⟨_,hu⟩
      . rw [a4];exact Jw.turn _ _ hv
      . exact Jw.turn _ _ hu
  . simp only [EX,Bool.or_eq_true,beq_iff_eq] at hb;rcases hb with hb|hb
    . exact (p5.old b hb).2
    . rw [hb];exact G6 p6.JG.wg
  . obtain ⟨j,u,hu,hb⟩:=IQ.1 hb;exact (p5.own j u hu b hb).2.2.2
theorem RL {B:Hid}{c k:Nat}(hs:GQ B w W)(h:W.heap[c]?=some (Obj.chan 0 #[] false k k false)):w.heap[c]?=some (Obj.chan 0 #[] false k k false):=by
  rw [FJ hs,Ez] at h;cases ho:w.heap[c]? with
  | none=>rw [ho] at h;cases h
  | some o=>
    rw [ho] at h;simp only [Option.map_some,Option.some.injEq] at h;split at h <;> cases o <;> simp_all [KZ,dep]
theorem J0.hire (hcl:¬ ρ.SN){v:EK X}{r:Nat}{tgt:X × Sg × Bool}{a' child g0:Goroutine}{nq:Nat}(hrun:g.status=.running)(hgo:∀ w,stepG P true g w=.spawn a' child w #[])(hS:Sits P true (fun _=>True) (fun _=>False) 0 (Seat.one ρ.come ρ.zi false (·=g0)) nq a')(dY:v.h=n)(hvk:v.k=ws.length)(hov:v.over=false)(hown:∀ b,v.own b->¬ M.Sh b/\b≠ρ.Wg/\ρ.Bo b=false/\(∃ c e f,W.heap[b]?=some (.cells c e f))/\∀ (j:Nat) (u:EK X),ws[j]?=some u->¬ u.own b)(hin:v.own v.b/\v.own v.pb)(hch:v.t≠ρ.come/\v.t≠ρ.gone/\(∃ k,W.heap[v.t]?=some (.chan 0 #[] false k k false))/\∀ (j:Nat) (u:EK X),ws[j]?=some u->u.t≠v.t)(hJ:∀ w,GQ (EX ρ ws) w W->∀ B,aO M ρ v B w.heap.size->LT.Rows B w->WJ M ρ P r ⟨v,B,w.heap.size,tgt⟩ child w)(hlow:Fin.b0<=v.t)(hK:∀ v' W',aL M ρ ws v tgt r W v' W'->JW (S0 P Fin Ea).base (.Ev M ρ (ws ++ [v']) ex false (n+1)) (g0.finishComm P #[rcase ρ.come ρ.zi] (.recv false) 0 (.int .i64 v.k) true) W') :
    JW (S0 P Fin Ea).base (.Ev M ρ ws (ex+1) false n) g W:=by
  intro w hw gs T sl role bd live hg hn C H hL hdf Jw;subst hn;obtain ⟨N,gs',w',sl',T',ER,Y7,Fy,v',g0',p1,p2,p3,rfl,p5,p6,p7,a1,a2,a3,a4,a5,a6,a7,a8,a9,oz,eu,a12⟩:=Yz (hcl:=hcl) (sl:=sl) (Lm:=(·=g0)) C H hL hg hrun (fun w₁ _=>hgo w₁) hS dY hvk hov
    (fun b hb=>by obtain ⟨b1,b2,b3,b4,b5⟩:=hown b hb;exact ⟨b1,b2,b3,Ql hw b4,b5⟩) hin (by obtain ⟨c1,c2,⟨k,c3⟩,c4⟩:=hch;exact ⟨c1,c2,⟨k,RL hw c3⟩,c4⟩)
    (fun w₁ h₁=>hJ w₁ ((S0 P Fin Ea).turn (γ:=.Ev M ρ ws (ex+1) false gs.size) hw h₁))
  have hs':GQ (EX ρ (ws ++ [v'])) w' (D7 (EX ρ (ws ++ [v'])) w'):=⟨.refl _,⟨fun b hb=>?_,fun b hb=>?_⟩⟩
  . have hsz:(D7 (EX ρ (ws ++ [v'])) w').heap.size=w'.heap.size:=by simp
    refine Ea _ _ _ _ _ p1 (a12 _ Jw.wg Jw.come) (hK v' _ ⟨a1,a2,a3,a4,a5,a6,a7,(p5.inv hs' _).2 a8,fun b hrow hB ho hsh=>?_,by rw [hsz,Ho hw];exact oz,fun b hb=>by rw [Ho hw];exact eu b hb⟩ w' hs' gs' T' sl' ER Y7 Fy p3 p2 p5 p6 (by rw [← p2];exact p7) ?_ ⟨Jw.wg,Jw.come,Jw.gone,fun j u hu=>?_⟩)
    . have hrw:=Ql hw hrow;have V8:b≠ρ.Wg:=fun e=>by rw [e,KJ] at hB;cases hB
      refine Qh hw ?_ (a9 b V8 hrw ho hsh);obtain ⟨c,e,f,hc⟩:=hrw;have hlt:b < w.heap.size:=(zGE hc).1;have hv':¬ v'.own b:=fun h=>(eu b h).elim ho zOM;show ownB (ws ++ [v']) b=ownB ws b;rw [Bool.eq_iff_iff,IQ,IQ];constructor
      . rintro ⟨j,u,hu,hb⟩;rcases Po hu with ⟨_,hu⟩|⟨_,rfl⟩
        . exact ⟨j,u,hu,hb⟩
        . exact absurd hb hv'
      . rintro ⟨j,u,hu,hb⟩;exact ⟨j,u,MH hu,hb⟩
    . exact p6.JG.past.hears 0 (.inl rfl)
    . rcases Po hu with ⟨_,hu⟩ | ⟨_,rfl⟩
      . exact Jw.turn _ _ hu
      . rw [a4];exact hlow
  . simp only [EX,Bool.or_eq_true,beq_iff_eq] at hb;rcases hb with hb|hb
    . exact (p5.old b hb).2
    . rw [hb];exact G6 p6.JG.wg
  . obtain ⟨j,u,hu,hb⟩:=IQ.1 hb;exact (p5.own j u hu b hb).2.2.2
end
end
end Go.LK
namespace Go.LT
open Go Go.Conc
section
structure Ou (P:Program)(main:Bool)(Γ:Type) where
  B:Γ->Hid
  J:Γ->Goroutine->World->Prop
  live:Γ->World->Prop
  idle:∀ γ g g' W,g.status=.running->(∀ w,live γ w->stepG P main g w=.go g' w #[])->JV B J γ g' W->JV B J γ g W
def Ou.sy {P:Program}{main:Bool}{Γ:Type}(S:Ou P main Γ):Sy P main Γ where
  B:=S.B
  J:=S.J
  silent:=fun γ g g' W hs h hJ=>S.idle γ g g' W hs (fun w _=>h w) hJ
section
variable {P:Program}{main:Bool}{Γ:Type}{S:Ou P main Γ}{γ:Γ}{W:World}{b:Frame}{a:Act}{k:List Item}{cs:List Frame}
abbrev JL (S:Ou P main Γ)(γ:Γ)(g:Goroutine)(W:World):Prop:=JV S.B S.J γ g W
theorem JL.ctl {g g':Goroutine}(hs:g.status=.running)(h:∀ w,stepG P main g w=.go g' w #[])(hJ:JL S γ g' W):JL S γ g W:=S.idle γ g g' W hs (fun w _=>h w) hJ
theorem JL.Acn {g g':Goroutine}(hs:g.status=.running)(h:∀ w,S.live γ w->stepG P main g w=.go g' w #[])(hJ:JL S γ g' W):JL S γ g W:=S.idle γ g g' W hs h hJ
theorem JL.value (v:Value){ops:Array Oper}{i:Nat}{rest:List Nat}{o:Oper}(ho:ops[i]?=some o)(hw:Region.wanted o (yielded ops a.tmps)=true)(hk:b.kind≠.early)(hr:∀ w,S.live γ w->(execOp a.eval o).run P w=.ok (.value v) w)(he:∀ w,S.live γ w->∀ e∈(execOp a.eval o).events P w #[],False)(h:JL S γ (G (b.at (a.put o.dst v) (.inRegion ops rest :: k)) cs) W):JL S γ (G (b.at a (.inRegion ops (i :: rest) :: k)) cs) W:=
  .Acn rfl (fun w hl=>by rw [stepG_value ho hw hk (hr w hl),listed_none (Array.eq_empty_iff_forall_not_mem.2 fun e he'=>he w hl e he')]) h
theorem JL.call {ops:Array Oper}{i:Nat}{rest:List Nat}{o:Oper}{f:FuncId}{fn:Func}{c:Code}{args:Array Operand}{ats:Array TypeId}(ho:ops[i]?=some o)(hw:Region.wanted o (yielded ops a.tmps)=true)(hk:b.kind≠.early)(hop:o.op=.call { callee:=.value (.func f),args,argTypes:=ats })(hf : P.funcs[f]? = some fn)(hname : (fn.name == "runtime.NumGoroutine") = false)(hb : fn.body = some c)(h:JL S γ (G ((base f).at { tmps:=args.map a.eval ++ Array.replicate (fn.ntmps - (args.map a.eval).size) undef,defers:=[] } [.code c]) (b.at a (.inRegion ops (i :: rest) :: k) :: cs)) W) :
    JL S γ (G (b.at a (.inRegion ops (i :: rest) :: k)) cs) W:=
  .ctl rfl (fun w=>by
    have hb':fn.body.isNone=false:=by rw [hb];rfl
    rw [stepG_enter ho hw hk (run_call_body hop hf hname hb'),enter_at _ hf hb];have:listed P b.fn a o w=#[]:=by unfold listed;rw [events_call_body hop hf hname hb'];exact seen_none P _
    rw [this]) h
theorem JL.pure (v:Value){ops:Array Oper}{i:Nat}{rest:List Nat}{o:Oper}{f:FuncId}{fn:Func}{az:Array Operand}{ats:Array TypeId}(ho:ops[i]?=some o)(hw:Region.wanted o (yielded ops a.tmps)=true)(hk:b.kind≠.early)(hop:o.op=.call { callee:=.value (.func f),args:=az,argTypes:=ats })(hf : P.funcs[f]? = some fn)(hname : (fn.name == "runtime.NumGoroutine") = false)(hb : fn.body.isNone = true)(hn : Extern.findNext fn = none)(he : Extern.find fn = some (fun _ => pure v))(h:JL S γ (G (b.at (a.put o.dst v) (.inRegion ops rest :: k)) cs) W):JL S γ (G (b.at a (.inRegion ops (i :: rest) :: k)) cs) W:=
  .ctl rfl (fun w=>stepG_entry_pure v ho hw hk hop hf hname hb hn he) h
section
variable {fn:Func}{todo:List Item}{b₀:Frame}{a₀:Act}{ops:Array Oper}{i:Nat}{rest:List Nat}
theorem JL.leave1 {t:Tmp}(hn:b.kind=.normal)(hd:a.defers=[])(hf:P.funcs[b.fn]?=some fn)(hr:fn.results=#[.tmp t])(h:JL S γ (G (b₀.at (a₀.put ((ops[i]?).bind (·.dst)) (a.tmps.getD t undef)) (.inRegion ops rest :: k)) cs) W):JL S γ (G { b.at a todo with mode:=.returning } (b₀.at a₀ (.inRegion ops (i :: rest) :: k) :: cs)) W:=
  .ctl rfl (fun w=>by rw [stepG_leave hn hd hf (results_tmp hr _ P w) (events_results_tmp hr _ _),Frame.finish_at]) h
theorem JL.leave0 (hn:b.kind=.normal)(hd:a.defers=[])(hf:P.funcs[b.fn]?=some fn)(hr:fn.results=#[])(h:JL S γ (G (b₀.at (a₀.put ((ops[i]?).bind (·.dst)) (.tuple #[])) (.inRegion ops rest :: k)) cs) W):JL S γ (G { b.at a todo with mode:=.returning } (b₀.at a₀ (.inRegion ops (i :: rest) :: k) :: cs)) W:=
  .ctl rfl (fun w=>by rw [stepG_leave hn hd hf (results_none hr _ P w) (events_results_none hr _ _),Frame.finish_at]) h
theorem JL.leaveD {c:Frame}(hn:b.kind=.deferred)(hd:a.defers=[])(hf:P.funcs[b.fn]?=some fn)(hr:fn.results=#[])(hc:c.mode=.returning)(h:JL S γ (G c cs) W):JL S γ (G { b.at a todo with mode:=.returning } (c :: cs)) W:=
  .ctl rfl (fun w=>stepG_leave_deferred hn hd hf (results_none hr _ P w) (events_results_none hr _ _) hc) h
end
inductive XM (k:List Item):List Item->Prop
  | mk:XM k k
theorem JL.region {id:Nat}{ops:Array Oper}{l:List Nat}(hl:List.range ops.size=l)(h:∀ k',XM k k'->JL S γ (G (b.at a (.inRegion ops l :: k')) cs) W):JL S γ (G (b.at a (.code (.region id ops false) :: k)) cs) W:=
  .ctl rfl (fun w=>stepG_region) (by rw [hl];exact h k .mk)
theorem JL.Fz {c:Operand}{x y:Code}(hc:a.eval c=.bool true)(h:JL S γ (G (b.at a (.code x :: k)) cs) W):JL S γ (G (b.at a (.code (.cond c x y) :: k)) cs) W:=
  .ctl rfl (fun w=>by rw [stepG_cond hc];rfl) h
theorem JL.Ey {c:Operand}{x y:Code}(hc:a.eval c=.bool false)(h:JL S γ (G (b.at a (.code y :: k)) cs) W):JL S γ (G (b.at a (.code (.cond c x y) :: k)) cs) W:=
  .ctl rfl (fun w=>by rw [stepG_cond hc];rfl) h
theorem JL.exit {id:Nat}{k':List Item}(he:exitTo id k=some k')(h:JL S γ (G (b.at a k') cs) W):JL S γ (G (b.at a (.code (.exit id) :: k)) cs) W:=
  .ctl rfl (fun w=>stepG_exit he) h
end
theorem Zh {f:FuncId}:(base f).kind≠.early:=Go.ConcR.Gen.base_kind f
theorem bJ {f:FuncId}:(baseD f).kind≠.early:=Go.ConcR.Gen.baseD_kind f
class NEa (b:Frame):Prop where
  h:b.kind≠.early
instance {f:FuncId}:NEa (base f):=⟨Zh⟩
instance {f:FuncId}:NEa (baseD f):=⟨bJ⟩
theorem nE {b:Frame}[h:NEa b]:b.kind≠.early:=h.h
section
variable {P:Program}{main:Bool}{Γ:Type}{S:Ou P main Γ}{γ:Γ}{W:World}{b:Frame}{a:Act}{k:List Item}{cs:List Frame}
theorem Er {f:Frame}{g':Goroutine}(h:∀ {w},stepG P main (G f cs) w=.go g' w #[])(hJ:JL S γ g' W):JL S γ (G f cs) W:=.ctl rfl (fun _=>h) hJ
theorem Ei {c d:Code}(hJ:JL S γ (G (b.at a (.code c :: .code d :: k)) cs) W):JL S γ (G (b.at a (.code (.seq c d) :: k)) cs) W:=.ctl rfl (fun _=>stepG_seq) hJ
theorem Eo {v:Value}{ops:Array Oper}{i:Nat}{rest:List Nat}{o:Oper}(h:JL S γ (G (b.at (a.put o.dst v) (.inRegion ops rest :: k)) cs) W)(ho:ops[i]?=some o:=by exact rfl)(hw:Region.wanted o (yielded ops a.tmps)=true:=by exact rfl)(hk:b.kind≠.early:=by first | exact Zh | exact bJ | decide | assumption)(hr:∀ w,S.live γ w->(execOp a.eval o).run P w=.ok (.value v) w:=by intro _ _;go_simp;(try w_num);rfl)(he:∀ w,S.live γ w->∀ e∈(execOp a.eval o).events P w #[],False:=by intro _ _ e he;simp [go_sem, *] at he):JL S γ (G (b.at a (.inRegion ops (i :: rest) :: k)) cs) W:=JL.value v ho hw hk hr he h
theorem EB {ops:Array Oper}(hJ:JL S γ (G (b.at a k) cs) W):JL S γ (G (b.at a (.inRegion ops [] :: k)) cs) W:=.ctl rfl (fun _=>stepG_region_end) hJ
theorem EH {id:Nat}{ops:Array Oper}{l:List Nat}(h:∀ k',XM k k'->JL S γ (G (b.at a (.inRegion ops l :: k')) cs) W)(hl:List.range ops.size=l:=by first | (simp only [List.size_toArray,List.length_cons,List.length_nil,Nat.reduceAdd,Nat.zero_add,List.range,List.range.loop];done) | (simp only [List.size_toArray,List.length_cons,List.length_nil,Nat.reduceAdd,Nat.zero_add,List.range,List.range.loop];rfl)):JL S γ (G (b.at a (.code (.region id ops false) :: k)) cs) W:=JL.region hl h
end
end
end Go.LT
end
