/-
  Part 11 of the proof that CellAlone returns true for every input and leaves its arguments as they were. No further condition.
-/
import Derived.Test.YtkdhnbcdbnpmhaaQ09
import Derived.Test.YtkdhnbcdbnpmhaaQ10
import Derived.TacticsIn
import Derived.Conc.Listed
set_option linter.unusedVariables false
set_option linter.unusedSectionVars false
namespace Go.LT
open Go Go.Conc
section
variable [Host]
abbrev Jz (fn:FuncId)(tm:Array Value)(Y:List Item)(ds:List Deferred)(mode:FrameMode)(κ:CallKind):Frame:={ fn,tmps:=tm,todo:=Y,defers:=ds,mode,kind:=κ }
def jg (fn:FuncId)(k:List Item)(ds:List Deferred)(κ:CallKind)(cs:List Frame)(e:Exit)(tm:Array Value)(g:Goroutine):Prop:=
  match e with
  | .normal=>g=G (Jz fn tm k ds .run κ) cs
  | .ret=>∃ Y,g=G (Jz fn tm Y ds .returning κ) cs
  | .panic ch=>∃ Y,g=G (Jz fn tm Y ds (.panicking ch) κ) cs
  | _=>False
section
variable {P:Program}{F:FuncId->Prop}{B:Hid}{main:Bool}{R:World->World->Prop}{D:World->World->Array Event->Prop}
theorem XZ {Fn:Fence}(hal:Fn.alive=true){m₁ m':Machine}{fr:Frame}{cs:List Frame}{w':World}(hm:m'=lone fr cs w')(h:StepsIn (Machine.fenced P Fn) P m₁ m'){g:Goroutine}(hg:g∈m₁.gs)(hd:g.dying.isNone=false):False:=by
  cases h with
  | refl=>
    subst hm;simp only [lone,List.mem_toArray,List.mem_singleton] at hg;subst hg;cases hd
  | head hI _ _=>have:=(hI g hg).1 hal;rw [this] at hd;cases hd
theorem S9 (hF:∀ f,F f->Lets P f){Fn:Fence}(hal:Fn.alive=true){fr fr':Frame}{w w':World}{cs:List Frame}(h0:JZ P F fr)(hm:fr.mode≠.run)(h:StepsIn (Machine.fenced P Fn) P (lone fr [] w) (lone fr' cs w')):lone fr [] w=lone fr' cs w':=by
  generalize e:lone fr' cs w'=m' at h;cases h with
  | refl=>rfl
  | @head _ m₁ _ hI hs h'=>
    exfalso
    rcases bottom hF h0 hm (w:=w) with ⟨o,w2,es,hb⟩|⟨g',w2,es,hb,hdy⟩
    . obtain ⟨o,w2,h⟩:=KI hb;rw [hs] at h;cases h
    . obtain ⟨m2,h,hmem⟩:=Qj hb;rw [hs] at h;cases h
      exact XZ hal e.symm h' hmem hdy
theorem Uq {Fn:Fence}{fn:FuncId}{tm:Array Value}{ds:List Deferred}{w:World}{m':Machine}(h:StepsIn (Machine.fenced P Fn) P (lone { fn,tmps:=tm,todo:=[RR],defers:=ds,mode:=.run,kind:=.normal } [] w) m'):lone { fn,tmps:=tm,todo:=[RR],defers:=ds,mode:=.run,kind:=.normal } [] w=m':=by
  cases h with
  | refl=>rfl
  | head hI hs h'=>
    exfalso
    have:∃ o w' es,stepG P true (G { fn,tmps:=tm,todo:=[RR],defers:=ds,mode:=.run,kind:=.normal } []) w=.ended o w' es:=⟨_,_,_,by simp [G,stepG,stepG.exec,RR];exact ⟨rfl,rfl,rfl⟩⟩
    obtain ⟨o,w',es,e⟩:=this;obtain ⟨o,w2,h⟩:=KI e;rw [hs] at h;cases h
theorem o9 {k Y:List Item}{l2:Option (Array Oper × List Nat)}(h:Cv P k l2 [RR] Y):l2=none/\Y=k:=by
  cases h with
  | base h=>exact ⟨h,rfl⟩
  | cons h hi hc=>cases hc
theorem Zx {p:kK}{cs:List Frame}{fr:Frame}{s:List Frame}{g:Goroutine}(hR:VQ P F p cs fr s g)(hs:s=[]):∃ tm X Y mode,Cv P p.k p.l2 X Y/\fr={ fn:=p.fn,tmps:=tm,todo:=X,defers:=[],mode,kind:=.normal }/\g=G (Jz p.fn tm Y p.ds mode p.κ) cs:=by
  cases hR with
  | bot h=>obtain ⟨⟨tm,X,Y,mode,hc,hm,rfl,rfl⟩,_,_⟩:=h;exact ⟨tm,X,Y,mode,hc,rfl,rfl⟩
  | top=>simp at hs
theorem gN (hT:∀ w w₁,R w w₁->Turns B w w₁)(hD:∀ w w' es,Rows B w->Kept B w w'->(∀ e∈es,Lr B w'.heap.size e)->D w w' es)(hF:∀ f,F f->Lets P f){Fn:Fence}(hFn:∀ f,Fn.fn f->F f)(hal:Fn.alive=true)(Mv:Fn.depth=none)(XL:Fn.round=none){fn:FuncId}(hf:Fn.fn fn){κ:CallKind}(TP:κ≠.early){c:Code}(hc:JE P c=true){n:Nat}{tm:Array Value}{k:List Item}{ds:List Deferred}{cs:List Frame}{w0:World}(hR0:Rows B w0){Q:Exit->Act->World->Prop}(hQ:∀ e a w,Q e a w->e=.normal\/e=.ret\/∃ ch,e=.panic ch)(hwp:∀ τ,c.wpIn Fn n P Q ⟨tm,[]⟩ (sh (GN B w0) τ 0)) :
    Way P main R D (fun g w=>∃ e tm' τ d,Rows B w/\Q e ⟨tm',[]⟩ (sh (GN B w) τ d)/\jg fn k ds κ cs e tm' g) (G (Jz fn tm (.code c :: k) ds .run κ) cs) w0:=by
  let p:kK:=⟨k,none,ds,κ,fn⟩
  let En:(Nat->Question->Nat)->Frame->List Frame->World->Prop:=fun τ fr s W=>s=[]/\∃ e a,Q e a W/\match e with
    | .normal=>fr={ fn,tmps:=a.tmps,todo:=[RR],defers:=a.defers,mode:=.run,kind:=.normal }
    | .ret=>∃ todo,fr={ fn,tmps:=a.tmps,todo,defers:=a.defers,mode:=.returning,kind:=.normal }
    | .panic ch=>∃ todo,fr={ fn,tmps:=a.tmps,todo,defers:=a.defers,mode:=.panicking ch,kind:=.normal }
    | _=>False
  have h0:VQ P F p cs { fn,tmps:=tm,todo:=[.code c,RR],defers:=[],mode:=.run,kind:=.normal } [] (G (Jz fn tm (.code c :: k) ds .run κ) cs):=
    .bot ⟨⟨tm,[.code c,RR],.code c :: k,.run,.cons rfl hc (.base rfl),fun ch e=>(by cases e),rfl,rfl⟩,hFn _ hf,TP⟩
  refine (V9 (En:=En) hT hD (WZ (p:=p) (cs:=cs) hF) hFn h0 hR0 fun τ=>?_).mono fun g w hst=>?_
  . obtain ⟨e,a,w',hq,harr⟩:=hwp τ { (default:Frame) with fn:=fn,kind:=.normal,roundOf:=none } [RR] [] XL.symm hf (fun d hd=>by rw [Mv] at hd;cases hd)
    have key:∀ fr,En τ fr [] w'->StepsIn (Machine.fenced P Fn) P (lone { fn,tmps:=tm,todo:=[.code c,RR],defers:=[],mode:=.run,kind:=.normal } [] (sh (GN B w0) τ 0)) (lone fr [] w')->
        ∃ fr s w',En τ fr s w'/\StepsIn (fun m=>Machine.fenced P Fn m/\¬ jm (bS P F p) m) P (lone { fn,tmps:=tm,todo:=[.code c,RR],defers:=[],mode:=.run,kind:=.normal } [] (sh (GN B w0) τ 0)) (lone fr s w'):=by
      intro fr hE hS;rcases PI (Q:=jm (bS P F p)) hS with h|⟨m₁,h1,⟨wH,s1,w1,rfl,rfl,hfin,hok⟩,_,h4⟩
      . exact ⟨fr,[],w',hE,h⟩
      . have hsame:lone wH [] w1=lone fr [] w':=by
          by_cases hm:wH.mode=.run
          . rcases hfin with hx | hx | hx
            . exact absurd hm hx
            . obtain ⟨_,hx⟩:=hx;obtain ⟨fn1,WX,yQ,ds1,zH,Abo,ro1⟩:=wH;have e1:=hok.kind;have e2:=hok.round;simp only at hm hx e1 e2;subst hm hx e1 e2;exact Uq h4
            . exact absurd rfl hx.1
          . exact S9 hF hal hok hm h4
        exact ⟨fr,[],w',hE,by rw [← hsame];exact h1⟩
    rcases hQ _ _ _ hq with rfl|rfl|⟨ch,rfl⟩
    . exact key _ ⟨rfl,.normal,a,hq,rfl⟩ harr
    . obtain ⟨todo,hs⟩:=harr.1 rfl;exact key _ ⟨rfl,.ret,a,hq,todo,rfl⟩ hs
    . obtain ⟨todo,hs⟩:=harr;exact key _ ⟨rfl,.panic ch,a,hq,todo,rfl⟩ hs
  . obtain ⟨fr,s,τ,d,hRl,⟨rfl,e,a,hq,hm⟩,Uw⟩:=hst;obtain ⟨tm',X,Y,mode,hcv,rfl,rfl⟩:=Zx hRl rfl;obtain ⟨atm,pR⟩:=a;rcases hQ _ _ _ hq with rfl|rfl|⟨ch,rfl⟩
    . simp only [Frame.mk.injEq,true_and,and_true] at hm;obtain ⟨_,rfl,rfl,rfl,rfl⟩:=hm;obtain ⟨_,rfl⟩:=o9 hcv;exact ⟨.normal,_,τ,d,Uw,hq,rfl⟩
    . obtain ⟨todo,hm⟩:=hm;simp only [Frame.mk.injEq,true_and,and_true] at hm;obtain ⟨_,rfl,rfl,rfl,rfl⟩:=hm;exact ⟨.ret,_,τ,d,Uw,hq,_,rfl⟩
    . obtain ⟨todo,hm⟩:=hm;simp only [Frame.mk.injEq,true_and,and_true] at hm;obtain ⟨_,rfl,rfl,rfl,rfl⟩:=hm;exact ⟨.panic ch,_,τ,d,Uw,hq,_,rfl⟩
theorem Vw (hT:∀ w w₁,R w w₁->Turns B w w₁)(hD:∀ w w' es,Rows B w->Kept B w w'->(∀ e∈es,Lr B w'.heap.size e)->D w w' es)(hF:∀ f,F f->Lets P f){Fn:Fence}(hFn:∀ f,Fn.fn f->F f)(hal:Fn.alive=true)(Mv:Fn.depth=none)(XL:Fn.round=none){fn:FuncId}(hf:Fn.fn fn){κ:CallKind}(TP:κ≠.early){ops:Array Oper}{l l':List Nat}(hc:I5 P (.inRegion ops l)=true){n:Nat}{tm:Array Value}{k:List Item}{ds:List Deferred}{cs:List Frame}{w0:World}(hR0:Rows B w0){Q:Exit->Act->World->Prop}(hQ:∀ e a w,Q e a w->e=.normal\/∃ ch,e=.panic ch)(hwp:∀ τ,wpOpsIn Fn n P ops Q l ⟨tm,[]⟩ (sh (GN B w0) τ 0)) :
    Way P main R D (fun g w=>∃ e tm' τ d,Rows B w/\Q e ⟨tm',[]⟩ (sh (GN B w) τ d)/\jg fn (.inRegion ops l' :: k) ds κ cs e tm' g) (G (Jz fn tm (.inRegion ops (l ++ l') :: k) ds .run κ) cs) w0:=by
  let p:kK:=⟨k,some (ops,l'),ds,κ,fn⟩
  let En:(Nat->Question->Nat)->Frame->List Frame->World->Prop:=fun τ fr s W=>s=[]/\∃ e a,Q e a W/\match e with
    | .normal=>fr={ fn,tmps:=a.tmps,todo:=[RR],defers:=a.defers,mode:=.run,kind:=.normal }\/∃ ops',fr={ fn,tmps:=a.tmps,todo:=[.inRegion ops' [],RR],defers:=a.defers,mode:=.run,kind:=.normal }
    | .panic ch=>∃ todo,fr={ fn,tmps:=a.tmps,todo,defers:=a.defers,mode:=.panicking ch,kind:=.normal }
    | _=>False
  have h0:VQ P F p cs { fn,tmps:=tm,todo:=[.inRegion ops l,RR],defers:=[],mode:=.run,kind:=.normal } [] (G (Jz fn tm (.inRegion ops (l ++ l') :: k) ds .run κ) cs):=
    .bot ⟨⟨tm,[.inRegion ops l,RR],.inRegion ops (l ++ l') :: k,.run,.reg rfl hc,fun ch e=>(by cases e),rfl,rfl⟩,hFn _ hf,TP⟩
  refine (V9 (En:=En) hT hD (WZ (p:=p) (cs:=cs) hF) hFn h0 hR0 fun τ=>?_).mono fun g w hst=>?_
  . obtain ⟨e,a,w',hq,harr⟩:=wp_opsIn l _ _ (hwp τ) { (default:Frame) with fn:=fn,kind:=.normal,roundOf:=none } [RR] [] XL.symm hf (fun d hd=>by rw [Mv] at hd;cases hd)
    have key:∀ fr,En τ fr [] w'->(∀ tm ds,fr={ fn,tmps:=tm,todo:=[RR],defers:=ds,mode:=.run,kind:=.normal }->Q .normal ⟨tm,ds⟩ w')->StepsIn (Machine.fenced P Fn) P (lone { fn,tmps:=tm,todo:=[.inRegion ops l,RR],defers:=[],mode:=.run,kind:=.normal } [] (sh (GN B w0) τ 0)) (lone fr [] w')->
        ∃ fr s w',En τ fr s w'/\StepsIn (fun m=>Machine.fenced P Fn m/\¬ jm (bS P F p) m) P (lone { fn,tmps:=tm,todo:=[.inRegion ops l,RR],defers:=[],mode:=.run,kind:=.normal } [] (sh (GN B w0) τ 0)) (lone fr s w'):=by
      intro fr hE xZ hS;rcases PI (Q:=jm (bS P F p)) hS with h|⟨m₁,h1,⟨wH,s1,w1,rfl,rfl,hfin,hok⟩,_,h4⟩
      . exact ⟨fr,[],w',hE,h⟩
      . by_cases hm:wH.mode=.run
        . rcases hfin with hx | hx | hx
          . exact absurd hm hx
          . exact absurd hx.1 (by simp [p])
          . obtain ⟨_,ops',hx⟩:=hx;obtain ⟨fn1,WX,yQ,ds1,zH,Abo,ro1⟩:=wH;have e1:=hok.kind;have e2:=hok.round;simp only at hm hx e1 e2;subst hm hx e1 e2;refine ⟨_,[],w1,?_,h1⟩;have hst:step P (lone { fn:=fn1,tmps:=WX,todo:=[.inRegion ops' [],RR],defers:=ds1,mode:=.run,kind:=.normal } [] w1)=.next (lone { fn:=fn1,tmps:=WX,todo:=[RR],defers:=ds1,mode:=.run,kind:=.normal } [] w1):=
              step_lone_go (by simp [stepG,stepG.exec])
            generalize hend:lone fr [] w'=m' at h4;cases h4 with
            | refl=>
              obtain ⟨_,e,a,hq,hm⟩:=hE;simp only [lone,Machine.mk.injEq,Array.mk.injEq,List.cons.injEq,Goroutine.mk.injEq,and_true,true_and] at hend;obtain ⟨rfl,rfl⟩:=hend;exact ⟨rfl,e,a,hq,hm⟩
            | head hI hs h'=>
              rw [hst] at hs;cases hs
              have:=Uq h';rw [← hend] at this;simp only [lone,Machine.mk.injEq,Array.mk.injEq,List.cons.injEq,Goroutine.mk.injEq,and_true,true_and] at this;obtain ⟨rfl,rfl⟩:=this;have hfn:fn1=fn:=by
                obtain ⟨_,e,a,hq,hm⟩:=hE;cases e with
                | normal=>
                  rcases hm with hm|⟨o,hm⟩
                  . exact congrArg Frame.fn hm
                  . exact congrArg Frame.fn hm
                | panic ch=>obtain ⟨todo,hm⟩:=hm;exact congrArg Frame.fn hm
                | _=>exact hm.elim
              subst hfn;exact ⟨rfl,.normal,⟨WX,ds1⟩,xZ WX ds1 rfl,.inr ⟨ops',rfl⟩⟩
        . have hsame:=S9 hF hal hok hm h4;exact ⟨fr,[],w',hE,by rw [← hsame];exact h1⟩
    rcases hQ _ _ _ hq with rfl|⟨ch,rfl⟩
    . refine key _ ⟨rfl,.normal,a,hq,.inl rfl⟩ (fun tm ds e=>?_) harr;obtain ⟨atm,pR⟩:=a;simp only [Frame.mk.injEq,true_and,and_true] at e;obtain ⟨rfl,rfl⟩:=e;exact hq
    . obtain ⟨todo,hs⟩:=harr;refine key _ ⟨rfl,.panic ch,a,hq,todo,rfl⟩ (fun tm ds e=>?_) hs;simp only [Frame.atR,Frame.mk.injEq] at e;obtain ⟨_,_,_,_,e,_⟩:=e;cases e
  . obtain ⟨fr,s,τ,d,hRl,⟨rfl,e,a,hq,hm⟩,Uw⟩:=hst;obtain ⟨tm',X,Y,mode,hcv,rfl,rfl⟩:=Zx hRl rfl;obtain ⟨atm,pR⟩:=a;rcases hQ _ _ _ hq with rfl|⟨ch,rfl⟩
    . rcases hm with hm | ⟨ops',hm⟩
      . simp only [Frame.mk.injEq,true_and,and_true] at hm;obtain ⟨_,rfl,rfl,rfl,rfl⟩:=hm;exact absurd (o9 hcv).1 (by simp [p])
      . simp only [Frame.mk.injEq,true_and,and_true] at hm;obtain ⟨_,rfl,rfl,rfl,rfl⟩:=hm;cases hcv with
        | reg h ho=>
          simp only [p,Option.some.injEq,Prod.mk.injEq] at h;obtain ⟨rfl,rfl⟩:=h;exact ⟨.normal,_,τ,d,Uw,hq,rfl⟩
        | cons h hi hc=>exact absurd h (by simp [p])
    . obtain ⟨todo,hm⟩:=hm;simp only [Frame.mk.injEq,true_and,and_true] at hm;obtain ⟨_,rfl,rfl,rfl,rfl⟩:=hm;exact ⟨.panic ch,_,τ,d,Uw,hq,_,rfl⟩
end
end
section
def Alike (W GQ:World):Prop:=∃ τ d,GQ=sh W τ d
theorem Alike.refl (W:World):Alike W W:=⟨W.tape,W.drawn,rfl⟩
def J2 (B:Hid)(w W:World):Prop:=Alike (GN B w) W/\Rows B w
def JV {Γ:Type}(B:Γ->Hid)(J:Γ->Goroutine->World->Prop)(γ:Γ)(g:Goroutine)(W:World):Prop:=∀ w,J2 (B γ) w W->J γ g w
structure Sy (P:Program)(main:Bool)(Γ:Type) where
  B:Γ->Hid
  J:Γ->Goroutine->World->Prop
  silent:∀ γ g g' W,g.status=.running->(∀ w,stepG P main g w=.go g' w #[])->JV B J γ g' W->JV B J γ g W
structure HY (P:Program)(main:Bool)(Γ:Type) where
  B:Γ->Hid
  R:Γ->World->World->Prop
  D:Γ->World->World->Array Event->Prop
  J:Γ->Goroutine->World->Prop
  refl:∀ γ w,R γ w w
  trans:∀ γ a b c,R γ a b->R γ b c->R γ a c
  turns:∀ γ w w₁,R γ w w₁->Turns (B γ) w w₁
  kept:∀ γ w w' es,Rows (B γ) w->Kept (B γ) w w'->(∀ e∈es,Lr (B γ) w'.heap.size e)->D γ w w' es
  way:∀ γ g w,Way P main (R γ) (D γ) (J γ) g w->J γ g w
theorem HY.turn {P:Program}{main:Bool}{Γ:Type}(S:HY P main Γ){γ:Γ}{W w w₁:World}(h:J2 (S.B γ) w W)(hr:S.R γ w w₁):J2 (S.B γ) w₁ W:=by obtain ⟨⟨τ,d,rfl⟩,hR⟩:=h;have ht:=S.turns _ _ _ hr;exact ⟨⟨τ,d,by rw [ht.same];rfl⟩,ht.rows hR⟩
theorem HY.step {P:Program}{main:Bool}{Γ:Type}(S:HY P main Γ){γ:Γ}{W:World}{g:Goroutine}(hs:g.status=.running)(h:∀ w,J2 (S.B γ) w W->∃ g' w' es,stepG P main g w=.go g' w' es/\Kept (S.B γ) w w'/\(∀ e∈es,Lr (S.B γ) w'.heap.size e)/\∃ W',J2 (S.B γ) w' W'/\JV S.B S.J γ g' W'):JV S.B S.J γ g W:=by intro w hw;refine S.way _ _ _ (.one hs fun w₁ h₁=>?_);obtain ⟨g',w',es,e1,e2,e3,W',e4,e5⟩:=h w₁ (S.turn hw h₁);exact ⟨g',w',es,e1,S.kept _ _ _ _ (S.turn hw h₁).2 e2 e3,.stop fun w₂ h₂=>e5 w₂ (S.turn e4 h₂)⟩
def HY.base {P:Program}{main:Bool}{Γ:Type}(S:HY P main Γ):Sy P main Γ where
  B:=S.B
  J:=S.J
  silent:=fun γ g g' W hs h hJ=>S.step hs fun w hw=>⟨g',w,#[],h w,Kept.refl _ _,by simp,W,hw,hJ⟩
section
variable {P:Program}{main:Bool}{Γ:Type}(S:Sy P main Γ)
abbrev JW (γ:Γ)(g:Goroutine)(W:World):Prop:=JV S.B S.J γ g W
def After (fn:FuncId)(κ:CallKind)(k:List Item)(cs:List Frame)(e:Exit)(a:Act)(γ:Γ)(W:World):Prop:=
  match e with
  | .normal=>JW S γ (G (Jz fn a.tmps k a.defers .run κ) cs) W
  | .exit id=>∃ k',exitTo id k=some k'/\JW S γ (G (Jz fn a.tmps k' a.defers .run κ) cs) W
  | .goto l=>∃ k',gotoIn l k=some k'/\JW S γ (G (Jz fn a.tmps k' a.defers .run κ) cs) W
  | .ret=>∀ Y,JW S γ (G (Jz fn a.tmps Y a.defers .returning κ) cs) W
  | .panic ch=>∀ Y,JW S γ (G (Jz fn a.tmps Y a.defers (.panicking ch) κ) cs) W
  | .outgrown=>False
abbrev Post (Γ:Type):=Exit->Act->Γ->World->Prop
def Runs (L:FuncId->Prop)(c:Code)(Q:Post Γ)(a:Act)(γ:Γ)(W:World):Prop:=
  ∀ fn κ k cs,L fn->κ≠.early->(∀ e a' γ' W',Q e a' γ' W'->After S fn κ k cs e a' γ' W')->JW S γ (G (Jz fn a.tmps (.code c :: k) a.defers .run κ) cs) W
def TF (L:FuncId->Prop)(ops:Array Oper)(l:List Nat)(Q:Post Γ)(a:Act)(γ:Γ)(W:World):Prop:=
  ∀ fn κ k cs,L fn->κ≠.early->(∀ e a' γ' W',Q e a' γ' W'->After S fn κ k cs e a' γ' W')->JW S γ (G (Jz fn a.tmps (.inRegion ops l :: k) a.defers .run κ) cs) W
def Pz (f:FuncId)(args:Array Value)(γ:Γ)(W:World)(R:Ending->Γ->World->Prop):Prop:=
  ∀ c cs,(∀ v γ' W',R (.returned v) γ' W'->JW S γ' (G (c.finish v) cs) W')->(∀ ch γ' W',R (.panicked ch) γ' W'->JW S γ' (G (c.raise ch) cs) W')->JW S γ (G (Frame.enter P f args .normal) (c :: cs)) W
end
section
variable {P:Program}{main:Bool}{Γ:Type}{S:Sy P main Γ}{L:FuncId->Prop}{γ:Γ}{W:World}{a:Act}{Q Q':Post Γ}
theorem JW.tape {GQ:World}{g:Goroutine}(h:JW S γ g W)(hW:Alike W GQ):JW S γ g GQ:=by
  rintro w ⟨⟨τ,d,e⟩,hR⟩;obtain ⟨XG,d',rfl⟩:=hW;refine h w ⟨⟨W.tape,W.drawn,?_⟩,hR⟩;show W={ GN (S.B γ) w with tape:=W.tape,drawn:=W.drawn }
  have:sh (sh W XG d') W.tape W.drawn=sh (sh (GN (S.B γ) w) τ d) W.tape W.drawn:=by rw [e]
  exact this
theorem JW.silent {g g':Goroutine}(hs:g.status=.running)(h:∀ w,stepG P main g w=.go g' w #[])(hJ:JW S γ g' W):JW S γ g W:=S.silent γ g g' W hs h hJ
theorem Runs.mono {c:Code}(h:Runs S L c Q a γ W)(hq:∀ e a γ W,Q e a γ W->Q' e a γ W):Runs S L c Q' a γ W:=fun fn κ k cs hf hk hA=>h fn κ k cs hf hk fun e a' γ' W' q=>hA _ _ _ _ (hq _ _ _ _ q)
def Exit.andThen (next:Act->Γ->World->Prop)(Q:Post Γ):Post Γ
  | .normal,a,γ,W=>next a γ W
  | e,a,γ,W=>Q e a γ W
theorem Runs.seq {x y:Code}(h:Runs S L x (Exit.andThen (Runs S L y Q) Q) a γ W):Runs S L (.seq x y) Q a γ W:=fun fn κ k cs hf hk hA=>
  .silent rfl (g':=G (Jz fn a.tmps (.code x :: .code y :: k) a.defers .run κ) cs) (fun w=>by simp [G,stepG,stepG.exec]) (h fn κ (.code y :: k) cs hf hk fun e a' γ' W' q=>by
    cases e with
    | normal=>exact q fn κ k cs hf hk hA
    | exit id=>obtain ⟨k',h1,h2⟩:=hA _ _ _ _ q;exact ⟨k',by simpa [exitTo] using h1,h2⟩
    | goto l=>obtain ⟨k',h1,h2⟩:=hA _ _ _ _ q;exact ⟨k',by simpa [gotoIn] using h1,h2⟩
    | ret=>exact hA _ _ _ _ q
    | panic ch=>exact hA _ _ _ _ q
    | outgrown=>exact hA _ _ _ _ q)
theorem Runs.cond {c:Operand}{x y:Code}{t:Bool}(hc:a.eval c=.bool t)(h:Runs S L (if t then x else y) Q a γ W):Runs S L (.cond c x y) Q a γ W:=fun fn κ k cs hf hk hA=>
  .silent rfl (g':=G (Jz fn a.tmps (.code (if t then x else y) :: k) a.defers .run κ) cs) (fun w=>by
    have he:Frame.eval (Jz fn a.tmps (.code (.cond c x y) :: k) a.defers .run κ) c=.bool t:=by rw [← hc];cases c <;> rfl
    simp only [Jz] at he;simp [G,stepG,stepG.exec,he]) (h fn κ k cs hf hk hA)
theorem Runs.skip (h:Q .normal a γ W):Runs S L .skip Q a γ W:=fun fn κ k cs hf hk hA=>.silent rfl (g':=G (Jz fn a.tmps k a.defers .run κ) cs) (fun w=>by simp [G,stepG,stepG.exec]) (hA _ _ _ _ h)
theorem Runs.ret (h:Q .ret a γ W):Runs S L .ret Q a γ W:=fun fn κ k cs hf hk hA=>.silent rfl (g':=G (Jz fn a.tmps (.code .ret :: k) a.defers .returning κ) cs) (fun w=>by simp [G,stepG,stepG.exec]) (hA _ _ _ _ h _)
theorem Runs.exit {id:Nat}(h:Q (.exit id) a γ W):Runs S L (.exit id) Q a γ W:=fun fn κ k cs hf hk hA=>by obtain ⟨k',h1,h2⟩:=hA _ _ _ _ h;exact .silent rfl (g':=G (Jz fn a.tmps k' a.defers .run κ) cs) (fun w=>by simp [G,stepG,stepG.exec,h1]) h2
def Exit.within (id:Nat)(Q:Post Γ):Post Γ
  | .exit id',a,γ,W=>if id'=id then Q .normal a γ W else Q (.exit id') a γ W
  | e,a,γ,W=>Q e a γ W
theorem Runs.block {id:Nat}{c:Code}(h:Runs S L c (Exit.within id Q) a γ W):Runs S L (.block id c) Q a γ W:=fun fn κ k cs hf hk hA=>
  .silent rfl (g':=G (Jz fn a.tmps (.code c :: .inBlock id :: k) a.defers .run κ) cs) (fun w=>by simp [G,stepG,stepG.exec]) (h fn κ (.inBlock id :: k) cs hf hk fun e a' γ' W' q=>by
    cases e with
    | normal=>exact .silent rfl (g':=G (Jz fn a'.tmps k a'.defers .run κ) cs) (fun w=>by simp [G,stepG,stepG.exec]) (hA _ _ _ _ (show Q .normal a' γ' W' from q))
    | exit id'=>
      by_cases hid:id'=id
      . have q:Q .normal a' γ' W':=by simpa [Exit.within,hid] using q
        exact ⟨k,by simp [exitTo,hid],hA _ _ _ _ q⟩
      . have q:Q (.exit id') a' γ' W':=by simpa [Exit.within,hid] using q
        obtain ⟨k',h1,h2⟩:=hA _ _ _ _ q;exact ⟨k',by
                      have:(id == id')=false:=by simp;exact fun h=>hid h.symm
                      simpa [exitTo,this] using h1,h2⟩
    | goto l=>obtain ⟨k',h1,h2⟩:=hA _ _ _ _ (show Q (.goto l) a' γ' W' from q);exact ⟨k',by simpa [gotoIn] using h1,h2⟩
    | ret=>exact hA _ _ _ _ (show Q .ret a' γ' W' from q)
    | panic ch=>exact hA _ _ _ _ (show Q (.panic ch) a' γ' W' from q)
    | outgrown=>exact hA _ _ _ _ (show Q .outgrown a' γ' W' from q))
theorem Runs.loop {c:Code}(I:Nat->Act->Γ->World->Prop){n:Nat}(h0:I n a γ W)(h:∀ n a γ W,I n a γ W->Runs S L c (Exit.andThen (fun a' γ' W'=>∃ m,m < n/\I m a' γ' W') Q) a γ W):Runs S L (.loop c) Q a γ W:=fun fn κ k cs hf hk hA=>by
  have key:∀ n a γ W,I n a γ W->JW S γ (G (Jz fn a.tmps (.code c :: .inLoop c :: k) a.defers .run κ) cs) W:=by
    intro n;induction n using Nat.strongRecOn with
    | _ n ih=>
      intro a γ W hI;refine h n a γ W hI fn κ (.inLoop c :: k) cs hf hk fun e a' γ' W' q=>?_;cases e with
      | normal=>
        obtain ⟨m,hm,hI'⟩:=q;exact .silent rfl (g':=G (Jz fn a'.tmps (.code c :: .inLoop c :: k) a'.defers .run κ) cs) (fun w=>by simp [G,stepG,stepG.exec]) (ih m hm _ _ _ hI')
      | exit id=>obtain ⟨k',h1,h2⟩:=hA _ _ _ _ q;exact ⟨k',by simpa [exitTo] using h1,h2⟩
      | goto l=>obtain ⟨k',h1,h2⟩:=hA _ _ _ _ q;exact ⟨k',by simpa [gotoIn] using h1,h2⟩
      | ret=>exact hA _ _ _ _ q
      | panic ch=>exact hA _ _ _ _ q
      | outgrown=>exact hA _ _ _ _ q
  exact .silent rfl (g':=G (Jz fn a.tmps (.code c :: .inLoop c :: k) a.defers .run κ) cs) (fun w=>by simp [G,stepG,stepG.exec]) (key n a γ W h0)
theorem Runs.region {id:Nat}{ops:Array Oper}(h:TF S L ops (List.range ops.size) Q a γ W):Runs S L (.region id ops false) Q a γ W:=fun fn κ k cs hf hk hA=>
  .silent rfl (g':=G (Jz fn a.tmps (.inRegion ops (List.range ops.size) :: k) a.defers .run κ) cs) (fun w=>by simp [G,stepG,stepG.exec]) (h fn κ k cs hf hk hA)
theorem TF.nil {ops:Array Oper}(h:Q .normal a γ W):TF S L ops [] Q a γ W:=fun fn κ k cs hf hk hA=>
  .silent rfl (g':=G (Jz fn a.tmps k a.defers .run κ) cs) (fun w=>by simp [G,stepG,stepG.exec]) (hA _ _ _ _ h)
theorem TF.skip {ops:Array Oper}{i:Nat}{rest:List Nat}{o:Oper}(ho:ops[i]?=some o)(hw:Region.wanted o (yielded ops a.tmps)=false)(h:TF S L ops rest Q (a.put o.dst undef) γ W):TF S L ops (i :: rest) Q a γ W:=fun fn κ k cs hf hk hA=>
  .silent rfl (g':=G (Jz fn (a.put o.dst undef).tmps (.inRegion ops rest :: k) (a.put o.dst undef).defers .run κ) cs) (fun w=>by obtain ⟨dst,op,type,pos,after,guard⟩:=o;cases dst <;> simp [G,stepG,stepG.exec,ho,hw,Frame.finish,Act.put]) (h fn κ k cs hf hk hA)
theorem stepG_op {fn:FuncId}{κ:CallKind}{k:List Item}{cs:List Frame}{ops:Array Oper}{i:Nat}{rest:List Nat}{o:Oper}(ho:ops[i]?=some o)(hw:Region.wanted o (yielded ops a.tmps)=true)(m:Bool)(w:World) :
    stepG P m (G (Jz fn a.tmps (.inRegion ops (i :: rest) :: k) a.defers .run κ) cs) w=stepG.apply P true (Jz fn a.tmps (.inRegion ops (i :: rest) :: k) a.defers .run κ) cs none (execOp a.eval o) w:=by
  have he:Frame.eval (Jz fn a.tmps (.inRegion ops (i :: rest) :: k) a.defers .run κ)=a.eval:=funext fun z=>by cases z <;> rfl
  rw [← he];obtain ⟨dst,op,type,pos,after,guard⟩:=o;simp [G,stepG,stepG.exec,stepG.oper,Frame.oper?,ho,hw]
theorem P5 {fn:FuncId}{κ:CallKind}{k:List Item}{ops:Array Oper}{i:Nat}{rest:List Nat}{o:Oper}(ho:ops[i]?=some o)(v:Value) :
    Frame.finish (Jz fn a.tmps (.inRegion ops (i :: rest) :: k) a.defers .run κ) v=Jz fn (a.put o.dst v).tmps (.inRegion ops rest :: k) (a.put o.dst v).defers .run κ:=by
  obtain ⟨dst,op,type,pos,after,guard⟩:=o;cases dst <;> simp [Frame.finish,Act.put,ho]
theorem TF.value {ops:Array Oper}{i:Nat}{rest:List Nat}{o:Oper}{v:Value}(ho:ops[i]?=some o)(hw:Region.wanted o (yielded ops a.tmps)=true)(hv:∀ w,(execOp a.eval o).runT P w #[]=(.ok (.value v) w,#[]))(h:TF S L ops rest Q (a.put o.dst v) γ W):TF S L ops (i :: rest) Q a γ W:=fun fn κ k cs hf hk hA=>
  .silent rfl (g':=G (Jz fn (a.put o.dst v).tmps (.inRegion ops rest :: k) (a.put o.dst v).defers .run κ) cs) (fun w=>by rw [stepG_op ho hw];unfold stepG.apply;simp only [if_true,hv w];rw [P5 ho];cases κ <;> rfl) (h fn κ k cs hf hk hA)
theorem TF.call {ops:Array Oper}{i:Nat}{rest:List Nat}{o:Oper}{f:FuncId}{args:Array Value}(ho:ops[i]?=some o)(hw:Region.wanted o (yielded ops a.tmps)=true)(hv:∀ w,(execOp a.eval o).runT P w #[]=(.ok (.enter f args) w,#[]))(h:Pz S f args γ W fun
      | .returned v,γ',W'=>TF S L ops rest Q (a.put o.dst v) γ' W'
      | .panicked ch,γ',W'=>Q (.panic ch) a γ' W'
      | .outgrown,_,_=>False):TF S L ops (i :: rest) Q a γ W:=fun fn κ k cs hf hk hA=>
  .silent rfl (g':=G (Frame.enter P f args .normal) (Jz fn a.tmps (.inRegion ops (i :: rest) :: k) a.defers .run κ :: cs)) (fun w=>by
    rw [stepG_op ho hw];unfold stepG.apply;simp only [if_true,hv w];cases κ <;> rfl) (h _ _ (fun v γ' W' hR=>by rw [P5 ho];exact hR fn κ k cs hf hk hA) fun ch γ' W' hR=>hA _ _ _ _ hR _)
theorem TF.defer {ops:Array Oper}{i:Nat}{rest:List Nat}{o:Oper}{d:Deferred}(ho:ops[i]?=some o)(hw:Region.wanted o (yielded ops a.tmps)=true)(hv:∀ w,(execOp a.eval o).runT P w #[]=(.ok (.defer d) w,#[]))(h:TF S L ops rest Q ({ a with defers:=d :: a.defers }.put o.dst undef) γ W):TF S L ops (i :: rest) Q a γ W:=fun fn κ k cs hf hk hA=>
  .silent rfl (g':=G (Jz fn ({ a with defers:=d :: a.defers }.put o.dst undef).tmps (.inRegion ops rest :: k) ({ a with defers:=d :: a.defers }.put o.dst undef).defers .run κ) cs) (fun w=>by rw [stepG_op ho hw];unfold stepG.apply;simp only [if_true,hv w];have:=P5 (a:={ a with defers:=d :: a.defers }) (fn:=fn) (κ:=κ) (k:=k) (rest:=rest) ho undef;simp only [Jz] at this ⊢;rw [this];cases κ <;> rfl) (h fn κ k cs hf hk hA)
end
section
variable [Host]
variable {P:Program}{main:Bool}{Γ:Type}{S:HY P main Γ}{L:List FuncId}{γ:Γ}{W:World}{a:Act}{Q Q':Post Γ}
def pW (Q:Post Γ)(ds:List Deferred)(γ:Γ)(e:Exit)(a:Act)(W:World):Prop:=
  match e with
  | .normal=>Q .normal ⟨a.tmps,ds⟩ γ W
  | .ret=>Q .ret ⟨a.tmps,ds⟩ γ W
  | .panic ch=>Q (.panic ch) ⟨a.tmps,ds⟩ γ W
  | _=>False
def Abp (next:Act->World->Prop)(Q:Post Γ)(ds:List Deferred)(γ:Γ)(e:Exit)(a:Act)(W:World):Prop:=
  match e with
  | .normal=>next ⟨a.tmps,ds⟩ W
  | .panic ch=>Q (.panic ch) ⟨a.tmps,ds⟩ γ W
  | _=>False
theorem Runs.lone (hL:∀ f∈L,Lets P f){c:Code}(hc:JE P c=true)(h:∀ GQ,Alike W GQ->c.wpIn (Fence.list L none) 0 P (pW Q a.defers γ) ⟨a.tmps,[]⟩ GQ):Runs S.base (·∈L) c Q a γ W:=by
  intro fn κ k cs hf hk hA w hw;refine S.way _ _ _ ((gN (R:=S.R γ) (D:=S.D γ) (F:=(·∈L)) (Fn:=Fence.list L none) (n:=0) (Q:=pW Q a.defers γ) (S.turns γ) (S.kept γ) hL (fun _ h=>h) rfl rfl rfl hf hk hc (k:=k) (ds:=a.defers) (cs:=cs) hw.2 (fun e a w q=>?_) fun τ=>?_).mono fun g w' hst=>?_)
  . cases e with
    | normal=>exact .inl rfl
    | ret=>exact .inr (.inl rfl)
    | panic ch=>exact .inr (.inr ⟨ch,rfl⟩)
    | _=>exact q.elim
  . obtain ⟨⟨XG,d',rfl⟩,_⟩:=hw;exact h _ ⟨τ,0,rfl⟩
  . obtain ⟨e,tm',τ,d,hR,hq,hg⟩:=hst;have hs:J2 (S.B γ) w' (sh (GN (S.B γ) w') τ d):=⟨⟨τ,d,rfl⟩,hR⟩
    cases e with
    | normal=>exact hg ▸ hA _ _ _ _ hq w' hs
    | ret=>obtain ⟨Y,rfl⟩:=hg;exact hA _ _ _ _ hq Y w' hs
    | panic ch=>obtain ⟨Y,rfl⟩:=hg;exact hA _ _ _ _ hq Y w' hs
    | _=>exact hq.elim
theorem Alike.trans {W GQ Jj:World}(h:Alike W GQ)(h':Alike GQ Jj):Alike W Jj:=by obtain ⟨τ,d,rfl⟩:=h;obtain ⟨XG,d',rfl⟩:=h';exact ⟨XG,d',rfl⟩
theorem Alike.symm {W GQ:World}(h:Alike W GQ):Alike GQ W:=by obtain ⟨τ,d,rfl⟩:=h;exact ⟨W.tape,W.drawn,rfl⟩
theorem O1 {Fn:Fence}{n:Nat}{ops:Array Oper}{R:Exit->Act->World->Prop}(l:List Oper):∀ j,(∀ i o,l[i]?=some o->ops[j+i]?=some o)->wpOpsIn Fn n P ops R (List.range' j l.length)=wpListIn Fn n P ops R l:=by
  induction l with
  | nil=>intro j _;funext a w;simp [wpOpsIn,wpListIn]
  | cons o l ih=>
    intro j h;have h0:ops[j]?=some o:=by simpa using h 0 o rfl
    have ih':=ih (j+1) (fun i o ho=>by have:=h (i+1) o (by simpa using ho);simpa [Nat.add_assoc,Nat.add_comm 1 i] using this)
    funext a w
    simp only [List.length_cons,List.range'_succ,wpOpsIn,h0,wpListIn,ih']
theorem TF.lone (hL:∀ f∈L,Lets P f){ops:Array Oper}{j:Nat}(l:List Oper){rest:List Nat}(hl:∀ i o,l[i]?=some o->ops[j+i]?=some o)(hok:l.all (M4 P)=true)(h:∀ GQ,Alike W GQ->wpListIn (Fence.list L none) 0 P ops (Abp (fun a' W'=>TF S.base (·∈L) ops rest Q a' γ W') Q a.defers γ) l ⟨a.tmps,[]⟩ GQ):TF S.base (·∈L) ops (List.range' j l.length ++ rest) Q a γ W:=by
  intro fn κ k cs hf hk hA w hw;have hio:I5 P (.inRegion ops (List.range' j l.length))=true:=by show ((List.range' j l.length).all fun i=>(ops[i]?).all (M4 P))=true;rw [List.all_eq_true] at hok ⊢;intro i hi;obtain ⟨m,hm,rfl⟩:=List.mem_range'.1 hi;have hlo:l[m]?=some l[m]:=List.getElem?_eq_getElem hm;have:=hl m _ hlo;simp only [Nat.one_mul,this,Option.all_some];exact hok _ (List.getElem_mem hm)
  refine S.way _ _ _ ((Vw (R:=S.R γ) (D:=S.D γ) (F:=(·∈L)) (Fn:=Fence.list L none) (n:=0) (Q:=Abp (fun a' W'=>TF S.base (·∈L) ops rest Q a' γ W') Q a.defers γ) (S.turns γ) (S.kept γ) hL (fun _ h=>h) rfl rfl rfl hf hk hio (l':=rest) (k:=k) (ds:=a.defers) (cs:=cs) hw.2 (fun e a w q=>?_) fun τ=>?_).mono fun g w' hst=>?_)
  . cases e with
    | normal=>exact .inl rfl
    | panic ch=>exact .inr ⟨ch,rfl⟩
    | _=>exact q.elim
  . obtain ⟨⟨XG,d',rfl⟩,_⟩:=hw;rw [O1 l j hl];exact h _ ⟨τ,0,rfl⟩
  . obtain ⟨e,tm',τ,d,hR,hq,hg⟩:=hst;have hs:J2 (S.B γ) w' (sh (GN (S.B γ) w') τ d):=⟨⟨τ,d,rfl⟩,hR⟩
    cases e with
    | normal=>exact hg ▸ hq fn κ k cs hf hk hA w' hs
    | panic ch=>obtain ⟨Y,rfl⟩:=hg;exact hA _ _ _ _ hq Y w' hs
    | _=>exact hq.elim
end
end
section
def Reads (P:Program)(fn:Func)(tm:Array Value)(W:World)(v:Value):Prop:=∀ GQ,Alike W GQ->(results fn tm).run P GQ=.ok v GQ
def behind (c:Frame):Frame:=
  match c.mode with
  | .panicking ({ recovered:=true,.. } :: older)=>
    match older.dropWhile (!·.goexit) with
    | []=>{ c with mode:=.returning }
    | rest=>{ c with mode:=.panicking rest }
  | _=>c
section
variable {P:Program}{main:Bool}{Γ:Type}{S:Sy P main Γ}{γ:Γ}{W:World}
theorem JW.raises {f:FuncId}{fn:Func}(hf:P.funcs[f]?=some fn){tm:Array Value}{Y:List Item}{κ:CallKind}{c:Frame}{cs:List Frame}{ch:List PanicEntry}(h:JW S γ (G (c.raise ch) cs) W):JW S γ (G (Jz f tm Y [] (.panicking ch) κ) (c :: cs)) W:=
  .silent rfl (fun w=>by simp [G,Jz,stepG,unwind,Frame.catches,hf]) h
theorem Qn {g : FuncId}{fn : Func}{b : Code}(hg : P.funcs[g]? = some fn)(hn : (fn.name == "runtime.NumGoroutine") = false)(hb : fn.body = some b)(args : Array Value)(w : World)(es : Array Event) : (callFunc g args).runT P w es = (.ok (.enter g args) w, es) := by show (match P.funcs[g]? with | none=>_ | some fn=>_:Sem Next).runT P w es=_;rw [hg];simp only [hn,hb,Option.isNone_some,Bool.false_eq_true,if_false];rfl
theorem JW.defers {f g : FuncId}{fn : Func}{b : Code}(hg : P.funcs[g]? = some fn)(hn : (fn.name == "runtime.NumGoroutine") = false)(hb : fn.body = some b){tm : Array Value}{Y : List Item}{args captured : Array Value}{ds : List Deferred}{mode : FrameMode}(hm : mode ≠ .run){κ : CallKind}{cs : List Frame}(h:JW S γ (G (Frame.enter P g (args ++ captured) .deferred) (Jz f tm Y ds mode κ :: cs)) W):JW S γ (G (Jz f tm Y ({ target:=.fn (.func g) captured,args } :: ds) mode κ) cs) W:=
  .silent rfl (fun w=>by
    have hc:(invoke (.fn (.func g) captured) args).runT P w #[]=(.ok (.enter g (args ++ captured)) w,#[]):=Qn hg hn hb _ _ _;cases mode with
    | run=>exact absurd rfl hm
    | _=>simp [G,Jz,stepG,unwind,callDeferred,hc,GStep.after,seen,-Sem.runT_eq]) h
def qg (Rd:Array Value->World->Value->Prop)(R:Ending->Γ->World->Prop):Post Γ
  | .normal,a,γ,W=>a.defers=[]/\∃ v,Rd a.tmps W v/\R (.returned v) γ W
  | .ret,a,γ,W=>a.defers=[]/\∃ v,Rd a.tmps W v/\R (.returned v) γ W
  | .panic ch,a,γ,W=>a.defers=[]/\R (.panicked ch) γ W
  | _,_,_,_=>False
theorem Pz.mh {L:FuncId->Prop}{f:FuncId}{fn:Func}{c:Code}{args:Array Value}{R:Ending->Γ->World->Prop}{Rd:Array Value->World->Value->Prop}(hf:P.funcs[f]?=some fn)(hb:fn.body=some c)(hL:L f)(hrd:∀ tm Y c cs v γ W,Rd tm W v->JW S γ (G (c.finish v) cs) W->JW S γ (G (Jz f tm Y [] .returning .normal) (c :: cs)) W)(h:Runs S L c (qg Rd R) { tmps:=args ++ Array.replicate (fn.ntmps - args.size) undef,defers:=[] } γ W):Pz S f args γ W R:=by
  intro cf cs hret Ae4;have he:Frame.enter P f args .normal=Jz f (args ++ Array.replicate (fn.ntmps - args.size) undef) [.code c] [] .run .normal:=by simp [Frame.enter,hf,hb]
  rw [he];refine h f .normal [] (cf :: cs) hL (by simp) fun e a' γ' W' q=>?_;obtain ⟨tm,ds⟩:=a';cases e with
  | normal=>
    obtain ⟨rfl,v,hr,hR⟩:=q;exact .silent rfl (g':=G (Jz f tm [] [] .returning .normal) (cf :: cs)) (fun w=>by simp [G,stepG,stepG.exec]) (hrd _ _ _ _ _ _ _ hr (hret _ _ _ hR))
  | ret=>
    obtain ⟨rfl,v,hr,hR⟩:=q;exact fun Y=>hrd _ _ _ _ _ _ _ hr (hret _ _ _ hR)
  | panic ch=>
    obtain ⟨rfl,hR⟩:=q;exact fun Y=>.raises hf (Ae4 _ _ _ hR)
  | _=>exact q.elim
theorem Pz.mono {f:FuncId}{args:Array Value}{R R':Ending->Γ->World->Prop}(h:Pz S f args γ W R)(hr:∀ e γ W,R e γ W->R' e γ W):Pz S f args γ W R':=fun c cs h1 h2=>h c cs (fun v γ' W' hR=>h1 _ _ _ (hr _ _ _ hR)) fun ch γ' W' hR=>h2 _ _ _ (hr _ _ _ hR)
end
section
variable {P:Program}{main:Bool}{Γ:Type}{S:HY P main Γ}{γ:Γ}{W:World}
theorem Tn {f:FuncId}{fn:Func}(hf:P.funcs[f]?=some fn){tm:Array Value}{Y:List Item}{κ:CallKind}{cs:List Frame}{W:World}{v:Value}(hr:Reads P fn tm W v){w:World}(hw:J2 (S.B γ) w W) :
    ∃ w' es,stepG P main (G (Jz f tm Y [] .returning κ) cs) w=GStep.after es (doReturn P main (Jz f tm Y [] .returning κ) cs none v w')/\Kept (S.B γ) w w'/\(∀ e∈es,Lr (S.B γ) w'.heap.size e)/\J2 (S.B γ) w' W:=by
  obtain ⟨⟨τ,d,rfl⟩,hR⟩:=hw;have hT:G6 P (fun _=>True) (results fn tm):=QN fun _=>trivial;obtain ⟨w2,es2,h1,h2,h3,_,h5,_,h7⟩:=NH (es:=#[]) (τ:=w.tape) (d:=w.drawn) hT hR (x:=.inl v) (w1:=sh (GN (S.B γ) w) w.tape w.drawn) (by rw [Sem.runT_fst,hr (sh (GN (S.B γ) w) w.tape w.drawn) ⟨w.tape,w.drawn,rfl⟩];rfl) (fun i hi=>rfl);refine ⟨w2,seen P f es2,?_,h3,fun e he=>h7 e (mem_seen he),⟨τ,d,?_⟩,hR.kept h3⟩
  . simp only [Array.empty_append] at h5;simp only [G,Jz,stepG,unwind,hf];generalize (results fn tm).runT P w #[]=r at h1 h5;obtain ⟨r,es⟩:=r;obtain rfl:=Ld h1;obtain rfl:es=es2:=h5;rfl
  . have:sh (sh (GN (S.B γ) w) w.tape w.drawn) τ d=sh (sh (GN (S.B γ) w2) w.tape (w.drawn+(w2.drawn - w.drawn))) τ d:=by rw [h2]
    exact this
theorem JW.returns {f:FuncId}{fn:Func}(hf:P.funcs[f]?=some fn){tm:Array Value}{Y:List Item}{c:Frame}{cs:List Frame}{v:Value}(hr:Reads P fn tm W v)(h:JW S.base γ (G (c.finish v) cs) W):JW S.base γ (G (Jz f tm Y [] .returning .normal) (c :: cs)) W:=
  S.step rfl fun w hw=>by obtain ⟨w',es,e1,e2,e3,e4⟩:=Tn (cs:=c :: cs) (κ:=.normal) (Y:=Y) hf hr hw;exact ⟨_,w',es,by rw [e1];simp [doReturn,GStep.after,G],e2,e3,W,e4,h⟩
theorem Pz.body {L:FuncId->Prop}{f:FuncId}{fn:Func}{c:Code}{args:Array Value}{R:Ending->Γ->World->Prop}(hf:P.funcs[f]?=some fn)(hb:fn.body=some c)(hL:L f)(h:Runs S.base L c (qg (Reads P fn) R) { tmps:=args ++ Array.replicate (fn.ntmps - args.size) undef,defers:=[] } γ W):Pz S.base f args γ W R:=
  .mh hf hb hL (fun tm Y c cs v γ W hr hJ=>JW.returns hf hr hJ) h
variable [Host] in
theorem Pz.lone {L:List FuncId}(hL:∀ f∈L,Lets P f){f:FuncId}(hbar:Host.bar f=false){args:Array Value}{R:Ending->Γ->World->Prop}(h:∀ GQ,Alike W GQ->CallsIn (Fence.list L none) 0 P f args GQ fun e W'=>∃ v,e=.returned v/\R (.returned v) γ W'):Pz S.base f args γ W R:=by
  intro c cs hret _ w hw;refine S.way _ _ _ (aj (R:=S.R γ) (D:=S.D γ) (F:=(·∈L)) (Fn:=Fence.list L none) (n:=0) (S.refl γ) (S.trans γ) (S.turns γ) (S.kept γ) hL (fun _ h=>h) rfl rfl hbar hw.2 (Rp:=fun _ e W'=>∃ v,e=.returned v/\R (.returned v) γ W') (fun _ _ _ ⟨v,h,_⟩=>⟨v,h⟩) (fun τ=>?_) fun v w' τ d hR hv=>?_)
  . obtain ⟨⟨XG,d',rfl⟩,_⟩:=hw;exact h _ ⟨τ,0,rfl⟩
  . obtain ⟨v',e,hR'⟩:=hv;cases e
    exact .stop fun w₁ h₁=>hret v _ _ hR' w₁ (S.turn (show J2 (S.B γ) w' (sh (GN (S.B γ) w') τ d) from ⟨⟨τ,d,rfl⟩,hR⟩) h₁)
end
end
section
section
variable {P:Program}{main:Bool}{Γ:Type}{S:Sy P main Γ}{L:FuncId->Prop}{γ:Γ}{W:World}{a:Act}{Q:Post Γ}
theorem TF.pure {ops:Array Oper}{i:Nat}{rest:List Nat}{o:Oper}{v:Value}(ho:ops[i]?=some o)(hw:Region.wanted o (yielded ops a.tmps)=true)(hv:∀ w,(execOp a.eval o).run P w=.ok (.value v) w)(he:∀ w,∀ e∈(execOp a.eval o).events P w #[],False)(h:TF S L ops rest Q (a.put o.dst v) γ W):TF S L ops (i :: rest) Q a γ W:=.value ho hw (fun w=>by
  have h1:((execOp a.eval o).runT P w #[]).1=.ok (.value v) w:=by rw [Sem.runT_fst];exact hv w
  have h2:((execOp a.eval o).runT P w #[]).2=#[]:=by have:=he w;rw [Sem.events] at this;exact Array.eq_empty_of_size_eq_zero (Classical.byContradiction fun hn=>this _ (Array.getElem_mem (Nat.pos_of_ne_zero hn)))
  exact Prod.ext h1 h2) h
end
end
end Go.LT
namespace Go.LK
open Go Go.Conc Go.LT Go.LC
open Go.ConcN (WgLive sumTo upd sumTo_upd upd_ne upd_same)
open Go.ConcR (KK wgBlock WgAt stA smA rd wr mk)
section
inductive G0 (X Sg:Type)
  | Ii (B:Nat->Bool) (n:Nat)
  | H7 (M:Md X Sg) (ρ:Rn) (ws:List (Ij X)) (ex:Nat) (df:Bool) (n:Nat)
section
variable {X Sg:Type}
noncomputable def ownB (ws:List (Ij X))(b:Nat):Bool:=@decide (∃ (i:Nat) (v:Ij X),ws[i]?=some v/\v.own b) (Classical.propDecidable _)
theorem Lc {ws:List (Ij X)}{b:Nat}:ownB ws b=true↔∃ (i:Nat) (v:Ij X),ws[i]?=some v/\v.own b:=by unfold ownB;exact @decide_eq_true_iff _ (Classical.propDecidable _)
theorem MO {ws:List (Ij X)}{b:Nat}(h:∀ (i:Nat) (v:Ij X),ws[i]?=some v->¬ v.own b):ownB ws b=false:=by
  cases e:ownB ws b with
  | false=>rfl
  | true=>obtain ⟨i,v,hv,ho⟩:=Lc.1 e;exact absurd ho (h i v hv)
noncomputable def Il (ρ:Rn)(ws:List (Ij X)):Hid:={ hol:=fun b=>ρ.Bo b || b == ρ.Wg,MH:=ownB ws }
noncomputable def G0.B:G0 X Sg->Hid
  | .Ii B _=>{ hol:=B }
  | .H7 _ ρ ws _ _ _=>Il ρ ws
def G0.R:G0 X Sg->World->World->Prop
  | .Ii _ _=>AtRel
  | .H7 _ ρ _ _ _ _=>Jc ρ.ty ρ.Wg
def J0 (P:Program)(Fin:Iw):G0 X Sg->Goroutine->World->Prop
  | .Ii B n,g,w=>∀ gs T sl q,gs[0]?=some g->gs.size=n->RI P (bY { hol:=B }) q T gs w->Fin.b0<=w.heap.size->Fin (crowd gs w sl) T
  | .H7 M ρ ws ex df n,g,w=>∀ gs T sl role bd live,gs[0]?=some g->gs.size=n->OA M ρ P ws 0 role bd w->Held P ρ.ty ρ.Wg (Kc ρ ws) (Qd ws) bd (Ku ρ) (fun c=>c=ρ.gone) (QE (OQ ws 0) 0 df) (KW ws 0) 0 role live ex T gs w->
      Lv ws n live->Deaf T 0=df.toNat->Lw Fin.b0 ρ ws->Fin (crowd gs w sl) T
theorem DK.Ii {B:Hid}{Shun:Loc->Prop}(bn:∀ l,Shun l->bY B l){w w':World}{es:Array Event}(hd:DK B w w' es):qF Shun w w' es:=
  ⟨hd.1.size,fun e he=>V6 (hd.2 e he) (fun _ _ _ h=>h.elim) bn⟩
def kQ (B:Hid)(b:Nat):Bool:=B b || B.MH b
theorem Rel.dkz {B:Hid}{Wg:Nat}{w w':World}{es:Array Event}(h:DK B w w' es):Rel (kQ B) Wg w w':=
  ⟨fun b hb _=>by
    rcases Bool.or_eq_true _ _ ▸ hb with hb|hb
    . exact h.1.block b hb
    . exact h.1.still b hb,h.1.size,fun b o _ ho hn=>h.1.objs b o ho hn⟩
variable {P:Program}{Fin:Iw}
theorem OA.walk {M:Md X Sg}{ρ:Rn}{ws:List (Ij X)}{role Ia:Nat->Ik}{bd:Nat->Nat}{w w':World}{B:Nat->Bool}(C:OA M ρ P ws 0 role bd w)(hS:Same role Ia)(hO:∀ (i:Nat) (v:Ij X),ws[i]?=some v->∀ b,v.own b->B b=true)(XQ:∀ b,ρ.Bo b=true->B b=true)(h:Rel B ρ.Wg w w')(Y0:∃ c e f,w.heap[ρ.Wg]?=some (.cells c e f)) :
    OA M ρ P ws 0 Ia bd w':=by
  have hch:∀ c k:Nat,w.heap[c]?=some (Obj.chan 0 #[] false k k false)->∃ k':Nat,w'.heap[c]?=some (Obj.chan 0 #[] false k' k' false):=fun c k hc=>⟨k,h.objs c _ (fun z=>by subst z;obtain ⟨c,e,f,hw⟩:=Y0;rw [hw] at hc;cases hc) hc (fun _ _ _=>by simp)⟩
  refine ⟨C.apart,C.pos,fun i v hv hn ho=>?_,fun i st n c e hc=>?_,fun i v hv hn=>?_,fun i v hv b hb=>?_,C.inside,fun i v hv=>?_,?_,?_,C.sh,fun b hb=>?_,C.o8⟩
  . obtain ⟨⟨n,h⟩,hb⟩:=C.seats i v hv hn ho;exact ⟨(hS v.h).1 _ n h,hb⟩
  . obtain ⟨n',e'⟩:=hS.back e;exact C.known i st n' c e' hc
  . obtain ⟨k1,k2,k3⟩:=C.keep i v hv hn;exact ⟨fun b hb=>(k1 b hb).trans (.of (h.block b (hO i v hv b hb) (C.own i v hv b hb).2.1)),k2,Nat.le_trans k3 h.size⟩
  . obtain ⟨a1,a2,a3,c,e,f,hc⟩:=C.own i v hv b hb;exact ⟨a1,a2,a3,c,e,f,by rw [h.block b (hO i v hv b hb) a2];exact hc⟩
  . obtain ⟨c1,c2,k,hk⟩:=C.chan i v hv;exact ⟨c1,c2,hch _ _ hk⟩
  . obtain ⟨c1,k,hk⟩:=C.come;exact ⟨c1,hch _ _ hk⟩
  . intro hcl;obtain ⟨k,hk⟩:=C.gone hcl;exact hch _ _ hk
  . obtain ⟨h1,c,e,f,hc⟩:=C.old b hb;exact ⟨h1,c,e,f,by rw [h.block b (XQ b hb) h1];exact hc⟩
theorem Lv.keep {ws:List (Ij X)}{n:Nat}{live Iz:Nat->Nat}{role:Nat->Ik}{M:Md X Sg}{ρ:Rn}{bd:Nat->Nat}{w:World}(hL:Lv ws n live)(C:OA M ρ P ws 0 role bd w)(h:NS 0 role live Iz):Lv ws n Iz:=
  ⟨hL.lt,by rw [h 0 (.inl rfl)];exact hL.zero,fun i v hv ho=>by obtain ⟨⟨n,e⟩,_⟩:=C.seats i v hv (by have:=(C.pos i v hv).1;omega) ho;rw [h _ (.inr ⟨_,_,e⟩)];exact hL.one i v hv ho⟩
section
variable {M:Md X Sg}{ρ:Rn}{ws:List (Ij X)}{role:Nat->Ik}{bd:Nat->Nat}{w:World}
theorem MB {i:Nat}{v:Ij X}(hv:ws[i]?=some v){b:Nat}(hb:v.own b):(Il ρ ws).MH b=true:=Lc.2 ⟨i,v,hv,hb⟩
theorem Nr:(Il ρ ws) ρ.Wg=true:=by simp [Il]
theorem Uz {b:Nat}(hb:ρ.Bo b=true):(Il ρ ws) b=true:=by simp [Il,hb]
theorem DK.H7 (C:OA M ρ P ws 0 role bd w){w₁ w':World}{es:Array Event}(hd:DK (Il ρ ws) w₁ w' es):Zv (Kc ρ ws) (Qd ws) (Ku ρ) (fun _=>True) ρ.Wg 0 w₁ w' es:=by
  refine DK.hd (fun x hx w w' hb hK j u hu Ki ho=>?_) (fun x hx l hl=>?_) (fun l hl=>?_) Nr hd
  . have hi:=C.inside j u hu;exact (hK j u hu Ki ho).blk (hb _ (.inr (MB hu hi.1))) (hb _ (.inr (MB hu hi.2)))
  . obtain ⟨j,u,hu,Ki,ho,hs⟩:=hl;have hi:=C.inside j u hu;rcases hs with hs|hs|hs
    . exact .inr ⟨_,hs,MB hu hi.1⟩
    . exact .inr ⟨_,hs,MB hu hi.1⟩
    . exact .inr ⟨_,hs,MB hu hi.2⟩
  . obtain ⟨a,rfl,ha⟩:=hl;refine ⟨a,rfl,?_⟩;rcases ha with ha|ha
    . rw [ha];exact Nr
    . exact Uz ha
end
noncomputable def S0 (P:Program)(Fin:Iw)(GR:Ig P Fin):HY P true (G0 X Sg) where
  B:=G0.B
  R:=G0.R
  D:=fun γ=>DK γ.B
  J:=J0 P Fin
  refl:=fun γ w=>by cases γ with
    | Ii B n=>exact ⟨w.drawn,rfl⟩
    | H7 M ρ ws ex df n=>exact Jc.refl w
  trans:=fun γ a b c h k=>by cases γ with
    | Ii B n=>obtain ⟨d,rfl⟩:=h;obtain ⟨d',rfl⟩:=k;exact ⟨d',rfl⟩
    | H7 M ρ ws ex df n=>exact Jc.trans h k
  turns:=fun γ w w₁ h=>by cases γ with
    | Ii B n=>exact WM h
    | H7 M ρ ws ex df n=>exact Jc.turns Nr h
  kept:=fun γ w w' es _ hk he=>⟨hk,he⟩
  way:=fun γ g w hW=>by
    cases γ with
    | Ii B n=>
      intro gs T sl q hg hn C hlow;have hW2:=U9 (Re:=QD Fin.b0) (fun a b h=>.rel h) (fun a b es h=>.dk h) (fun a b c h k=>h.trans k) hW w (.refl _ _);obtain ⟨N,gs',a',w',sl',T',q',p1,p2,p3,p4,p5⟩:=Zf (sl:=sl) (fun w w' es hd=>DK.Ii (fun _ h=>h) hd) hW2 hg C;exact GR _ _ _ _ _ p1 (p4 w' ⟨w'.drawn,rfl⟩).2 ((p4 w' ⟨w'.drawn,rfl⟩).1 gs' T' sl' q' p3 (p2.trans hn) p5 (Nat.le_trans hlow (p4 w' ⟨w'.drawn,rfl⟩).2.size))
    | H7 M ρ ws ex df n=>
      intro gs T sl role bd live hg hn C H hL hdf LW;have hW2:=U9 (Re:=fun a b=>Rel (kQ (Il ρ ws)) ρ.Wg a b/\QD Fin.b0 a b) (fun a b h=>⟨.RG h,.RG LW.wg h⟩) (fun a b es h=>⟨.dkz h,.dk h⟩) (fun a b c h k=>⟨h.1.trans k.1,h.2.trans k.2⟩) hW w ⟨.refl _ _ _,.refl _ _⟩;obtain ⟨N,gs',a',w',sl',T',Ia,Iz,p1,p2,p3,⟨p4,p5,p5f⟩,p6,p7,p8,p9,_⟩:=Xf (h:=0) (sl:=sl) C.env (Ch:=fun _=>True) (fun w w' es hd=>DK.H7 C hd) hW2 hg H (fun _ _ _ _ _ _=>trivial);refine GR _ _ _ _ _ p1 p5f (p4 gs' T' sl' Ia bd Iz p3 (p2.trans hn) (C.walk p7 (fun i v hv b hb=>?_) (fun b hb=>?_) p5 (Ko H.J9.wg)) p6 (hL.keep C p8) (p9.trans hdf) LW)
      . simp [kQ,MB hv hb]
      . simp [kQ,Uz hb]
end
end
section
section
variable {X Sg:Type}
structure Known (M:Md X Sg)(ρ:Rn)(ws:List (Ij X))(W:World):Prop where
  record:∀ (i:Nat) (v:Ij X),ws[i]?=some v->M.Rec v.k v.x v.b v.own v.wy
  cell:∀ (i:Nat) (v:Ij X),ws[i]?=some v->∀ a:Addr,v.own a.block->W.cell? a=v.wy.cell? a
  turn:∀ (i:Nat) (v:Ij X),ws[i]?=some v->v.over=false->W.cell? ⟨v.b,2,none⟩=some (.chan (some v.t))
  own:∀ (i:Nat) (v:Ij X),ws[i]?=some v->∀ b,v.own b->¬ M.Sh b/\b≠ρ.Wg/\ρ.Bo b=false/\∃ c e f,W.heap[b]?=some (.cells c e f)
  inside:∀ (i:Nat) (v:Ij X),ws[i]?=some v->v.own v.b/\v.own v.pb
  sh:∀ b,M.Sh b->b≠ρ.Wg/\ρ.Bo b=false
  num:∀ (i:Nat) (v:Ij X),ws[i]?=some v->v.k=i
variable {P:Program}{Fin:Iw}{GR:Ig P Fin}
variable {M:Md X Sg}{ρ:Rn}{ws:List (Ij X)}{role:Nat->Ik}{bd:Nat->Nat}{w W:World}{ex n:Nat}{df:Bool}{g:Goroutine}
theorem IV {B:Hid}(h:J2 B w W):W.heap=(GN B w).heap:=by obtain ⟨⟨τ,d,rfl⟩,_⟩:=h;rfl
theorem J6 {B:Hid}(h:J2 B w W):W.heap.size=w.heap.size:=by rw [IV h];simp
theorem K3 {b:Nat}(h1:b≠ρ.Wg)(h2:ρ.Bo b=false):(Il ρ ws) b=false:=by simp [Il,h1,h2]
theorem OA.sK (C:OA M ρ P ws 0 role bd w){b:Nat}(hb:M.Sh b):(Il ρ ws) b=false/\(Il ρ ws).MH b=false:=by obtain ⟨h1,h2⟩:=C.sh b hb;exact ⟨K3 h1 h2,MO fun i v hv ho=>(C.own i v hv b ho).1 hb⟩
theorem OA.inv (C:OA M ρ P ws 0 role bd w)(hs:J2 (Il ρ ws) w W)(σ:Sg):M.Inv σ W↔M.Inv σ w:=by
  have hh:=IV hs;have e:∀ b,M.Sh b->NY w W b:=fun b hb=>by obtain ⟨h1,h2⟩:=C.sK hb;have:=NY.view (w:=w) h1 h2;unfold NY at this ⊢;rw [hh];exact this
  exact ⟨fun h=>M.inv_eq _ _ _ (fun b hb=>(e b hb).symm) h,fun h=>M.inv_eq _ _ _ e h⟩
theorem OA.knows (C:OA M ρ P ws 0 role bd w)(hs:J2 (Il ρ ws) w W)(hK:∀ (i:Nat) (v:Ij X),ws[i]?=some v->v.over=false->Kc ρ ws v.h w):Known M ρ ws W:=by
  have hh:=IV hs;have hcell:∀ (i:Nat) (v:Ij X),ws[i]?=some v->∀ a:Addr,v.own a.block->W.cell? a=w.cell? a:=fun i v hv a ha=>by
    obtain ⟨_,h1,h2,_⟩:=C.own i v hv _ ha;have:W.cell? a=(GN (Il ρ ws) w).cell? a:=by simp [World.cell?,hh]
    rw [this];exact Ie (K3 h1 h2)
  refine ⟨fun i v hv=>(C.keep i v hv (by have:=(C.pos i v hv).1;omega)).2.1,fun i v hv a ha=>?_,fun i v hv ho=>?_,fun i v hv b hb=>?_,C.inside,C.sh,fun i v hv=>(C.pos i v hv).2⟩
  . rw [hcell i v hv a ha];have he:=(C.keep i v hv (by have:=(C.pos i v hv).1;omega)).1 _ ha;obtain ⟨_,_,_,c,e,f,hc⟩:=C.own i v hv _ ha;have:=he.symm.cells hc;simp [World.cell?,hc,this]
  . rw [hcell i v hv _ (C.inside i v hv).1];exact (hK i v hv ho i v hv rfl ho).1
  . obtain ⟨a1,a2,a3,c,e,f,hc⟩:=C.own i v hv b hb;refine ⟨a1,a2,a3,?_⟩;rw [hh,Ib (K3 a2 a3),hc];exact ⟨_,_,_,rfl⟩
theorem OA.kc (C:OA M ρ P ws 0 role bd w){Mem:Nat->Prop}{live:Nat->Nat}{T:Trace}{gs:Array Goroutine}{ex:Nat}(H:Held P ρ.ty ρ.Wg (Kc ρ ws) (Qd ws) bd (Ku ρ) (fun c=>c=ρ.gone) Mem (KW ws 0) 0 role live ex T gs w){i:Nat}{v:Ij X}(hv:ws[i]?=some v)(ho:v.over=false):Kc ρ ws v.h w:=by obtain ⟨⟨n,h⟩,_⟩:=C.seats i v hv (by have:=(C.pos i v hv).1;omega) ho;exact H.J9.keep _ _ _ h
theorem J0.know (h:Known M ρ ws W->JW (S0 P Fin GR).base (.H7 M ρ ws ex df n) g W):JW (S0 P Fin GR).base (.H7 M ρ ws ex df n) g W:=by intro w hw gs T sl role bd live hg hn C H hL hdf LW;exact h (C.knows hw fun i v hv ho=>C.kc H hv ho) w hw gs T sl role bd live hg hn C H hL hdf LW
theorem J0.Aew {B:Nat->Bool}(h:Fin.b0<=W.heap.size->JW (S0 (X:=X) (Sg:=Sg) P Fin GR).base (.Ii B n) g W):JW (S0 (X:=X) (Sg:=Sg) P Fin GR).base (.Ii B n) g W:=by intro w hw gs T sl q hg hn C hlow;exact h (by rw [J6 hw];exact hlow) w hw gs T sl q hg hn C hlow
theorem J0.low (h:Lw Fin.b0 ρ ws->Fin.b0<=W.heap.size->JW (S0 P Fin GR).base (.H7 M ρ ws ex df n) g W):JW (S0 P Fin GR).base (.H7 M ρ ws ex df n) g W:=by intro w hw gs T sl role bd live hg hn C H hL hdf LW;refine h LW ?_ w hw gs T sl role bd live hg hn C H hL hdf LW;obtain ⟨c,e,f,hc⟩:=Ko H.J9.wg;have:=(Array.getElem?_eq_some_iff.1 hc).1;have:=LW.wg;rw [J6 hw];omega
structure d9 (M:Md X Sg)(ρ:Rn)(ws:List (Ij X))(v:Ij X)(tgt:X × Sg × Bool)(r:Nat)(W:World)(v':Ij X)(W':World):Prop where
  h:v'.h=v.h
  k:v'.k=v.k
  b:v'.b=v.b
  t:v'.t=v.t
  x:v'.x=tgt.1
  over:v'.over=tgt.2.2
  r:v'.r=r
  inv:M.Inv tgt.2.1 W'
  block:∀ b,(∃ c e f,W.heap[b]?=some (.cells c e f))->(Il ρ ws) b=false->¬ v.own b->¬ M.Sh b->W'.heap[b]?=W.heap[b]?
  size:W.heap.size<=W'.heap.size
  own:∀ b,v'.own b->v.own b\/W.heap.size<=b
theorem Sb {B:Hid}{b:Nat}(hs:J2 B w W)(h:∃ c e f,W.heap[b]?=some (.cells c e f)):∃ c e f,w.heap[b]?=some (.cells c e f):=by
  obtain ⟨c,e,f,hc⟩:=h;rw [IV hs,H8] at hc;cases ho:w.heap[b]? with
  | none=>rw [ho] at hc;cases hc
  | some o=>
    rw [ho] at hc;simp only [Option.map_some,Option.some.injEq] at hc;split at hc <;> cases o <;> first | (exact ⟨_,_,_,rfl⟩) | (simp [Oo,dep] at hc)
theorem Tg {ws':List (Ij X)}{w':World}{b:Nat}(hs:J2 (Il ρ ws) w W)(hz:(Il ρ ws').MH b=(Il ρ ws).MH b)(h:w'.heap[b]?=w.heap[b]?):(GN (Il ρ ws') w').heap[b]?=W.heap[b]?:=by rw [IV hs,H8,H8,h,hz];rfl
theorem J0.give (hcl:¬ ρ.Uh){i:Nat}{v:Ij X}{r s:Nat}{σ:Sg}{g₂ g0:Goroutine}{zs:Value}{nq:Nat}(hv:ws[i]?=some v)(hov:v.over=false)(hr:v.r=r+1)(hInv:M.Inv σ W)(hrun:g.status=.running)(hstep:∀ w,stepG P true g w=.comm g₂ #[scase v.t (.int .i64 s) zs] true .send w #[])(hS:Sits P true (fun _=>True) (fun _=>False) 0 (Seat.one ρ.come ρ.zi false (·=g0)) nq (g₂.finishComm P #[scase v.t (.int .i64 s) zs] .send (0:Nat) undef false))(hK:∀ v' W',d9 M ρ ws v (M.hold v.x s σ) r W v' W'->JW (S0 P Fin GR).base (.H7 M ρ (ws.set i v') ex false n) (g0.finishComm P #[rcase ρ.come ρ.zi] (.recv false) 0 (.int .i64 v.k) true) W') :
    JW (S0 P Fin GR).base (.H7 M ρ ws ex false n) g W:=by
  intro w hw gs T sl role bd live hg hn C H hL hdf LW;subst hn;obtain ⟨N,gs',w',sl',T',Ia,cK,Iz,v',g0',p1,p2,p3,rfl,p5,p6,p7,a1,a2,a3,a4,a5,a6,a7,a8,a9,qE,kF,a12⟩:=aP (hcl:=hcl) (sl:=sl) (Oy:=(·=g0)) hv hov hr C H hL ((C.inv hw σ).1 hInv) hg hrun (fun w₁ _=>hstep w₁) hS;have hs':J2 (Il ρ (ws.set i v')) w' (GN (Il ρ (ws.set i v')) w'):=⟨.refl _,⟨fun b hb=>?_,fun b hb=>?_⟩⟩
  . have hsz:(GN (Il ρ (ws.set i v')) w').heap.size=w'.heap.size:=by simp
    refine GR _ _ _ _ _ p1 (a12 _ LW.wg LW.come (LW.turn _ _ hv)) (hK v' _ ⟨a1,a2,a3,a4,a5,a6,a7,(p5.inv hs' _).2 a8,fun b hrow hB ho hsh=>?_,by rw [hsz,J6 hw];exact qE,fun b hb=>by rw [J6 hw];exact kF b hb⟩ w' hs' gs' T' sl' Ia cK Iz p3 p2 p5 p6 p7 ?_ ⟨LW.wg,LW.come,LW.gone,fun j u hu=>?_⟩)
    . have hrw:=Sb hw hrow;have Y0:b≠ρ.Wg:=fun e=>by rw [e,Nr] at hB;cases hB
      refine Tg hw ?_ (a9 b Y0 hrw ho hsh);obtain ⟨c,e,f,hc⟩:=hrw;have hlt:b < w.heap.size:=(Array.getElem?_eq_some_iff.1 hc).1;have hv':¬ v'.own b:=fun h=>(kF b h).elim ho (by omega);show ownB (ws.set i v') b=ownB ws b;rw [Bool.eq_iff_iff,Lc,Lc];constructor
      . rintro ⟨j,u,hu,hb⟩;rcases Na hv hu with ⟨_,rfl⟩|⟨_,hu⟩
        . exact absurd hb hv'
        . exact ⟨j,u,hu,hb⟩
      . rintro ⟨j,u,hu,hb⟩;by_cases e:j=i
        . subst e;rw [hv] at hu;cases hu;exact absurd hb ho
        . exact ⟨j,u,by rw [Q9 e];exact hu,hb⟩
    . exact p6.J9.past.hears 0 (.inl rfl)
    . rcases Na hv hu with ⟨_,rfl⟩ | ⟨_,hu⟩
      . rw [a4];exact LW.turn _ _ hv
      . exact LW.turn _ _ hu
  . simp only [Il,Bool.or_eq_true,beq_iff_eq] at hb;rcases hb with hb|hb
    . exact (p5.old b hb).2
    . rw [hb];exact Ko p6.J9.wg
  . obtain ⟨j,u,hu,hb⟩:=Lc.1 hb;exact (p5.own j u hu b hb).2.2.2
theorem UL {B:Hid}{c k:Nat}(hs:J2 B w W)(h:W.heap[c]?=some (Obj.chan 0 #[] false k k false)):w.heap[c]?=some (Obj.chan 0 #[] false k k false):=by
  rw [IV hs,H8] at h;cases ho:w.heap[c]? with
  | none=>rw [ho] at h;cases h
  | some o=>
    rw [ho] at h;simp only [Option.map_some,Option.some.injEq] at h;split at h <;> cases o <;> simp_all [Oo,dep]
theorem J0.hire (hcl:¬ ρ.Uh){v:Ij X}{r:Nat}{tgt:X × Sg × Bool}{a' child g0:Goroutine}{nq:Nat}(hrun:g.status=.running)(hgo:∀ w,stepG P true g w=.spawn a' child w #[])(hS:Sits P true (fun _=>True) (fun _=>False) 0 (Seat.one ρ.come ρ.zi false (·=g0)) nq a')(kE:v.h=n)(hvk:v.k=ws.length)(hov:v.over=false)(hown:∀ b,v.own b->¬ M.Sh b/\b≠ρ.Wg/\ρ.Bo b=false/\(∃ c e f,W.heap[b]?=some (.cells c e f))/\∀ (j:Nat) (u:Ij X),ws[j]?=some u->¬ u.own b)(hin:v.own v.b/\v.own v.pb)(hch:v.t≠ρ.come/\v.t≠ρ.gone/\(∃ k,W.heap[v.t]?=some (.chan 0 #[] false k k false))/\∀ (j:Nat) (u:Ij X),ws[j]?=some u->u.t≠v.t)(hJ:∀ w,J2 (Il ρ ws) w W->∀ B,jr M ρ v B w.heap.size->LT.Rows B w->WJ M ρ P r ⟨v,B,w.heap.size,tgt⟩ child w)(hlow:Fin.b0<=v.t)(hK:∀ v' W',d9 M ρ ws v tgt r W v' W'->JW (S0 P Fin GR).base (.H7 M ρ (ws ++ [v']) ex false (n+1)) (g0.finishComm P #[rcase ρ.come ρ.zi] (.recv false) 0 (.int .i64 v.k) true) W') :
    JW (S0 P Fin GR).base (.H7 M ρ ws (ex+1) false n) g W:=by
  intro w hw gs T sl role bd live hg hn C H hL hdf LW;subst hn;obtain ⟨N,gs',w',sl',T',Ia,cK,Iz,v',g0',p1,p2,p3,rfl,p5,p6,p7,a1,a2,a3,a4,a5,a6,a7,a8,a9,qE,kF,a12⟩:=aA (hcl:=hcl) (sl:=sl) (Oy:=(·=g0)) C H hL hg hrun (fun w₁ _=>hgo w₁) hS kE hvk hov
    (fun b hb=>by obtain ⟨b1,b2,b3,b4,b5⟩:=hown b hb;exact ⟨b1,b2,b3,Sb hw b4,b5⟩) hin (by obtain ⟨c1,c2,⟨k,c3⟩,c4⟩:=hch;exact ⟨c1,c2,⟨k,UL hw c3⟩,c4⟩)
    (fun w₁ h₁=>hJ w₁ ((S0 P Fin GR).turn (γ:=.H7 M ρ ws (ex+1) false gs.size) hw h₁))
  have hs':J2 (Il ρ (ws ++ [v'])) w' (GN (Il ρ (ws ++ [v'])) w'):=⟨.refl _,⟨fun b hb=>?_,fun b hb=>?_⟩⟩
  . have hsz:(GN (Il ρ (ws ++ [v'])) w').heap.size=w'.heap.size:=by simp
    refine GR _ _ _ _ _ p1 (a12 _ LW.wg LW.come) (hK v' _ ⟨a1,a2,a3,a4,a5,a6,a7,(p5.inv hs' _).2 a8,fun b hrow hB ho hsh=>?_,by rw [hsz,J6 hw];exact qE,fun b hb=>by rw [J6 hw];exact kF b hb⟩ w' hs' gs' T' sl' Ia cK Iz p3 p2 p5 p6 (by rw [← p2];exact p7) ?_ ⟨LW.wg,LW.come,LW.gone,fun j u hu=>?_⟩)
    . have hrw:=Sb hw hrow;have Y0:b≠ρ.Wg:=fun e=>by rw [e,Nr] at hB;cases hB
      refine Tg hw ?_ (a9 b Y0 hrw ho hsh);obtain ⟨c,e,f,hc⟩:=hrw;have hlt:b < w.heap.size:=(Array.getElem?_eq_some_iff.1 hc).1;have hv':¬ v'.own b:=fun h=>(kF b h).elim ho (by omega);show ownB (ws ++ [v']) b=ownB ws b;rw [Bool.eq_iff_iff,Lc,Lc];constructor
      . rintro ⟨j,u,hu,hb⟩;rcases RS hu with ⟨_,hu⟩|⟨_,rfl⟩
        . exact ⟨j,u,hu,hb⟩
        . exact absurd hb hv'
      . rintro ⟨j,u,hu,hb⟩;exact ⟨j,u,Pk hu,hb⟩
    . exact p6.J9.past.hears 0 (.inl rfl)
    . rcases RS hu with ⟨_,hu⟩ | ⟨_,rfl⟩
      . exact LW.turn _ _ hu
      . rw [a4];exact hlow
  . simp only [Il,Bool.or_eq_true,beq_iff_eq] at hb;rcases hb with hb|hb
    . exact (p5.old b hb).2
    . rw [hb];exact Ko p6.J9.wg
  . obtain ⟨j,u,hu,hb⟩:=Lc.1 hb;exact (p5.own j u hu b hb).2.2.2
end
end
end Go.LK
