/-
  Part 6 of the proof that CellOrders is true of every input of bulk at most 1048576.
-/
import Derived.Test.YtdkfdedgfilhbaaQ05
import Derived.Conc.WgLib
import Derived.Conc.WgArith
import Derived.Conc.WgGenW
import Derived.WalkKit
import Derived.WalkSpells
import Derived.WalkLawsBesides
import Derived.Lib.Hide
import Derived.Deep.RegionLaw
import Derived.Test.YtdkfdedgfilhbaaProg
set_option linter.unusedVariables false
set_option linter.unusedSectionVars false
set_option linter.unusedSimpArgs false
noncomputable section
namespace Go.LT
open Go Go.Conc
section
def Reads(P:Program)(fn:Func)(tm:Array Value)(W:World)(v:Value):Prop:=∀EG,Alike W EG->(results fn tm).run P EG=.ok v EG
def behind(c:Frame):Frame:=
 match c.mode with
 | .panicking ({ recovered:=true,.. } :: older)=>
  match older.dropWhile (!·.goexit)with
  | []=>{ c with mode:=.returning }
  | rest=>{ c with mode:=.panicking rest }
 | _=>c
section
variable {P:Program}{main:Bool}{Γ:Type}{S:Sy P main Γ}{γ:Γ}{W:World}
theorem JW.raises{f:FuncId}{fn:Func}(hf:P.funcs[f]?=some fn){tm:Array Value}{Y:List Item}{κ:CallKind}{c:Frame}{cs:List Frame}{ch:List PanicEntry}(h:JW S γ (G (c.raise ch) cs) W):JW S γ (G (GH f tm Y [] (.panicking ch) κ) (c :: cs)) W:=
 .silent rfl (fun w=>by simp[G,GH,stepG,unwind,Frame.catches,hf]) h
theorem Kr{g : FuncId}{fn : Func}{b : Code}(hg : P.funcs[g]? = some fn)(hn : (fn.name == "runtime.NumGoroutine") = false)(hb : fn.body = some b)(args : Array Value)(w : World)(es : Array Event) : (callFunc g args).runT P w es = (.ok (.enter g args) w, es) := by show(match P.funcs[g]? with | none=>_ | some fn=>_:Sem Next).runT P w es=_;rw[hg];simp only[hn,hb,Option.isNone_some,Bool.false_eq_true,if_false];rfl
theorem JW.defers{f g : FuncId}{fn : Func}{b : Code}(hg : P.funcs[g]? = some fn)(hn : (fn.name == "runtime.NumGoroutine") = false)(hb : fn.body = some b){tm : Array Value}{Y : List Item}{args captured : Array Value}{ds : List Deferred}{mode : FrameMode}(hm : mode ≠ .run){κ : CallKind}{cs : List Frame}(h:JW S γ (G (Frame.enter P g (args++captured) .deferred) (GH f tm Y ds mode κ :: cs)) W):JW S γ (G (GH f tm Y ({ target:=.fn (.func g) captured,args } :: ds) mode κ) cs) W:=
 .silent rfl (fun w=>by
  have hc:(invoke (.fn (.func g) captured) args).runT P w #[]=(.ok (.enter g (args++captured)) w,#[]):=Kr hg hn hb _ _ _;cases mode with
  | run=>exact absurd rfl hm
  | _=>simp[G,GH,stepG,unwind,callDeferred,hc,GStep.after,seen,-Sem.runT_eq]) h
def oD(Rd:Array Value->World->Value->Prop)(R:Ending->Γ->World->Prop):Post Γ
 | .normal,a,γ,W=>a.defers=[]/\∃v,Rd a.tmps W v/\R (.returned v) γ W
 | .ret,a,γ,W=>a.defers=[]/\∃v,Rd a.tmps W v/\R (.returned v) γ W
 | .panic ch,a,γ,W=>a.defers=[]/\R (.panicked ch) γ W
 | _,_,_,_=>False
theorem NR.nI{L:FuncId->Prop}{f:FuncId}{fn:Func}{c:Code}{args:Array Value}{R:Ending->Γ->World->Prop}{Rd:Array Value->World->Value->Prop}(hf:P.funcs[f]?=some fn)(hb:fn.body=some c)(hL:L f)(hrd:∀tm Y c cs v γ W,Rd tm W v->JW S γ (G (c.finish v) cs) W->JW S γ (G (GH f tm Y [] .returning .normal) (c :: cs)) W)(h:Runs S L c (oD Rd R) { tmps:=args++Array.replicate (fn.ntmps-args.size) undef,defers:=[] } γ W):NR S f args γ W R:=by
 intro cf cs hret Agr;have he:Frame.enter P f args .normal=GH f (args++Array.replicate (fn.ntmps-args.size) undef) [.code c] [] .run .normal:=by simp[Frame.enter,hf,hb]
 rw[he];refine h f .normal [] (cf :: cs) hL (by simp) fun e a' γ' W' q=>?_;obtain⟨tm,ds⟩:=a';cases e with
 | normal=>
  obtain⟨rfl,v,hr,hR⟩:=q;exact .silent rfl (g':=G (GH f tm [] [] .returning .normal) (cf :: cs)) (fun w=>by simp[G,stepG,stepG.exec]) (hrd _ _ _ _ _ _ _ hr (hret _ _ _ hR))
 | ret=>
  obtain⟨rfl,v,hr,hR⟩:=q;exact fun Y=>hrd _ _ _ _ _ _ _ hr (hret _ _ _ hR)
 | panic ch=>
  obtain⟨rfl,hR⟩:=q;exact fun Y=>.raises hf (Agr _ _ _ hR)
 | _=>exact q.elim
theorem NR.mono{f:FuncId}{args:Array Value}{R R':Ending->Γ->World->Prop}(h:NR S f args γ W R)(hr:∀e γ W,R e γ W->R' e γ W):NR S f args γ W R':=fun c cs h1 h2=>h c cs (fun v γ' W' hR=>h1 _ _ _ (hr _ _ _ hR)) fun ch γ' W' hR=>h2 _ _ _ (hr _ _ _ hR)
end
section
variable {P:Program}{main:Bool}{Γ:Type}{S:Fp P main Γ}{γ:Γ}{W:World}
theorem QX{f:FuncId}{fn:Func}(hf:P.funcs[f]?=some fn){tm:Array Value}{Y:List Item}{κ:CallKind}{cs:List Frame}{W:World}{v:Value}(hr:Reads P fn tm W v){w:World}(hw:Io (S.B γ) w W) :
   ∃w' es,stepG P main (G (GH f tm Y [] .returning κ) cs) w=GStep.after es (doReturn P main (GH f tm Y [] .returning κ) cs none v w')/\Kept (S.B γ) w w'/\(∀e∈es,Jv (S.B γ) w'.heap.size e)/\Io (S.B γ) w' W:=by
 obtain⟨⟨τ,d,rfl⟩,hR⟩:=hw;have hT:EL P (fun _=>True) (results fn tm):=Pz fun _=>trivial;obtain⟨w2,es2,h1,h2,h3,_,h5,_,h7⟩:=LM (es:=#[]) (τ:=w.tape) (d:=w.drawn) hT hR (x:=.inl v) (w1:=sh (EF (S.B γ) w) w.tape w.drawn) (by rw[Sem.runT_fst,hr (sh (EF (S.B γ) w) w.tape w.drawn) ⟨w.tape,w.drawn,rfl⟩];rfl) (fun i hi=>rfl);refine⟨w2,seen P f es2,?_,h3,fun e he=>h7 e (mem_seen he),⟨τ,d,?_⟩,hR.kept h3⟩
 . simp only[Array.empty_append]at h5;simp only[G,GH,stepG,unwind,hf];generalize(results fn tm).runT P w #[]=r at h1 h5;obtain⟨r,es⟩:=r;obtain rfl:=Jy h1;obtain rfl:es=es2:=h5;rfl
 . have:sh (sh (EF (S.B γ) w) w.tape w.drawn) τ d=sh (sh (EF (S.B γ) w2) w.tape (w.drawn+(w2.drawn-w.drawn))) τ d:=by rw[h2]
   exact this
theorem JW.returns{f:FuncId}{fn:Func}(hf:P.funcs[f]?=some fn){tm:Array Value}{Y:List Item}{c:Frame}{cs:List Frame}{v:Value}(hr:Reads P fn tm W v)(h:JW S.base γ (G (c.finish v) cs) W):JW S.base γ (G (GH f tm Y [] .returning .normal) (c :: cs)) W:=
 S.step rfl fun w hw=>by obtain⟨w',es,e1,e2,e3,e4⟩:=QX (cs:=c :: cs) (κ:=.normal) (Y:=Y) hf hr hw;exact⟨_,w',es,by rw[e1];simp[doReturn,GStep.after,G],e2,e3,W,e4,h⟩
theorem NR.body{L:FuncId->Prop}{f:FuncId}{fn:Func}{c:Code}{args:Array Value}{R:Ending->Γ->World->Prop}(hf:P.funcs[f]?=some fn)(hb:fn.body=some c)(hL:L f)(h:Runs S.base L c (oD (Reads P fn) R) { tmps:=args++Array.replicate (fn.ntmps-args.size) undef,defers:=[] } γ W):NR S.base f args γ W R:=
 .nI hf hb hL (fun tm Y c cs v γ W hr hJ=>JW.returns hf hr hJ) h
variable [Host] in
theorem NR.lone{L:List FuncId}(hL:∀f∈L,Lets P f){f:FuncId}(hbar:Host.bar f=false){args:Array Value}{R:Ending->Γ->World->Prop}(h:∀EG,Alike W EG->CallsIn (Fence.list L none) 0 P f args EG fun e W'=>∃v,e=.returned v/\R (.returned v) γ W'):NR S.base f args γ W R:=by
 intro c cs hret _ w hw;refine S.way _ _ _ (Zu (R:=S.R γ) (D:=S.D γ) (F:=(·∈L)) (Fn:=Fence.list L none) (n:=0) (S.refl γ) (S.trans γ) (S.turns γ) (S.kept γ) hL (fun _ h=>h) rfl rfl hbar hw.2 (Rp:=fun _ e W'=>∃v,e=.returned v/\R (.returned v) γ W') (fun _ _ _ ⟨v,h,_⟩=>⟨v,h⟩) (fun τ=>?_) fun v w' τ d hR hv=>?_)
 . obtain⟨⟨oH,d',rfl⟩,_⟩:=hw;exact h _ ⟨τ,0,rfl⟩
 . obtain⟨v',e,hR'⟩:=hv;cases e
   exact .stop fun w₁ h₁=>hret v _ _ hR' w₁ (S.turn (show Io (S.B γ) w' (sh (EF (S.B γ) w') τ d)from⟨⟨τ,d,rfl⟩,hR⟩) h₁)
end
end
section
section
variable {P:Program}{main:Bool}{Γ:Type}{S:Sy P main Γ}{L:FuncId->Prop}{γ:Γ}{W:World}{a:Act}{Q:Post Γ}
theorem RO.pure{ops:Array Oper}{i:Nat}{rest:List Nat}{o:Oper}{v:Value}(ho:ops[i]?=some o)(hw:Region.wanted o (yielded ops a.tmps)=true)(hv:∀w,(execOp a.eval o).run P w=.ok (.value v) w)(he:∀w,∀e∈(execOp a.eval o).events P w #[],False)(h:RO S L ops rest Q (a.put o.dst v) γ W):RO S L ops (i :: rest) Q a γ W:=.value ho hw (fun w=>by
 have h1:((execOp a.eval o).runT P w #[]).1=.ok (.value v) w:=by rw[Sem.runT_fst];exact hv w
 have h2:((execOp a.eval o).runT P w #[]).2=#[]:=by have:=he w;rw[Sem.events]at this;exact Array.eq_empty_of_size_eq_zero (Classical.byContradiction fun hn=>this _ (Array.getElem_mem (Nat.pos_of_ne_zero hn)))
 exact Prod.ext h1 h2) h
end
end
end Go.LT
namespace Go.LK
open Go Go.Conc Go.LT Go.LC
open Go.ConcN (WgLive sumTo upd sumTo_upd upd_ne upd_same)
open Go.ConcR (KK wgBlock WgAt stA smA rd wr mk)
section
inductive G0(X Sg:Type)
 | Gj (B:Nat->Bool) (n:Nat)
 | Fg (M:Md X Sg) (ρ:Rn) (ws:List (FE X)) (ex:Nat) (df:Bool) (n:Nat)
section
variable {X Sg:Type}
def ownB(ws:List (FE X))(b:Nat):Bool:=@decide (∃(i:Nat) (v:FE X),ws[i]?=some v/\v.own b) (Classical.propDecidable _)
theorem Jw{ws:List (FE X)}{b:Nat}:ownB ws b=true↔∃(i:Nat) (v:FE X),ws[i]?=some v/\v.own b:=by unfold ownB;exact @decide_eq_true_iff _ (Classical.propDecidable _)
theorem KV{ws:List (FE X)}{b:Nat}(h:∀(i:Nat) (v:FE X),ws[i]?=some v->¬ v.own b):ownB ws b=false:=by
 cases e:ownB ws b with
 | false=>rfl
 | true=>obtain⟨i,v,hv,ho⟩:=Jw.1 e;exact absurd ho (h i v hv)
def FR(ρ:Rn)(ws:List (FE X)):Hid:={ hol:=fun b=>ρ.Bo b||b==ρ.Wg,KH:=ownB ws }
def G0.B:G0 X Sg->Hid
 | .Gj B _=>{ hol:=B }
 | .Fg _ ρ ws _ _ _=>FR ρ ws
def G0.R:G0 X Sg->World->World->Prop
 | .Gj _ _=>AtRel
 | .Fg _ ρ _ _ _ _=>G9 ρ.ty ρ.Wg
def J0(P:Program)(Fin:Gb):G0 X Sg->Goroutine->World->Prop
 | .Gj B n,g,w=>∀gs T sl q,gs[0]?=some g->gs.size=n->Om P (aL { hol:=B }) q T gs w->Fin.b0<=w.heap.size->Fin (crowd gs w sl) T
 | .Fg M ρ ws ex df n,g,w=>∀gs T sl role bd live,gs[0]?=some g->gs.size=n->MP M ρ P ws 0 role bd w->Held P ρ.ty ρ.Wg (Kc ρ ws) (Oj ws) bd (Iq ρ) (fun c=>c=ρ.gone) (mK (Nl ws 0) 0 df) (IW ws 0) 0 role live ex T gs w->
   Lv ws n live->Deaf T 0=df.toNat->Lw Fin.b0 ρ ws->Fin (crowd gs w sl) T
theorem DK.Gj{B:Hid}{Shun:Loc->Prop}(Zr:∀l,Shun l->aL B l){w w':World}{es:Array Event}(hd:DK B w w' es):wR Shun w w' es:=
 ⟨hd.1.size,fun e he=>Vj (hd.2 e he) (fun _ _ _ h=>h.elim) Zr⟩
def mM(B:Hid)(b:Nat):Bool:=B b||B.KH b
theorem Rel.dkz{B:Hid}{Wg:Nat}{w w':World}{es:Array Event}(h:DK B w w' es):Rel (mM B) Wg w w':=
 ⟨fun b hb _=>by
  rcases Bool.or_eq_true _ _ ▸ hb with hb|hb
  . exact h.1.block b hb
  . exact h.1.still b hb,h.1.size,fun b o _ ho hn=>h.1.objs b o ho hn⟩
variable {P:Program}{Fin:Gb}
theorem MP.walk{M:Md X Sg}{ρ:Rn}{ws:List (FE X)}{role FK:Nat->Fv}{bd:Nat->Nat}{w w':World}{B:Nat->Bool}(C:MP M ρ P ws 0 role bd w)(hS:Same role FK)(hO:∀(i:Nat) (v:FE X),ws[i]?=some v->∀b,v.own b->B b=true)(WY:∀b,ρ.Bo b=true->B b=true)(h:Rel B ρ.Wg w w')(XA:∃c e f,w.heap[ρ.Wg]?=some (.cells c e f)) :
   MP M ρ P ws 0 FK bd w':=by
 have hch:∀c k:Nat,w.heap[c]?=some (Obj.chan 0 #[] false k k false)->∃k':Nat,w'.heap[c]?=some (Obj.chan 0 #[] false k' k' false):=fun c k hc=>⟨k,h.objs c _ (fun z=>by subst z;obtain⟨c,e,f,hw⟩:=XA;rw[hw]at hc;cases hc) hc (fun _ _ _=>by simp)⟩
 refine⟨C.apart,C.pos,fun i v hv hn ho=>?_,fun i st n c e hc=>?_,fun i v hv hn=>?_,fun i v hv b hb=>?_,C.inside,fun i v hv=>?_,?_,?_,C.sh,fun b hb=>?_,C.wO⟩
 . obtain⟨⟨n,h⟩,hb⟩:=C.seats i v hv hn ho;exact⟨(hS v.h).1 _ n h,hb⟩
 . obtain⟨n',e'⟩:=hS.back e;exact C.known i st n' c e' hc
 . obtain⟨k1,k2,k3⟩:=C.keep i v hv hn;exact⟨fun b hb=>(k1 b hb).trans (.of (h.block b (hO i v hv b hb) (C.own i v hv b hb).2.1)),k2,Nat.le_trans k3 h.size⟩
 . obtain⟨a1,a2,a3,c,e,f,hc⟩:=C.own i v hv b hb;exact⟨a1,a2,a3,c,e,f,by rw[h.block b (hO i v hv b hb) a2];exact hc⟩
 . obtain⟨c1,c2,k,hk⟩:=C.chan i v hv;exact⟨c1,c2,hch _ _ hk⟩
 . obtain⟨c1,k,hk⟩:=C.come;exact⟨c1,hch _ _ hk⟩
 . intro hcl;obtain⟨k,hk⟩:=C.gone hcl;exact hch _ _ hk
 . obtain⟨h1,c,e,f,hc⟩:=C.old b hb;exact⟨h1,c,e,f,by rw[h.block b (WY b hb) h1];exact hc⟩
theorem Lv.keep{ws:List (FE X)}{n:Nat}{live Gc:Nat->Nat}{role:Nat->Fv}{M:Md X Sg}{ρ:Rn}{bd:Nat->Nat}{w:World}(hL:Lv ws n live)(C:MP M ρ P ws 0 role bd w)(h:MB 0 role live Gc):Lv ws n Gc:=
 ⟨hL.lt,by rw[h 0 (.inl rfl)];exact hL.zero,fun i v hv ho=>by obtain⟨⟨n,e⟩,_⟩:=C.seats i v hv (by have:=(C.pos i v hv).1;omega) ho;rw[h _ (.inr ⟨_,_,e⟩)];exact hL.one i v hv ho⟩
section
variable {M:Md X Sg}{ρ:Rn}{ws:List (FE X)}{role:Nat->Fv}{bd:Nat->Nat}{w:World}
theorem KD{i:Nat}{v:FE X}(hv:ws[i]?=some v){b:Nat}(hb:v.own b):(FR ρ ws).KH b=true:=Jw.2 ⟨i,v,hv,hb⟩
theorem LD:(FR ρ ws) ρ.Wg=true:=by simp[FR]
theorem Tz{b:Nat}(hb:ρ.Bo b=true):(FR ρ ws) b=true:=by simp[FR,hb]
theorem DK.Fg(C:MP M ρ P ws 0 role bd w){w₁ w':World}{es:Array Event}(hd:DK (FR ρ ws) w₁ w' es):vO (Kc ρ ws) (Oj ws) (Iq ρ) (fun _=>True) ρ.Wg 0 w₁ w' es:=by
 refine DK.hd (fun x hx w w' hb hK j u hu Iu ho=>?_) (fun x hx l hl=>?_) (fun l hl=>?_) LD hd
 . have hi:=C.inside j u hu;exact(hK j u hu Iu ho).blk (hb _ (.inr (KD hu hi.1))) (hb _ (.inr (KD hu hi.2)))
 . obtain⟨j,u,hu,Iu,ho,hs⟩:=hl;have hi:=C.inside j u hu;rcases hs with hs|hs|hs
   . exact .inr ⟨_,hs,KD hu hi.1⟩
   . exact .inr ⟨_,hs,KD hu hi.1⟩
   . exact .inr ⟨_,hs,KD hu hi.2⟩
 . obtain⟨a,rfl,ha⟩:=hl;refine⟨a,rfl,?_⟩;rcases ha with ha|ha
   . rw[ha];exact LD
   . exact Tz ha
end
def S0(P:Program)(Fin:Gb)(EH:FM P Fin):Fp P true (G0 X Sg) where
 B:=G0.B
 R:=G0.R
 D:=fun γ=>DK γ.B
 J:=J0 P Fin
 refl:=fun γ w=>by cases γ with
  | Gj B n=>exact⟨w.drawn,rfl⟩
  | Fg M ρ ws ex df n=>exact G9.refl w
 trans:=fun γ a b c h k=>by cases γ with
  | Gj B n=>obtain⟨d,rfl⟩:=h;obtain⟨d',rfl⟩:=k;exact⟨d',rfl⟩
  | Fg M ρ ws ex df n=>exact G9.trans h k
 turns:=fun γ w w₁ h=>by cases γ with
  | Gj B n=>exact Wt h
  | Fg M ρ ws ex df n=>exact G9.turns LD h
 kept:=fun γ w w' es _ hk he=>⟨hk,he⟩
 way:=fun γ g w hW=>by
  cases γ with
  | Gj B n=>
   intro gs T sl q hg hn C hlow;have hW2:=Uh (Re:=Po Fin.b0) (fun a b h=>.rel h) (fun a b es h=>.dk h) (fun a b c h k=>h.trans k) hW w (.refl _ _);obtain⟨N,gs',a',w',sl',T',q',p1,p2,p3,p4,p5⟩:=Yx (sl:=sl) (fun w w' es hd=>DK.Gj (fun _ h=>h) hd) hW2 hg C;exact EH _ _ _ _ _ p1 (p4 w' ⟨w'.drawn,rfl⟩).2 ((p4 w' ⟨w'.drawn,rfl⟩).1 gs' T' sl' q' p3 (p2.trans hn) p5 (Nat.le_trans hlow (p4 w' ⟨w'.drawn,rfl⟩).2.size))
  | Fg M ρ ws ex df n=>
   intro gs T sl role bd live hg hn C H hL hdf Kl;have hW2:=Uh (Re:=fun a b=>Rel (mM (FR ρ ws)) ρ.Wg a b/\Po Fin.b0 a b) (fun a b h=>⟨.Yk h,.Yk Kl.wg h⟩) (fun a b es h=>⟨.dkz h,.dk h⟩) (fun a b c h k=>⟨h.1.trans k.1,h.2.trans k.2⟩) hW w ⟨.refl _ _ _,.refl _ _⟩;obtain⟨N,gs',a',w',sl',T',FK,Gc,p1,p2,p3,⟨p4,p5,p5f⟩,p6,p7,p8,p9,_⟩:=U6 (h:=0) (sl:=sl) C.env (Ch:=fun _=>True) (fun w w' es hd=>DK.Fg C hd) hW2 hg H (fun _ _ _ _ _ _=>trivial);refine EH _ _ _ _ _ p1 p5f (p4 gs' T' sl' FK bd Gc p3 (p2.trans hn) (C.walk p7 (fun i v hv b hb=>?_) (fun b hb=>?_) p5 (IB H.KS.wg)) p6 (hL.keep C p8) (p9.trans hdf) Kl)
   . simp[mM,KD hv hb]
   . simp[mM,Tz hb]
end
end
section
section
variable {X Sg:Type}
structure Known(M:Md X Sg)(ρ:Rn)(ws:List (FE X))(W:World):Prop where
 record:∀(i:Nat) (v:FE X),ws[i]?=some v->M.Rec v.k v.x v.b v.own v.wy
 cell:∀(i:Nat) (v:FE X),ws[i]?=some v->∀a:Addr,v.own a.block->W.cell? a=v.wy.cell? a
 turn:∀(i:Nat) (v:FE X),ws[i]?=some v->v.over=false->W.cell? ⟨v.b,2,none⟩=some (.chan (some v.t))
 own:∀(i:Nat) (v:FE X),ws[i]?=some v->∀b,v.own b->¬ M.Sh b/\b≠ρ.Wg/\ρ.Bo b=false/\∃c e f,W.heap[b]?=some (.cells c e f)
 inside:∀(i:Nat) (v:FE X),ws[i]?=some v->v.own v.b/\v.own v.pb
 sh:∀b,M.Sh b->b≠ρ.Wg/\ρ.Bo b=false
 num:∀(i:Nat) (v:FE X),ws[i]?=some v->v.k=i
variable {P:Program}{Fin:Gb}{EH:FM P Fin}
variable {M:Md X Sg}{ρ:Rn}{ws:List (FE X)}{role:Nat->Fv}{bd:Nat->Nat}{w W:World}{ex n:Nat}{df:Bool}{g:Goroutine}
theorem Gu{B:Hid}(h:Io B w W):W.heap=(EF B w).heap:=by obtain⟨⟨τ,d,rfl⟩,_⟩:=h;rfl
theorem IV{B:Hid}(h:Io B w W):W.heap.size=w.heap.size:=by rw[Gu h];simp
theorem Je{b:Nat}(h1:b≠ρ.Wg)(h2:ρ.Bo b=false):(FR ρ ws) b=false:=by simp[FR,h1,h2]
theorem MP.vX(C:MP M ρ P ws 0 role bd w){b:Nat}(hb:M.Sh b):(FR ρ ws) b=false/\(FR ρ ws).KH b=false:=by obtain⟨h1,h2⟩:=C.sh b hb;exact⟨Je h1 h2,KV fun i v hv ho=>(C.own i v hv b ho).1 hb⟩
theorem MP.inv(C:MP M ρ P ws 0 role bd w)(hs:Io (FR ρ ws) w W)(σ:Sg):M.Inv σ W↔M.Inv σ w:=by
 have hh:=Gu hs;have e:∀b,M.Sh b->L8 w W b:=fun b hb=>by obtain⟨h1,h2⟩:=C.vX hb;have:=L8.view (w:=w) h1 h2;unfold L8 at this ⊢;rw[hh];exact this
 exact⟨fun h=>M.inv_eq _ _ _ (fun b hb=>(e b hb).symm) h,fun h=>M.inv_eq _ _ _ e h⟩
theorem MP.knows(C:MP M ρ P ws 0 role bd w)(hs:Io (FR ρ ws) w W)(hK:∀(i:Nat) (v:FE X),ws[i]?=some v->v.over=false->Kc ρ ws v.h w):Known M ρ ws W:=by
 have hh:=Gu hs;have hcell:∀(i:Nat) (v:FE X),ws[i]?=some v->∀a:Addr,v.own a.block->W.cell? a=w.cell? a:=fun i v hv a ha=>by
   obtain⟨_,h1,h2,_⟩:=C.own i v hv _ ha;have:W.cell? a=(EF (FR ρ ws) w).cell? a:=by simp[World.cell?,hh]
   rw[this];exact Fy (Je h1 h2)
 refine⟨fun i v hv=>(C.keep i v hv (by have:=(C.pos i v hv).1;omega)).2.1,fun i v hv a ha=>?_,fun i v hv ho=>?_,fun i v hv b hb=>?_,C.inside,C.sh,fun i v hv=>(C.pos i v hv).2⟩
 . rw[hcell i v hv a ha];have he:=(C.keep i v hv (by have:=(C.pos i v hv).1;omega)).1 _ ha;obtain⟨_,_,_,c,e,f,hc⟩:=C.own i v hv _ ha;have:=he.symm.cells hc;simp[World.cell?,hc,this]
 . rw[hcell i v hv _ (C.inside i v hv).1];exact(hK i v hv ho i v hv rfl ho).1
 . obtain⟨a1,a2,a3,c,e,f,hc⟩:=C.own i v hv b hb;refine⟨a1,a2,a3,?_⟩;rw[hh,Fu (Je a2 a3),hc];exact⟨_,_,_,rfl⟩
theorem MP.kc(C:MP M ρ P ws 0 role bd w){Mem:Nat->Prop}{live:Nat->Nat}{T:Trace}{gs:Array Goroutine}{ex:Nat}(H:Held P ρ.ty ρ.Wg (Kc ρ ws) (Oj ws) bd (Iq ρ) (fun c=>c=ρ.gone) Mem (IW ws 0) 0 role live ex T gs w){i:Nat}{v:FE X}(hv:ws[i]?=some v)(ho:v.over=false):Kc ρ ws v.h w:=by obtain⟨⟨n,h⟩,_⟩:=C.seats i v hv (by have:=(C.pos i v hv).1;omega) ho;exact H.KS.keep _ _ _ h
theorem J0.know(h:Known M ρ ws W->JW (S0 P Fin EH).base (.Fg M ρ ws ex df n) g W):JW (S0 P Fin EH).base (.Fg M ρ ws ex df n) g W:=by intro w hw gs T sl role bd live hg hn C H hL hdf Kl;exact h (C.knows hw fun i v hv ho=>C.kc H hv ho) w hw gs T sl role bd live hg hn C H hL hdf Kl
theorem J0.Afj{B:Nat->Bool}(h:Fin.b0<=W.heap.size->JW (S0 (X:=X) (Sg:=Sg) P Fin EH).base (.Gj B n) g W):JW (S0 (X:=X) (Sg:=Sg) P Fin EH).base (.Gj B n) g W:=by intro w hw gs T sl q hg hn C hlow;exact h (by rw[IV hw];exact hlow) w hw gs T sl q hg hn C hlow
theorem J0.low(h:Lw Fin.b0 ρ ws->Fin.b0<=W.heap.size->JW (S0 P Fin EH).base (.Fg M ρ ws ex df n) g W):JW (S0 P Fin EH).base (.Fg M ρ ws ex df n) g W:=by intro w hw gs T sl role bd live hg hn C H hL hdf Kl;refine h Kl ?_ w hw gs T sl role bd live hg hn C H hL hdf Kl;obtain⟨c,e,f,hc⟩:=IB H.KS.wg;have:=(zGE hc).1;have:=Kl.wg;rw[IV hw];omega
structure jd(M:Md X Sg)(ρ:Rn)(ws:List (FE X))(v:FE X)(tgt:X × Sg × Bool)(r:Nat)(W:World)(v':FE X)(W':World):Prop where
 h:v'.h=v.h
 k:v'.k=v.k
 b:v'.b=v.b
 t:v'.t=v.t
 x:v'.x=tgt.1
 over:v'.over=tgt.2.2
 r:v'.r=r
 inv:M.Inv tgt.2.1 W'
 block:∀b,(∃c e f,W.heap[b]?=some (.cells c e f))->(FR ρ ws) b=false->¬ v.own b->¬ M.Sh b->W'.heap[b]?=W.heap[b]?
 size:W.heap.size<=W'.heap.size
 own:∀b,v'.own b->v.own b\/W.heap.size<=b
theorem Rt{B:Hid}{b:Nat}(hs:Io B w W)(h:∃c e f,W.heap[b]?=some (.cells c e f)):∃c e f,w.heap[b]?=some (.cells c e f):=by
 obtain⟨c,e,f,hc⟩:=h;rw[Gu hs,Fq]at hc;cases ho:w.heap[b]? with
 | none=>rw[ho]at hc;cases hc
 | some o=>
  rw[ho]at hc;simp only[Option.map_some,Option.some.injEq]at hc;split at hc<;>cases o<;>first | (exact⟨_,_,_,rfl⟩) | (simp[Mk,dep]at hc)
theorem QT{ws':List (FE X)}{w':World}{b:Nat}(hs:Io (FR ρ ws) w W)(hz:(FR ρ ws').KH b=(FR ρ ws).KH b)(h:w'.heap[b]?=w.heap[b]?):(EF (FR ρ ws') w').heap[b]?=W.heap[b]?:=by rw[Gu hs,Fq,Fq,h,hz];rfl
theorem J0.give(hcl:¬ ρ.UM){i:Nat}{v:FE X}{r s:Nat}{σ:Sg}{g₂ g0:Goroutine}{zs:Value}{nq:Nat}(hv:ws[i]?=some v)(hov:v.over=false)(hr:v.r=r+1)(hInv:M.Inv σ W)(hrun:g.status=.running)(hstep:∀w,stepG P true g w=.comm g₂ #[scase v.t (.int .i64 s) zs] true .send w #[])(hS:Sits P true (fun _=>True) (fun _=>False) 0 (Seat.one ρ.come ρ.zi false (·=g0)) nq (g₂.finishComm P #[scase v.t (.int .i64 s) zs] .send (0:Nat) undef false))(hK:∀v' W',jd M ρ ws v (M.hold v.x s σ) r W v' W'->JW (S0 P Fin EH).base (.Fg M ρ (ws.set i v') ex false n) (g0.finishComm P #[rcase ρ.come ρ.zi] (.recv false) 0 (.int .i64 v.k) true) W') :
   JW (S0 P Fin EH).base (.Fg M ρ ws ex false n) g W:=by
 intro w hw gs T sl role bd live hg hn C H hL hdf Kl;subst hn;obtain⟨N,gs',w',sl',T',FK,aS,Gc,v',g0',p1,p2,p3,rfl,p5,p6,p7,a1,a2,a3,a4,a5,a6,a7,a8,a9,uT,jw,a12⟩:=Za (hcl:=hcl) (sl:=sl) (ME:=(·=g0)) hv hov hr C H hL ((C.inv hw σ).1 hInv) hg hrun (fun w₁ _=>hstep w₁) hS;have hs':Io (FR ρ (ws.set i v')) w' (EF (FR ρ (ws.set i v')) w'):=⟨.refl _,⟨fun b hb=>?_,fun b hb=>?_⟩⟩
 . have hsz:(EF (FR ρ (ws.set i v')) w').heap.size=w'.heap.size:=by simp
   refine EH _ _ _ _ _ p1 (a12 _ Kl.wg Kl.come (Kl.turn _ _ hv)) (hK v' _ ⟨a1,a2,a3,a4,a5,a6,a7,(p5.inv hs' _).2 a8,fun b hrow hB ho hsh=>?_,by rw[hsz,IV hw];exact uT,fun b hb=>by rw[IV hw];exact jw b hb⟩ w' hs' gs' T' sl' FK aS Gc p3 p2 p5 p6 p7 ?_ ⟨Kl.wg,Kl.come,Kl.gone,fun j u hu=>?_⟩)
   . have hrw:=Rt hw hrow;have XA:b≠ρ.Wg:=fun e=>by rw[e,LD]at hB;cases hB
     refine QT hw ?_ (a9 b XA hrw ho hsh);obtain⟨c,e,f,hc⟩:=hrw;have hlt:b<w.heap.size:=(zGE hc).1;have hv':¬ v'.own b:=fun h=>(jw b h).elim ho zOM;show ownB (ws.set i v') b=ownB ws b;rw[Bool.eq_iff_iff,Jw,Jw];constructor
     . rintro⟨j,u,hu,hb⟩;rcases TY hv hu with⟨_,rfl⟩|⟨_,hu⟩
       . exact absurd hb hv'
       . exact⟨j,u,hu,hb⟩
     . rintro⟨j,u,hu,hb⟩;by_cases e:j=i
       . subst e;rw[hv]at hu;cases hu;exact absurd hb ho
       . exact⟨j,u,by rw[Pj e];exact hu,hb⟩
   . exact p6.KS.past.hears 0 (.inl rfl)
   . rcases TY hv hu with⟨_,rfl⟩ | ⟨_,hu⟩
     . rw[a4];exact Kl.turn _ _ hv
     . exact Kl.turn _ _ hu
 . simp only[FR,Bool.or_eq_true,beq_iff_eq]at hb;rcases hb with hb|hb
   . exact(p5.old b hb).2
   . rw[hb];exact IB p6.KS.wg
 . obtain⟨j,u,hu,hb⟩:=Jw.1 hb;exact(p5.own j u hu b hb).2.2.2
theorem TJ{B:Hid}{c k:Nat}(hs:Io B w W)(h:W.heap[c]?=some (Obj.chan 0 #[] false k k false)):w.heap[c]?=some (Obj.chan 0 #[] false k k false):=by
 rw[Gu hs,Fq]at h;cases ho:w.heap[c]? with
 | none=>rw[ho]at h;cases h
 | some o=>
  rw[ho]at h;simp only[Option.map_some,Option.some.injEq]at h;split at h<;>cases o<;>simp_all [Mk,dep]
theorem J0.hire(hcl:¬ ρ.UM){v:FE X}{r:Nat}{tgt:X × Sg × Bool}{a' child g0:Goroutine}{nq:Nat}(hrun:g.status=.running)(hgo:∀w,stepG P true g w=.spawn a' child w #[])(hS:Sits P true (fun _=>True) (fun _=>False) 0 (Seat.one ρ.come ρ.zi false (·=g0)) nq a')(jm:v.h=n)(hvk:v.k=ws.length)(hov:v.over=false)(hown:∀b,v.own b->¬ M.Sh b/\b≠ρ.Wg/\ρ.Bo b=false/\(∃c e f,W.heap[b]?=some (.cells c e f))/\∀(j:Nat) (u:FE X),ws[j]?=some u->¬ u.own b)(hin:v.own v.b/\v.own v.pb)(hch:v.t≠ρ.come/\v.t≠ρ.gone/\(∃k,W.heap[v.t]?=some (.chan 0 #[] false k k false))/\∀(j:Nat) (u:FE X),ws[j]?=some u->u.t≠v.t)(hJ:∀w,Io (FR ρ ws) w W->∀B,dX M ρ v B w.heap.size->LT.Rows B w->WJ M ρ P r ⟨v,B,w.heap.size,tgt⟩ child w)(hlow:Fin.b0<=v.t)(hK:∀v' W',jd M ρ ws v tgt r W v' W'->JW (S0 P Fin EH).base (.Fg M ρ (ws++[v']) ex false (n+1)) (g0.finishComm P #[rcase ρ.come ρ.zi] (.recv false) 0 (.int .i64 v.k) true) W') :
   JW (S0 P Fin EH).base (.Fg M ρ ws (ex+1) false n) g W:=by
 intro w hw gs T sl role bd live hg hn C H hL hdf Kl;subst hn;obtain⟨N,gs',w',sl',T',FK,aS,Gc,v',g0',p1,p2,p3,rfl,p5,p6,p7,a1,a2,a3,a4,a5,a6,a7,a8,a9,uT,jw,a12⟩:=Zy (hcl:=hcl) (sl:=sl) (ME:=(·=g0)) C H hL hg hrun (fun w₁ _=>hgo w₁) hS jm hvk hov
   (fun b hb=>by obtain⟨b1,b2,b3,b4,b5⟩:=hown b hb;exact⟨b1,b2,b3,Rt hw b4,b5⟩) hin (by obtain⟨c1,c2,⟨k,c3⟩,c4⟩:=hch;exact⟨c1,c2,⟨k,TJ hw c3⟩,c4⟩)
   (fun w₁ h₁=>hJ w₁ ((S0 P Fin EH).turn (γ:=.Fg M ρ ws (ex+1) false gs.size) hw h₁))
 have hs':Io (FR ρ (ws++[v'])) w' (EF (FR ρ (ws++[v'])) w'):=⟨.refl _,⟨fun b hb=>?_,fun b hb=>?_⟩⟩
 . have hsz:(EF (FR ρ (ws++[v'])) w').heap.size=w'.heap.size:=by simp
   refine EH _ _ _ _ _ p1 (a12 _ Kl.wg Kl.come) (hK v' _ ⟨a1,a2,a3,a4,a5,a6,a7,(p5.inv hs' _).2 a8,fun b hrow hB ho hsh=>?_,by rw[hsz,IV hw];exact uT,fun b hb=>by rw[IV hw];exact jw b hb⟩ w' hs' gs' T' sl' FK aS Gc p3 p2 p5 p6 (by rw[← p2];exact p7) ?_ ⟨Kl.wg,Kl.come,Kl.gone,fun j u hu=>?_⟩)
   . have hrw:=Rt hw hrow;have XA:b≠ρ.Wg:=fun e=>by rw[e,LD]at hB;cases hB
     refine QT hw ?_ (a9 b XA hrw ho hsh);obtain⟨c,e,f,hc⟩:=hrw;have hlt:b<w.heap.size:=(zGE hc).1;have hv':¬ v'.own b:=fun h=>(jw b h).elim ho zOM;show ownB (ws++[v']) b=ownB ws b;rw[Bool.eq_iff_iff,Jw,Jw];constructor
     . rintro⟨j,u,hu,hb⟩;rcases Qt hu with⟨_,hu⟩|⟨_,rfl⟩
       . exact⟨j,u,hu,hb⟩
       . exact absurd hb hv'
     . rintro⟨j,u,hu,hb⟩;exact⟨j,u,Nt hu,hb⟩
   . exact p6.KS.past.hears 0 (.inl rfl)
   . rcases Qt hu with⟨_,hu⟩ | ⟨_,rfl⟩
     . exact Kl.turn _ _ hu
     . rw[a4];exact hlow
 . simp only[FR,Bool.or_eq_true,beq_iff_eq]at hb;rcases hb with hb|hb
   . exact(p5.old b hb).2
   . rw[hb];exact IB p6.KS.wg
 . obtain⟨j,u,hu,hb⟩:=Jw.1 hb;exact(p5.own j u hu b hb).2.2.2
end
end
end Go.LK
namespace Go.LT
open Go Go.Conc
section
structure O8(P:Program)(main:Bool)(Γ:Type) where
 B:Γ->Hid
 J:Γ->Goroutine->World->Prop
 live:Γ->World->Prop
 idle:∀γ g g' W,g.status=.running->(∀w,live γ w->stepG P main g w=.go g' w #[])->JV B J γ g' W->JV B J γ g W
def O8.sy{P:Program}{main:Bool}{Γ:Type}(S:O8 P main Γ):Sy P main Γ where
 B:=S.B
 J:=S.J
 silent:=fun γ g g' W hs h hJ=>S.idle γ g g' W hs (fun w _=>h w) hJ
section
variable {P:Program}{main:Bool}{Γ:Type}{S:O8 P main Γ}{γ:Γ}{W:World}{b:Frame}{a:Act}{k:List Item}{cs:List Frame}
abbrev JL(S:O8 P main Γ)(γ:Γ)(g:Goroutine)(W:World):Prop:=JV S.B S.J γ g W
theorem JL.ctl{g g':Goroutine}(hs:g.status=.running)(h:∀w,stepG P main g w=.go g' w #[])(hJ:JL S γ g' W):JL S γ g W:=S.idle γ g g' W hs (fun w _=>h w) hJ
theorem JL.Aeo{g g':Goroutine}(hs:g.status=.running)(h:∀w,S.live γ w->stepG P main g w=.go g' w #[])(hJ:JL S γ g' W):JL S γ g W:=S.idle γ g g' W hs h hJ
theorem JL.value(v:Value){ops:Array Oper}{i:Nat}{rest:List Nat}{o:Oper}(ho:ops[i]?=some o)(hw:Region.wanted o (yielded ops a.tmps)=true)(hk:b.kind≠.early)(hr:∀w,S.live γ w->(execOp a.eval o).run P w=.ok (.value v) w)(he:∀w,S.live γ w->∀e∈(execOp a.eval o).events P w #[],False)(h:JL S γ (G (b.at (a.put o.dst v) (.inRegion ops rest :: k)) cs) W):JL S γ (G (b.at a (.inRegion ops (i :: rest) :: k)) cs) W:=
 .Aeo rfl (fun w hl=>by rw[stepG_value ho hw hk (hr w hl),listed_none (Array.eq_empty_iff_forall_not_mem.2 fun e he'=>he w hl e he')]) h
theorem JL.call{ops:Array Oper}{i:Nat}{rest:List Nat}{o:Oper}{f:FuncId}{fn:Func}{c:Code}{args:Array Operand}{ats:Array TypeId}(ho:ops[i]?=some o)(hw:Region.wanted o (yielded ops a.tmps)=true)(hk:b.kind≠.early)(hop:o.op=.call { callee:=.value (.func f),args,argTypes:=ats })(hf : P.funcs[f]? = some fn)(hname : (fn.name == "runtime.NumGoroutine") = false)(hb : fn.body = some c)(h:JL S γ (G ((base f).at { tmps:=args.map a.eval++Array.replicate (fn.ntmps-(args.map a.eval).size) undef,defers:=[] } [.code c]) (b.at a (.inRegion ops (i :: rest) :: k) :: cs)) W) :
  JL S γ (G (b.at a (.inRegion ops (i :: rest) :: k)) cs) W:=
 .ctl rfl (fun w=>by
  have hb':fn.body.isNone=false:=by rw[hb];rfl
  rw[stepG_enter ho hw hk (run_call_body hop hf hname hb'),enter_at _ hf hb];have:listed P b.fn a o w=#[]:=by unfold listed;rw[events_call_body hop hf hname hb'];exact seen_none P _
  rw[this]) h
theorem JL.pure(v:Value){ops:Array Oper}{i:Nat}{rest:List Nat}{o:Oper}{f:FuncId}{fn:Func}{az:Array Operand}{ats:Array TypeId}(ho:ops[i]?=some o)(hw:Region.wanted o (yielded ops a.tmps)=true)(hk:b.kind≠.early)(hop:o.op=.call { callee:=.value (.func f),args:=az,argTypes:=ats })(hf : P.funcs[f]? = some fn)(hname : (fn.name == "runtime.NumGoroutine") = false)(hb : fn.body.isNone = true)(hn : Extern.findNext fn = none)(he : Extern.find fn = some (fun _ => pure v))(h:JL S γ (G (b.at (a.put o.dst v) (.inRegion ops rest :: k)) cs) W):JL S γ (G (b.at a (.inRegion ops (i :: rest) :: k)) cs) W:=
 .ctl rfl (fun w=>stepG_entry_pure v ho hw hk hop hf hname hb hn he) h
section
variable {fn:Func}{todo:List Item}{b₀:Frame}{a₀:Act}{ops:Array Oper}{i:Nat}{rest:List Nat}
theorem JL.leave1{t:Tmp}(hn:b.kind=.normal)(hd:a.defers=[])(hf:P.funcs[b.fn]?=some fn)(hr:fn.results=#[.tmp t])(h:JL S γ (G (b₀.at (a₀.put ((ops[i]?).bind (·.dst)) (a.tmps.getD t undef)) (.inRegion ops rest :: k)) cs) W):JL S γ (G { b.at a todo with mode:=.returning } (b₀.at a₀ (.inRegion ops (i :: rest) :: k) :: cs)) W:=
 .ctl rfl (fun w=>by rw[stepG_leave hn hd hf (results_tmp hr _ P w) (events_results_tmp hr _ _),Frame.finish_at]) h
theorem JL.leave0(hn:b.kind=.normal)(hd:a.defers=[])(hf:P.funcs[b.fn]?=some fn)(hr:fn.results=#[])(h:JL S γ (G (b₀.at (a₀.put ((ops[i]?).bind (·.dst)) (.tuple #[])) (.inRegion ops rest :: k)) cs) W):JL S γ (G { b.at a todo with mode:=.returning } (b₀.at a₀ (.inRegion ops (i :: rest) :: k) :: cs)) W:=
 .ctl rfl (fun w=>by rw[stepG_leave hn hd hf (results_none hr _ P w) (events_results_none hr _ _),Frame.finish_at]) h
theorem JL.leaveD{c:Frame}(hn:b.kind=.deferred)(hd:a.defers=[])(hf:P.funcs[b.fn]?=some fn)(hr:fn.results=#[])(hc:c.mode=.returning)(h:JL S γ (G c cs) W):JL S γ (G { b.at a todo with mode:=.returning } (c :: cs)) W:=
 .ctl rfl (fun w=>stepG_leave_deferred hn hd hf (results_none hr _ P w) (events_results_none hr _ _) hc) h
end
inductive YP(k:List Item):List Item->Prop
 | mk:YP k k
theorem JL.region{id:Nat}{ops:Array Oper}{l:List Nat}(hl:List.range ops.size=l)(h:∀k',YP k k'->JL S γ (G (b.at a (.inRegion ops l :: k')) cs) W):JL S γ (G (b.at a (.code (.region id ops false) :: k)) cs) W:=
 .ctl rfl (fun w=>stepG_region) (by rw[hl];exact h k .mk)
theorem JL.F3{c:Operand}{x y:Code}(hc:a.eval c=.bool true)(h:JL S γ (G (b.at a (.code x :: k)) cs) W):JL S γ (G (b.at a (.code (.cond c x y) :: k)) cs) W:=
 .ctl rfl (fun w=>by rw[stepG_cond hc];rfl) h
theorem JL.EX{c:Operand}{x y:Code}(hc:a.eval c=.bool false)(h:JL S γ (G (b.at a (.code y :: k)) cs) W):JL S γ (G (b.at a (.code (.cond c x y) :: k)) cs) W:=
 .ctl rfl (fun w=>by rw[stepG_cond hc];rfl) h
theorem JL.exit{id:Nat}{k':List Item}(he:exitTo id k=some k')(h:JL S γ (G (b.at a k') cs) W):JL S γ (G (b.at a (.code (.exit id) :: k)) cs) W:=
 .ctl rfl (fun w=>stepG_exit he) h
end
theorem cK{f:FuncId}:(base f).kind≠.early:=Go.ConcR.Gen.base_kind f
theorem eT{f:FuncId}:(baseD f).kind≠.early:=Go.ConcR.Gen.baseD_kind f
class NEa(b:Frame):Prop where
 h:b.kind≠.early
instance {f:FuncId}:NEa (base f):=⟨cK⟩
instance {f:FuncId}:NEa (baseD f):=⟨eT⟩
theorem nE{b:Frame}[h:NEa b]:b.kind≠.early:=h.h
section
variable {P:Program}{main:Bool}{Γ:Type}{S:O8 P main Γ}{γ:Γ}{W:World}{b:Frame}{a:Act}{k:List Item}{cs:List Frame}
theorem EU{f:Frame}{g':Goroutine}(h:∀{w},stepG P main (G f cs) w=.go g' w #[])(hJ:JL S γ g' W):JL S γ (G f cs) W:=.ctl rfl (fun _=>h) hJ
theorem EO{c d:Code}(hJ:JL S γ (G (b.at a (.code c :: .code d :: k)) cs) W):JL S γ (G (b.at a (.code (.seq c d) :: k)) cs) W:=.ctl rfl (fun _=>stepG_seq) hJ
theorem ET{v:Value}{ops:Array Oper}{i:Nat}{rest:List Nat}{o:Oper}(h:JL S γ (G (b.at (a.put o.dst v) (.inRegion ops rest :: k)) cs) W)(ho:ops[i]?=some o:=by exact rfl)(hw:Region.wanted o (yielded ops a.tmps)=true:=by exact rfl)(hk:b.kind≠.early:=by first | exact cK | exact eT | decide | assumption)(hr:∀w,S.live γ w->(execOp a.eval o).run P w=.ok (.value v) w:=by intro _ _;go_simp;(try w_num);rfl)(he:∀w,S.live γ w->∀e∈(execOp a.eval o).events P w #[],False:=by intro _ _ e he;simp[go_sem, *]at he):JL S γ (G (b.at a (.inRegion ops (i :: rest) :: k)) cs) W:=JL.value v ho hw hk hr he h
theorem E5{ops:Array Oper}(hJ:JL S γ (G (b.at a k) cs) W):JL S γ (G (b.at a (.inRegion ops [] :: k)) cs) W:=.ctl rfl (fun _=>stepG_region_end) hJ
theorem E9{id:Nat}{ops:Array Oper}{l:List Nat}(h:∀k',YP k k'->JL S γ (G (b.at a (.inRegion ops l :: k')) cs) W)(hl:List.range ops.size=l:=by first | (simp only[List.size_toArray,List.length_cons,List.length_nil,Nat.reduceAdd,Nat.zero_add,List.range,List.range.loop];done) | (simp only[List.size_toArray,List.length_cons,List.length_nil,Nat.reduceAdd,Nat.zero_add,List.range,List.range.loop];rfl)):JL S γ (G (b.at a (.code (.region id ops false) :: k)) cs) W:=JL.region hl h
end
end
section
section
variable {P:Program}{main:Bool}{K:World->Prop}{Still:Loc->Prop}{Bd:Nat}{st:Seat}
def SQ(P:Program)(main:Bool)(K:World->Prop)(Still:Loc->Prop)(Bd:Nat)(st:Seat):O8 P main Unit where
 B:=fun _=>RJ
 J:=fun _ g _=>∃n,∀w,Goes P main (RK K) (DS Still Bd) (fun g _=>∃g₂,AtIn P main K Still Bd st g g₂) n g w
 live:=fun _=>K
 idle:=fun γ g g' W hs h hJ w hw=>by obtain⟨n,hg⟩:=hJ w hw;exact⟨n+1,fun w=>Goes.step hs fun w₁ h₁=>by rw[h w₁ h₁];exact⟨⟨rfl,by simp⟩,hg _⟩⟩
theorem JQ.step{g g':Goroutine}{W:World}(hs:g.status=.running)(h:∀w,K w->∃es,stepG P main g w=.go g' w es/\∀e∈es,EvC Still Bd e)(hJ:JL (SQ P main K Still Bd st) () g' W):JL (SQ P main K Still Bd st) () g W:=fun w hw=>by obtain⟨n,hg⟩:=hJ w hw;refine⟨n+1,fun w=>Goes.step hs fun w₁ h₁=>?_⟩;obtain⟨es,e,he⟩:=h w₁ h₁;rw[e];exact⟨⟨rfl,he⟩,hg _⟩
section
variable {b:Frame}{a:Act}{k:List Item}{cs:List Frame}{ops:Array Oper}{i:Nat}{rest:List Nat}{o:Oper}{W:World}
theorem JQ.load(v:Value)(ho:ops[i]?=some o)(hw:Region.wanted o (yielded ops a.tmps)=true)(hk:b.kind≠.early)(hr:∀w,K w->(execOp a.eval o).run P w=.ok (.value v) w)(he:∀w,K w->∀e∈(execOp a.eval o).events P w #[],EvC Still Bd e)(h:JL (SQ P main K Still Bd st) () (G (b.at (a.put o.dst v) (.inRegion ops rest :: k)) cs) W):JL (SQ P main K Still Bd st) () (G (b.at a (.inRegion ops (i :: rest) :: k)) cs) W:=
 JQ.step rfl (fun w hK=>⟨_,stepG_value ho hw hk (hr w hK),fun e h=>he w hK e (mem_listed h)⟩) h
theorem JQ.sit(ho:ops[i]?=some o)(hw:Region.wanted o (yielded ops a.tmps)=true)(hk:b.kind≠.early)(hr:∀w,(execOp a.eval o).run P w=.ok (.comm st.cases true st.shape) w)(he:∀w,(execOp a.eval o).events P w #[]=#[])(h:st.home (G (b.at a (.inRegion ops (i :: rest) :: k)) cs)):JL (SQ P main K Still Bd st) () (G (b.at a (.inRegion ops (i :: rest) :: k)) cs) W:=
 fun w _=>⟨0,fun w=>Goes.stop fun w₁ _=>⟨_,atIn_of ho hw hk hr he h⟩⟩
end
theorem Qu{g:Goroutine}(h:∀W,JL (SQ P main K Still Bd st) () g W):∃n,Sits P main K Still Bd st n g:=by obtain⟨n,hg⟩:=h (EF RJ default) default ⟨.refl _,JB _⟩;exact⟨n+1,.inl ⟨n,default,rfl,hg default⟩⟩
end
end
end Go.LT
namespace Go.LK
open Go Go.Conc Go.LT Go.LC
open Go.ConcN (WgLive sumTo upd sumTo_upd upd_ne upd_same)
open Go.ConcR (KK wgBlock WgAt stA smA rd wr mk)
section
theorem iT{P:Program}{main:Bool}{R:World->World->Prop}{D:World->World->Array Event->Prop}{Stop:Goroutine->World->Prop}(refl:∀w,R w w){g:Goroutine}{w:World}(h:LT.Way P main R D (LT.Way P main R D Stop) g w):LT.Way P main R D Stop g w:=by
 induction h with
 | stop h=>exact h _ (refl _)
 | step hs h _ ih=>exact .step hs h ih
section
variable {X Sg:Type}
def Wx(X Sg:Type)(ρ:Rn):Type:={ x:Gw X Sg × Nat // x.1.B ρ.Wg=true }
variable (M:Md X Sg)(ρ:Rn)(P:Program)
def SW:Fp P false (Wx X Sg ρ) where
 B:=fun x=>{ hol:=x.1.1.B }
 R:=fun _=>G9 ρ.ty ρ.Wg
 D:=fun x=>DK { hol:=x.1.1.B }
 J:=fun x g w=>WJ M ρ P x.1.2 x.1.1 g w
 refl:=fun _ w=>G9.refl w
 trans:=fun _ _ _ _ h k=>h.trans k
 turns:=fun x w w₁ h=>G9.turns x.2 h
 kept:=fun x w w' es _ hk he=>⟨hk,he⟩
 way:=fun x g w hW=>by rw[Yi];refine iT (fun w=>G9.refl w) (hW.mono fun g w h=>?_);rw[Yi]at h;exact h
variable {M ρ P}{W:World}{g g₂:Goroutine}
structure YF(v v':FE X)(x:X)(ov:Bool)(r:Nat)(own:Nat->Prop)(pb:Nat):Prop where
 h:v'.h=v.h
 k:v'.k=v.k
 b:v'.b=v.b
 t:v'.t=v.t
 x:v'.x=x
 over:v'.over=ov
 r:v'.r=r
 own:v'.own=own
 pb:v'.pb=pb
structure oP(M:Md X Sg)(own:Nat->Prop)(W W':World):Prop where
 own:∀b,own b->W'.heap[b]?=W.heap[b]?
 size:W.heap.size<=W'.heap.size
theorem Pb{B:Nat->Bool}{w W:World}{b:Nat}(hs:Io { hol:=B } w W)(h:B b=false):W.heap[b]?=(w.heap[b]?).map depend:=by
 rw[Gu hs,Fu (B:={ hol:=B }) h]
 simp
theorem SW.sit {x:Wx X Sg ρ}{own:Nat->Prop}{pb:Nat}(hrun:g.status=.running)(hstep:∀ w,stepG P false g w=.comm g₂ (IG ρ x.1.1.v.k) true .select w #[])(hInv:M.Inv x.1.1.tgt.2.1 W)(Zr:∀ b,M.Sh b->x.1.1.B b=false)(iP:M.Rec x.1.1.v.k x.1.1.tgt.1 x.1.1.v.b own W)(hpb:own pb)(ho1:∀ b,x.1.1.v.own b->own b)(ho2:∀ b,own b->x.1.1.v.own b\/x.1.1.n0<=b)(ho3:∀ b,own b->x.1.1.B b=false/\¬ M.Sh b/\∃ c e f,W.heap[b]?=some (.cells c e f))(hb:x.1.1.v.own x.1.1.v.b)(hover:x.1.1.tgt.2.2=true->∃ m,∀ w',WgLive ρ.ty ρ.Wg w'->Fs P ρ.ty ρ.Wg 7 m 0 (g₂.finishComm P (IG ρ x.1.1.v.k) .select (0:Nat) undef false) w')(hsit:x.1.1.tgt.2.2=false->(W.cell? ⟨x.1.1.v.b,2,none⟩=some (.chan (some x.1.1.v.t))/\W.cell? ⟨x.1.1.v.b,4,none⟩=some (.chan (some ρ.gone))/\W.cell? ⟨pb,0,none⟩=some (.pointer (some ⟨x.1.1.v.b,0,none⟩)))/\
      ∃gs,(∀v',YF x.1.1.v v' x.1.1.tgt.1 false x.1.2 own pb->∀home:Goroutine->Prop,home gs->∃n,Sits P false (Kv ρ v') (Stv v') (aT v') { cases:=Ho ρ x.1.1.v.t,shape:=.select,home:=home } n (g₂.finishComm P (IG ρ x.1.1.v.k) .select (0:Nat) undef false))/\
        (ρ.shut->Yp ρ P x.1.1.v.t gs)/\
        ∀r',x.1.2=r'+1->∀v',YF x.1.1.v v' x.1.1.tgt.1 false x.1.2 own pb->∀(s:Nat) (σ:Sg) (W':World) (y:Wx X Sg ρ),y.1.1.v=v'->y.1.1.tgt=M.hold x.1.1.tgt.1 s σ->y.1.2=r'->dX M ρ v' y.1.1.B y.1.1.n0->y.1.1.n0=W'.heap.size->oP M own W W'->M.Inv σ W'->
          JW (SW M ρ P).base y (gs.finishComm P (Ho ρ x.1.1.v.t) .select (0:Nat) (.int .i64 s) true) W') :
    JW (SW M ρ P).base x g W:=by
  intro w hw;show WJ M ρ P x.1.2 x.1.1 g w;rw[Yi];refine .stop fun w₁ h₁=>?_;have PS:Io { hol:=x.1.1.B } w₁ W:=(SW M ρ P).turn (γ:=x) hw h₁;have view:∀b,x.1.1.B b=false->L8 W w₁ b:=fun b hB=>by
    unfold L8;rw[Pb PS hB];cases w₁.heap[b]? with
    | none=>rfl
    | some o=>simp[PY]
  have fF:∀a:Addr,x.1.1.B a.block=false->w₁.cell? a=W.cell? a:=fun a hB=>by have:=Fy (B:={ hol:=x.1.1.B }) (w:=w₁) (a:=a) hB;rw[← this];simp[World.cell?,Gu PS]
  let v':FE X:={ x.1.1.v with own:=own,pb:=pb,x:=x.1.1.tgt.1,wy:=w₁,over:=x.1.1.tgt.2.2,r:=x.1.2 }
  refine⟨hrun,g₂,v',fun w₂ _=>hstep w₂,rfl,rfl,rfl,rfl,rfl,rfl,rfl,rfl,M.inv_eq _ _ _ (fun b hb'=>view b (Zr b hb')) hInv,M.rec_eq _ _ _ _ _ _ (fun b hb'=>view b (ho3 b hb').1) iP,hpb,ho1,ho2,fun b hb'=>⟨(ho3 b hb').2.1,?_⟩,?_⟩
  . obtain⟨c,e,f,hc⟩:=(ho3 b hb').2.2;exact⟨c,e,f,(view b (ho3 b hb').1).cells hc⟩
  . cases hov:x.1.1.tgt.2.2 with
    | true=>simp only[if_true];exact hover hov
    | false=>
      simp only[Bool.false_eq_true,if_false];obtain⟨⟨k1,k2,k3⟩,gs,hS,Ahf,hH⟩:=hsit hov;have hv':YF x.1.1.v v' x.1.1.tgt.1 false x.1.2 own pb:=⟨rfl,rfl,rfl,rfl,rfl,hov,rfl,rfl,rfl⟩
      refine⟨⟨?_,?_,?_⟩,hS v' hv' _ ⟨?_,Ahf⟩⟩
      . rw[← k1];exact fF _ (ho3 _ (ho1 _ hb)).1
      . rw[← k2];exact fF _ (ho3 _ (ho1 _ hb)).1
      . rw[← k3];exact fF _ (ho3 _ hpb).1
      . intro s σ w' B NJ hRB hown hsz hI;cases hr:x.1.2 with
        | zero=>trivial
        | succ r'=>
          have hB:B ρ.Wg=true:=NJ.wg;have hs':Io { hol:=B } w' (EF { hol:=B } w'):=⟨.refl _,hRB⟩
          refine hH r' hr v' hv' s σ (EF { hol:=B } w') ⟨(⟨v',B,w'.heap.size,M.hold v'.x s σ⟩,r'),hB⟩ rfl rfl rfl NJ (by simp) ⟨fun b hb'=>?_,?_⟩ ?_ w' hs'
          . have e1:=Pb hs' (NJ.own b hb');have e2:=Pb PS (ho3 b hb').1;rw[e1,e2];exact hown b hb'
          . rw[Hl,IV PS];exact hsz
          . refine M.inv_eq _ _ _ (fun b hb'=>?_) hI;have:=L8.view (w:=w') (B:={ hol:=B }) (NJ.sh b hb') rfl;exact this
end
end
end Go.LK
namespace Go.LK
open Go Go.Conc Go.LT Go.LC
section
structure An where
 ok:Bool:=false
 n:Int:=0
 m:Int:=0
 err:Int:=0
 ints:List Int:=[]
structure Gg where
 a:An
 bg:Nat
 st:Nat
 ow:Nat
structure Dr(Cl Cs Sg:Type) where
 init:Nat->Cl->Sg->Cs ⊕ (An × Bool)
 next:Nat->Cs->Sg->Sg × (Cs ⊕ (An × Bool))
structure Wk(Cl Cs:Type) where
 k:Nat
 todo:List Cl
 cur:Option Cs:=none
 st:Nat:=0
 bg:Nat:=0
 ow:Nat:=0
 out:List Gg:=[]
 fell:Bool:=false
 over:Bool:=false
section
variable {Cl Cs Sg:Type}
def Wk.fin(x:Wk Cl Cs)(e:An × Bool):Wk Cl Cs:=
 { x with cur:=none,bg:=0,out:=x.out++[⟨e.1,x.bg,x.st,x.ow⟩],fell:=x.fell||e.2,over:=e.2||x.todo.isEmpty }
def Wk.land(x:Wk Cl Cs)(r:Sg × (Cs ⊕ (An × Bool))):Wk Cl Cs × Sg × Bool:=
 match r.2 with
 | .inl cs=>({ x with cur:=some cs },r.1,false)
 | .inr e=>(x.fin e,r.1,(x.fin e).over)
def Dr.hold(D:Dr Cl Cs Sg)(x:Wk Cl Cs)(s:Nat)(σ:Sg):Wk Cl Cs × Sg × Bool:=
 match x.cur with
 | some cs=>({ x with st:=s,ow:=x.ow+1 }:Wk Cl Cs).land (D.next x.k cs σ)
 | none=>
  match x.todo with
  | []=>(x,σ,true)
  | c :: l=>
   match D.init x.k c σ with
   | .inl cs=>({ x with todo:=l,st:=s,bg:=s,ow:=1 }:Wk Cl Cs).land (D.next x.k cs σ)
   | .inr e=>({ x with todo:=l,st:=s,bg:=s,ow:=1 }:Wk Cl Cs).land (σ,.inr e)
def Wk.new(k:Nat)(l:List Cl):Wk Cl Cs:={ k,todo:=l,over:=l.isEmpty }
theorem Wk.J8(x:Wk Cl Cs)(σ:Sg)(cs:Cs):x.land (σ,.inl cs)=({ x with cur:=some cs },σ,false):=rfl
theorem Wk.KU(x:Wk Cl Cs)(σ:Sg)(e:An × Bool):x.land (σ,.inr e)=(x.fin e,σ,(x.fin e).over):=rfl
theorem Wk.iB(x:Wk Cl Cs)(c:Option Cs)(r:Sg × (Cs ⊕ (An × Bool))):({ x with cur:=c }:Wk Cl Cs).land r=x.land r:=by obtain⟨σ,r⟩:=r;cases r<;>rfl
theorem Dr.fO(D:Dr Cl Cs Sg)(x:Wk Cl Cs)(cs:Cs)(s:Nat)(σ:Sg):D.hold { x with cur:=some cs } s σ=({ x with st:=s,ow:=x.ow+1 }:Wk Cl Cs).land (D.next x.k cs σ):=Wk.iB ({ x with st:=s,ow:=x.ow+1 }:Wk Cl Cs) (some cs) (D.next x.k cs σ)
end
end
end Go.LK
namespace Go.Proofs.Ytdkfdedgfilhbaa.BA
open Go.RowKit
def FY(w:World)(base size:Nat)(v:Value)(n:Nat)(xs:List Value):Prop:=∃te,w.ownsRow base te size v n xs
theorem FY.kept{w w':World}{base size:Nat}{v:Value}{n:Nat}{xs:List Value}{row:Option Nat}(h:FY w base size v n xs)(hg:w.grownBy w' row)(hne:v.ownBlock=none\/v.ownBlock≠row):FY w' base size v n xs:=
 let⟨te,h⟩:=h;⟨te,h.kept hg hne⟩
theorem FY.alloc{w:World}{base size:Nat}{v:Value}{n:Nat}{xs:List Value}(h:FY w base size v n xs)(o:Obj):FY (w.alloc o) base size v n xs:=
 let⟨te,h⟩:=h;⟨te,h.alloc o⟩
theorem FY.len{w:World}{base size:Nat}{v:Value}{n:Nat}{xs:List Value}(h:FY w base size v n xs):xs.length=n*size:=let⟨_,h⟩:=h;h.1
section
variable {P:Program}(w:World)
theorem PW(t ty e te:TypeId)(i:TypeInfo)(ht:P.underlying t=some (.slice e))(hi:P.info? e=some i)(g sLen sCap:Nat)(cur:Array Value)(hg:w.heap[g]?=some (.cells cur te (0,0)))(a:Addr)(m c:Nat)(news:List Value)(hl:news.length=m*i.size)(hnews:∀j u,news[j]?=some u->w.cell? (a.add j)=some u)(h1:∀u∈news,u.oneCell'=true)(hroom:sLen+m<=sCap)(hfit:sLen*i.size+news.length<=cur.size) :
  (Builtin.append_ #[t,t] ty #[.slice (some ⟨g,0,none⟩) sLen sCap,.slice (some a) m c]).run P w =
   .ok (.slice (some ⟨g,0,none⟩) (sLen+m) sCap) (w.setRow g (cur.toList.take (sLen*i.size)++news++cur.toList.drop (sLen*i.size+news.length)).toArray):=by
 have hf:=run_firstCells_some (P:=P) w i.size m a m c news hl hnews;have hst:=run_storeCells_at P g (sLen*i.size) te news 0 cur w hg (by simpa using hfit) h1;simp only[Nat.add_zero]at hst;simp[Builtin.append_,run_underlying ht,sizeOf,typeInfo,hi,Builtin.lenOf,hroom,hf,Addr.add_lit,hst]
theorem MG(base:Nat)(t ty e:TypeId)(i:TypeInfo)(z:Value)(size bytes:Nat)(ht:P.underlying t=some (.slice e))(hi:P.info? e=some i)(hz:i.zero=some z)(hsize:i.size=size)(hby:i.bytes=bytes)(hzs:z.cells.size=size)(hsz:0<size)(v:Value)(n:Nat)(xs:List Value)(hown:FY w base size v n xs)(a:Addr)(m c:Nat)(news:List Value)(hl:news.length=m*size)(hnews:∀j u,news[j]?=some u->w.cell? (a.add j)=some u)(h1:∀u∈news,u.oneCell'=true)(h63:n+m<=maxLen)(hbytes:(n+m)*bytes<=140737488355328)(hbase:base<=w.heap.size) :
   ∃v' w',(Builtin.append_ #[t,t] ty #[v,.slice (some a) m c]).run P w=.ok v' w'/\FY w' base size v' (n+m) (xs++news)/\w.grownBy w' v.ownBlock/\
     (v'.ownBlock=v.ownBlock\/v'.ownBlock=none\/∃k,v'.ownBlock=some k/\w.heap.size<=k):=by
 obtain⟨te,hown⟩:=hown;rcases hown.2 with⟨rfl,rfl⟩|⟨g,cap,cur,rfl,hbg,hg,hnc,hcm,hcs,htake⟩
 . have hx:xs=[]:=List.eq_nil_of_length_eq_zero (by simpa using hown.1);subst hx;obtain⟨v',w',r1,r2,r3,r4⟩:=run_append_own (P:=P) w w.heap.size t ty e i z size bytes ht hi hz hsize hby hzs hsz (.slice none 0 0) 0 [] (World.ownsRow_nil w _ e size) a m c news hl hnews h1 h63 hbytes (Nat.le_refl _);refine⟨v',w',r1,⟨e,r2.1,?_⟩,r3,?_⟩
   . rcases r2.2 with hh | ⟨g,cap,cur,q1,q2,q3⟩
     . exact .inl hh
     . exact .inr ⟨g,cap,cur,q1,Nat.le_trans hbase q2,q3⟩
   . rcases r2.2 with⟨hh,_⟩ | ⟨g,cap,cur,q1,q2,q3⟩
     . exact .inr (.inl (by rw[hh];rfl))
     . exact .inr (.inr ⟨g,by rw[q1];rfl,q2⟩)
 . by_cases hroom:n+m<=cap
   . subst hsize;have hfit:n*i.size+news.length<=cur.size:=by rw[hl,hcs,← Nat.add_mul];exact Nat.mul_le_mul_right _ hroom
     have hlen:(xs++news).length=(n+m)*i.size:=by rw[List.length_append,hown.1,hl,Nat.add_mul]
     have hr:=PW (P:=P) w t ty e te i ht hi g n cap cur hg a m c news hl hnews h1 hroom hfit;refine⟨_,_,hr,⟨te,hlen,.inr ⟨g,cap,_,rfl,hbg,setRow_heap w g cur _ te _ hg,hroom,hcm,?_,?_⟩⟩,⟨rfl,rfl,rfl,by simp,fun k _ hk=>setRow_other w g k _ (fun e=>hk (by simp[Value.ownBlock,e]))⟩,.inl rfl⟩
     . simp only[List.size_toArray,List.length_append,List.length_take,List.length_drop,Array.length_toList];omega
     . rw[htake,← hlen];exact List.take_left
   . have holds:∀j u,xs[j]?=some u->w.cell? ((⟨g,0,none⟩:Addr).add j)=some u:=hown.cells (g:=g) rfl;obtain⟨v',w',r1,r2,r3⟩:=run_append_arg_grows (P:=P) w t ty e i z size bytes ht hi hz hsize hby hzs hsz ⟨g,0,none⟩ n cap xs hown.1 holds a m c news hl hnews zOM h63 hbytes;refine⟨v',w',r1,⟨e,r2.1,?_⟩,⟨r3.os,r3.tape,r3.output,r3.size,fun k hk _=>r3.block k hk (by simp)⟩,?_⟩
     . rcases r2.2 with hh | ⟨g,cap,cur,q1,q2,q3⟩
       . exact .inl hh
       . exact .inr ⟨g,cap,cur,q1,Nat.le_trans hbase q2,q3⟩
     . rcases r2.2 with⟨hh,_⟩ | ⟨g,cap,cur,q1,q2,q3⟩
       . exact .inr (.inl (by rw[hh];rfl))
       . exact .inr (.inr ⟨g,by rw[q1];rfl,q2⟩)
end
def bools(l:List Bool):List Value:=l.map Value.bool
def Reads(w:World)(v:Value)(xs:List Value):Prop:=
 (xs=[]/\∃ao c,v=.slice ao 0 c/\c<=maxLen/\(ao=none->c=0))\/
 (xs≠[]/\∃b o c,v=.slice (some ⟨b,o,none⟩) xs.length c/\xs.length<=c/\c<=maxLen/\∀i u,xs[i]?=some u->w.cell? ⟨b,o+i,none⟩=some u)
theorem Reads.shape{w:World}{v:Value}{xs:List Value}(h:Reads w v xs):∃ao c,v=.slice ao xs.length c:=by
 rcases h with⟨rfl,ao,c,hv,_⟩|⟨_,b,o,c,hv,_⟩
 . exact⟨ao,c,hv⟩
 . exact⟨some ⟨b,o,none⟩,c,hv⟩
theorem Reads.len{w:World}{v:Value}{xs:List Value}(h:Reads w v xs):xs.length<=maxLen:=by
 rcases h with⟨rfl,_⟩|⟨_,b,o,c,_,h1,h2,_⟩
 . simp
 . omega
theorem Reads.same{w w':World}{v:Value}{xs:List Value}(h:Reads w v xs)(hb:∀k,v.ownBlock=some k->k<w.heap.size->w'.heap[k]?=w.heap[k]?):Reads w' v xs:=by
 rcases h with h|⟨hne,b,o,c,rfl,h1,h2,h3⟩
 . exact .inl h
 . refine .inr ⟨hne,b,o,c,rfl,h1,h2,fun i u hu=>?_⟩;have hc:=h3 i u hu;exact(World.cell?_of_block (a:=⟨b,o+i,none⟩) (w:=w) (hb b rfl (World.block_lt_of_cell? w _ hc))).trans hc
theorem FY.reads{w:World}{base:Nat}{v:Value}{n:Nat}{xs:List Value}(h:FY w base 1 v n xs):Reads w v xs:=by
 obtain⟨te,h⟩:=h;have hl:=h.1;rcases h.2 with⟨rfl,rfl⟩|⟨g,cap,cur,rfl,_,hg,h1,h2,_,_⟩
 . exact .inl ⟨List.eq_nil_of_length_eq_zero zOM,none,0,rfl,by unfold maxLen;omega,fun _=>rfl⟩
 . by_cases hx:xs=[]
   . subst hx;obtain rfl:n=0:=by simpa using hl.symm
     exact .inl ⟨rfl,_,_,rfl,h2,fun hh=>by cases hh⟩
   . refine .inr ⟨hx,g,0,cap,by rw[hl,Nat.mul_one],by omega,h2,fun i u hu=>?_⟩;have:=h.cells (g:=g) rfl i u hu;rw[Addr.add_lit]at this;exact this
theorem Pn{P:Program}(w:World)(base:Nat)(t ty e:TypeId)(i:TypeInfo)(z:Value)(bytes:Nat)(ht:P.underlying t=some (.slice e))(hi:P.info? e=some i)(hz:i.zero=some z)(hsize:i.size=1)(hby:i.bytes=bytes)(hzs:z.cells.size=1)(v:Value)(n:Nat)(xs:List Value)(hown:FY w base 1 v n xs)(sv:Value)(ys:List Value)(hr:Reads w sv ys)(h1:∀u∈ys,u.oneCell'=true)(h63:n+ys.length<=maxLen)(hbytes:(n+ys.length)*bytes<=140737488355328)(hbase:base<=w.heap.size) :
   ∃v' w',(Builtin.append_ #[t,t] ty #[v,sv]).run P w=.ok v' w'/\FY w' base 1 v' (n+ys.length) (xs++ys)/\w.grownBy w' v.ownBlock/\
    (v'.ownBlock=v.ownBlock\/v'.ownBlock=none\/∃k,v'.ownBlock=some k/\w.heap.size<=k):=by
 rcases hr with⟨rfl,ao,c,rfl,_,hc⟩|⟨_,b,o,c,rfl,_,_,h3⟩
 . cases ao with
   | none=>
    obtain rfl:=hc rfl;have hown':=hown;obtain⟨te,hown⟩:=hown;have hrun:(Builtin.append_ #[t,t] ty #[v,.slice none 0 0]).run P w=.ok v w:=by
     rcases hown.2 with⟨rfl,rfl⟩|⟨g,cap,cur,rfl,_,_,hnc,_⟩
     . simp[Builtin.append_,run_underlying ht,sizeOf,typeInfo,hi,Builtin.lenOf,Builtin.firstCells]
     . simp[Builtin.append_,run_underlying ht,sizeOf,typeInfo,hi,Builtin.lenOf,Builtin.firstCells,hnc,storeCells]
    exact⟨v,w,hrun,by simpa using hown',World.grownBy.refl _ _,.inl rfl⟩
   | some a=>
    obtain⟨v',w',r1,r2,r3,r4⟩:=MG (P:=P) w base t ty e i z 1 bytes ht hi hz hsize hby hzs (by decide) v n xs hown a 0 c [] rfl (fun j u hu=>by simp at hu) (fun u hu=>by simp at hu) (by simpa using h63) (by simpa using hbytes) hbase;exact⟨v',w',r1,r2,r3,r4⟩
 . obtain⟨v',w',r1,r2,r3,r4⟩:=MG (P:=P) w base t ty e i z 1 bytes ht hi hz hsize hby hzs (by decide) v n xs hown ⟨b,o,none⟩ ys.length c ys (by simp) (fun j u hu=>by rw[Addr.add_lit];exact h3 j u hu) h1 h63 hbytes hbase
   exact⟨v',w',r1,r2,r3,r4⟩
theorem FY.nil(w:World)(base size:Nat):FY w base size (.slice none 0 0) 0 []:=⟨0,World.ownsRow_nil _ _ _ _⟩
theorem FY.blk{w:World}{base size:Nat}{v:Value}{n:Nat}{xs:List Value}(h:FY w base size v n xs):∀k,v.ownBlock=some k->base<=k/\k<w.heap.size:=let⟨_,h⟩:=h;h.lt
theorem SE{w:World}{b o:Nat}{cs:Array Value}{t:TypeId}{z:Nat × Nat}{u:Value}(h:w.heap[b]?=some (.cells cs t z)):(w.setCell ⟨b,o,none⟩ u).heap[b]?=some (.cells (cs.setIfInBounds o u) t z):=by
 have hlt:=lt_of_block h;have h':w.heap[b]=.cells cs t z:=by simpa [Array.getElem?_eq_getElem hlt]using h
 show(w.heap.modify b _)[b]?=_;rw[Array.getElem?_eq_getElem (by simpa using hlt),Array.getElem_modify_self,h'];rfl
theorem gF{w:World}{b:Nat}{x y u:Value}{t:TypeId}(h:w.heap[b]?=some (.cells #[x,y] t (0,0))):(w.setCell ⟨b,0,none⟩ u).heap[b]?=some (.cells #[u,y] t (0,0)):=SE h
theorem VK{w:World}{b:Nat}{x y u:Value}{t:TypeId}(h:w.heap[b]?=some (.cells #[x,y] t (0,0))):(w.setCell ⟨b,1,none⟩ u).heap[b]?=some (.cells #[x,u] t (0,0)):=SE h
theorem Reads.drew{w:World}{v:Value}{xs:List Value}(h:Reads w v xs):Reads w.drew v xs:=h.same fun _ _ _=>rfl
end Go.Proofs.Ytdkfdedgfilhbaa.BA
namespace Go.Proofs.Ytdkfdedgfilhbaa.BA
open Go.RowKit
end Go.Proofs.Ytdkfdedgfilhbaa.BA
namespace Go.Proofs.Ytdkfdedgfilhbaa.TU
open Go.RowKit
def Jt(l:List Bool)(k:Nat):List Nat:=(List.range k).filter fun i=>l.getD i false
def MQ(l:List Bool):List Nat:=Jt l l.length
theorem NV(l:List Bool):Jt l 0=[]:=rfl
theorem Zd(l:List Bool)(k:Nat)(h:l.getD k false=true):Jt l (k+1)=Jt l k++[k]:=by unfold Jt;rw[List.range_succ,List.filter_append];simp only[List.filter_cons,List.filter_nil,h,if_true]
theorem Xj(l:List Bool)(k:Nat)(h:l.getD k false=false):Jt l (k+1)=Jt l k:=by unfold Jt;rw[List.range_succ,List.filter_append];simp only[List.filter_cons,List.filter_nil,h];simp
theorem V5(l:List Bool)(k:Nat):(Jt l k).length<=k:=by have:=List.length_filter_le (fun i=>l.getD i false) (List.range k);unfold Jt;simpa using this
theorem eD(l:List Bool)(k i:Nat)(h:i∈Jt l k):i<k:=by unfold Jt at h;rw[List.mem_filter]at h;simpa using h.1
theorem sO(l:List Bool)(i:Nat)(h:i∈MQ l):i<l.length/\l.getD i false=true:=by refine⟨eD _ _ _ h,?_⟩;unfold MQ Jt at h;rw[List.mem_filter]at h;exact h.2
def at_(t:Int)(n:Nat):Nat:=((t.tmod n+n) % n).toNat
theorem oL(t:Int)(n:Nat)(h:0<n):-(n:Int)<t.tmod n/\t.tmod n<n/\0<=(t.tmod n+n) % n/\(t.tmod n+n) % n<n:=
 ⟨Int.lt_tmod_of_pos t zOM,Int.tmod_lt_of_pos t zOM,Int.emod_nonneg _ zOM,Int.emod_lt_of_pos _ zOM⟩
theorem pO(t:Int)(n:Nat)(h:0<n):at_ t n<n:=by have:=oL t n h;unfold at_;omega
def fIdx(last:Int)(l:List Nat):Nat:=l.findIdx fun(k:Nat)=>decide (last<(k:Int))
def ix(last:Int)(l:List Nat):Int:=if fIdx last l<l.length then(fIdx last l:Int)else -1
def Z9(last:Int)(l:List Nat):Nat:=l.getD (if fIdx last l<l.length then fIdx last l else 0) 0
theorem rU(last:Int)(l:List Nat)(k:Nat)(hk:k<l.length)(h1:last<(l.getD k 0:Nat))(h2:∀j,j<k->((l.getD j 0:Nat):Int)<=last):ix last l=k/\Z9 last l=l.getD k 0:=by
 have e:fIdx last l=k:=by
  unfold fIdx;rw[List.findIdx_eq hk];refine⟨by simpa [hk]using h1,fun j hj=>?_⟩;have:=h2 j hj
  simpa [show j<l.length by omega]using this
 unfold ix Z9;rw[e,if_pos hk,if_pos hk];exact⟨rfl,rfl⟩
theorem nT(last:Int)(l:List Nat)(h2:∀j,j<l.length->((l.getD j 0:Nat):Int)<=last):ix last l=-1/\Z9 last l=l.getD 0 0:=by
 have e:fIdx last l=l.length:=by
  unfold fIdx;rw[List.findIdx_eq_length];intro x hx;obtain⟨j,hj,rfl⟩:=List.getElem_of_mem hx;have:=h2 j hj
  simpa [hj]using this
 unfold ix Z9;rw[e,if_neg zOM,if_neg zOM];exact⟨rfl,rfl⟩
theorem dS(last:Int)(l:List Nat)(hl:0<l.length):∃x:Nat,x<l.length/\(if ix last l<0 then 0 else ix last l)=(x:Int)/\Z9 last l=l.getD x 0:=by
 unfold ix Z9;by_cases h:fIdx last l<l.length
 . rw[if_pos h,if_pos h];exact⟨_,h,if_neg zOM,rfl⟩
 . rw[if_neg h,if_neg h];exact⟨0,hl,if_pos zOM,rfl⟩
def LQ(left:List Int)(last:Int)(l:List Nat):Int:=
 if l=[]then -1 else match left with
  | t :: _=>(l.getD (at_ t l.length) 0:Int)
  | []=>(Z9 last l:Int)
def LG(left:List Int)(l:List Nat):List Int:=if l=[]then left else left.tail
def LH(left:List Int)(last:Int)(l:List Nat):Int:=if l=[]then last else LQ left last l
end Go.Proofs.Ytdkfdedgfilhbaa.TU
namespace Go.Proofs.Ytdkfdedgfilhbaa
open Go Go.Conc Go.LT Go.LC Go.LK
open TU
section
def Vv(hl:List Int)(st:List Nat)(k:Nat):Bool:=decide (k<hl.length)&&(decide (0<hl.getD k 0)&&decide (hl.getD k 0<=(st.getD k 0:Nat)))
def NZ(hl:List Int)(st:List Nat)(dn:List Bool)(k:Nat):Bool:=!(dn.getD k false)&&!(Vv hl st k)
structure Rs(Cl Cs Sg:Type) where
 xs:List (Wk Cl Cs)
 σ:Sg
 left:List Int
 last:Int
 s:Nat
 st:List Nat
 hl:List Int
section
variable {Cl Cs Sg:Type}(D:Dr Cl Cs Sg)
def Rs.rd(z:Rs Cl Cs Sg):List Bool:=(List.range z.xs.length).map (NZ z.hl z.st (z.xs.map fun x=>x.over))
def Rs.pick(z:Rs Cl Cs Sg):Nat:=(LQ z.left z.last (MQ z.rd)).toNat
def Rs.turn(z:Rs Cl Cs Sg)(k:Nat)(x:Wk Cl Cs):Rs Cl Cs Sg:=
 ⟨z.xs.set k (D.hold x (z.s+1) z.σ).1,(D.hold x (z.s+1) z.σ).2.1,LG z.left (MQ z.rd),LH z.left z.last (MQ z.rd),z.s+1,z.st.set k (z.st.getD k 0+1),z.hl⟩
def Rs.next(z:Rs Cl Cs Sg):Rs Cl Cs Sg:=
 match z.xs[z.pick]? with
 | some x=>z.turn D z.pick x
 | none=>z
def Rs.go(most:Nat):Nat->Rs Cl Cs Sg->Rs Cl Cs Sg
 | 0,z=>z
 | f+1,z=>if z.rd.any id=true/\z.s<most then Rs.go most f (z.next D)else z
def Rs.new(plans:List (List Cl))(σ:Sg)(turns hl:List Int):Rs Cl Cs Sg:=⟨plans.zipIdx.map fun p=>Wk.new p.2 p.1,σ,turns,-1,0,List.replicate plans.length 0,hl⟩
theorem wL{l:List Bool}:MQ l≠[]↔l.any id=true:=by
 unfold MQ Jt;rw[ne_eq,List.filter_eq_nil_iff,List.any_eq_true];constructor
 . intro h;obtain⟨i,hi⟩:=Classical.not_forall.1 h;obtain⟨h1,h2⟩:=Classical.not_imp.1 hi;rw[List.mem_range]at h1;refine⟨l[i],List.getElem_mem h1,?_⟩;simpa [List.getD,h1]using h2
 . rintro⟨x,hx,hx1⟩ h;obtain⟨i,hi,rfl⟩:=List.getElem_of_mem hx;have:=h i (List.mem_range.2 hi);simp[List.getD,hi]at this;simp[this]at hx1
theorem iM{left:List Int}{last:Int}{l:List Bool}(h:MQ l≠[]):∃k:Nat,LQ left last (MQ l)=k/\k<l.length/\l.getD k false=true:=by
 have hpos:0<(MQ l).length:=List.length_pos_iff.2 h;have key:∀x,x<(MQ l).length->(MQ l).getD x 0<l.length/\l.getD ((MQ l).getD x 0) false=true:=fun x hx=>sO l _ (by
  have e:(MQ l).getD x 0=(MQ l)[x]:=by simp[List.getD,hx]
  rw[e];exact List.getElem_mem hx)
 unfold LQ;rw[if_neg h];cases left with
 | cons t r=>
  have hx:=pO t _ hpos;exact⟨_,rfl,(key _ hx).1,(key _ hx).2⟩
 | nil=>
  obtain⟨x,hx,_,hn⟩:=dS last (MQ l) hpos;refine⟨_,rfl,?_⟩;rw[hn];exact key x hx
structure kV(x:Wk Cl Cs):Prop where
 todo:x.over=false->x.cur=none->x.todo≠[]
 bg:x.cur=none->x.bg=0
 cur:x.over=true->x.cur=none
theorem kV.new(k:Nat)(l:List Cl):kV (Wk.new k l:Wk Cl Cs):=by
 refine⟨fun h _=>?_,fun _=>rfl,fun _=>rfl⟩;cases l with
 | nil=>cases h
 | cons=>simp[Wk.new]
theorem kV.fin(x:Wk Cl Cs)(e:An × Bool):kV (x.fin e):=by
 refine⟨fun h _=>?_,fun _=>rfl,fun _=>rfl⟩;have h:(e.2||x.todo.isEmpty)=false:=h;have:x.todo.isEmpty=false:=by cases he:e.2<;>simp_all
 intro e0;have e0:x.todo=[]:=e0;rw[e0]at this;cases this
theorem Uw{x:Wk Cl Cs}(h:x.over=false)(r:Sg × (Cs ⊕ (An × Bool))):kV (x.land r).1/\(x.land r).2.2=(x.land r).1.over:=by
 obtain⟨σ,r⟩:=r;cases r with
 | inl cs=>
  rw[Wk.J8];refine⟨⟨fun _ h=>(by cases h),fun h=>(by cases h),fun h'=>?_⟩,h.symm⟩;have h':x.over=true:=h';rw[h]at h';cases h'
 | inr e=>rw[Wk.KU];exact⟨.fin x e,rfl⟩
theorem mO{x:Wk Cl Cs}(hw:kV x)(h:x.over=false)(s:Nat)(σ:Sg):kV (D.hold x s σ).1/\(D.hold x s σ).2.2=(D.hold x s σ).1.over:=by
 unfold Dr.hold;cases hc:x.cur with
 | some cs=>exact Uw (x:={ x with st:=s,ow:=x.ow+1 }) h _
 | none=>
  cases ht:x.todo with
  | nil=>exact absurd ht (hw.todo h hc)
  | cons c l=>
   dsimp only;cases hi:D.init x.k c σ with
   | inl cs=>dsimp only;refine Uw ?_ _;exact h
   | inr e=>dsimp only;refine Uw ?_ _;exact h
theorem Rs.lG{most f:Nat}{z:Rs Cl Cs Sg}(h:z.rd.any id=false\/most<=z.s):Rs.go D most f z=z:=by
 cases f with
 | zero=>rfl
 | succ f=>
  rw[Rs.go,if_neg];rintro⟨h1,h2⟩;rcases h with h|h
  . rw[h]at h1;cases h1
  . omega
theorem Rs.go_step{most f:Nat}{z:Rs Cl Cs Sg}(h1:z.rd.any id=true)(h2:z.s<most):Rs.go D most (f+1) z=Rs.go D most f (z.next D):=by rw[Rs.go,if_pos ⟨h1,h2⟩]
end
end
end Go.Proofs.Ytdkfdedgfilhbaa
namespace Go.LT
open Go Go.Conc
section
variable [Host]
variable {P:Program}{main:Bool}{Γ:Type}{S:Fp P main Γ}{γ:Γ}{W:World}
def Behind(S:Fp P main Γ)(γ:Γ)(mk:Array Value->Goroutine)(e:Exit)(a:Act)(W:World):Prop:=e=.normal/\JW S.base γ (mk a.tmps) W
theorem Fp.vw{f:FuncId}{κ:CallKind}{k:List Item}{cs:List Frame}{ds:List Deferred}{tm:Array Value}{ops:Array Oper}(j:Nat)(l:List Oper)(L:List FuncId)(hL:∀f∈L,Lets P f)(hf:f∈L)(Ro:κ≠.early){is rest:List Nat}(his:is=List.range' j l.length++rest)(hl:∀i o,l[i]?=some o->ops[j+i]?=some o)(hok:l.all (K5 P)=true)(h:∀EG,Alike W EG->wpListIn (Fence.list L none) 0 P ops (Behind S γ fun tm=>G (GH f tm (.inRegion ops rest :: k) ds .run κ) cs) l ⟨tm,[]⟩ EG):JW S.base γ (G (GH f tm (.inRegion ops is :: k) ds .run κ) cs) W:=by
 subst his;intro w hw;have hio:Gn P (.inRegion ops (List.range' j l.length))=true:=by show((List.range' j l.length).all fun i=>(ops[i]?).all (K5 P))=true;rw[List.all_eq_true]at hok ⊢;intro i hi;obtain⟨m,hm,rfl⟩:=List.mem_range'.1 hi;have hlo:l[m]?=some l[m]:=List.getElem?_eq_getElem hm;have:=hl m _ hlo;simp only[Nat.one_mul,this,Option.all_some];exact hok _ (List.getElem_mem hm)
 refine S.way _ _ _ ((Uj (R:=S.R γ) (D:=S.D γ) (F:=(·∈L)) (Fn:=Fence.list L none) (n:=0) (tm:=tm) (Q:=Behind S γ fun tm=>G (GH f tm (.inRegion ops rest :: k) ds .run κ) cs) (S.turns γ) (S.kept γ) hL (fun _ h=>h) rfl rfl rfl hf Ro hio (l':=rest) (k:=k) (ds:=ds) (cs:=cs) hw.2 (fun e a w q=>.inl q.1) fun τ=>?_).mono fun g w' hst=>?_)
 . obtain⟨⟨oH,d',rfl⟩,_⟩:=hw;rw[MV l j hl];exact h _ ⟨τ,0,rfl⟩
 . obtain⟨e,tm',τ,d,hR,⟨rfl,hq⟩,hg⟩:=hst;have hs:Io (S.B γ) w' (sh (EF (S.B γ) w') τ d):=⟨⟨τ,d,rfl⟩,hR⟩
   exact hg ▸ hq w' hs
end
end Go.LT
namespace Go.LT
open Go Go.Conc
abbrev Host.only(f:FuncId):Host:=⟨(·==f)⟩
section
variable {P:Program}{main:Bool}{Γ:Type}{S:Fp P main Γ}{γ:Γ}{W:World}
theorem O9{f:FuncId}{L:List FuncId}(hi:P.inits.idxOf? f=none)(hL:∀g∈L,@Lets (Host.only f) P g):∀g∈f :: L,@Lets (Host.only f) P g:=fun g hg=>by
 rcases List.mem_cons.1 hg with rfl|h
 . exact⟨hi,.inr (.inr (by show(g==g)=true;simp))⟩
 . exact hL g h
theorem Fp.kG{f:FuncId}{κ:CallKind}{k:List Item}{cs:List Frame}{ds:List Deferred}{tm:Array Value}{ops:Array Oper}(j:Nat)(l:List Oper)(L:List FuncId)(hL:∀g∈L,@Lets (Host.only f) P g)(hi:P.inits.idxOf? f=none)(Ro:κ≠.early){is rest:List Nat}(his:is=List.range' j l.length++rest)(hl:∀i o,l[i]?=some o->ops[j+i]?=some o)(hok:l.all (@K5 (Host.only f) P)=true)(h:∀EG,Alike W EG->wpListIn (Fence.list (f :: L) none) 0 P ops (Behind S γ fun tm=>G (GH f tm (.inRegion ops rest :: k) ds .run κ) cs) l ⟨tm,[]⟩ EG):JW S.base γ (G (GH f tm (.inRegion ops is :: k) ds .run κ) cs) W:=
 @Fp.vw (Host.only f) P main Γ S γ W f κ k cs ds tm ops j l (f :: L) (O9 hi hL) List.mem_cons_self Ro is rest his hl hok h
end
end Go.LT
namespace Go.LT
open Go Go.Conc
section
variable {P:Program}{main:Bool}{Γ:Type}{S:O8 P main Γ}{γ:Γ}{W:World}{b:Frame}{a:Act}{k:List Item}{cs:List Frame}
theorem JL.cu{ops:Array Oper}{i:Nat}{rest:List Nat}{o:Oper}{f:FuncId}{fn:Func}{x:Operand}{args:Array Operand}{ats:Array TypeId}{caps:Array Value}(ho:ops[i]?=some o)(hw:Region.wanted o (yielded ops a.tmps)=true)(hk:b.kind≠.early)(hop:o.op=.call { callee:=.value x,args,argTypes:=ats })(hx : a.eval x = .func (.func f) #[] caps)(hf : P.funcs[f]? = some fn)(hname : (fn.name == "runtime.NumGoroutine") = false)(hb : fn.body.isNone = false)(h:JL S γ (G (Frame.enter P f (args.map a.eval++caps) .normal) (b.at a (.inRegion ops (i :: rest) :: k) :: cs)) W) :
  JL S γ (G (b.at a (.inRegion ops (i :: rest) :: k)) cs) W:=by
 have h1 : ¬ fn.name = "runtime.NumGoroutine" := by simpa using hname
 have h2:¬ fn.body=none:=by cases hx:fn.body<;>simp_all
 have hr:∀w,(execOp a.eval o).run P w=.ok (.enter f (args.map a.eval++caps)) w:=fun w=>by unfold execOp;simp[hop,resolve,Deferred.ofValue,invoke,callFunc,hf,h1,h2,hx]
 have he:∀w es,(execOp a.eval o).events P w es=es:=fun w es=>by unfold execOp;simp[hop,resolve,Deferred.ofValue,invoke,callFunc,hf,h1,h2,hx]
 refine .ctl rfl (fun w=>?_) h;rw[stepG_enter ho hw hk (hr w)];have:listed P b.fn a o w=#[]:=by unfold listed;rw[he];exact seen_none P _
 rw[this]
end
end Go.LT
namespace Go.LK
open Go Go.Conc Go.LT Go.LC
open Go.ConcN (WgLive)
section
section
variable {P:Program}{ρ:Rn}{W:World}
abbrev GA(ρ:Rn)(P:Program)(m:Nat)(g:Goroutine)(w:World):Prop:=Goes P false (RX ρ.ty ρ.Wg) DA (Lr P ρ.ty ρ.Wg) m g w
def GU(ρ:Rn)(P:Program)(m:Nat)(g:Goroutine):Prop:=∀w,WgLive ρ.ty ρ.Wg w->GA ρ P m g w
theorem GU.ctl{m:Nat}{g g':Goroutine}(hs:g.status=.running)(h:∀w,WgLive ρ.ty ρ.Wg w->stepG P false g w=.go g' w #[])(hJ:GU ρ P m g'):GU ρ P (m+1) g:=fun w hl=>
 Goes.step hs fun w₁ h₁=>by rw[h w₁ (h₁.live hl)];exact⟨⟨rfl,.inl rfl⟩,hJ _ (h₁.live hl)⟩
def SA(ρ:Rn)(P:Program):O8 P false Unit where
 B:=fun _=>RJ
 J:=fun _ g _=>∃m,GU ρ P m g
 live:=fun _=>WgLive ρ.ty ρ.Wg
 idle:=fun γ g g' W hs h hJ w hw=>by obtain⟨m,hg⟩:=hJ w hw;exact⟨m+1,hg.ctl hs h⟩
theorem SA.of{g:Goroutine}(h:∀W,JL (SA ρ P) () g W):∃m,GU ρ P m g:=h (EF RJ default) default ⟨.refl _,JB _⟩
theorem SA.to{g:Goroutine}(h:∃m,GU ρ P m g):JL (SA ρ P) () g W:=fun _ _=>h
structure LvE(ty:TypeId)(ch:List PanicEntry):Prop where
 ex:∃older:List PanicEntry,(∀e∈older,e.goexit=false)/\ch=⟨.iface ty (.agg #[]),false,false⟩ :: older
def Wv(ρ:Rn)(P:Program)(ty:TypeId)(c:Frame)(cs:List Frame):Prop:=∀ch,LvE ty ch->∃m,GU ρ P m (G (c.raise ch) cs)
theorem Wv.pop{ty:TypeId}{f:FuncId}{fn:Func}{tm:Array Value}{k:List Item}{c:Frame}{cs:List Frame}(hf:P.funcs[f]?=some fn)(h:Wv ρ P ty c cs):Wv ρ P ty ((base f).at ⟨tm,[]⟩ k) (c :: cs):=fun ch hch=>by obtain⟨m,hm⟩:=h ch hch;refine⟨m+1,GU.ctl (g':=G (c.raise ch) cs) rfl (fun w _=>?_) hm⟩;show stepG P false (G (GH f tm k [] (.panicking ch) .normal) (c :: cs)) w=_;simp[G,GH,stepG,unwind,Frame.catches,hf]
theorem JL.Jc{main:Bool}{Γ:Type}{S:O8 P main Γ}{γ:Γ}{b:Frame}{a:Act}{k:List Item}{cs:List Frame}{ops:Array Oper}{i:Nat}{rest:List Nat}{o:Oper}(v:Value)(ho:ops[i]?=some o)(hw:Region.wanted o (yielded ops a.tmps)=true)(hk:b.kind≠.early)(hr:∀w,(execOp a.eval o).runT P w #[]=(.ok (.value v) w,#[]))(h:JL S γ (G (b.at (a.put o.dst v) (.inRegion ops rest :: k)) cs) W):JL S γ (G (b.at a (.inRegion ops (i :: rest) :: k)) cs) W:=
 JL.value v ho hw hk (fun w _=>by rw[← Sem.runT_fst (es:=#[]),hr]) (fun w _ e he=>by
  have:(execOp a.eval o).events P w #[]=#[]:=by show((execOp a.eval o).runT P w #[]).2=#[];rw[hr]
  rw[this]at he;simp at he) h
theorem PV{main:Bool}{b:Frame}{a:Act}{k:List Item}{cs:List Frame}{w:World}{ops:Array Oper}{i:Nat}{rest:List Nat}{o:Oper}{v:Value}(ho:ops[i]?=some o)(hw:Region.wanted o (yielded ops a.tmps)=true)(hk:b.kind≠.early)(hr:(execOp a.eval o).run P w=.halt (.panic v) w):stepG P main (G (b.at a (.inRegion ops (i :: rest) :: k)) cs) w=.go (G ((b.at a (.inRegion ops (i :: rest) :: k)).raise [⟨v,false,false⟩]) cs) w (listed P b.fn a o w):=by
 have hk':(b.kind==CallKind.early)=false:=by simpa using hk
 rw[stepG_oper ho hw];simp[stepG.apply,hr,G,Frame.at,hk',GStep.after,listed]
end
end
end Go.LK
namespace Go.LK
open Go Go.Conc Go.LT Go.LC
structure Mem(Sg:Type) where
 Sh:Nat->Prop
 Inv:Sg->World->Prop
 rows:∀s w b,Sh b->Inv s w->∃c e f,w.heap[b]?=some (.cells c e f)
 eq:∀s w w',(∀b,Sh b->L8 w w' b)->Inv s w->Inv s w'
structure GJ{P:Program}{main:Bool}{Γ:Type}(S:Fp P main Γ){Cl Cs Sg:Type}(D:Dr Cl Cs Sg)(m:Mem Sg)(UU:FuncId) where
 St:Type
 γ:St->Γ
 wv:Value
 num:Nat
 At:St->Sg->World->Prop
 core:St->Nat->Prop
 own:St->Nat->Prop
 kept:St->Nat->Prop
 n0:St->Nat
 fuel:St->Nat
 Le:St->St->Prop
 Pf:St->Sg->Cl->Prop
 Step:St->Sg->Cs->Prop
 bD:St->Sg × (Cs ⊕ (An × Bool))->Prop
 End:St->Sg->An × Bool->Prop
 Leaves:Frame->List Frame->Prop
 add:St->Nat->St
 refl:∀s,Le s s
 trans:∀s s' s'',Le s s'->Le s' s''->Le s s''
 NI:∀{s σ c cs},Pf s σ c->D.init num c σ=.inl cs->Step s σ cs
 ends:∀{s σ c e},Pf s σ c->D.init num c σ=.inr e->End s σ e
 more:∀{s σ cs},bD s (σ,.inl cs)->Step s σ cs
 done:∀{s σ e},bD s (σ,.inr e)->End s σ e
 inv:∀{s σ W},At s σ W->m.Inv σ W
 size:∀{s σ W},At s σ W->n0 s<=W.heap.size
 row:∀{s σ W b},At s σ W->own s b->¬ m.Sh b/\∃c e f,W.heap[b]?=some (.cells c e f)
 Ld:∀{s σ W b},At s σ W->core s b->own s b
 Gm:∀{s σ W b},At s σ W->kept s b->own s b
 put:∀{s σ W σ' W'},At s σ W->m.Inv σ' W'->(∀b,core s b->W'.heap[b]?=W.heap[b]?)->(∀b,own s b->∃c e f,W'.heap[b]?=some (.cells c e f))->W.heap.size<=W'.heap.size->At s σ' W'
 Yo:∀{s σ W N},At s σ W->n0 s<=N->¬ m.Sh N->(∃c e f,W.heap[N]?=some (.cells c e f))->At (add s N) σ W/\Le s (add s N)/\γ (add s N)=γ s/\fuel (add s N)=fuel s/\(∀b,core (add s N) b↔core s b)/\(∀b,own (add s N) b↔own s b\/b=N)/\(∀b,kept (add s N) b↔kept s b\/b=N)
 Yf:∀{s N σ c},Pf s σ c->Pf (add s N) σ c
 Uy:∀{s N σ cs},Step s σ cs->Step (add s N) σ cs
 XP:∀{s N r},bD s r->bD (add s N) r
 XJ:∀{s N σ e},End s σ e->End (add s N) σ e
 pop:∀{f:FuncId} {fn:Func} {tm:Array Value} {k:List Item} {c:Frame} {cs:List Frame},P.funcs[f]?=some fn->Leaves c cs->Leaves ((base f).at ⟨tm,[]⟩ k) (c :: cs)
 step:∀{s σ W cs} {c:Frame} {k:List Frame},At s σ W->Step s σ cs->Leaves c k->
  (∀s' σ' W',At s' σ' W'->Le s s'->core s'=core s->own s'=own s->kept s'=kept s->(∀b,kept s b->W'.heap[b]?=W.heap[b]?)->W.heap.size<=W'.heap.size->fuel s'<fuel s->bD s' (D.next num cs σ')->JW S.base (γ s') (G (c.finish (.tuple #[])) k) W')->
  JW S.base (γ s) (G (Frame.enter P UU #[wv] .normal) (c :: k)) W
end Go.LK
namespace Go.LT
open Go Go.Conc
def Fp.L{P:Program}{main:Bool}{Γ:Type}(S:Fp P main Γ):O8 P main Γ where
 B:=S.B
 J:=S.J
 live:=fun _ _=>True
 idle:=fun γ g g' W hs h hJ=>S.base.silent γ g g' W hs (fun w=>h w trivial) hJ
section
variable {P:Program}{main:Bool}{Γ:Type}{S:Fp P main Γ}{γ:Γ}{W:World}
def Acr(S:Fp P main Γ)(γ:Γ)(mk:Array Value->Goroutine)(mr:Array Value->List Item->Goroutine):Exit->Act->World->Prop
 | .normal,a,W=>JW S.base γ (mk a.tmps) W
 | .ret,a,W=>∀Y,JW S.base γ (mr a.tmps Y) W
 | _,_,_=>False
theorem Fp.Ag3{f:FuncId}{κ:CallKind}{k:List Item}{cs:List Frame}{ds:List Deferred}{tm:Array Value}{c:Code}(L:List FuncId)(hL:∀g∈L,@Lets (Host.only f) P g)(hi:P.inits.idxOf? f=none)(Ro:κ≠.early)(hok:@Hg (Host.only f) P c=true)(h:∀EG,Alike W EG->c.wpIn (Fence.list (f :: L) none) 0 P (Acr S γ (fun tm=>G (GH f tm k ds .run κ) cs) (fun tm Y=>G (GH f tm Y ds .returning κ) cs)) ⟨tm,[]⟩ EG):JW S.base γ (G (GH f tm (.code c :: k) ds .run κ) cs) W:=by
 refine @Runs.lone (Host.only f) P main Γ S (f :: L) γ W ⟨tm,ds⟩ (fun e a γ' W'=>γ'=γ/\a.defers=ds/\Acr S γ (fun tm=>G (GH f tm k ds .run κ) cs) (fun tm Y=>G (GH f tm Y ds .returning κ) cs) e a W') (O9 hi hL) c hok (fun EG ha=>?_) f κ k cs List.mem_cons_self Ro fun e a' γ' W' q=>?_
 . refine Code.wpIn_mono (fun e a W' hb=>?_) (h EG ha);cases e with
   | normal=>exact⟨rfl,rfl,hb⟩
   | ret=>exact⟨rfl,rfl,hb⟩
   | _=>exact hb.elim
 . obtain⟨rfl,h1,h2⟩:=q;cases e with
   | normal=>
    show JW S.base γ' (G (GH f a'.tmps k a'.defers .run κ) cs) W';rw[h1];exact h2
   | ret=>
    intro Y;show JW S.base γ' (G (GH f a'.tmps Y a'.defers .returning κ) cs) W';rw[h1];exact h2 Y
   | _=>exact h2.elim
def aC(S:Fp P main Γ)(γ:Γ)(b:Frame)(ds:List Deferred)(k:List Item)(cs:List Frame):Exit->Act->World->Prop
 | .normal,a,W=>JL S.L γ (G (b.at ⟨a.tmps,ds⟩ k) cs) W
 | .ret,a,W=>∀Y,JL S.L γ (G { b.at ⟨a.tmps,ds⟩ Y with mode:=.returning } cs) W
 | _,_,_=>False
theorem Fp.Fz{b:Frame}{k:List Item}{cs:List Frame}{ds:List Deferred}{tm:Array Value}{c:Code}(L:List FuncId)(hL:∀g∈L,@Lets (Host.only b.fn) P g)(hi:P.inits.idxOf? b.fn=none)(Ro:b.kind≠.early)(hok:@Hg (Host.only b.fn) P c=true)(h:∀EG,Alike W EG->c.wpIn (Fence.list (b.fn :: L) none) 0 P (aC S γ b ds k cs) ⟨tm,[]⟩ EG):JL S.L γ (G (b.at ⟨tm,ds⟩ (.code c :: k)) cs) W:=by
 show JW S.base γ (G (GH b.fn tm (.code c :: k) ds .run b.kind) cs) W;refine Fp.Ag3 L hL hi Ro hok fun EG ha=>Code.wpIn_mono (fun e a W' hb=>?_) (h EG ha);cases e with
 | normal=>exact hb
 | ret=>exact hb
 | _=>exact hb.elim
theorem Fp.zZ{b:Frame}{k:List Item}{cs:List Frame}{ds:List Deferred}{tm:Array Value}{ops:Array Oper}(j:Nat)(l:List Oper)(L:List FuncId)(hL:∀g∈L,@Lets (Host.only b.fn) P g)(hi:P.inits.idxOf? b.fn=none)(Ro:b.kind≠.early){is rest:List Nat}(his:is=List.range' j l.length++rest)(hl:∀i o,l[i]?=some o->ops[j+i]?=some o)(hok:l.all (@K5 (Host.only b.fn) P)=true)(h:∀EG,Alike W EG->wpListIn (Fence.list (b.fn :: L) none) 0 P ops (Behind S γ fun tm=>G (b.at ⟨tm,ds⟩ (.inRegion ops rest :: k)) cs) l ⟨tm,[]⟩ EG):JL S.L γ (G (b.at ⟨tm,ds⟩ (.inRegion ops is :: k)) cs) W:=by
 show JW S.base γ (G (GH b.fn tm (.inRegion ops is :: k) ds .run b.kind) cs) W;exact Fp.kG j l L hL hi Ro his hl hok h
theorem Fp.Gs{b:Frame}{k:List Item}{cs:List Frame}{ds:List Deferred}{tm:Array Value}{ops:Array Oper}(j:Nat)(L:List FuncId)(hL:∀g∈L,@Lets (Host.only b.fn) P g)(hi:P.inits.idxOf? b.fn=none)(Ro:b.kind≠.early){is:List Nat}(his:is=List.range' j (ops.toList.drop j).length)(hok:(ops.toList.drop j).all (@K5 (Host.only b.fn) P)=true)(h:∀EG,Alike W EG->wpListIn (Fence.list (b.fn :: L) none) 0 P ops (Behind S γ fun tm=>G (b.at ⟨tm,ds⟩ (.inRegion ops [] :: k)) cs) (ops.toList.drop j) ⟨tm,[]⟩ EG):JL S.L γ (G (b.at ⟨tm,ds⟩ (.inRegion ops is :: k)) cs) W:=
 Fp.zZ j (ops.toList.drop j) L hL hi Ro (rest:=[]) (by rw[his,List.append_nil]) (fun i o ho=>by rw[List.getElem?_drop]at ho;rw[← Array.getElem?_toList];exact ho) hok h
theorem Zm{B:Hid}{w W:World}{ad:Addr}{v:Value}(h:Io B w W)(hc:W.cell? ad=some v):B ad.block=false/\w.cell? ad=some v:=by
 obtain⟨⟨τ,d,rfl⟩,hR⟩:=h;have hc':(EF B w).cell? ad=some v:=hc;cases hB:B ad.block with
 | true=>rw[JO hR hB]at hc';cases hc'
 | false=>exact⟨rfl,by rw[← Fy hB];exact hc'⟩
theorem Fp.read{b:Frame}{a:Act}{k:List Item}{cs:List Frame}{ops:Array Oper}{i:Nat}{rest:List Nat}{o:Oper}{ad:Addr}(v:Value)(ho:ops[i]?=some o)(hw:Region.wanted o (yielded ops a.tmps)=true)(hk:b.kind≠.early)(hc:W.cell? ad=some v)(hr:∀w,w.cell? ad=some v->(execOp a.eval o).run P w=.ok (.value v) w)(he:∀w,w.cell? ad=some v->∀e∈(execOp a.eval o).events P w #[],e=⟨.cell ad,false,false⟩)(hJ:JL S.L γ (G (b.at (a.put o.dst v) (.inRegion ops rest :: k)) cs) W):JL S.L γ (G (b.at a (.inRegion ops (i :: rest) :: k)) cs) W:=
 S.step rfl fun w hs=>by obtain⟨hB,hc'⟩:=Zm hs hc;exact⟨_,w,_,stepG_value ho hw hk (hr w hc'),Kept.refl _ _,fun e h=>by rw[he w hc' e (mem_listed h)];exact⟨hB,Ip hc',fun h=>by cases h⟩,W,hs,hJ⟩
theorem JL.back{S:O8 P main Γ}{b:Frame}{tm:Array Value}{Y:List Item}{c:Frame}{cs:List Frame}{fn:Func}{v:Value}(hn:b.kind=.normal)(hf:P.funcs[b.fn]?=some fn)(hr:∀w,(results fn tm).runT P w #[]=(.ok v w,#[]))(h:JL S γ (G (c.finish v) cs) W) :
  JL S γ (G { b.at ⟨tm,[]⟩ Y with mode:=.returning } (c :: cs)) W:=
 .ctl rfl (fun w=>stepG_leave hn rfl hf (by rw[← Sem.runT_fst (es:=#[]),hr]) (by show((results fn tm).runT P w #[]).2=#[];rw[hr])) h
end
end Go.LT
namespace Go.LK
open Go Go.Conc Go.LT Go.LC
section
variable {P:Program}{main:Bool}{Γ:Type}{S:Fp P main Γ}{Cl Cs Sg:Type}{D:Dr Cl Cs Sg}{m:Mem Sg}{UU:FuncId}
structure GJ.On(I:GJ S D m UU)(s:I.St)(W:World)(s':I.St)(W':World):Prop where
 le:I.Le s s'
 core:∀b,I.core s' b↔I.core s b
 kept:∀b,I.kept s b->I.kept s' b/\W'.heap[b]?=W.heap[b]?
 size:W.heap.size<=W'.heap.size
 fuel:I.fuel s'<=I.fuel s
theorem GJ.On.refl(I:GJ S D m UU)(s:I.St)(W:World):I.On s W s W:=⟨I.refl s,fun _=>.rfl,fun b h=>⟨h,rfl⟩,Nat.le_refl _,Nat.le_refl _⟩
theorem GJ.On.trans{I:GJ S D m UU}{s s' s'':I.St}{W W' W'':World}(h:I.On s W s' W')(k:I.On s' W' s'' W''):I.On s W s'' W'':=
 ⟨I.trans _ _ _ h.le k.le,fun b=>(k.core b).trans (h.core b),fun b hb=>⟨(k.kept b (h.kept b hb).1).1,(k.kept b (h.kept b hb).1).2.trans (h.kept b hb).2⟩,Nat.le_trans h.size k.size,Nat.le_trans k.fuel h.fuel⟩
theorem GJ.line(I:GJ S D m UU){s:I.St}{σ:Sg}{W:World}{cs:Cs}{c:Frame}{k:List Frame}(hA:I.At s σ W)(hS:I.Step s σ cs)(hL:I.Leaves c k)(hJ:∀s' σ' W',I.At s' σ' W'->I.On s W s' W'->I.fuel s'<I.fuel s->(∀b,I.own s' b↔I.own s b)->I.bD s' (D.next I.num cs σ')->JW S.base (I.γ s') (G (c.finish (.tuple #[])) k) W') :
  JW S.base (I.γ s) (G (Frame.enter P UU #[I.wv] .normal) (c :: k)) W:=
 I.step hA hS hL fun s' σ' W' a1 a2 a3 a4 a5 a6 a7 a8 a9=>hJ s' σ' W' a1 ⟨a2,fun b=>by rw[a3],fun b hb=>⟨by rw[a5];exact hb,a6 b hb⟩,a7,Nat.le_of_lt a8⟩ a8 (fun b=>by rw[a4]) a9
theorem GJ.lay(I:GJ S D m UU){s:I.St}{σ:Sg}{W W':World}{N:Nat}(hA:I.At s σ W)(hN:N=W.heap.size)(hr:∃c e f,W'.heap[N]?=some (Obj.cells c e f))(ho:∀b,b<W.heap.size->W'.heap[b]?=W.heap[b]?)(hs:W.heap.size<=W'.heap.size) :
  ∃s',I.At s' σ W'/\I.On s W s' W'/\I.γ s'=I.γ s/\(∀b,I.own s' b↔I.own s b\/b=N)/\(∀b,I.kept s' b↔I.kept s b\/b=N)/\(∀c,I.Pf s σ c->I.Pf s' σ c)/\(∀cs,I.Step s σ cs->I.Step s' σ cs)/\(∀r,I.bD s r->I.bD s' r)/\(∀e,I.End s σ e->I.End s' σ e):=by
 have hlt:∀{b:Nat} {o:Obj},W.heap[b]?=some o->b<W.heap.size:=fun h=>(zGE h).1;have hrow:∀b,m.Sh b->b<W.heap.size:=fun b hb=>by obtain⟨c,e,f,h⟩:=m.rows σ W b hb (I.inv hA);exact hlt h
 have hI:m.Inv σ W':=m.eq σ W W' (fun b hb=>.of (ho b (hrow b hb))) (I.inv hA);have hown:∀b,I.own s b->b<W.heap.size:=fun b hb=>by obtain⟨_,c,e,f,h⟩:=I.row hA hb;exact hlt h
 have hA':I.At s σ W':=I.put hA hI (fun b hb=>ho b (hown b (I.Ld hA hb))) (fun b hb=>by rw[ho b (hown b hb)];exact(I.row hA hb).2) hs;obtain⟨a1,a2,a3,a4,a5,a6,a7⟩:=I.Yo hA' (by rw[hN];exact I.size hA) (fun h=>by have:=hrow N h;omega) hr;exact⟨_,a1,⟨a2,a5,fun b hb=>⟨(a7 b).2 (.inl hb),ho b (hown b (I.Gm hA hb))⟩,hs,Nat.le_of_eq a4⟩,a3,a6,a7,fun _=>I.Yf,fun _=>I.Uy,fun _=>I.XP,fun _=>I.XJ⟩
theorem GJ.turn(I:GJ S D m UU){s:I.St}{σ σ':Sg}{W W':World}(hA:I.At s σ W)(hI:m.Inv σ' W')(ho:∀b,¬ m.Sh b->W'.heap[b]?=W.heap[b]?)(hs:W'.heap.size=W.heap.size):I.At s σ' W'/\I.On s W s W':=
  ⟨I.put hA hI (fun b hb=>ho b (I.row hA (I.Ld hA hb)).1) (fun b hb=>by rw[ho b (I.row hA hb).1];exact(I.row hA hb).2) (Nat.le_of_eq hs.symm),
   I.refl s,fun _=>.rfl,fun b hb=>⟨hb,ho b (I.row hA (I.Gm hA hb)).1⟩,Nat.le_of_eq hs.symm,Nat.le_refl _⟩
theorem GJ.alike(I:GJ S D m UU){s:I.St}{σ:Sg}{W W':World}(hA:I.At s σ W)(ha:LT.Alike W W'):I.At s σ W'/\I.On s W s W':=by obtain⟨τ,d,rfl⟩:=ha;exact I.turn hA (m.eq σ W _ (fun b _=>.of rfl) (I.inv hA)) (fun b _=>rfl) rfl
end
end Go.LK
namespace Go.LK
open Go Go.Conc Go.LT Go.LC
structure EP where
 kind:Int
 a:Int
 b:Int
 c:Int
inductive Fw | one (c:EP)
 | look (most:Bool) (i v:Int)
 | cas (most:Bool) (i v x:Int)
def inn(n:Nat)(i:Int):Bool:=decide (0<=i)&&decide (i<n)
def MF(most:Bool)(x v:Int):Bool:=if most then decide (v<=x)else decide (x<=v)
def FW(c:EP)(σ:List Int):List Int × An:=
 let i:=c.a.toNat
 let x:=σ.getD i 0
 if c.kind=1 then(σ,{ n:=x })
 else if c.kind=2 then(σ.set i c.b,{})
 else if c.kind=3 then(σ.set i (RowKit.wrap64 (x+c.b)),{ n:=RowKit.wrap64 (x+c.b) })
 else if c.kind=4 then(σ.set i c.b,{ n:=x })
 else if x=c.b then(σ.set i c.c,{ ok:=true })else(σ,{})
def EK:Dr EP Fw (List Int) where
 init:=fun _ c _=>
  if 1<=c.kind/\c.kind<=5 then .inl (.one c)
  else if c.kind=6 then .inl (.look true c.a c.b)
  else if c.kind=7 then .inl (.look false c.a c.b)
  else .inr ({ err:=40 },false)
 next:=fun _ cs σ=>
  match cs with
  | .one c=>if inn σ.length c.a=false then(σ,.inr ({ err:=41 },false))else((FW c σ).1,.inr ((FW c σ).2,false))
  | .look most i v=>
   if inn σ.length i=false then(σ,.inr ({ err:=41 },false))
   else if MF most (σ.getD i.toNat 0) v then(σ,.inr ({ n:=σ.getD i.toNat 0 },false))else(σ,.inl (.cas most i v (σ.getD i.toNat 0)))
  | .cas most i v x=>if σ.getD i.toNat 0=x then(σ.set i.toNat v,.inr ({ n:=v },false))else(σ,.inl (.look most i v))
structure FI(m:Mem (List Int))(c cb n:Nat):Prop where
 len:n<=256
 sh:m.Sh cb
 get:∀σ W,m.Inv σ W->σ.length=n/\W.cell? ⟨c,0,none⟩=some (.slice (some ⟨cb,0,none⟩) n n)/\∃ty,W.heap[cb]?=some (.cells (σ.map (Value.int .i64)).toArray ty (0,0))
 set:∀σ W i v,m.Inv σ W->i<n->m.Inv (σ.set i v) (W.setCell ⟨cb,i,none⟩ (.int .i64 v))
theorem FI.cell{m:Mem (List Int)}{c cb n:Nat}(h:FI m c cb n){σ:List Int}{W:World}(hI:m.Inv σ W){i:Nat}(hi:i<n):W.cell? ⟨cb,i,none⟩=some (.int .i64 (σ.getD i 0)):=by obtain⟨h1,_,ty,h2⟩:=h.get σ W hI;simp[World.cell?,h2,h1,hi]
theorem FI.frozen{m:Mem (List Int)}{c cb n:Nat}(h:FI m c cb n){σ:List Int}{W:World}(hI:m.Inv σ W)(i:Nat):W.frozen? ⟨cb,i,none⟩=false:=by obtain⟨_,_,ty,h2⟩:=h.get σ W hI;simp[World.frozen?,h2]
theorem Mem.alike{Sg:Type}(m:Mem Sg){σ:Sg}{W W':World}(h:m.Inv σ W)(ha:LT.Alike W W'):m.Inv σ W':=m.eq σ W W' (fun b _=>.of (by obtain⟨τ,d,rfl⟩:=ha;rfl)) h
end Go.LK
namespace Go.Proofs.Ytdkfdedgfilhbaa
open Go Go.Conc Go.LT Go.LC Go.LK
abbrev FU{Fin:Gb} (h:FM Try.prog Fin):=S0 (X:=Wk EP Fw) (Sg:=List Int) Try.prog Fin h
end Go.Proofs.Ytdkfdedgfilhbaa
end
