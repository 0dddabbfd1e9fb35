/-
  Part 12 of the proof that CellMeets returns true, and leaves its arguments as they were, for every input whose reading is of bulk at most 1048576. No further condition.
-/
import Derived.Test.YticecinjcajmcaaR00
import Derived.Test.YticecinjcajmcaaR11
import Derived.Conc.TokenWalk
import Derived.WalkKit
import Derived.WalkSpells
import Derived.WalkLawsBesides
import Derived.Lib.Hide
import Derived.Deep.RegionLaw
set_option linter.unusedVariables false
set_option linter.unusedSectionVars false
set_option linter.unusedSimpArgs false
noncomputable section
namespace Go.LT
open Go Go.Conc
section
section
variable {P:Program}{main:Bool}{K:World->Prop}{Still:Loc->Prop}{Bd:Nat}{st:Seat}
def SQ (P:Program)(main:Bool)(K:World->Prop)(Still:Loc->Prop)(Bd:Nat)(st:Seat):Ou P main Unit where
  B:=fun _=>Qe
  J:=fun _ g _=>∃ n,∀ w,Goes P main (RK K) (DS Still Bd) (fun g _=>∃ g₂,AtIn P main K Still Bd st g g₂) n g w
  live:=fun _=>K
  idle:=fun γ g g' W hs h hJ w hw=>by obtain ⟨n,hg⟩:=hJ w hw;exact ⟨n+1,fun w=>Goes.step hs fun w₁ h₁=>by rw [h w₁ h₁];exact ⟨⟨rfl,by simp⟩,hg _⟩⟩
theorem JQ.step {g g':Goroutine}{W:World}(hs:g.status=.running)(h:∀ w,K w->∃ es,stepG P main g w=.go g' w es/\∀ e∈es,EvC Still Bd e)(hJ:JL (SQ P main K Still Bd st) () g' W):JL (SQ P main K Still Bd st) () g W:=fun w hw=>by obtain ⟨n,hg⟩:=hJ w hw;refine ⟨n+1,fun w=>Goes.step hs fun w₁ h₁=>?_⟩;obtain ⟨es,e,he⟩:=h w₁ h₁;rw [e];exact ⟨⟨rfl,he⟩,hg _⟩
section
variable {b:Frame}{a:Act}{k:List Item}{cs:List Frame}{ops:Array Oper}{i:Nat}{rest:List Nat}{o:Oper}{W:World}
theorem JQ.load (v:Value)(ho:ops[i]?=some o)(hw:Region.wanted o (yielded ops a.tmps)=true)(hk:b.kind≠.early)(hr:∀ w,K w->(execOp a.eval o).run P w=.ok (.value v) w)(he:∀ w,K w->∀ e∈(execOp a.eval o).events P w #[],EvC Still Bd e)(h:JL (SQ P main K Still Bd st) () (G (b.at (a.put o.dst v) (.inRegion ops rest :: k)) cs) W):JL (SQ P main K Still Bd st) () (G (b.at a (.inRegion ops (i :: rest) :: k)) cs) W:=
  JQ.step rfl (fun w hK=>⟨_,stepG_value ho hw hk (hr w hK),fun e h=>he w hK e (mem_listed h)⟩) h
theorem JQ.sit (ho:ops[i]?=some o)(hw:Region.wanted o (yielded ops a.tmps)=true)(hk:b.kind≠.early)(hr:∀ w,(execOp a.eval o).run P w=.ok (.comm st.cases true st.shape) w)(he:∀ w,(execOp a.eval o).events P w #[]=#[])(h:st.home (G (b.at a (.inRegion ops (i :: rest) :: k)) cs)):JL (SQ P main K Still Bd st) () (G (b.at a (.inRegion ops (i :: rest) :: k)) cs) W:=
  fun w _=>⟨0,fun w=>Goes.stop fun w₁ _=>⟨_,atIn_of ho hw hk hr he h⟩⟩
end
theorem Pg {g:Goroutine}(h:∀ W,JL (SQ P main K Still Bd st) () g W):∃ n,Sits P main K Still Bd st n g:=by obtain ⟨n,hg⟩:=h (D7 Qe default) default ⟨.refl _,IU _⟩;exact ⟨n+1,.inl ⟨n,default,rfl,hg default⟩⟩
end
end
end Go.LT
namespace Go.LK
open Go Go.Conc Go.LT Go.LC
open Go.ConcN (WgLive sumTo upd sumTo_upd upd_ne upd_same)
open Go.ConcR (KK wgBlock WgAt stA smA rd wr mk)
section
theorem ZK {P:Program}{main:Bool}{R:World->World->Prop}{D:World->World->Array Event->Prop}{Stop:Goroutine->World->Prop}(refl:∀ w,R w w){g:Goroutine}{w:World}(h:LT.Way P main R D (LT.Way P main R D Stop) g w):LT.Way P main R D Stop g w:=by
  induction h with
  | stop h=>exact h _ (refl _)
  | step hs h _ ih=>exact .step hs h ih
section
variable {X Sg:Type}
def Wx (X Sg:Type)(ρ:Rn):Type:={ x:Gw X Sg × Nat // x.1.B ρ.Wg=true }
variable (M:Md X Sg)(ρ:Rn)(P:Program)
def SW:EL P false (Wx X Sg ρ) where
  B:=fun x=>{ hol:=x.1.1.B }
  R:=fun _=>F8 ρ.ty ρ.Wg
  D:=fun x=>DK { hol:=x.1.1.B }
  J:=fun x g w=>WJ M ρ P x.1.2 x.1.1 g w
  refl:=fun _ w=>F8.refl w
  trans:=fun _ _ _ _ h k=>h.trans k
  turns:=fun x w w₁ h=>F8.turns x.2 h
  kept:=fun x w w' es _ hk he=>⟨hk,he⟩
  way:=fun x g w hW=>by rw [Xw];refine ZK (fun w=>F8.refl w) (hW.mono fun g w h=>?_);rw [Xw] at h;exact h
variable {M ρ P}{W:World}{g g₂:Goroutine}
structure Xp (v v':EK X)(x:X)(ov:Bool)(r:Nat)(own:Nat->Prop)(pb:Nat):Prop where
  h:v'.h=v.h
  k:v'.k=v.k
  b:v'.b=v.b
  t:v'.t=v.t
  x:v'.x=x
  over:v'.over=ov
  r:v'.r=r
  own:v'.own=own
  pb:v'.pb=pb
structure lJ (M:Md X Sg)(own:Nat->Prop)(W W':World):Prop where
  own:∀ b,own b->W'.heap[b]?=W.heap[b]?
  size:W.heap.size<=W'.heap.size
theorem Oh {B:Nat->Bool}{w W:World}{b:Nat}(hs:GQ { hol:=B } w W)(h:B b=false):W.heap[b]?=(w.heap[b]?).map depend:=by
  rw [FJ hs,EA (B:={ hol:=B }) h]
  simp
theorem SW.sit {x:Wx X Sg ρ}{own:Nat->Prop}{pb:Nat}(hrun:g.status=.running)(hstep:∀ w,stepG P false g w=.comm g₂ (He ρ x.1.1.v.k) true .select w #[])(hInv:M.Inv x.1.1.tgt.2.1 W)(YO:∀ b,M.Sh b->x.1.1.B b=false)(aN:M.Rec x.1.1.v.k x.1.1.tgt.1 x.1.1.v.b own W)(hpb:own pb)(ho1:∀ b,x.1.1.v.own b->own b)(ho2:∀ b,own b->x.1.1.v.own b\/x.1.1.n0<=b)(ho3:∀ b,own b->x.1.1.B b=false/\¬ M.Sh b/\∃ c e f,W.heap[b]?=some (.cells c e f))(hb:x.1.1.v.own x.1.1.v.b)(hover:x.1.1.tgt.2.2=true->∃ m,∀ w',WgLive ρ.ty ρ.Wg w'->Fs P ρ.ty ρ.Wg 7 m 0 (g₂.finishComm P (He ρ x.1.1.v.k) .select (0:Nat) undef false) w')(hsit:x.1.1.tgt.2.2=false->(W.cell? ⟨x.1.1.v.b,2,none⟩=some (.chan (some x.1.1.v.t))/\W.cell? ⟨x.1.1.v.b,4,none⟩=some (.chan (some ρ.gone))/\W.cell? ⟨pb,0,none⟩=some (.pointer (some ⟨x.1.1.v.b,0,none⟩)))/\
      ∃ gs,(∀ v',Xp x.1.1.v v' x.1.1.tgt.1 false x.1.2 own pb->∀ home:Goroutine->Prop,home gs->∃ n,Sits P false (Kv ρ v') (vH v') (Za v') { cases:=Gb ρ x.1.1.v.t,shape:=.select,home:=home } n (g₂.finishComm P (He ρ x.1.1.v.k) .select (0:Nat) undef false))/\
        (ρ.shut->Xq ρ P x.1.1.v.t gs)/\
        ∀ r',x.1.2=r'+1->∀ v',Xp x.1.1.v v' x.1.1.tgt.1 false x.1.2 own pb->∀ (s:Nat) (σ:Sg) (W':World) (y:Wx X Sg ρ),y.1.1.v=v'->y.1.1.tgt=M.hold x.1.1.tgt.1 s σ->y.1.2=r'->aO M ρ v' y.1.1.B y.1.1.n0->y.1.1.n0=W'.heap.size->lJ M own W W'->M.Inv σ W'->
          JW (SW M ρ P).base y (gs.finishComm P (Gb ρ x.1.1.v.t) .select (0:Nat) (.int .i64 s) true) W') :
    JW (SW M ρ P).base x g W:=by
  intro w hw;show WJ M ρ P x.1.2 x.1.1 g w;rw [Xw];refine .stop fun w₁ h₁=>?_;have OE:GQ { hol:=x.1.1.B } w₁ W:=(SW M ρ P).turn (γ:=x) hw h₁;have view:∀ b,x.1.1.B b=false->K3 W w₁ b:=fun b hB=>by
    unfold K3;rw [Oh OE hB];cases w₁.heap[b]? with
    | none=>rfl
    | some o=>simp [OM]
  have Zx:∀ a:Addr,x.1.1.B a.block=false->w₁.cell? a=W.cell? a:=fun a hB=>by have:=ED (B:={ hol:=x.1.1.B }) (w:=w₁) (a:=a) hB;rw [← this];simp [World.cell?,FJ OE]
  let v':EK X:={ x.1.1.v with own:=own,pb:=pb,x:=x.1.1.tgt.1,wy:=w₁,over:=x.1.1.tgt.2.2,r:=x.1.2 }
  refine ⟨hrun,g₂,v',fun w₂ _=>hstep w₂,rfl,rfl,rfl,rfl,rfl,rfl,rfl,rfl,M.inv_eq _ _ _ (fun b hb'=>view b (YO b hb')) hInv,M.rec_eq _ _ _ _ _ _ (fun b hb'=>view b (ho3 b hb').1) aN,hpb,ho1,ho2,fun b hb'=>⟨(ho3 b hb').2.1,?_⟩,?_⟩
  . obtain ⟨c,e,f,hc⟩:=(ho3 b hb').2.2;exact ⟨c,e,f,(view b (ho3 b hb').1).cells hc⟩
  . cases hov:x.1.1.tgt.2.2 with
    | true=>simp only [if_true];exact hover hov
    | false=>
      simp only [Bool.false_eq_true,if_false];obtain ⟨⟨k1,k2,k3⟩,gs,hS,Aao,hH⟩:=hsit hov;have hv':Xp x.1.1.v v' x.1.1.tgt.1 false x.1.2 own pb:=⟨rfl,rfl,rfl,rfl,rfl,hov,rfl,rfl,rfl⟩
      refine ⟨⟨?_,?_,?_⟩,hS v' hv' _ ⟨?_,Aao⟩⟩
      . rw [← k1];exact Zx _ (ho3 _ (ho1 _ hb)).1
      . rw [← k2];exact Zx _ (ho3 _ (ho1 _ hb)).1
      . rw [← k3];exact Zx _ (ho3 _ hpb).1
      . intro s σ w' B MN hRB hown hsz hI;cases hr:x.1.2 with
        | zero=>trivial
        | succ r'=>
          have hB:B ρ.Wg=true:=MN.wg;have hs':GQ { hol:=B } w' (D7 { hol:=B } w'):=⟨.refl _,hRB⟩
          refine hH r' hr v' hv' s σ (D7 { hol:=B } w') ⟨(⟨v',B,w'.heap.size,M.hold v'.x s σ⟩,r'),hB⟩ rfl rfl rfl MN (by simp) ⟨fun b hb'=>?_,?_⟩ ?_ w' hs'
          . have e1:=Oh hs' (MN.own b hb');have e2:=Oh OE (ho3 b hb').1;rw [e1,e2];exact hown b hb'
          . rw [F9,Ho OE];exact hsz
          . refine M.inv_eq _ _ _ (fun b hb'=>?_) hI;have:=K3.view (w:=w') (B:={ hol:=B }) (MN.sh b hb') rfl;exact this
end
end
end Go.LK
namespace Go.LK
open Go Go.Conc Go.LT Go.LC
section
structure An where
  ok:Bool:=false
  n:Int:=0
  m:Int:=0
  err:Int:=0
  ints:List Int:=[]
structure Gq where
  a:An
  bg:Nat
  st:Nat
  ow:Nat
structure Dr (Cl Cs Sg:Type) where
  init:Nat->Cl->Sg->Cs ⊕ (An × Bool)
  next:Nat->Cs->Sg->Sg × (Cs ⊕ (An × Bool))
structure Wk (Cl Cs:Type) where
  k:Nat
  todo:List Cl
  cur:Option Cs:=none
  st:Nat:=0
  bg:Nat:=0
  ow:Nat:=0
  out:List Gq:=[]
  fell:Bool:=false
  over:Bool:=false
section
variable {Cl Cs Sg:Type}
def Wk.fin (x:Wk Cl Cs)(e:An × Bool):Wk Cl Cs:=
  { x with cur:=none,bg:=0,out:=x.out ++ [⟨e.1,x.bg,x.st,x.ow⟩],fell:=x.fell || e.2,over:=e.2 || x.todo.isEmpty }
def Wk.land (x:Wk Cl Cs)(r:Sg × (Cs ⊕ (An × Bool))):Wk Cl Cs × Sg × Bool:=
  match r.2 with
  | .inl cs=>({ x with cur:=some cs },r.1,false)
  | .inr e=>(x.fin e,r.1,(x.fin e).over)
def Dr.hold (D:Dr Cl Cs Sg)(x:Wk Cl Cs)(s:Nat)(σ:Sg):Wk Cl Cs × Sg × Bool:=
  match x.cur with
  | some cs=>({ x with st:=s,ow:=x.ow+1 }:Wk Cl Cs).land (D.next x.k cs σ)
  | none=>
    match x.todo with
    | []=>(x,σ,true)
    | c :: l=>
      match D.init x.k c σ with
      | .inl cs=>({ x with todo:=l,st:=s,bg:=s,ow:=1 }:Wk Cl Cs).land (D.next x.k cs σ)
      | .inr e=>({ x with todo:=l,st:=s,bg:=s,ow:=1 }:Wk Cl Cs).land (σ,.inr e)
def Wk.new (k:Nat)(l:List Cl):Wk Cl Cs:={ k,todo:=l,over:=l.isEmpty }
theorem Wk.Ml (x:Wk Cl Cs)(σ:Sg)(cs:Cs):x.land (σ,.inl cs)=({ x with cur:=some cs },σ,false):=rfl
theorem Wk.Mr (x:Wk Cl Cs)(σ:Sg)(e:An × Bool):x.land (σ,.inr e)=(x.fin e,σ,(x.fin e).over):=rfl
theorem Wk.ZM (x:Wk Cl Cs)(c:Option Cs)(r:Sg × (Cs ⊕ (An × Bool))):({ x with cur:=c }:Wk Cl Cs).land r=x.land r:=by obtain ⟨σ,r⟩:=r;cases r <;> rfl
theorem Dr.bF (D:Dr Cl Cs Sg)(x:Wk Cl Cs)(cs:Cs)(s:Nat)(σ:Sg):D.hold { x with cur:=some cs } s σ=({ x with st:=s,ow:=x.ow+1 }:Wk Cl Cs).land (D.next x.k cs σ):=Wk.ZM ({ x with st:=s,ow:=x.ow+1 }:Wk Cl Cs) (some cs) (D.next x.k cs σ)
end
end
end Go.LK
namespace Go.Proofs.Yticecinjcajmcaa.BA
open Go.RowKit
def Fa (w:World)(base size:Nat)(v:Value)(n:Nat)(xs:List Value):Prop:=∃ te,w.ownsRow base te size v n xs
theorem Fa.kept {w w':World}{base size:Nat}{v:Value}{n:Nat}{xs:List Value}{row:Option Nat}(h:Fa w base size v n xs)(hg:w.grownBy w' row)(hne:v.ownBlock=none\/v.ownBlock≠row):Fa w' base size v n xs:=
  let ⟨te,h⟩:=h;⟨te,h.kept hg hne⟩
theorem Fa.alloc {w:World}{base size:Nat}{v:Value}{n:Nat}{xs:List Value}(h:Fa w base size v n xs)(o:Obj):Fa (w.alloc o) base size v n xs:=
  let ⟨te,h⟩:=h;⟨te,h.alloc o⟩
theorem Fa.len {w:World}{base size:Nat}{v:Value}{n:Nat}{xs:List Value}(h:Fa w base size v n xs):xs.length=n * size:=let ⟨_,h⟩:=h;h.1
section
variable {P:Program}(w:World)
theorem OL (t ty e te:TypeId)(i:TypeInfo)(ht:P.underlying t=some (.slice e))(hi:P.info? e=some i)(g sLen sCap:Nat)(cur:Array Value)(hg:w.heap[g]?=some (.cells cur te (0,0)))(a:Addr)(m c:Nat)(news:List Value)(hl:news.length=m * i.size)(hnews:∀ j u,news[j]?=some u->w.cell? (a.add j)=some u)(h1:∀ u∈news,u.oneCell'=true)(hroom:sLen+m<=sCap)(hfit:sLen * i.size+news.length<=cur.size) :
    (Builtin.append_ #[t,t] ty #[.slice (some ⟨g,0,none⟩) sLen sCap,.slice (some a) m c]).run P w =
      .ok (.slice (some ⟨g,0,none⟩) (sLen+m) sCap) (w.setRow g (cur.toList.take (sLen * i.size) ++ news ++ cur.toList.drop (sLen * i.size+news.length)).toArray):=by
  have hf:=run_firstCells_some (P:=P) w i.size m a m c news hl hnews;have hst:=run_storeCells_at P g (sLen * i.size) te news 0 cur w hg (by simpa using hfit) h1;simp only [Nat.add_zero] at hst;simp [Builtin.append_,run_underlying ht,sizeOf,typeInfo,hi,Builtin.lenOf,hroom,hf,Addr.add_lit,hst]
theorem Li (base:Nat)(t ty e:TypeId)(i:TypeInfo)(z:Value)(size bytes:Nat)(ht:P.underlying t=some (.slice e))(hi:P.info? e=some i)(hz:i.zero=some z)(hsize:i.size=size)(hby:i.bytes=bytes)(hzs:z.cells.size=size)(hsz:0 < size)(v:Value)(n:Nat)(xs:List Value)(hown:Fa w base size v n xs)(a:Addr)(m c:Nat)(news:List Value)(hl:news.length=m * size)(hnews:∀ j u,news[j]?=some u->w.cell? (a.add j)=some u)(h1:∀ u∈news,u.oneCell'=true)(h63:n+m<=maxLen)(hbytes:(n+m) * bytes<=140737488355328)(hbase:base<=w.heap.size) :
    ∃ v' w',(Builtin.append_ #[t,t] ty #[v,.slice (some a) m c]).run P w=.ok v' w'/\Fa w' base size v' (n+m) (xs ++ news)/\w.grownBy w' v.ownBlock/\
      (v'.ownBlock=v.ownBlock\/v'.ownBlock=none\/∃ k,v'.ownBlock=some k/\w.heap.size<=k):=by
  obtain ⟨te,hown⟩:=hown;rcases hown.2 with ⟨rfl,rfl⟩|⟨g,cap,cur,rfl,hbg,hg,hnc,hcm,hcs,htake⟩
  . have hx:xs=[]:=List.eq_nil_of_length_eq_zero (by simpa using hown.1);subst hx;obtain ⟨v',w',r1,r2,r3,r4⟩:=run_append_own (P:=P) w w.heap.size t ty e i z size bytes ht hi hz hsize hby hzs hsz (.slice none 0 0) 0 [] (World.ownsRow_nil w _ e size) a m c news hl hnews h1 h63 hbytes (Nat.le_refl _);refine ⟨v',w',r1,⟨e,r2.1,?_⟩,r3,?_⟩
    . rcases r2.2 with hh | ⟨g,cap,cur,q1,q2,q3⟩
      . exact .inl hh
      . exact .inr ⟨g,cap,cur,q1,Nat.le_trans hbase q2,q3⟩
    . rcases r2.2 with ⟨hh,_⟩ | ⟨g,cap,cur,q1,q2,q3⟩
      . exact .inr (.inl (by rw [hh];rfl))
      . exact .inr (.inr ⟨g,by rw [q1];rfl,q2⟩)
  . by_cases hroom:n+m<=cap
    . subst hsize;have hfit:n * i.size+news.length<=cur.size:=by rw [hl,hcs,← Nat.add_mul];exact Nat.mul_le_mul_right _ hroom
      have hlen:(xs ++ news).length=(n+m) * i.size:=by rw [List.length_append,hown.1,hl,Nat.add_mul]
      have hr:=OL (P:=P) w t ty e te i ht hi g n cap cur hg a m c news hl hnews h1 hroom hfit;refine ⟨_,_,hr,⟨te,hlen,.inr ⟨g,cap,_,rfl,hbg,setRow_heap w g cur _ te _ hg,hroom,hcm,?_,?_⟩⟩,⟨rfl,rfl,rfl,by simp,fun k _ hk=>setRow_other w g k _ (fun e=>hk (by simp [Value.ownBlock,e]))⟩,.inl rfl⟩
      . simp only [List.size_toArray,List.length_append,List.length_take,List.length_drop,Array.length_toList];omega
      . rw [htake,← hlen];exact List.take_left
    . have holds:∀ j u,xs[j]?=some u->w.cell? ((⟨g,0,none⟩:Addr).add j)=some u:=hown.cells (g:=g) rfl;obtain ⟨v',w',r1,r2,r3⟩:=run_append_arg_grows (P:=P) w t ty e i z size bytes ht hi hz hsize hby hzs hsz ⟨g,0,none⟩ n cap xs hown.1 holds a m c news hl hnews zOM h63 hbytes;refine ⟨v',w',r1,⟨e,r2.1,?_⟩,⟨r3.os,r3.tape,r3.output,r3.size,fun k hk _=>r3.block k hk (by simp)⟩,?_⟩
      . rcases r2.2 with hh | ⟨g,cap,cur,q1,q2,q3⟩
        . exact .inl hh
        . exact .inr ⟨g,cap,cur,q1,Nat.le_trans hbase q2,q3⟩
      . rcases r2.2 with ⟨hh,_⟩ | ⟨g,cap,cur,q1,q2,q3⟩
        . exact .inr (.inl (by rw [hh];rfl))
        . exact .inr (.inr ⟨g,by rw [q1];rfl,q2⟩)
end
def bools (l:List Bool):List Value:=l.map Value.bool
def Reads (w:World)(v:Value)(xs:List Value):Prop:=
  (xs=[]/\∃ ao c,v=.slice ao 0 c/\c<=maxLen/\(ao=none->c=0))\/
  (xs≠[]/\∃ b o c,v=.slice (some ⟨b,o,none⟩) xs.length c/\xs.length<=c/\c<=maxLen/\∀ i u,xs[i]?=some u->w.cell? ⟨b,o+i,none⟩=some u)
theorem Reads.shape {w:World}{v:Value}{xs:List Value}(h:Reads w v xs):∃ ao c,v=.slice ao xs.length c:=by
  rcases h with ⟨rfl,ao,c,hv,_⟩|⟨_,b,o,c,hv,_⟩
  . exact ⟨ao,c,hv⟩
  . exact ⟨some ⟨b,o,none⟩,c,hv⟩
theorem Reads.len {w:World}{v:Value}{xs:List Value}(h:Reads w v xs):xs.length<=maxLen:=by
  rcases h with ⟨rfl,_⟩|⟨_,b,o,c,_,h1,h2,_⟩
  . simp
  . omega
theorem Reads.same {w w':World}{v:Value}{xs:List Value}(h:Reads w v xs)(hb:∀ k,v.ownBlock=some k->k < w.heap.size->w'.heap[k]?=w.heap[k]?):Reads w' v xs:=by
  rcases h with h|⟨hne,b,o,c,rfl,h1,h2,h3⟩
  . exact .inl h
  . refine .inr ⟨hne,b,o,c,rfl,h1,h2,fun i u hu=>?_⟩;have hc:=h3 i u hu;exact (World.cell?_of_block (a:=⟨b,o+i,none⟩) (w:=w) (hb b rfl (World.block_lt_of_cell? w _ hc))).trans hc
theorem Fa.reads {w:World}{base:Nat}{v:Value}{n:Nat}{xs:List Value}(h:Fa w base 1 v n xs):Reads w v xs:=by
  obtain ⟨te,h⟩:=h;have hl:=h.1;rcases h.2 with ⟨rfl,rfl⟩|⟨g,cap,cur,rfl,_,hg,h1,h2,_,_⟩
  . exact .inl ⟨List.eq_nil_of_length_eq_zero zOM,none,0,rfl,by unfold maxLen;omega,fun _=>rfl⟩
  . by_cases hx:xs=[]
    . subst hx;obtain rfl:n=0:=by simpa using hl.symm
      exact .inl ⟨rfl,_,_,rfl,h2,fun hh=>by cases hh⟩
    . refine .inr ⟨hx,g,0,cap,by rw [hl,Nat.mul_one],by omega,h2,fun i u hu=>?_⟩;have:=h.cells (g:=g) rfl i u hu;rw [Addr.add_lit] at this;exact this
theorem Oj {P:Program}(w:World)(base:Nat)(t ty e:TypeId)(i:TypeInfo)(z:Value)(bytes:Nat)(ht:P.underlying t=some (.slice e))(hi:P.info? e=some i)(hz:i.zero=some z)(hsize:i.size=1)(hby:i.bytes=bytes)(hzs:z.cells.size=1)(v:Value)(n:Nat)(xs:List Value)(hown:Fa w base 1 v n xs)(sv:Value)(ys:List Value)(hr:Reads w sv ys)(h1:∀ u∈ys,u.oneCell'=true)(h63:n+ys.length<=maxLen)(hbytes:(n+ys.length) * bytes<=140737488355328)(hbase:base<=w.heap.size) :
    ∃ v' w',(Builtin.append_ #[t,t] ty #[v,sv]).run P w=.ok v' w'/\Fa w' base 1 v' (n+ys.length) (xs ++ ys)/\w.grownBy w' v.ownBlock/\
      (v'.ownBlock=v.ownBlock\/v'.ownBlock=none\/∃ k,v'.ownBlock=some k/\w.heap.size<=k):=by
  rcases hr with ⟨rfl,ao,c,rfl,_,hc⟩|⟨_,b,o,c,rfl,_,_,h3⟩
  . cases ao with
    | none=>
      obtain rfl:=hc rfl;have hown':=hown;obtain ⟨te,hown⟩:=hown;have hrun:(Builtin.append_ #[t,t] ty #[v,.slice none 0 0]).run P w=.ok v w:=by
        rcases hown.2 with ⟨rfl,rfl⟩|⟨g,cap,cur,rfl,_,_,hnc,_⟩
        . simp [Builtin.append_,run_underlying ht,sizeOf,typeInfo,hi,Builtin.lenOf,Builtin.firstCells]
        . simp [Builtin.append_,run_underlying ht,sizeOf,typeInfo,hi,Builtin.lenOf,Builtin.firstCells,hnc,storeCells]
      exact ⟨v,w,hrun,by simpa using hown',World.grownBy.refl _ _,.inl rfl⟩
    | some a=>
      obtain ⟨v',w',r1,r2,r3,r4⟩:=Li (P:=P) w base t ty e i z 1 bytes ht hi hz hsize hby hzs (by decide) v n xs hown a 0 c [] rfl (fun j u hu=>by simp at hu) (fun u hu=>by simp at hu) (by simpa using h63) (by simpa using hbytes) hbase;exact ⟨v',w',r1,r2,r3,r4⟩
  . obtain ⟨v',w',r1,r2,r3,r4⟩:=Li (P:=P) w base t ty e i z 1 bytes ht hi hz hsize hby hzs (by decide) v n xs hown ⟨b,o,none⟩ ys.length c ys (by simp) (fun j u hu=>by rw [Addr.add_lit];exact h3 j u hu) h1 h63 hbytes hbase
    exact ⟨v',w',r1,r2,r3,r4⟩
theorem Fa.nil (w:World)(base size:Nat):Fa w base size (.slice none 0 0) 0 []:=⟨0,World.ownsRow_nil _ _ _ _⟩
theorem Fa.blk {w:World}{base size:Nat}{v:Value}{n:Nat}{xs:List Value}(h:Fa w base size v n xs):∀ k,v.ownBlock=some k->base<=k/\k < w.heap.size:=let ⟨_,h⟩:=h;h.lt
theorem Rm {w:World}{b o:Nat}{cs:Array Value}{t:TypeId}{z:Nat × Nat}{u:Value}(h:w.heap[b]?=some (.cells cs t z)):(w.setCell ⟨b,o,none⟩ u).heap[b]?=some (.cells (cs.setIfInBounds o u) t z):=by
  have hlt:=lt_of_block h;have h':w.heap[b]=.cells cs t z:=by simpa [Array.getElem?_eq_getElem hlt] using h
  show (w.heap.modify b _)[b]?=_;rw [Array.getElem?_eq_getElem (by simpa using hlt),Array.getElem_modify_self,h'];rfl
theorem aT {w:World}{b:Nat}{x y u:Value}{t:TypeId}(h:w.heap[b]?=some (.cells #[x,y] t (0,0))):(w.setCell ⟨b,0,none⟩ u).heap[b]?=some (.cells #[u,y] t (0,0)):=Rm h
theorem Uv {w:World}{b:Nat}{x y u:Value}{t:TypeId}(h:w.heap[b]?=some (.cells #[x,y] t (0,0))):(w.setCell ⟨b,1,none⟩ u).heap[b]?=some (.cells #[x,u] t (0,0)):=Rm h
theorem Reads.drew {w:World}{v:Value}{xs:List Value}(h:Reads w v xs):Reads w.drew v xs:=h.same fun _ _ _=>rfl
end Go.Proofs.Yticecinjcajmcaa.BA
namespace Go.Proofs.Yticecinjcajmcaa.BA
open Go.RowKit
end Go.Proofs.Yticecinjcajmcaa.BA
namespace Go.Proofs.Yticecinjcajmcaa.TU
open Go.RowKit
def II (l:List Bool)(k:Nat):List Nat:=(List.range k).filter fun i=>l.getD i false
def LB (l:List Bool):List Nat:=II l l.length
theorem M9 (l:List Bool):II l 0=[]:=rfl
theorem X4 (l:List Bool)(k:Nat)(h:l.getD k false=true):II l (k+1)=II l k ++ [k]:=by unfold II;rw [List.range_succ,List.filter_append];simp only [List.filter_cons,List.filter_nil,h,if_true]
theorem Vv (l:List Bool)(k:Nat)(h:l.getD k false=false):II l (k+1)=II l k:=by unfold II;rw [List.range_succ,List.filter_append];simp only [List.filter_cons,List.filter_nil,h];simp
theorem Uk (l:List Bool)(k:Nat):(II l k).length<=k:=by have:=List.length_filter_le (fun i=>l.getD i false) (List.range k);unfold II;simpa using this
theorem dx (l:List Bool)(k i:Nat)(h:i∈II l k):i < k:=by unfold II at h;rw [List.mem_filter] at h;simpa using h.1
theorem oo (l:List Bool)(i:Nat)(h:i∈LB l):i < l.length/\l.getD i false=true:=by refine ⟨dx _ _ _ h,?_⟩;unfold LB II at h;rw [List.mem_filter] at h;exact h.2
def at_ (t:Int)(n:Nat):Nat:=((t.tmod n+n) % n).toNat
theorem kV (t:Int)(n:Nat)(h:0 < n):-(n:Int) < t.tmod n/\t.tmod n < n/\0<=(t.tmod n+n) % n/\(t.tmod n+n) % n < n:=
  ⟨Int.lt_tmod_of_pos t zOM,Int.tmod_lt_of_pos t zOM,Int.emod_nonneg _ zOM,Int.emod_lt_of_pos _ zOM⟩
theorem j5 (t:Int)(n:Nat)(h:0 < n):at_ t n < n:=by have:=kV t n h;unfold at_;omega
def fIdx (last:Int)(l:List Nat):Nat:=l.findIdx fun (k:Nat)=>decide (last < (k:Int))
def ix (last:Int)(l:List Nat):Int:=if fIdx last l < l.length then (fIdx last l:Int) else -1
def Yq (last:Int)(l:List Nat):Nat:=l.getD (if fIdx last l < l.length then fIdx last l else 0) 0
theorem ru (last:Int)(l:List Nat)(k:Nat)(hk:k < l.length)(h1:last < (l.getD k 0:Nat))(h2:∀ j,j < k->((l.getD j 0:Nat):Int)<=last):ix last l=k/\Yq last l=l.getD k 0:=by
  have e:fIdx last l=k:=by
    unfold fIdx;rw [List.findIdx_eq hk];refine ⟨by simpa [hk] using h1,fun j hj=>?_⟩;have:=h2 j hj
    simpa [show j < l.length by omega] using this
  unfold ix Yq;rw [e,if_pos hk,if_pos hk];exact ⟨rfl,rfl⟩
theorem jQ (last:Int)(l:List Nat)(h2:∀ j,j < l.length->((l.getD j 0:Nat):Int)<=last):ix last l=-1/\Yq last l=l.getD 0 0:=by
  have e:fIdx last l=l.length:=by
    unfold fIdx;rw [List.findIdx_eq_length];intro x hx;obtain ⟨j,hj,rfl⟩:=List.getElem_of_mem hx;have:=h2 j hj
    simpa [hj] using this
  unfold ix Yq;rw [e,if_neg zOM,if_neg zOM];exact ⟨rfl,rfl⟩
theorem Z8 (last:Int)(l:List Nat)(hl:0 < l.length):∃ x:Nat,x < l.length/\(if ix last l < 0 then 0 else ix last l)=(x:Int)/\Yq last l=l.getD x 0:=by
  unfold ix Yq;by_cases h:fIdx last l < l.length
  . rw [if_pos h,if_pos h];exact ⟨_,h,if_neg zOM,rfl⟩
  . rw [if_neg h,if_neg h];exact ⟨0,hl,if_pos zOM,rfl⟩
def KC (left:List Int)(last:Int)(l:List Nat):Int:=
  if l=[] then -1 else match left with
    | t :: _=>(l.getD (at_ t l.length) 0:Int)
    | []=>(Yq last l:Int)
def KH (left:List Int)(l:List Nat):List Int:=if l=[] then left else left.tail
def Kw (left:List Int)(last:Int)(l:List Nat):Int:=if l=[] then last else KC left last l
end Go.Proofs.Yticecinjcajmcaa.TU
namespace Go.Proofs.Yticecinjcajmcaa
open Go Go.Conc Go.LT Go.LC Go.LK
open TU
section
def Ud (hl:List Int)(st:List Nat)(k:Nat):Bool:=decide (k < hl.length) && (decide (0 < hl.getD k 0) && decide (hl.getD k 0<=(st.getD k 0:Nat)))
def M5 (hl:List Int)(st:List Nat)(dn:List Bool)(k:Nat):Bool:=!(dn.getD k false) && !(Ud hl st k)
structure Rs (Cl Cs Sg:Type) where
  xs:List (Wk Cl Cs)
  σ:Sg
  left:List Int
  last:Int
  s:Nat
  st:List Nat
  hl:List Int
section
variable {Cl Cs Sg:Type}(D:Dr Cl Cs Sg)
def Rs.rd (z:Rs Cl Cs Sg):List Bool:=(List.range z.xs.length).map (M5 z.hl z.st (z.xs.map fun x=>x.over))
def Rs.pick (z:Rs Cl Cs Sg):Nat:=(KC z.left z.last (LB z.rd)).toNat
def Rs.turn (z:Rs Cl Cs Sg)(k:Nat)(x:Wk Cl Cs):Rs Cl Cs Sg:=
  ⟨z.xs.set k (D.hold x (z.s+1) z.σ).1,(D.hold x (z.s+1) z.σ).2.1,KH z.left (LB z.rd),Kw z.left z.last (LB z.rd),z.s+1,z.st.set k (z.st.getD k 0+1),z.hl⟩
def Rs.next (z:Rs Cl Cs Sg):Rs Cl Cs Sg:=
  match z.xs[z.pick]? with
  | some x=>z.turn D z.pick x
  | none=>z
def Rs.go (most:Nat):Nat->Rs Cl Cs Sg->Rs Cl Cs Sg
  | 0,z=>z
  | f+1,z=>if z.rd.any id=true/\z.s < most then Rs.go most f (z.next D) else z
def Rs.new (plans:List (List Cl))(σ:Sg)(turns hl:List Int):Rs Cl Cs Sg:=⟨plans.zipIdx.map fun p=>Wk.new p.2 p.1,σ,turns,-1,0,List.replicate plans.length 0,hl⟩
theorem oU {l:List Bool}:LB l≠[]↔l.any id=true:=by
  unfold LB II;rw [ne_eq,List.filter_eq_nil_iff,List.any_eq_true];constructor
  . intro h;obtain ⟨i,hi⟩:=Classical.not_forall.1 h;obtain ⟨h1,h2⟩:=Classical.not_imp.1 hi;rw [List.mem_range] at h1;refine ⟨l[i],List.getElem_mem h1,?_⟩;simpa [List.getD,h1] using h2
  . rintro ⟨x,hx,hx1⟩ h;obtain ⟨i,hi,rfl⟩:=List.getElem_of_mem hx;have:=h i (List.mem_range.2 hi);simp [List.getD,hi] at this;simp [this] at hx1
theorem Z7 {left:List Int}{last:Int}{l:List Bool}(h:LB l≠[]):∃ k:Nat,KC left last (LB l)=k/\k < l.length/\l.getD k false=true:=by
  have hpos:0 < (LB l).length:=List.length_pos_iff.2 h;have key:∀ x,x < (LB l).length->(LB l).getD x 0 < l.length/\l.getD ((LB l).getD x 0) false=true:=fun x hx=>oo l _ (by
    have e:(LB l).getD x 0=(LB l)[x]:=by simp [List.getD,hx]
    rw [e];exact List.getElem_mem hx)
  unfold KC;rw [if_neg h];cases left with
  | cons t r=>
    have hx:=j5 t _ hpos;exact ⟨_,rfl,(key _ hx).1,(key _ hx).2⟩
  | nil=>
    obtain ⟨x,hx,_,hn⟩:=Z8 last (LB l) hpos;refine ⟨_,rfl,?_⟩;rw [hn];exact key x hx
structure gq (x:Wk Cl Cs):Prop where
  todo:x.over=false->x.cur=none->x.todo≠[]
  bg:x.cur=none->x.bg=0
  cur:x.over=true->x.cur=none
theorem gq.new (k:Nat)(l:List Cl):gq (Wk.new k l:Wk Cl Cs):=by
  refine ⟨fun h _=>?_,fun _=>rfl,fun _=>rfl⟩;cases l with
  | nil=>cases h
  | cons=>simp [Wk.new]
theorem gq.fin (x:Wk Cl Cs)(e:An × Bool):gq (x.fin e):=by
  refine ⟨fun h _=>?_,fun _=>rfl,fun _=>rfl⟩;have h:(e.2 || x.todo.isEmpty)=false:=h;have:x.todo.isEmpty=false:=by cases he:e.2 <;> simp_all
  intro e0;have e0:x.todo=[]:=e0;rw [e0] at this;cases this
theorem TK {x:Wk Cl Cs}(h:x.over=false)(r:Sg × (Cs ⊕ (An × Bool))):gq (x.land r).1/\(x.land r).2.2=(x.land r).1.over:=by
  obtain ⟨σ,r⟩:=r;cases r with
  | inl cs=>
    rw [Wk.Ml];refine ⟨⟨fun _ h=>(by cases h),fun h=>(by cases h),fun h'=>?_⟩,h.symm⟩;have h':x.over=true:=h';rw [h] at h';cases h'
  | inr e=>rw [Wk.Mr];exact ⟨.fin x e,rfl⟩
theorem fQ {x:Wk Cl Cs}(hw:gq x)(h:x.over=false)(s:Nat)(σ:Sg):gq (D.hold x s σ).1/\(D.hold x s σ).2.2=(D.hold x s σ).1.over:=by
  unfold Dr.hold;cases hc:x.cur with
  | some cs=>exact TK (x:={ x with st:=s,ow:=x.ow+1 }) h _
  | none=>
    cases ht:x.todo with
    | nil=>exact absurd ht (hw.todo h hc)
    | cons c l=>
      dsimp only;cases hi:D.init x.k c σ with
      | inl cs=>dsimp only;refine TK ?_ _;exact h
      | inr e=>dsimp only;refine TK ?_ _;exact h
theorem Rs.iD {most f:Nat}{z:Rs Cl Cs Sg}(h:z.rd.any id=false\/most<=z.s):Rs.go D most f z=z:=by
  cases f with
  | zero=>rfl
  | succ f=>
    rw [Rs.go,if_neg];rintro ⟨h1,h2⟩;rcases h with h|h
    . rw [h] at h1;cases h1
    . omega
theorem Rs.go_step {most f:Nat}{z:Rs Cl Cs Sg}(h1:z.rd.any id=true)(h2:z.s < most):Rs.go D most (f+1) z=Rs.go D most f (z.next D):=by rw [Rs.go,if_pos ⟨h1,h2⟩]
end
end
end Go.Proofs.Yticecinjcajmcaa
namespace Go.LT
open Go Go.Conc
section
variable [Host]
variable {P:Program}{main:Bool}{Γ:Type}{S:EL P main Γ}{γ:Γ}{W:World}
def Behind (S:EL P main Γ)(γ:Γ)(mk:Array Value->Goroutine)(e:Exit)(a:Act)(W:World):Prop:=e=.normal/\JW S.base γ (mk a.tmps) W
theorem EL.oq {f:FuncId}{κ:CallKind}{k:List Item}{cs:List Frame}{ds:List Deferred}{tm:Array Value}{ops:Array Oper}(j:Nat)(l:List Oper)(L:List FuncId)(hL:∀ f∈L,Lets P f)(hf:f∈L)(hκ:κ≠.early){is rest:List Nat}(his:is=List.range' j l.length ++ rest)(hl:∀ i o,l[i]?=some o->ops[j+i]?=some o)(hok:l.all (J5 P)=true)(h:∀ W₁,Alike W W₁->wpListIn (Fence.list L none) 0 P ops (Behind S γ fun tm=>G (FT f tm (.inRegion ops rest :: k) ds .run κ) cs) l ⟨tm,[]⟩ W₁):JW S.base γ (G (FT f tm (.inRegion ops is :: k) ds .run κ) cs) W:=by
  subst his;intro w hw;have zT:FH P (.inRegion ops (List.range' j l.length))=true:=by show ((List.range' j l.length).all fun i=>(ops[i]?).all (J5 P))=true;rw [List.all_eq_true] at hok ⊢;intro i hi;obtain ⟨m,hm,rfl⟩:=List.mem_range'.1 hi;have hlo:l[m]?=some l[m]:=List.getElem?_eq_getElem hm;have:=hl m _ hlo;simp only [Nat.one_mul,this,Option.all_some];exact hok _ (List.getElem_mem hm)
  refine S.way _ _ _ ((SL (R:=S.R γ) (D:=S.D γ) (F:=(·∈L)) (Fn:=Fence.list L none) (n:=0) (tm:=tm) (Q:=Behind S γ fun tm=>G (FT f tm (.inRegion ops rest :: k) ds .run κ) cs) (S.turns γ) (S.kept γ) hL (fun _ h=>h) rfl rfl rfl hf hκ zT (l':=rest) (k:=k) (ds:=ds) (cs:=cs) hw.2 (fun e a w q=>.inl q.1) fun τ=>?_).mono fun g w' hst=>?_)
  . obtain ⟨⟨τ',d',rfl⟩,_⟩:=hw;rw [Ms l j hl];exact h _ ⟨τ,0,rfl⟩
  . obtain ⟨e,tm',τ,d,hR,⟨rfl,hq⟩,hg⟩:=hst;have hs:GQ (S.B γ) w' (sh (D7 (S.B γ) w') τ d):=⟨⟨τ,d,rfl⟩,hR⟩
    exact hg ▸ hq w' hs
end
end Go.LT
namespace Go.LT
open Go Go.Conc
abbrev Host.only (f:FuncId):Host:=⟨(· == f)⟩
section
variable {P:Program}{main:Bool}{Γ:Type}{S:EL P main Γ}{γ:Γ}{W:World}
theorem NY {f:FuncId}{L:List FuncId}(hi:P.inits.idxOf? f=none)(hL:∀ g∈L,@Lets (Host.only f) P g):∀ g∈f :: L,@Lets (Host.only f) P g:=fun g hg=>by
  rcases List.mem_cons.1 hg with rfl|h
  . exact ⟨hi,.inr (.inr (by show (g == g)=true;simp))⟩
  . exact hL g h
theorem EL.jB {f:FuncId}{κ:CallKind}{k:List Item}{cs:List Frame}{ds:List Deferred}{tm:Array Value}{ops:Array Oper}(j:Nat)(l:List Oper)(L:List FuncId)(hL:∀ g∈L,@Lets (Host.only f) P g)(hi:P.inits.idxOf? f=none)(hκ:κ≠.early){is rest:List Nat}(his:is=List.range' j l.length ++ rest)(hl:∀ i o,l[i]?=some o->ops[j+i]?=some o)(hok:l.all (@J5 (Host.only f) P)=true)(h:∀ W₁,Alike W W₁->wpListIn (Fence.list (f :: L) none) 0 P ops (Behind S γ fun tm=>G (FT f tm (.inRegion ops rest :: k) ds .run κ) cs) l ⟨tm,[]⟩ W₁):JW S.base γ (G (FT f tm (.inRegion ops is :: k) ds .run κ) cs) W:=
  @EL.oq (Host.only f) P main Γ S γ W f κ k cs ds tm ops j l (f :: L) (NY hi hL) List.mem_cons_self hκ is rest his hl hok h
end
end Go.LT
namespace Go.LT
open Go Go.Conc
section
variable {P:Program}{main:Bool}{Γ:Type}{S:Ou P main Γ}{γ:Γ}{W:World}{b:Frame}{a:Act}{k:List Item}{cs:List Frame}
theorem JL.ZL {ops:Array Oper}{i:Nat}{rest:List Nat}{o:Oper}{f:FuncId}{fn:Func}{x:Operand}{args:Array Operand}{ats:Array TypeId}{caps:Array Value}(ho:ops[i]?=some o)(hw:Region.wanted o (yielded ops a.tmps)=true)(hk:b.kind≠.early)(hop:o.op=.call { callee:=.value x,args,argTypes:=ats })(hx : a.eval x = .func (.func f) #[] caps)(hf : P.funcs[f]? = some fn)(hname : (fn.name == "runtime.NumGoroutine") = false)(hb : fn.body.isNone = false)(h:JL S γ (G (Frame.enter P f (args.map a.eval ++ caps) .normal) (b.at a (.inRegion ops (i :: rest) :: k) :: cs)) W) :
    JL S γ (G (b.at a (.inRegion ops (i :: rest) :: k)) cs) W:=by
  have h1 : ¬ fn.name = "runtime.NumGoroutine" := by simpa using hname
  have h2:¬ fn.body=none:=by cases hx:fn.body <;> simp_all
  have hr:∀ w,(execOp a.eval o).run P w=.ok (.enter f (args.map a.eval ++ caps)) w:=fun w=>by unfold execOp;simp [hop,resolve,Deferred.ofValue,invoke,callFunc,hf,h1,h2,hx]
  have he:∀ w es,(execOp a.eval o).events P w es=es:=fun w es=>by unfold execOp;simp [hop,resolve,Deferred.ofValue,invoke,callFunc,hf,h1,h2,hx]
  refine .ctl rfl (fun w=>?_) h;rw [stepG_enter ho hw hk (hr w)];have:listed P b.fn a o w=#[]:=by unfold listed;rw [he];exact seen_none P _
  rw [this]
end
end Go.LT
namespace Go.LK
open Go Go.Conc Go.LT Go.LC
open Go.ConcN (WgLive)
section
section
variable {P:Program}{ρ:Rn}{W:World}
abbrev GA (ρ:Rn)(P:Program)(m:Nat)(g:Goroutine)(w:World):Prop:=Goes P false (RX ρ.ty ρ.Wg) DA (KQ P ρ.ty ρ.Wg) m g w
def FV (ρ:Rn)(P:Program)(m:Nat)(g:Goroutine):Prop:=∀ w,WgLive ρ.ty ρ.Wg w->GA ρ P m g w
theorem FV.ctl {m:Nat}{g g':Goroutine}(hs:g.status=.running)(h:∀ w,WgLive ρ.ty ρ.Wg w->stepG P false g w=.go g' w #[])(hJ:FV ρ P m g'):FV ρ P (m+1) g:=fun w hl=>
  Goes.step hs fun w₁ h₁=>by rw [h w₁ (h₁.live hl)];exact ⟨⟨rfl,.inl rfl⟩,hJ _ (h₁.live hl)⟩
def SA (ρ:Rn)(P:Program):Ou P false Unit where
  B:=fun _=>Qe
  J:=fun _ g _=>∃ m,FV ρ P m g
  live:=fun _=>WgLive ρ.ty ρ.Wg
  idle:=fun γ g g' W hs h hJ w hw=>by obtain ⟨m,hg⟩:=hJ w hw;exact ⟨m+1,hg.ctl hs h⟩
theorem SA.of {g:Goroutine}(h:∀ W,JL (SA ρ P) () g W):∃ m,FV ρ P m g:=h (D7 Qe default) default ⟨.refl _,IU _⟩
theorem SA.to {g:Goroutine}(h:∃ m,FV ρ P m g):JL (SA ρ P) () g W:=fun _ _=>h
structure LvE (ty:TypeId)(ch:List PanicEntry):Prop where
  ex:∃ older:List PanicEntry,(∀ e∈older,e.goexit=false)/\ch=⟨.iface ty (.agg #[]),false,false⟩ :: older
def Ve (ρ:Rn)(P:Program)(ty:TypeId)(c:Frame)(cs:List Frame):Prop:=∀ ch,LvE ty ch->∃ m,FV ρ P m (G (c.raise ch) cs)
theorem Ve.pop {ty:TypeId}{f:FuncId}{fn:Func}{tm:Array Value}{k:List Item}{c:Frame}{cs:List Frame}(hf:P.funcs[f]?=some fn)(h:Ve ρ P ty c cs):Ve ρ P ty ((base f).at ⟨tm,[]⟩ k) (c :: cs):=fun ch hch=>by obtain ⟨m,hm⟩:=h ch hch;refine ⟨m+1,FV.ctl (g':=G (c.raise ch) cs) rfl (fun w _=>?_) hm⟩;show stepG P false (G (FT f tm k [] (.panicking ch) .normal) (c :: cs)) w=_;simp [G,FT,stepG,unwind,Frame.catches,hf]
theorem JL.Ii {main:Bool}{Γ:Type}{S:Ou P main Γ}{γ:Γ}{b:Frame}{a:Act}{k:List Item}{cs:List Frame}{ops:Array Oper}{i:Nat}{rest:List Nat}{o:Oper}(v:Value)(ho:ops[i]?=some o)(hw:Region.wanted o (yielded ops a.tmps)=true)(hk:b.kind≠.early)(hr:∀ w,(execOp a.eval o).runT P w #[]=(.ok (.value v) w,#[]))(h:JL S γ (G (b.at (a.put o.dst v) (.inRegion ops rest :: k)) cs) W):JL S γ (G (b.at a (.inRegion ops (i :: rest) :: k)) cs) W:=
  JL.value v ho hw hk (fun w _=>by rw [← Sem.runT_fst (es:=#[]),hr]) (fun w _ e he=>by
    have:(execOp a.eval o).events P w #[]=#[]:=by show ((execOp a.eval o).runT P w #[]).2=#[];rw [hr]
    rw [this] at he;simp at he) h
theorem OJ {main:Bool}{b:Frame}{a:Act}{k:List Item}{cs:List Frame}{w:World}{ops:Array Oper}{i:Nat}{rest:List Nat}{o:Oper}{v:Value}(ho:ops[i]?=some o)(hw:Region.wanted o (yielded ops a.tmps)=true)(hk:b.kind≠.early)(hr:(execOp a.eval o).run P w=.halt (.panic v) w):stepG P main (G (b.at a (.inRegion ops (i :: rest) :: k)) cs) w=.go (G ((b.at a (.inRegion ops (i :: rest) :: k)).raise [⟨v,false,false⟩]) cs) w (listed P b.fn a o w):=by
  have hk':(b.kind == CallKind.early)=false:=by simpa using hk
  rw [stepG_oper ho hw];simp [stepG.apply,hr,G,Frame.at,hk',GStep.after,listed]
end
end
end Go.LK
namespace Go.LK
open Go Go.Conc Go.LT Go.LC
structure Mem (Sg:Type) where
  Sh:Nat->Prop
  Inv:Sg->World->Prop
  rows:∀ s w b,Sh b->Inv s w->∃ c e f,w.heap[b]?=some (.cells c e f)
  eq:∀ s w w',(∀ b,Sh b->K3 w w' b)->Inv s w->Inv s w'
structure Gn {P:Program}{main:Bool}{Γ:Type}(S:EL P main Γ){Cl Cs Sg:Type}(D:Dr Cl Cs Sg)(m:Mem Sg)(TQ:FuncId) where
  St:Type
  γ:St->Γ
  wv:Value
  num:Nat
  At:St->Sg->World->Prop
  core:St->Nat->Prop
  own:St->Nat->Prop
  kept:St->Nat->Prop
  n0:St->Nat
  fuel:St->Nat
  Le:St->St->Prop
  Rw:St->Sg->Cl->Prop
  Step:St->Sg->Cs->Prop
  Zp:St->Sg × (Cs ⊕ (An × Bool))->Prop
  End:St->Sg->An × Bool->Prop
  Leaves:Frame->List Frame->Prop
  add:St->Nat->St
  refl:∀ s,Le s s
  trans:∀ s s' s'',Le s s'->Le s' s''->Le s s''
  Sz:∀ {s σ c cs},Rw s σ c->D.init num c σ=.inl cs->Step s σ cs
  ends:∀ {s σ c e},Rw s σ c->D.init num c σ=.inr e->End s σ e
  more:∀ {s σ cs},Zp s (σ,.inl cs)->Step s σ cs
  done:∀ {s σ e},Zp s (σ,.inr e)->End s σ e
  inv:∀ {s σ W},At s σ W->m.Inv σ W
  size:∀ {s σ W},At s σ W->n0 s<=W.heap.size
  row:∀ {s σ W b},At s σ W->own s b->¬ m.Sh b/\∃ c e f,W.heap[b]?=some (.cells c e f)
  MG:∀ {s σ W b},At s σ W->core s b->own s b
  IV:∀ {s σ W b},At s σ W->kept s b->own s b
  put:∀ {s σ W σ' W'},At s σ W->m.Inv σ' W'->(∀ b,core s b->W'.heap[b]?=W.heap[b]?)->(∀ b,own s b->∃ c e f,W'.heap[b]?=some (.cells c e f))->W.heap.size<=W'.heap.size->At s σ' W'
  XQ:∀ {s σ W N},At s σ W->n0 s<=N->¬ m.Sh N->(∃ c e f,W.heap[N]?=some (.cells c e f))->At (add s N) σ W/\Le s (add s N)/\γ (add s N)=γ s/\fuel (add s N)=fuel s/\(∀ b,core (add s N) b↔core s b)/\(∀ b,own (add s N) b↔own s b\/b=N)/\(∀ b,kept (add s N) b↔kept s b\/b=N)
  VA:∀ {s N σ c},Rw s σ c->Rw (add s N) σ c
  Tj:∀ {s N σ cs},Step s σ cs->Step (add s N) σ cs
  WQ:∀ {s N r},Zp s r->Zp (add s N) r
  Wt:∀ {s N σ e},End s σ e->End (add s N) σ e
  pop:∀ {f:FuncId} {fn:Func} {tm:Array Value} {k:List Item} {c:Frame} {cs:List Frame},P.funcs[f]?=some fn->Leaves c cs->Leaves ((base f).at ⟨tm,[]⟩ k) (c :: cs)
  step:∀ {s σ W cs} {c:Frame} {k:List Frame},At s σ W->Step s σ cs->Leaves c k->
    (∀ s' σ' W',At s' σ' W'->Le s s'->core s'=core s->own s'=own s->kept s'=kept s->(∀ b,kept s b->W'.heap[b]?=W.heap[b]?)->W.heap.size<=W'.heap.size->fuel s' < fuel s->Zp s' (D.next num cs σ')->JW S.base (γ s') (G (c.finish (.tuple #[])) k) W')->
    JW S.base (γ s) (G (Frame.enter P TQ #[wv] .normal) (c :: k)) W
end Go.LK
namespace Go.LT
open Go Go.Conc
def EL.L {P:Program}{main:Bool}{Γ:Type}(S:EL P main Γ):Ou P main Γ where
  B:=S.B
  J:=S.J
  live:=fun _ _=>True
  idle:=fun γ g g' W hs h hJ=>S.base.silent γ g g' W hs (fun w=>h w trivial) hJ
section
variable {P:Program}{main:Bool}{Γ:Type}{S:EL P main Γ}{γ:Γ}{W:World}
def xY (S:EL P main Γ)(γ:Γ)(mk:Array Value->Goroutine)(mr:Array Value->List Item->Goroutine):Exit->Act->World->Prop
  | .normal,a,W=>JW S.base γ (mk a.tmps) W
  | .ret,a,W=>∀ Y,JW S.base γ (mr a.tmps Y) W
  | _,_,_=>False
theorem EL.Aai {f:FuncId}{κ:CallKind}{k:List Item}{cs:List Frame}{ds:List Deferred}{tm:Array Value}{c:Code}(L:List FuncId)(hL:∀ g∈L,@Lets (Host.only f) P g)(hi:P.inits.idxOf? f=none)(hκ:κ≠.early)(hok:@Gg (Host.only f) P c=true)(h:∀ W₁,Alike W W₁->c.wpIn (Fence.list (f :: L) none) 0 P (xY S γ (fun tm=>G (FT f tm k ds .run κ) cs) (fun tm Y=>G (FT f tm Y ds .returning κ) cs)) ⟨tm,[]⟩ W₁):JW S.base γ (G (FT f tm (.code c :: k) ds .run κ) cs) W:=by
  refine @Runs.lone (Host.only f) P main Γ S (f :: L) γ W ⟨tm,ds⟩ (fun e a γ' W'=>γ'=γ/\a.defers=ds/\xY S γ (fun tm=>G (FT f tm k ds .run κ) cs) (fun tm Y=>G (FT f tm Y ds .returning κ) cs) e a W') (NY hi hL) c hok (fun W₁ ha=>?_) f κ k cs List.mem_cons_self hκ fun e a' γ' W' q=>?_
  . refine Code.wpIn_mono (fun e a W' hb=>?_) (h W₁ ha);cases e with
    | normal=>exact ⟨rfl,rfl,hb⟩
    | ret=>exact ⟨rfl,rfl,hb⟩
    | _=>exact hb.elim
  . obtain ⟨rfl,h1,h2⟩:=q;cases e with
    | normal=>
      show JW S.base γ' (G (FT f a'.tmps k a'.defers .run κ) cs) W';rw [h1];exact h2
    | ret=>
      intro Y;show JW S.base γ' (G (FT f a'.tmps Y a'.defers .returning κ) cs) W';rw [h1];exact h2 Y
    | _=>exact h2.elim
def aR (S:EL P main Γ)(γ:Γ)(b:Frame)(ds:List Deferred)(k:List Item)(cs:List Frame):Exit->Act->World->Prop
  | .normal,a,W=>JL S.L γ (G (b.at ⟨a.tmps,ds⟩ k) cs) W
  | .ret,a,W=>∀ Y,JL S.L γ (G { b.at ⟨a.tmps,ds⟩ Y with mode:=.returning } cs) W
  | _,_,_=>False
theorem EL.EJ {b:Frame}{k:List Item}{cs:List Frame}{ds:List Deferred}{tm:Array Value}{c:Code}(L:List FuncId)(hL:∀ g∈L,@Lets (Host.only b.fn) P g)(hi:P.inits.idxOf? b.fn=none)(hκ:b.kind≠.early)(hok:@Gg (Host.only b.fn) P c=true)(h:∀ W₁,Alike W W₁->c.wpIn (Fence.list (b.fn :: L) none) 0 P (aR S γ b ds k cs) ⟨tm,[]⟩ W₁):JL S.L γ (G (b.at ⟨tm,ds⟩ (.code c :: k)) cs) W:=by
  show JW S.base γ (G (FT b.fn tm (.code c :: k) ds .run b.kind) cs) W;refine EL.Aai L hL hi hκ hok fun W₁ ha=>Code.wpIn_mono (fun e a W' hb=>?_) (h W₁ ha);cases e with
  | normal=>exact hb
  | ret=>exact hb
  | _=>exact hb.elim
theorem EL.xq {b:Frame}{k:List Item}{cs:List Frame}{ds:List Deferred}{tm:Array Value}{ops:Array Oper}(j:Nat)(l:List Oper)(L:List FuncId)(hL:∀ g∈L,@Lets (Host.only b.fn) P g)(hi:P.inits.idxOf? b.fn=none)(hκ:b.kind≠.early){is rest:List Nat}(his:is=List.range' j l.length ++ rest)(hl:∀ i o,l[i]?=some o->ops[j+i]?=some o)(hok:l.all (@J5 (Host.only b.fn) P)=true)(h:∀ W₁,Alike W W₁->wpListIn (Fence.list (b.fn :: L) none) 0 P ops (Behind S γ fun tm=>G (b.at ⟨tm,ds⟩ (.inRegion ops rest :: k)) cs) l ⟨tm,[]⟩ W₁):JL S.L γ (G (b.at ⟨tm,ds⟩ (.inRegion ops is :: k)) cs) W:=by
  show JW S.base γ (G (FT b.fn tm (.inRegion ops is :: k) ds .run b.kind) cs) W;exact EL.jB j l L hL hi hκ his hl hok h
theorem EL.GU {b:Frame}{k:List Item}{cs:List Frame}{ds:List Deferred}{tm:Array Value}{ops:Array Oper}(j:Nat)(L:List FuncId)(hL:∀ g∈L,@Lets (Host.only b.fn) P g)(hi:P.inits.idxOf? b.fn=none)(hκ:b.kind≠.early){is:List Nat}(his:is=List.range' j (ops.toList.drop j).length)(hok:(ops.toList.drop j).all (@J5 (Host.only b.fn) P)=true)(h:∀ W₁,Alike W W₁->wpListIn (Fence.list (b.fn :: L) none) 0 P ops (Behind S γ fun tm=>G (b.at ⟨tm,ds⟩ (.inRegion ops [] :: k)) cs) (ops.toList.drop j) ⟨tm,[]⟩ W₁):JL S.L γ (G (b.at ⟨tm,ds⟩ (.inRegion ops is :: k)) cs) W:=
  EL.xq j (ops.toList.drop j) L hL hi hκ (rest:=[]) (by rw [his,List.append_nil]) (fun i o ho=>by rw [List.getElem?_drop] at ho;rw [← Array.getElem?_toList];exact ho) hok h
theorem YM {B:Hid}{w W:World}{ad:Addr}{v:Value}(h:GQ B w W)(hc:W.cell? ad=some v):B ad.block=false/\w.cell? ad=some v:=by
  obtain ⟨⟨τ,d,rfl⟩,hR⟩:=h;have hc':(D7 B w).cell? ad=some v:=hc;cases hB:B ad.block with
  | true=>rw [I6 hR hB] at hc';cases hc'
  | false=>exact ⟨rfl,by rw [← ED hB];exact hc'⟩
theorem EL.read {b:Frame}{a:Act}{k:List Item}{cs:List Frame}{ops:Array Oper}{i:Nat}{rest:List Nat}{o:Oper}{ad:Addr}(v:Value)(ho:ops[i]?=some o)(hw:Region.wanted o (yielded ops a.tmps)=true)(hk:b.kind≠.early)(hc:W.cell? ad=some v)(hr:∀ w,w.cell? ad=some v->(execOp a.eval o).run P w=.ok (.value v) w)(he:∀ w,w.cell? ad=some v->∀ e∈(execOp a.eval o).events P w #[],e=⟨.cell ad,false,false⟩)(hJ:JL S.L γ (G (b.at (a.put o.dst v) (.inRegion ops rest :: k)) cs) W):JL S.L γ (G (b.at a (.inRegion ops (i :: rest) :: k)) cs) W:=
  S.step rfl fun w hs=>by obtain ⟨hB,hc'⟩:=YM hs hc;exact ⟨_,w,_,stepG_value ho hw hk (hr w hc'),Kept.refl _ _,fun e h=>by rw [he w hc' e (mem_listed h)];exact ⟨hB,EN hc',fun h=>by cases h⟩,W,hs,hJ⟩
theorem JL.back {S:Ou P main Γ}{b:Frame}{tm:Array Value}{Y:List Item}{c:Frame}{cs:List Frame}{fn:Func}{v:Value}(hn:b.kind=.normal)(hf:P.funcs[b.fn]?=some fn)(hr:∀ w,(results fn tm).runT P w #[]=(.ok v w,#[]))(h:JL S γ (G (c.finish v) cs) W) :
    JL S γ (G { b.at ⟨tm,[]⟩ Y with mode:=.returning } (c :: cs)) W:=
  .ctl rfl (fun w=>stepG_leave hn rfl hf (by rw [← Sem.runT_fst (es:=#[]),hr]) (by show ((results fn tm).runT P w #[]).2=#[];rw [hr])) h
end
end Go.LT
namespace Go.LK
open Go Go.Conc Go.LT Go.LC
section
variable {P:Program}{main:Bool}{Γ:Type}{S:EL P main Γ}{Cl Cs Sg:Type}{D:Dr Cl Cs Sg}{m:Mem Sg}{TQ:FuncId}
structure Gn.On (I:Gn S D m TQ)(s:I.St)(W:World)(s':I.St)(W':World):Prop where
  le:I.Le s s'
  core:∀ b,I.core s' b↔I.core s b
  kept:∀ b,I.kept s b->I.kept s' b/\W'.heap[b]?=W.heap[b]?
  size:W.heap.size<=W'.heap.size
  fuel:I.fuel s'<=I.fuel s
theorem Gn.On.refl (I:Gn S D m TQ)(s:I.St)(W:World):I.On s W s W:=⟨I.refl s,fun _=>.rfl,fun b h=>⟨h,rfl⟩,Nat.le_refl _,Nat.le_refl _⟩
theorem Gn.On.trans {I:Gn S D m TQ}{s s' s'':I.St}{W W' W'':World}(h:I.On s W s' W')(k:I.On s' W' s'' W''):I.On s W s'' W'':=
  ⟨I.trans _ _ _ h.le k.le,fun b=>(k.core b).trans (h.core b),fun b hb=>⟨(k.kept b (h.kept b hb).1).1,(k.kept b (h.kept b hb).1).2.trans (h.kept b hb).2⟩,Nat.le_trans h.size k.size,Nat.le_trans k.fuel h.fuel⟩
theorem Gn.line (I:Gn S D m TQ){s:I.St}{σ:Sg}{W:World}{cs:Cs}{c:Frame}{k:List Frame}(hA:I.At s σ W)(hS:I.Step s σ cs)(hL:I.Leaves c k)(hJ:∀ s' σ' W',I.At s' σ' W'->I.On s W s' W'->I.fuel s' < I.fuel s->(∀ b,I.own s' b↔I.own s b)->I.Zp s' (D.next I.num cs σ')->JW S.base (I.γ s') (G (c.finish (.tuple #[])) k) W') :
    JW S.base (I.γ s) (G (Frame.enter P TQ #[I.wv] .normal) (c :: k)) W:=
  I.step hA hS hL fun s' σ' W' a1 a2 a3 a4 a5 a6 a7 a8 a9=>hJ s' σ' W' a1 ⟨a2,fun b=>by rw [a3],fun b hb=>⟨by rw [a5];exact hb,a6 b hb⟩,a7,Nat.le_of_lt a8⟩ a8 (fun b=>by rw [a4]) a9
theorem Gn.lay (I:Gn S D m TQ){s:I.St}{σ:Sg}{W W':World}{N:Nat}(hA:I.At s σ W)(hN:N=W.heap.size)(hr:∃ c e f,W'.heap[N]?=some (Obj.cells c e f))(ho:∀ b,b < W.heap.size->W'.heap[b]?=W.heap[b]?)(hs:W.heap.size<=W'.heap.size) :
    ∃ s',I.At s' σ W'/\I.On s W s' W'/\I.γ s'=I.γ s/\(∀ b,I.own s' b↔I.own s b\/b=N)/\(∀ b,I.kept s' b↔I.kept s b\/b=N)/\(∀ c,I.Rw s σ c->I.Rw s' σ c)/\(∀ cs,I.Step s σ cs->I.Step s' σ cs)/\(∀ r,I.Zp s r->I.Zp s' r)/\(∀ e,I.End s σ e->I.End s' σ e):=by
  have hlt:∀ {b:Nat} {o:Obj},W.heap[b]?=some o->b < W.heap.size:=fun h=>(zGE h).1;have hrow:∀ b,m.Sh b->b < W.heap.size:=fun b hb=>by obtain ⟨c,e,f,h⟩:=m.rows σ W b hb (I.inv hA);exact hlt h
  have hI:m.Inv σ W':=m.eq σ W W' (fun b hb=>.of (ho b (hrow b hb))) (I.inv hA);have hown:∀ b,I.own s b->b < W.heap.size:=fun b hb=>by obtain ⟨_,c,e,f,h⟩:=I.row hA hb;exact hlt h
  have hA':I.At s σ W':=I.put hA hI (fun b hb=>ho b (hown b (I.MG hA hb))) (fun b hb=>by rw [ho b (hown b hb)];exact (I.row hA hb).2) hs;obtain ⟨a1,a2,a3,a4,a5,a6,a7⟩:=I.XQ hA' (by rw [hN];exact I.size hA) (fun h=>by have:=hrow N h;omega) hr;exact ⟨_,a1,⟨a2,a5,fun b hb=>⟨(a7 b).2 (.inl hb),ho b (hown b (I.IV hA hb))⟩,hs,Nat.le_of_eq a4⟩,a3,a6,a7,fun _=>I.VA,fun _=>I.Tj,fun _=>I.WQ,fun _=>I.Wt⟩
theorem Gn.turn (I:Gn S D m TQ){s:I.St}{σ σ':Sg}{W W':World}(hA:I.At s σ W)(hI:m.Inv σ' W')(ho:∀ b,¬ m.Sh b->W'.heap[b]?=W.heap[b]?)(hs:W'.heap.size=W.heap.size):I.At s σ' W'/\I.On s W s W':=
  ⟨I.put hA hI (fun b hb=>ho b (I.row hA (I.MG hA hb)).1) (fun b hb=>by rw [ho b (I.row hA hb).1];exact (I.row hA hb).2) (Nat.le_of_eq hs.symm),
   I.refl s,fun _=>.rfl,fun b hb=>⟨hb,ho b (I.row hA (I.IV hA hb)).1⟩,Nat.le_of_eq hs.symm,Nat.le_refl _⟩
theorem Gn.alike (I:Gn S D m TQ){s:I.St}{σ:Sg}{W W':World}(hA:I.At s σ W)(ha:LT.Alike W W'):I.At s σ W'/\I.On s W s W':=by obtain ⟨τ,d,rfl⟩:=ha;exact I.turn hA (m.eq σ W _ (fun b _=>.of rfl) (I.inv hA)) (fun b _=>rfl) rfl
end
end Go.LK
namespace Go.LK
open Go Go.Conc Go.LT Go.LC
structure Ef where
  kind:Int
  a:Int
  b:Int
  c:Int
inductive Ec | one (c:Ef)
  | look (most:Bool) (i v:Int)
  | cas (most:Bool) (i v x:Int)
def inn (n:Nat)(i:Int):Bool:=decide (0<=i) && decide (i < n)
def Q8 (most:Bool)(x v:Int):Bool:=if most then decide (v<=x) else decide (x<=v)
def Fu (c:Ef)(σ:List Int):List Int × An:=
  let i:=c.a.toNat
  let x:=σ.getD i 0
  if c.kind=1 then (σ,{ n:=x })
  else if c.kind=2 then (σ.set i c.b,{})
  else if c.kind=3 then (σ.set i (RowKit.wrap64 (x+c.b)),{ n:=RowKit.wrap64 (x+c.b) })
  else if c.kind=4 then (σ.set i c.b,{ n:=x })
  else if x=c.b then (σ.set i c.c,{ ok:=true }) else (σ,{})
def Em:Dr Ef Ec (List Int) where
  init:=fun _ c _=>
    if 1<=c.kind/\c.kind<=5 then .inl (.one c)
    else if c.kind=6 then .inl (.look true c.a c.b)
    else if c.kind=7 then .inl (.look false c.a c.b)
    else .inr ({ err:=40 },false)
  next:=fun _ cs σ=>
    match cs with
    | .one c=>if inn σ.length c.a=false then (σ,.inr ({ err:=41 },false)) else ((Fu c σ).1,.inr ((Fu c σ).2,false))
    | .look most i v=>
      if inn σ.length i=false then (σ,.inr ({ err:=41 },false))
      else if Q8 most (σ.getD i.toNat 0) v then (σ,.inr ({ n:=σ.getD i.toNat 0 },false)) else (σ,.inl (.cas most i v (σ.getD i.toNat 0)))
    | .cas most i v x=>if σ.getD i.toNat 0=x then (σ.set i.toNat v,.inr ({ n:=v },false)) else (σ,.inl (.look most i v))
structure Fg (m:Mem (List Int))(c cb n:Nat):Prop where
  len:n<=256
  sh:m.Sh cb
  get:∀ σ W,m.Inv σ W->σ.length=n/\W.cell? ⟨c,0,none⟩=some (.slice (some ⟨cb,0,none⟩) n n)/\∃ ty,W.heap[cb]?=some (.cells (σ.map (Value.int .i64)).toArray ty (0,0))
  set:∀ σ W i v,m.Inv σ W->i < n->m.Inv (σ.set i v) (W.setCell ⟨cb,i,none⟩ (.int .i64 v))
theorem Fg.cell {m:Mem (List Int)}{c cb n:Nat}(h:Fg m c cb n){σ:List Int}{W:World}(hI:m.Inv σ W){i:Nat}(hi:i < n):W.cell? ⟨cb,i,none⟩=some (.int .i64 (σ.getD i 0)):=by obtain ⟨h1,_,ty,h2⟩:=h.get σ W hI;simp [World.cell?,h2,h1,hi]
theorem Fg.frozen {m:Mem (List Int)}{c cb n:Nat}(h:Fg m c cb n){σ:List Int}{W:World}(hI:m.Inv σ W)(i:Nat):W.frozen? ⟨cb,i,none⟩=false:=by obtain ⟨_,_,ty,h2⟩:=h.get σ W hI;simp [World.frozen?,h2]
theorem Mem.alike {Sg:Type}(m:Mem Sg){σ:Sg}{W W':World}(h:m.Inv σ W)(ha:LT.Alike W W'):m.Inv σ W':=m.eq σ W W' (fun b _=>.of (by obtain ⟨τ,d,rfl⟩:=ha;rfl)) h
end Go.LK
end
