/-
  Part 34 of the proof that CellMeets returns true, and leaves its arguments as they were, for every input whose reading is of bulk at most 1048576. No further condition.
-/
import Derived.Test.YticecinjcajmcaaR00
import Derived.Test.YticecinjcajmcaaR33
import Derived.Test.YticecinjcajmcaaRows
import Derived.WalkKit
import Derived.ProofKit
import Derived.OpenShut
import Derived.ChangeOld
import Derived.Below
import Derived.SizedLaws
import Derived.JoinedCond
import Derived.Conc.LeavingOf
set_option linter.unusedVariables false
set_option linter.unusedSectionVars false
set_option linter.unusedSimpArgs false
set_option maxRecDepth 100000
noncomputable section
namespace Go.Proofs.Yticecinjcajmcaa.cellMeets
open Go.ChangeShapes Go.WideShapes Go.ChangeAt Go.RowKit Go.Conc Go.LT Go.LC Go.LK
theorem WV {P:Program}{b:Frame}{a:Act}{todo:List Item}{w:World}{fn:Func}{v:Value}(hn:b.kind=.normal)(hd:a.defers=[])(hf:P.funcs[b.fn]?=some fn)(hr:(results fn a.tmps).run P w=.ok v w)(he:(results fn a.tmps).events P w #[]=#[])(hi:P.inits.idxOf? b.fn=none) :
    stepG P true (G { b.at a todo with mode:=.returning } []) w=.ended (.done v) w #[]:=by
  simp [G,stepG,unwind,doReturn,Frame.at,hn,hd,hf,hr,he,hi,seen,GStep.after]
def Post (W:World)(v:Value)(w:World):Prop:=v=.bool true/\Below W.heap.size W { w with tape:=W.tape }
def fin (W:World):FE where
  F:=fun m T=>Oo W.heap.size W m.world->∃ N last o w' t',runNT Try.prog (N+1) m T=(.ended o w',t')/\runN Try.prog N m=.next last/\step Try.prog last=.ended o w'/\Conc.Good Try.prog (Post W) last o w' t'
  b0:=W.heap.size
theorem oM (W:World):E5 Try.prog (fin W):=by
  intro N m m' T T' h fr hF hm;obtain ⟨N',last,o,w',t',r1,r2,r3,r4⟩:=hF (hm.trans fr);refine ⟨N+N',last,o,w',t',?_,?_,r3,r4⟩
  . rw [Nat.add_assoc,runNT_add,h];exact r1
  . rw [← runNT_fst _ _ _ T,runNT_add,h];show (runNT Try.prog N' m' T').1=_;rw [runNT_fst];exact r2
def Bn:LT.Hid:={ hol:=fun _=>false }
theorem ZR (W:World)(g:Nat):(D7 Bn W).heap[g]?=(W.heap[g]?).map depend:=by rw [EA (B:=Bn) rfl];show (W.heap[g]?).map (dep false)=_;rw [Ja]
theorem V4 {W:World}{g:Nat}{c:Array Value}{e:TypeId}{f:Nat × Nat}(h:W.heap[g]?=some (.cells c e f)):(D7 Bn W).heap[g]?=some (.cells c e f):=by rw [ZR,h];rfl
theorem X7 {Fx Fx':Nat->Prop}{wa ta ya:Option Addr}{plans:List (List Ef)}{turns hl:List Int}{W:World}(h:FX Fx wa ta ya plans turns hl W)(hf:∀ g,Fx g->Fx' g):FX Fx' wa ta ya plans turns hl W:=by
  refine ⟨fun k pl hp=>?_,fun i x hi=>?_,fun i x hi=>?_⟩
  . obtain ⟨b,o,ca,cc,a1,a2,a5,a3,a4⟩:=h.work k pl hp;refine ⟨b,o,ca,cc,a1,hf _ a2,a5,a3,fun i c hc=>?_⟩;obtain ⟨g,o',pa,pn,pc,b1,b2,b3⟩:=a4 i c hc;exact ⟨g,o',pa,pn,pc,b1,hf _ b2,b3⟩
  . obtain ⟨b,o,a1,a2,a3⟩:=h.turns i x hi;exact ⟨b,o,a1,hf _ a2,a3⟩
  . obtain ⟨a0,a5,b,o,a1,a2,a3⟩:=h.U8 i x hi;exact ⟨a0,a5,b,o,a1,hf _ a2,a3⟩
theorem runs (W:World){nv:Int}{fa wa ta ya:Option Addr}{plans:List (List Ef)}{turns hl fs:List Int}{wc tc yc fc fb fo:Nat}{u:Int}(hC:FX (Row W) wa ta ya plans turns hl W)(hR:BA.Reads W (.slice ta turns.length tc) (turns.map (Value.int .i64)))(hfs:∀ (i:Nat) x,fs[i]?=some x->fa=some ⟨fb,fo,none⟩/\Row W fb/\W.cell? ⟨fb,fo+i,none⟩=some (.int .i64 x))(hbig:∀ pl∈plans,pl.length<=1000000000) :
    ∃ M last o w' t',runNT Try.prog (M+1) (solo (G (Frame.enter Try.prog 4 #[.int .i64 nv,.slice fa fs.length fc,.agg #[.slice wa plans.length wc,.slice ta turns.length tc,.slice ya hl.length yc,.int .i64 u]] .normal) []) W) #[]=(.ended o w',t')/\
      runN Try.prog M (solo (G (Frame.enter Try.prog 4 #[.int .i64 nv,.slice fa fs.length fc,.agg #[.slice wa plans.length wc,.slice ta turns.length tc,.slice ya hl.length yc,.int .i64 u]] .normal) []) W)=.next last/\step Try.prog last=.ended o w'/\Conc.Good Try.prog (Post W) last o w' t':=by
  have hrow:∀ g,Row W g->(D7 Bn W).heap[g]?=W.heap[g]?:=fun g ⟨c,e,f,h⟩=>by rw [V4 h,h]
  have hrow2:∀ g,Row W g->Row (D7 Bn W) g:=fun g ⟨c,e,f,h⟩=>⟨c,e,f,V4 h⟩
  have hC2:FX (Row (D7 Bn W)) wa ta ya plans turns hl (D7 Bn W):=X7 (hC.same hrow) hrow2;have vN:0 < turns.length->∀ g,(Value.slice ta turns.length tc).ownBlock=some g->Row W g:=fun h g hg=>by
    obtain ⟨b,o,rfl,h2,_⟩:=hC.turns 0 _ (List.getElem?_eq_getElem h);obtain rfl:b=g:=by simpa [Value.ownBlock] using hg
    exact h2
  have hR2:BA.Reads (D7 Bn W) (.slice ta turns.length tc) (turns.map (Value.int .i64)):=by
    rcases hR with h1|h1
    . exact .inl h1
    . exact BA.Reads.same (.inr h1) fun k hk _=>hrow k (vN (List.length_pos_iff.2 fun e=>h1.1 (by rw [e];rfl)) k hk)
  have h:=Tp (Fin:=fin W) (Ea:=oM W) (B:=fun _=>false) (W:=D7 Bn W) (nn:=1) (cs:=[]) (nv:=nv) (fa:=fa) (fl:=fs.length) (fc:=fc) (fs:=fs) (fb:=fb) (fo:=fo) (Km:=wc) (tc:=tc) (yc:=yc) (u:=u) (Kp:=Row (D7 Bn W)) zOM (fun g hg=>by cases hg) (fun g hg=>⟨hg,rfl⟩) hC2 rfl
    (fun i x hx=>by obtain ⟨a1,a2,a3⟩:=hfs i x hx;exact ⟨a1,hrow2 _ a2,by rw [← a3];simp only [World.cell?,hrow _ a2]⟩) hR2 (fun h g hg=>hrow2 _ (vN h g hg)) hbig
    (fun B' nn' W' tm Y ht kB k1 k2 w hw gs T sl q hg hn C hlow hfr=>by
      refine C.ends (D:=fun _ _ _=>False) (Post:=Post W) hg fun w₁ ha=>?_;obtain ⟨d,rfl⟩:=ha;refine ⟨rfl,.bool true,#[],WV rfl rfl Try.func4 ?_ ?_ zKR,by simp,rfl,hfr.os,rfl,hfr.output,hfr.size,fun g hlt=>?_⟩
      . rw [← Sem.runT_fst (es:=#[]),ht]
      . show ((results _ tm).runT _ _ #[]).2=#[];rw [ht]
      . show w.heap[g]?=W.heap[g]?;cases ho:W.heap[g]? with
        | none=>have:=Array.getElem?_eq_none_iff.1 ho;omega
        | some o=>
          cases o with
          | cells c e f=>
            have h1:=k1 g ⟨c,e,f,V4 ho⟩;have hB:B' g=false:=by
              cases hb:B' g with
              | false=>rfl
              | true=>
                rcases kB g hb with h|h
                . cases h
                . rw [F9] at h;omega
            rw [FJ hw,EA hB,ZR] at h1;have h2:K3 W w g:=by show (w.heap[g]?).map depend=_;rw [← h1];show _=(w.heap[g]?).map (dep false);rw [Ja]
            exact h2.cells ho
          | _=>exact hfr.objs g _ hlt ho (by simp))
  have hs:GQ Bn W (D7 Bn W):=⟨.refl _,⟨fun b hb=>(by cases hb),fun b hb=>(by cases hb)⟩⟩
  exact h W hs #[G (Frame.enter Try.prog 4 #[.int .i64 nv,.slice fa fs.length fc,.agg #[.slice wa plans.length wc,.slice ta turns.length tc,.slice ya hl.length yc,.int .i64 u]] .normal) []] #[] none (fun _=>0) rfl rfl (iH _ _ _ _) (Nat.le_refl _) (.refl _ _)
theorem XY {W w':World}{may:MemPlace->Prop}(h:Below W.heap.size W { w' with tape:=W.tape }):W.keptBut w' may:=by have hk:=h.frame may;exact ⟨hk.1,hk.2.1,hk.2.2⟩
theorem own:ownKnob Try.prog.godebug=none:=by kernel_rfl
theorem laidOut:laidOutB Try.prog=true:=by kernel_rfl
theorem lifted (os:Os)(started:os.Started)(H:Type)(enc:TypeId × Value->H)(F:Stop.Interp) :
    ReturnsInLeavingWide {} Try.checked os 4 .any ((Rows.OpenSpec.upto Rows.cellMeetsSpec).pre6 enc Try.prog Try.f4 Rows.cellMeetsUptoRow.domain false) (((Rows.OpenSpec.upto Rows.cellMeetsSpec).at F).post enc Try.prog Try.f4 false true false false):=by
  refine O4 (C:=Try.checked) (s:=Rows.OpenSpec.upto Rows.cellMeetsSpec) (k:=Rows.uptoSmall) rfl own started Try.func4
    (OpenSpec.witness (enc:=enc) (C:=Try.checked) (s:=Rows.OpenSpec.upto Rows.cellMeetsSpec) (k:=Rows.uptoSmall) rfl false ⟨#[],#[.int .i64 0,.slice none 0 0,.agg #[.slice none 0 0,.slice none 0 0,.slice none 0 0,.int .i64 0]],[]⟩ 8 zKR zKR zKR
      (x:=([.lit (.int .i64 0),.nil,.agg [.nil,.nil,.nil,.lit (.int .i64 0)]],[],[])) zKR rfl zKR) ?_
  intro W base args ds gs before hval0 hW hk _;have hval:∀ (j:Nat) t v,Try.f4.params[j]?=some t->args[j]?=some v->Value.okWide Try.prog W .any base t v:=hval0;have hW':=hW;obtain ⟨p,q,Zl,hV,rfl,_,_⟩:=hW;have hA:DataW.TrodAll enc Try.prog W 0 (fun _=>true) true Try.f4.params.toList args.toList ds p:=Zl;rw [Try.params4] at hA hval;obtain ⟨v0,vs0,d0,ds0,p0,q0,hargs,rfl,rfl,h0,r0⟩:=trodAll_cons hA;obtain ⟨v1,vs1,d1,ds1,p1,q1,rfl,rfl,rfl,h1,r1⟩:=trodAll_cons r0;obtain ⟨v2,vs2,d2,zS,p2,q2,rfl,rfl,rfl,h2,r2⟩:=trodAll_cons r1;obtain ⟨rfl,rfl,rfl⟩:=trodAll_nil r2;obtain rfl:args=#[v0,v1,v2]:=by cases args;simp_all
  obtain ⟨rfl,rfl⟩:=trodVars_none hV;obtain ⟨a0,rfl,rfl,rfl,w0⟩:=open_int Try.underlying3 (hval 0 3 v0 rfl rfl) h0;obtain ⟨b1,l1,c1,rfl⟩:=okWide_slice Try.underlying22 (hval 1 22 _ rfl rfl);obtain ⟨cs,rfl,_⟩:=okWide_struct Try.underlying25 (hval 2 25 _ rfl rfl);have k1:=h1;have lt1:∀ x∈p1,x.block < W.heap.size:=by obtain ⟨m,hm⟩:=k1;exact DataW.trod_lt m _ _ _ hm
  have k2:=h2;have lt2:∀ x∈p2,x.block < W.heap.size:=by obtain ⟨m,hm⟩:=k2;exact DataW.trod_lt m _ _ _ hm
  obtain ⟨fuel,hf⟩:=h1;obtain ⟨fa,fs,fc,hv,_,hfs⟩:=M4 hf;obtain ⟨rfl,rfl,rfl⟩:=Value.slice.inj hv;obtain ⟨wa,ta,ya,plans,turns,hl,wc,tc,yc,u,rfl,hC,hR,ZX,_⟩:=YH h2;have hbig:∀ pl∈plans,pl.length<=1000000000:=fun pl hp=>by have h3:=ZX pl hp;have h4:Rows.uptoBulkAll [DataW.lit (.int .i64 a0),d1,d2]<=1048576:=of_decide_eq_true hk;simp only [Rows.uptoBulkAll] at h4;omega
  obtain ⟨fb,fo,Ac6⟩:∃ fb fo,∀ (i:Nat) x,fs[i]?=some x->b1=some ⟨fb,fo,none⟩/\Row W fb/\W.cell? ⟨fb,fo+i,none⟩=some (.int .i64 x):=by
    by_cases h0:0 < fs.length
    . obtain ⟨_,_,b,o,e,hb,_⟩:=hfs 0 _ (List.getElem?_eq_getElem h0);refine ⟨b,o,fun i x hx=>?_⟩;obtain ⟨_,_,b',o',e',hb',hc'⟩:=hfs i x hx;rw [e] at e';cases e'
      exact ⟨e,hb,hc'⟩
    . exact ⟨0,0,fun i x hx=>by have:=(List.getElem?_eq_some_iff.1 hx).1;omega⟩
  clear Zl hval0;obtain ⟨M,last,o,w',t',e1,e2,e3,e4⟩:=runs W (nv:=a0) (fc:=c1) (wc:=wc) (yc:=yc) (u:=u) hC hR Ac6 hbig;refine ⟨M,last,o,w',t',e1,e2,e3,e4.mono fun v hF=>?_⟩;obtain ⟨rfl,bel⟩:=hF;have hh:({ w' with tape:=W.tape }:World).heap=w'.heap:=rfl;refine ⟨_,_,_,[],_,[],hW',trodAll_mk1 (shut_bool Try.underlying4 _),DataW.TrodAll.of_heap hh (trodAll_cons_mk (shut_int Try.underlying3 w0) (trodAll_cons_mk (Below.trod laidOut zKR (of_decide_eq_true zKR) k1 bel lt1) (trodAll_cons_mk (Below.trod laidOut zKR (of_decide_eq_true zKR) k2 bel lt2) trodAll_mk0))),rfl,?_,fun h=>by cases h⟩;exact XY bel
theorem over:Rows.cellMeetsUptoRow.holds Try.pinned (Rows.OpenSpec.upto Rows.cellMeetsSpec):=
  Ls 4 Try.f4 ⟨rfl,rfl,rfl⟩ rfl rfl ⟨rfl,rfl,rfl,rfl,rfl,rfl,rfl⟩ rfl rfl rfl rfl rfl zKR Try.func4 zKR
    (of_decide_eq_true zKR) (by unfold Func.isWrapper;first | (rw [if_pos (by decide +kernel)];kernel_rfl) | (rw [if_neg (by decide +kernel)];exact ⟨rfl,rfl⟩))
    (fun os started H enc F=>lifted os started H enc F)
theorem proved:Rows.CellMeetsUptoSaid:=over
end Go.Proofs.Yticecinjcajmcaa.cellMeets
end
#print axioms Go.Proofs.Yticecinjcajmcaa.cellMeets.proved
