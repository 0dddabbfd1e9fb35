/-
  Part 30 of the proof that CellMeets returns true, and leaves its arguments as they were, for every input whose reading is of bulk at most 1048576. No further condition.
-/
import Derived.Test.YticecinjcajmcaaR00
import Derived.Test.YticecinjcajmcaaR24
import Derived.Test.YticecinjcajmcaaR29
import Derived.Stop.RegionWithIn
set_option linter.unusedVariables false
set_option linter.unusedSectionVars false
set_option linter.unusedSimpArgs false
set_option maxHeartbeats 4000000
set_option maxRecDepth 100000
noncomputable section
namespace Go.Proofs.Yticecinjcajmcaa
open Go Go.Conc Go.LT Go.LC Go.LK Go.RowKit
open BA TU
section
def Y3:Code:=match Try.f7.body with | some (.seq _ (.seq _ (.seq _ (.seq c _))))=>c | _=>.skip
def Vu:Code:=match Y3 with | .seq _ (.block _ (.loop c))=>c | _=>.skip
def rF:Code:=match Vu with | .seq c _=>c | _=>.skip
def xU:Code:=match Vu with | .seq _ (.seq _ (.seq (.block _ (.seq c _)) _))=>c | _=>.skip
def uK:Code:=match Vu with | .seq _ (.seq _ (.seq (.block _ (.seq _ c)) _))=>c | _=>.skip
def j6:Code:=match Vu with | .seq _ (.seq _ (.seq _ c))=>c | _=>.skip
theorem Zg:Vu=.seq rF (.seq (.cond (.tmp 34) .skip (.exit 1)) (.seq (.block 2 (.seq xU uK)) j6)):=rfl
theorem Yt {σ:List Int}{i:Nat}{v:Int}(hi:i < σ.length):MU Em 5 (.one ⟨2,i,v,0⟩) σ=some (σ.set i v,({},false)):=by
  have h1:inn σ.length (i:Int)=true:=by simp [inn,hi]
  simp [MU,Em,h1,Fu]
theorem Q0 {fs σ:List Int}{i:Nat}{x:Int}(hx:fs[i]?=some x)(hl:fs.length<=σ.length):(fs.take i ++ σ.drop i).set i x=fs.take (i+1) ++ σ.drop (i+1):=by
  have hi:i < fs.length:=(List.getElem?_eq_some_iff.1 hx).1;refine List.ext_getElem? fun j=>?_;rw [List.getElem?_set];have e1:(fs.take i).length=i:=by simp;omega
  have e2:(fs.take (i+1)).length=i+1:=by simp;omega
  by_cases h:i=j
  . subst h;rw [if_pos rfl,if_pos (by simp;omega),List.getElem?_append_left zOM,List.getElem?_take,if_pos zOM,hx]
  . rw [if_neg h,List.getElem?_append,List.getElem?_append,e1,e2];by_cases h1:j < i
    . rw [if_pos h1,if_pos zOM,List.getElem?_take,List.getElem?_take,if_pos h1,if_pos zOM]
    . rw [if_neg h1,if_neg zOM,List.getElem?_drop,List.getElem?_drop];congr 1
      omega
section
variable {Fin:FE}{Ea:E5 Try.prog Fin}
variable {B:Nat->Bool}{nn:Nat}{cs:List Frame}{K:List Item}
variable {v0 v2 v3 v4 v5 v6 v7 v8 Aa Ab Ac Ae Af Ah Ai Aj Ak Al Am Ao Ap Ar Au Av Aw Ay Az AA AB AP AQ AU AV AX AY AZ A8 A9 Ba Bb Bc Bf Bh Bj Bl Bp Bq Br Bu Bv Bw Bz BD:Value}
variable {fa:Option Addr}{fb fo fl fc ct cb n:Nat}{fs σ0:List Int}{Kq:Nat->Prop}{W0:World}
theorem Xm (hn:n<=256)(hl:fs.length=fl)(hfn:fl<=n)(hσ:σ0.length=n)(hcc:ct≠cb)(sP:∀ g,Kq g->(∃ c e f,W0.heap[g]?=some (.cells c e f))/\g≠cb)(hfs:∀ i x,fs[i]?=some x->fa=some ⟨fb,fo,none⟩/\Kq fb/\W0.cell? ⟨fb,fo+i,none⟩=some (.int .i64 x))(hJ:∀ W' Da Db DC DF DI DJ DL DN DR DT DU,W0.heap.size<=W'.heap.size->(∀ g,Kq g->W'.heap[g]?=W0.heap[g]?)->W'.heap[ct]?=some (.cells #[.slice (some ⟨cb,0,none⟩) n n] 64 (0,0))->W'.heap[cb]?=some (.cells ((fs ++ σ0.drop fl).map (Value.int .i64)).toArray 78 (0,0))->
      JL (S0 (X:=Wk Ef Ec) (Sg:=List Int) Try.prog Fin Ea).L (.Gp B nn) (G ((base 7).at ⟨#[v0,.slice fa fl fc,v2,v3,v4,v5,v6,v7,v8,.pointer (some ⟨ct,0,none⟩),Aa,Da,Db,Ae,Af,Ah,Ai,Aj,Ak,Al,Am,Ao,Ap,Ar,Au,Av,Aw,Ay,Az,AA,AB,.slice fa fl fc,.int .i64 fl,.int .i64 fl,DC,DF,DI,DJ,DL,DN,DR,DT,DU,Ba,Bb,Bc,Bf,Bh,Bj,Bl,Bp,Bq,Br,Bu,Bv,Bw,Bz,BD],[]⟩ K) cs) W') :
    ∀ (d i:Nat) (W:World) (Ab Ac AP AQ AU AV AX AY AZ A8 A9:Value),fl - i=d->i<=fl->W0.heap.size<=W.heap.size->(∀ g,Kq g->W.heap[g]?=W0.heap[g]?)->W.heap[ct]?=some (.cells #[.slice (some ⟨cb,0,none⟩) n n] 64 (0,0))->W.heap[cb]?=some (.cells ((fs.take i ++ σ0.drop i).map (Value.int .i64)).toArray 78 (0,0))->
      JL (S0 (X:=Wk Ef Ec) (Sg:=List Int) Try.prog Fin Ea).L (.Gp B nn) (G ((base 7).at ⟨#[v0,.slice fa fl fc,v2,v3,v4,v5,v6,v7,v8,.pointer (some ⟨ct,0,none⟩),Aa,Ab,Ac,Ae,Af,Ah,Ai,Aj,Ak,Al,Am,Ao,Ap,Ar,Au,Av,Aw,Ay,Az,AA,AB,.slice fa fl fc,.int .i64 fl,.int .i64 i,AP,AQ,AU,AV,AX,AY,AZ,A8,A9,Ba,Bb,Bc,Bf,Bh,Bj,Bl,Bp,Bq,Br,Bu,Bv,Bw,Bz,BD],[]⟩ (.code Vu :: .inLoop Vu :: .inBlock 1 :: K)) cs) W:=by
  intro d;induction d with
  | zero=>
    intro i W Ab Ac AP AQ AU AV AX AY AZ A8 A9 hd hi hs hk h1 h2;obtain rfl:i=fl:=by omega
    have e:fs.take i=fs:=List.take_of_length_le zOM;rw [e] at h2;generalize hK2:(Item.inLoop Vu :: Item.inBlock 1 :: K:List Item)=K2;rw [Zg];refine Ei ?_;simp only [rF,Vu,Y3,Try.f7];refine EH fun _ hkk=>?_
    (refine Eo ?_;walk_nrm)
    refine EB ?_;cases hkk;refine Ei ?_;refine JL.Ey (by simp [Act.eval]) ?_;refine JL.exit (k':=K) (by rw [← hK2];rfl) ?_;exact hJ W _ _ _ _ _ _ _ _ _ _ _ hs hk h1 h2
  | succ d ih=>
    intro i W Ab Ac AP AQ AU AV AX AY AZ A8 A9 hd hi hs hk h1 h2;have hlt:i < fl:=by omega
    obtain ⟨x,hx⟩:∃ x,fs[i]?=some x:=⟨_,List.getElem?_eq_getElem zOM⟩
    obtain ⟨rfl,sI,hfc⟩:=hfs i x hx;have hcx:W.cell? ⟨fb,fo+i,none⟩=some (.int .i64 x):=by rw [cell_of (w:=W0) (a:=⟨fb,fo+i,none⟩) (hk fb sI)];exact hfc
    generalize hK2:(Item.inLoop Vu :: Item.inBlock 1 :: K:List Item)=K2;rw [Zg];refine Ei ?_;simp only [rF,Vu,Y3,Try.f7];refine EH fun _ hkk=>?_
    (refine Eo ?_;walk_nrm)
    refine EB ?_;cases hkk;refine Ei ?_;refine JL.Fz (by simp [Act.eval] <;> omega) ?_;refine Er stepG_skip ?_;refine Ei ?_;refine Er stepG_block ?_;refine Ei ?_;refine EL.EJ (S:=S0 (X:=Wk Ef Ec) (Sg:=List Int) Try.prog Fin Ea) (b:=base 7) [] (by simp) zKR nE zKR fun W₁ ha=>?_;have hh:W₁.heap=W.heap:=by obtain ⟨τ,dd,rfl⟩:=ha;rfl
    replace hcx:W₁.cell? ⟨fb,fo+i,none⟩=some (.int .i64 x):=by simp only [World.cell?,hh] at hcx ⊢;exact hcx
    have HH:=Lib.hid (zAI @ih (zAI @hJ (zAI hh (zAI hk (zAI h1 (zAI h2 (zAI hs (zAI hx (zAI hfs sP)))))))));clear ih hJ hh hk h1 h2 hs hx hfs sP;simp only [xU,Vu,Y3,Try.f7];gi_wp2;obtain ⟨ih,hJ,hh,hk,h1,h2,hs,hx,hfs,sP⟩:=HH.out;clear HH;show JL (S0 (X:=Wk Ef Ec) (Sg:=List Int) Try.prog Fin Ea).L _ _ W₁;try dsimp only
    simp only [uK,Vu,Y3,Try.f7];refine EH fun _ hkk=>?_;iterate 3 (refine Eo ?_;walk_nrm)
    refine JL.enter rfl rfl nE rfl Try.func10 zKR zKR ?_;walk_nrm;have hW1:∀ g,Kq g->∃ c e f,W₁.heap[g]?=some (.cells c e f):=fun g hg=>by rw [hh,hk g hg];exact (sP g hg).1
    have hσl:(fs.take i ++ σ0.drop i).length=n:=by simp;omega
    refine XD (kG Em (XV ct cb n Kq W₁ hW1) (.Gp B nn) (S0 (X:=Wk Ef Ec) (Sg:=List Int) Try.prog Fin Ea)) (Nf hn hcc fun g hg=>(sP g hg).2) (s:={ own:=fun _=>False,f:=5,res:=((fs.take i ++ σ0.drop i).set i x,({},false)) }) (σ:=fs.take i ++ σ0.drop i) (c:=⟨2,i,x,0⟩) rfl ⟨⟨hσl,by rw [hh];exact h1,by rw [hh];exact h2,fun g _=>rfl⟩,fun b hb=>hb.elim⟩ ?hS trivial ?_
    case hS=>
      show MU Em 5 _ _=some _;exact Yt zOM
    intro s' σ' W' e hA' hO hE _;have hE':(σ',(e,false))=s'.res:=hE;have hr:s'.res=(((fs.take i ++ σ0.drop i).set i x,({},false)):List Int × (An × Bool)):=hO.le;rw [hr] at hE';cases hE'
    obtain ⟨i1,i2,i3,i4⟩:=hA'.inv;have s4:W₁.heap.size<=W'.heap.size:=hO.size;rw [Frame.finish_at];show JL (S0 (X:=Wk Ef Ec) (Sg:=List Int) Try.prog Fin Ea).L (.Gp B nn) _ W';walk_nrm;cases hkk;refine Er stepG_region_end ?_;refine Er stepG_inBlock ?_;simp only [j6,Vu,Y3,Try.f7];have hl1:(-9223372036854775808:Int)<=(i:Int)+1:=by omega
    have hl2:(i:Int)+1<=9223372036854775807:=by omega
    refine EH fun _ hkk=>?_;iterate 2 (refine Eo ?_;walk_nrm)
    have e:IntKind.i64.wrap ((i:Int)+1)=((i+1:Nat):Int):=by rw [IntKind.wrap_i64];omega
    rw [e];refine EB ?_;cases hkk;rw [← hK2];refine Er stepG_inLoop ?_;rw [Q0 hx zOM] at i3;exact ih (i+1) W' _ _ _ _ _ _ _ _ _ _ _ zOM zOM (by rw [hh] at s4;omega) (fun g hg=>by rw [i4 g hg,hh,hk g hg]) i2 i3
end
end
section
def yM:Code:=match Try.f7.body with | some (.seq c _)=>c | _=>.skip
def wW:Code:=match Try.f7.body with | some (.seq _ (.seq c _))=>c | _=>.skip
def uU:Code:=match Try.f7.body with | some (.seq _ (.seq _ (.seq c _)))=>c | _=>.skip
def pE:Code:=match Try.f7.body with | some (.seq _ (.seq _ (.seq _ (.seq _ (.seq c _)))))=>c | _=>.skip
def qU:Code:=match Try.f7.body with | some (.seq _ (.seq _ (.seq _ (.seq _ (.seq _ (.seq c _))))))=>c | _=>.skip
def pR:Code:=match Try.f7.body with | some (.seq _ (.seq _ (.seq _ (.seq _ (.seq _ (.seq _ (.seq c _)))))))=>c | _=>.skip
def yJ:Code:=match Try.f7.body with | some (.seq _ (.seq _ (.seq _ (.seq _ (.seq _ (.seq _ (.seq _ c)))))))=>c | _=>.skip
theorem kE {P:Program}{t:TypeId}{e:TypeId}(h:P.underlying t=some (.pointer e))(x:Value)(w:World)(es:Array Event):(Instr.makeInterface t x).events P w es=es:=by unfold Instr.makeInterface;simp [go_sem,underlying,h]
theorem Pj:Try.f7.body=some (.seq yM (.seq wW (.seq uU (.seq Y3 (.seq pE (.seq qU (.seq pR yJ))))))):=rfl
section
variable {Fin:FE}{Ea:E5 Try.prog Fin}
variable {B:Nat->Bool}{W:World}{nn:Nat}{c:Frame}{cs:List Frame}
theorem Rc {n:Nat}{plans:List (List Ef)}{turns:List Int}{pg po Fw:Nat}{Ju:List Value}{ta ya fa:Option Addr}{tn tc yc fb fo fl fc hg ho:Nat}{u:Int}{fs hl:List Int}{Kp Fx:Nat->Prop}(hfl:fs.length=fl)(hfn:fl<=n)(hfs:∀ i x,fs[i]?=some x->fa=some ⟨fb,fo,none⟩/\Fx fb/\W.cell? ⟨fb,fo+i,none⟩=some (.int .i64 x))(YT:hl.length<=1000000)(NJ:∀ (i:Nat) (x:Int),hl[i]?=some x->-9223372036854775808<=x/\x<=9223372036854775807/\ya=some ⟨hg,ho,none⟩/\Fx hg/\W.cell? ⟨hg,ho+i,none⟩=some (.int .i64 x))(hn1:1<=n)(hn2:n<=256)(TN:∀ g,Fx g->∃ c e f,W.heap[g]?=some (.cells c e f))(ZU:∀ g,Fx g->B g=false)(hP:∀ {Sg:Type} (m:Mem Sg),(∀ σ W',m.Inv σ W'->∀ g,Fx g->W'.heap[g]?=W.heap[g]?)->Kh m pg po Ju plans)(h64:∀ pl∈plans,pl.length<=64)(h0:0 < plans.length)(h8:plans.length<=8)(hu:0<=u)(hu2:u<=20000)(Ik:Reads W (.slice ta tn tc) (turns.map (Value.int .i64)))(hlen:turns.length<=1000000)(hcap:nn+8 < 1000000)(hB:∀ g,B g=true->g < W.heap.size)(VP:0 < turns.length->∀ g,(Value.slice ta tn tc).ownBlock=some g->Fx g)(Gi:∀ g,Kp g->(∃ c e f,W.heap[g]?=some (.cells c e f))/\B g=false/\¬ Fx g)(z:Rs Ef Ec (List Int))(hz:z=Rs.go Em (Fv u) (Fv u) (Rs.new plans (fs ++ (List.replicate n 0).drop fl) turns hl))(hend:∀ x∈z.xs,x.out.length<=1000000)(hK:∀ B' W' N1 a1 a2 a3 y1 y2 y3 vv,(∀ g,B' g=true->B g=true\/(W.heap.size<=g/\g < N1))->W.heap.size<=N1->N1<=W'.heap.size->Ran N1 z (.slice a1 a2 a3) (.slice y1 y2 y3) W'->Fa W' N1 1 vv n (z.σ.map (Value.int .i64))->(∀ g,Kp g\/Fx g->W'.heap[g]?=W.heap[g]?)->
      JW (S0 (X:=Wk Ef Ec) (Sg:=List Int) Try.prog Fin Ea).base (.Gp B' (nn+plans.length)) (G (c.finish (.tuple #[.agg #[.slice a1 a2 a3,.slice y1 y2 y3,.int .i64 z.s,.bool (z.rd.any id)],vv,.int .i64 0])) cs) W') :
    JW (S0 (X:=Wk Ef Ec) (Sg:=List Int) Try.prog Fin Ea).base (.Gp B nn) (G (Frame.enter Try.prog 7 #[.int .i64 n,.slice fa fl fc,.agg #[.slice (some ⟨pg,po,none⟩) Ju.length Fw,.slice ta tn tc,.slice ya hl.length yc,.int .i64 u]] .normal) (c :: cs)) W:=by
  rw [enter_at _ Try.func7 Pj,show Try.f7.ntmps=58 from by kernel_rfl];walk_nrm;have hkl:∀ g,Kp g\/Fx g->g < W.heap.size:=fun g hg=>by
    rcases hg with hg|hg
    . obtain ⟨⟨c,e,f,hc⟩,_⟩:=Gi g hg;exact (zGE hc).1
    . obtain ⟨c,e,f,hc⟩:=TN g hg;exact (zGE hc).1
  have HA:=Lib.hid (zAI TN (zAI ZU (zAI @hP (zAI h64 (zAI Ik (zAI hB (zAI VP (zAI Gi (zAI hz (zAI hend (zAI hK (zAI hkl (zAI hfs NJ)))))))))))));clear TN ZU hP h64 Ik hB VP Gi hz hend hK hkl hfs NJ;show JL (S0 (X:=Wk Ef Ec) (Sg:=List Int) Try.prog Fin Ea).L _ _ W;refine Ei ?_;refine EL.EJ (S:=S0 (X:=Wk Ef Ec) (Sg:=List Int) Try.prog Fin Ea) (b:=base 7) [] (by simp) zKR nE zKR fun W₁ ha=>?_;have hh:W₁.heap=W.heap:=by obtain ⟨τ,d,rfl⟩:=ha;rfl
  have HH:=Lib.hid hh;clear hh;simp only [yM,Try.f7];gi_wp2;generalize hW1:World.alloc (World.alloc W₁ _) _=W1;have q1:W1.heap=(W.heap.push (.cells #[.slice (some ⟨pg,po,none⟩) Ju.length Fw,.slice ta tn tc,.slice ya hl.length yc,.int .i64 u] 25 (0,0))).push (.cells #[.slice none 0 0,.slice none 0 0,.int .i64 0,.bool false] 31 (0,0)):=by rw [← hW1,← HH.out];rfl
  have hs:W₁.heap.size=W.heap.size:=by rw [HH.out]
  clear HH hW1 ha;rw [hs];clear hs;show JL (S0 (X:=Wk Ef Ec) (Sg:=List Int) Try.prog Fin Ea).L _ _ W1;try dsimp only
  refine Ei ?_;simp only [wW,Try.f7];refine EH fun _ hkk=>?_
  (refine Eo ?_;walk_nrm)
  refine JL.enter rfl rfl nE rfl Try.func9 zKR zKR ?_;walk_nrm;refine Lc (S:=(S0 (X:=Wk Ef Ec) (Sg:=List Int) Try.prog Fin Ea)) hn1 hn2 fun W2 q2=>?_;rw [Frame.finish_at];show JL (S0 (X:=Wk Ef Ec) (Sg:=List Int) Try.prog Fin Ea).L _ _ W2;walk_nrm;iterate 5 (refine Eo ?_;walk_nrm)
  refine EB ?_;cases hkk;refine Ei ?_;simp only [uU,Try.f7];refine Er stepG_block ?_;refine Ei ?_;refine EH fun _ hkk=>?_;iterate 3 (refine Eo ?_;walk_nrm)
  refine EB ?_;cases hkk;refine JL.Ey (by simp [Act.eval]) ?_;refine Ei ?_;refine EH fun _ hkk=>?_;iterate 5 (refine Eo ?_;walk_nrm)
  refine EB ?_;cases hkk;refine JL.Ey (by simp [Act.eval] <;> omega) ?_;refine Er stepG_skip ?_;refine Er stepG_inBlock ?_;have z1:W1.heap.size=W.heap.size+2:=by rw [q1];simp
  have z2:W2.heap.size=W.heap.size+4:=by rw [q2];simp [z1]
  have o2:∀ g,g < W.heap.size->W2.heap[g]?=W.heap[g]?:=fun g hg=>by rw [q2,q1];simp only [Array.getElem?_push,Array.size_push];rw [if_neg zOM,if_neg zOM,if_neg zOM,if_neg zOM]
  have r0:W2.heap[W.heap.size]?=some (.cells #[.slice (some ⟨pg,po,none⟩) Ju.length Fw,.slice ta tn tc,.slice ya hl.length yc,.int .i64 u] 25 (0,0)):=by
    rw [q2,q1];simp only [Array.getElem?_push,Array.size_push];rw [if_neg zOM,if_neg zOM,if_neg zOM]
    simp
  have r1:W2.heap[W.heap.size+1]?=some (.cells #[.slice none 0 0,.slice none 0 0,.int .i64 0,.bool false] 31 (0,0)):=by
    rw [q2,q1];simp only [Array.getElem?_push,Array.size_push];rw [if_neg zOM,if_neg zOM]
    simp
  have r2:W2.heap[W.heap.size+2]?=some (.cells (List.replicate n (Value.int .i64 0)).toArray 78 (0,0)):=by
    rw [q2];simp only [Array.getElem?_push,Array.size_push,z1];rw [if_neg zOM]
    simp
  have r3:W2.heap[W.heap.size+3]?=some (.cells #[.slice (some ⟨W.heap.size+2,0,none⟩) n n] 64 (0,0)):=by
    rw [q2];simp only [Array.getElem?_push,Array.size_push,z1]
    simp
  clear q1 q2;rw [z1];clear z1;obtain ⟨TN,ZU,hP,h64,Ik,hB,VP,Gi,hz,hend,hK,hkl,hfs,NJ⟩:=HA.out;refine Ei ?_;have qh:Y3=.seq (match Y3 with | .seq c _=>c | _=>.skip) (.block 1 (.loop Vu)):=rfl;rw [qh];refine Ei ?_;simp only [Y3,Try.f7];refine EH fun _ hkk=>?_;iterate 3 (refine Eo ?_;walk_nrm)
  refine EB ?_;cases hkk;refine Er stepG_block ?_;refine Er stepG_loop ?_;refine Xm (n:=n) (fs:=fs) (fb:=fb) (fo:=fo) (σ0:=List.replicate n 0) (ct:=W.heap.size+3) (cb:=W.heap.size+2) (W0:=W2) (Kq:=fun g=>g=W.heap.size\/g=W.heap.size+1\/Kp g\/Fx g) hn2 hfl hfn (by simp) zOM (fun g hg=>?_) (fun i x hx=>?_) ?_ fl 0 W2 _ _ _ _ _ _ _ _ _ _ _ zOM (Nat.zero_le _) (Nat.le_refl _) (fun g _=>rfl) r3 (by simpa using r2)
  . rcases hg with rfl | rfl | hg | hg
    . exact ⟨⟨_,_,_,r0⟩,by omega⟩
    . exact ⟨⟨_,_,_,r1⟩,by omega⟩
    . have:=hkl g (.inl hg);exact ⟨by rw [o2 g this];exact (Gi g hg).1,by omega⟩
    . have:=hkl g (.inr hg);exact ⟨by rw [o2 g this];exact TN g hg,by omega⟩
  . obtain ⟨h1,h2,h3⟩:=hfs i x hx;exact ⟨h1,.inr (.inr (.inr h2)),by rw [cell_of (w:=W) (a:=⟨fb,fo+i,none⟩) (o2 fb (hkl fb (.inr h2)))];exact h3⟩
  clear TN ZU hP h64 Ik hB VP Gi hz hend hK hkl hfs NJ;intro xO Da Db DC DF DI DJ DL DN DR DT DU z2' k2' r3' r2';obtain ⟨TN,ZU,hP,h64,Ik,hB,VP,Gi,hz,hend,hK,hkl,hfs,NJ⟩:=HA.out;have r9:∀ g,Kp g\/Fx g->xO.heap[g]?=W.heap[g]?:=fun g hg=>by rw [k2' g (hg.elim (fun h=>.inr (.inr (.inl h))) fun h=>.inr (.inr (.inr h)))];exact o2 g (hkl g hg)
  have r0':=(k2' (W.heap.size) (.inl rfl)).trans r0;have r1':=(k2' (W.heap.size+1) (.inr (.inl rfl))).trans r1;rw [z2] at z2';clear TN ZU hP h64 Ik hB VP Gi hz hend hK hkl hfs NJ r0 r1 r2 r3 o2 k2' z2;generalize xO=W2 at *;have z2:=z2';have o2:=r9;have r0:=r0';have r1:=r1';have r2:=r2';have r3:=r3';clear z2' r9 r0' r1' r2' r3';refine Ei ?_;simp only [pE,Try.f7];have hev:=fun (x:Value) (w:World) (es:Array Event)=>kE Try.underlying36 x w es;refine EH fun _ hkk=>?_;iterate 3 (refine Eo ?_;walk_nrm)
  refine EB ?_;cases hkk;clear hev;refine Ei ?_;simp only [qU,Try.f7];refine EH fun _ hkk=>?_;refine EL.KU (S:=(S0 (X:=Wk Ef Ec) (Sg:=List Int) Try.prog Fin Ea)) (b:=base 7) 0 2 [] (by simp) zKR nE (rest:=[2,3,4,5,6,7,8]) rfl zKR fun W₃ LA=>?_;have hh3:W₃.heap=W2.heap:=by obtain ⟨τ,d,rfl⟩:=LA;rfl
  have c0:W₃.cell? ⟨W.heap.size,0,none⟩=some (.slice (some ⟨pg,po,none⟩) Ju.length Fw):=by simp [World.cell?,hh3,r0]
  have c1:W₃.cell? ⟨W.heap.size,1,none⟩=some (.slice ta tn tc):=by simp [World.cell?,hh3,r0]
  have c2:W₃.cell? ⟨W.heap.size,2,none⟩=some (.slice ya hl.length yc):=by simp [World.cell?,hh3,r0]
  have c3:W₃.cell? ⟨W.heap.size,3,none⟩=some (.int .i64 u):=by simp [World.cell?,hh3,r0]
  have HH:=Lib.hid (zAI hh3 (zAI z2 (zAI o2 (zAI r0 (zAI r1 (zAI r2 r3))))));clear hh3 z2 o2 r0 r1 r2 r3;dsimp only [List.drop,List.take];gi_wp2;refine ⟨rfl,?_⟩;obtain ⟨hh3,z2,o2,r0,r1,r2,r3⟩:=HH.out;clear HH c0 c1 c2 c3 LA;show JL (S0 (X:=Wk Ef Ec) (Sg:=List Int) Try.prog Fin Ea).L _ _ W₃;try dsimp only
  refine JL.enter rfl rfl nE rfl Try.func19 zKR zKR ?_;walk_nrm;obtain ⟨TN,ZU,hP,h64,Ik,hB,VP,Gi,hz,hend,hK,hkl,hfs,NJ⟩:=HA.out;clear HA;obtain ⟨M0,hM0⟩:∃ M0,M0=XV (W.heap.size+3) (W.heap.size+2) n Fx W TN:=⟨_,rfl⟩
  have hCM:Fg M0 (W.heap.size+3) (W.heap.size+2) n:=by rw [hM0];exact Nf hn2 zOM fun g hg e=>by have:=hkl g (.inr hg);omega
  have UF:∀ g,W.heap.size<=g->B g=false:=fun g hg=>by
    cases hb:B g with
    | false=>rfl
    | true=>have:=hB g hb;omega
  have Ug:∀ σ W',M0.Inv σ W'->∀ g,Fx g->W'.heap[g]?=W.heap[g]?:=fun σ W' h=>by rw [hM0] at h;exact h.2.2.2
  have fB:∀ g,M0.Sh g->g=W.heap.size+3\/g=W.heap.size+2\/Fx g:=fun g hg=>by rw [hM0] at hg;exact hg
  refine aM (D:=Em) (m:=M0) (σ:=fs ++ (List.replicate n 0).drop fl) (turns:=turns) (plans:=plans) (Kp:=fun g=>g=W.heap.size+1\/Kp g) (fun bd ρ b k=>YJ (J2 Em (QI M0 bd (.iface 36 (.pointer (some ⟨W.heap.size+3,0,none⟩)))) ρ b k) (T9 hCM hn1)) (hP M0 Ug) h64 h0 h8 hu hu2
    (fun σ W' h=>(by
      rcases Ik with h1|h1
      . exact .inl h1
      . exact Reads.same (.inr h1) fun k hk' _=>Ug σ W' h k (VP (List.length_pos_iff.2 fun e=>h1.1 (by rw [e];rfl)) k hk'))) hlen (hl:=hl) (hg:=hg) (ho:=ho) YT (fun i x hx=>?_) hcap ?_ (fun g hg=>by rw [hh3];have:=hB g hg;omega) (fun g hg=>?_) (fun g hg=>?_) z hz hend ?_
  . obtain ⟨a1,a2,a3,a4,a5⟩:=NJ i x hx;exact ⟨a1,a2,a3,fun σ W' h=>by rw [cell_of (w:=W) (a:=⟨hg,ho+i,none⟩) (Ug σ W' h hg a4)];exact a5⟩
  . rw [hM0];exact ⟨by simp;omega,by rw [hh3];exact r3,by rw [hh3];exact r2,fun g hg=>by rw [hh3];exact o2 g (.inr hg)⟩
  . rcases fB g hg with rfl | rfl | hg
    . exact UF _ zOM
    . exact UF _ zOM
    . exact ZU g hg
  . rw [hh3];rcases hg with rfl|hg
    . exact ⟨⟨_,_,_,r1⟩,UF _ zOM,fun hs=>by
        rcases fB _ hs with e|e|e
        . omega
        . omega
        . have:=hkl _ (.inr e);omega⟩
    . have hl:=hkl g (.inl hg);refine ⟨by rw [o2 g (.inl hg)];exact (Gi g hg).1,(Gi g hg).2.1,fun hs=>?_⟩;rcases fB g hs with e|e|e
      . omega
      . omega
      . exact (Gi g hg).2.2 e
  . intro B' W4 N1 a1 a2 a3 y1 y2 y3 hB' hN1 hN2 tO NM YI;rw [Frame.finish_at];show JL (S0 (X:=Wk Ef Ec) (Sg:=List Int) Try.prog Fin Ea).L _ _ W4;walk_nrm;have hz1:W.heap.size+1 < W4.heap.size:=by rw [hh3] at hN1;omega
    have hbz:=YI (W.heap.size+1) (.inl rfl);rw [hh3,r1] at hbz;have aJ:∀ g,Kp g\/Fx g->W4.heap[g]?=W.heap[g]?:=fun g hg=>by
      rcases hg with h|h
      . rw [YI g (.inr h),hh3];exact o2 g (.inl h)
      . exact Ug _ _ tO g h
    have hI5:=tO;rw [hM0] at hI5;obtain ⟨i1,i2,i3,_⟩:=hI5;rw [hh3] at hN1;have HH:=Lib.hid (zAI hK (zAI hB' (zAI NM (zAI aJ (zAI hN1 (zAI hbz (zAI i1 (zAI i2 (zAI i3 hkl)))))))));have Aab:W₃.heap.size=W2.heap.size:=by rw [hh3]
    clear hK hB' NM aJ hbz i1 i2 i3 hkl YI tO Ug fB hCM hM0 UF TN ZU hP h64 Ik hB VP Gi hz hend hh3 o2 r0 r1 r2 r3;refine EL.GU (S:=(S0 (X:=Wk Ef Ec) (Sg:=List Int) Try.prog Fin Ea)) (b:=base 7) 3 [] (by simp) zKR nE rfl zKR fun W₅ TH=>?_;have H5:=Lib.hid (show W₅.heap=W4.heap by obtain ⟨τ,d,rfl⟩:=TH;rfl);dsimp only [List.drop];gi_wp2;refine ⟨rfl,?_⟩;generalize Ro:World.alloc W₅ _=W6;have q6:W6.heap=W4.heap.push (.cells #[.slice a1 a2 a3,.slice y1 y2 y3,.int .i64 z.s,.bool (z.rd.any id)] 31 (0,0)):=by rw [← Ro,← H5.out];rfl
    have hs5:W₅.heap.size=W4.heap.size:=by rw [H5.out]
    rw [hs5];clear Ro hs5 H5 TH;show JL (S0 (X:=Wk Ef Ec) (Sg:=List Int) Try.prog Fin Ea).L _ _ W6;try dsimp only
    cases hkk;refine Er stepG_region_end ?_;refine Ei ?_;simp only [pR,Try.f7];refine Ei ?_;refine EH fun _ hkk=>?_;iterate 2 (refine Eo ?_;walk_nrm)
    refine EB ?_;cases hkk;refine JL.Ey (by simp [Act.eval]) ?_;refine Er stepG_skip ?_;obtain ⟨hK,hB',NM,aJ,hN1,hbz,i1,i2,i3,hkl⟩:=HH.out;clear HH;have z6:W6.heap.size=W4.heap.size+1:=by rw [q6];simp
    have o6:∀ g,g < W4.heap.size->W6.heap[g]?=W4.heap[g]?:=fun g hg=>by rw [q6,Array.getElem?_push,if_neg zOM]
    have n6:W6.heap[W4.heap.size]?=some (.cells #[.slice a1 a2 a3,.slice y1 y2 y3,.int .i64 z.s,.bool (z.rd.any id)] 31 (0,0)):=by rw [q6,Array.getElem?_push,if_pos rfl]
    clear q6;refine EL.EJ (S:=(S0 (X:=Wk Ef Ec) (Sg:=List Int) Try.prog Fin Ea)) (b:=base 7) [15,28,44] (XZ zKR zKR) zKR nE zKR fun W₇ ha7=>?_;have lY:W₇.heap=W6.heap:=by obtain ⟨τ,d,rfl⟩:=ha7;rfl
    have j2:W₇.heap[W.heap.size+3]?=some (.cells #[.slice (some ⟨W.heap.size+2,0,none⟩) n n] 64 (0,0)):=by rw [lY,o6 _ zOM];exact i2
    have j3:W₇.heap[W.heap.size+2]?=some (.cells (z.σ.map (Value.int .i64)).toArray 78 (0,0)):=by rw [lY,o6 _ zOM];exact i3
    have n7:W₇.heap[W4.heap.size]?=some (.cells #[.slice a1 a2 a3,.slice y1 y2 y3,.int .i64 z.s,.bool (z.rd.any id)] 31 (0,0)):=by rw [lY];exact n6
    have b7:W₇.heap[W.heap.size+1]?=some (.cells #[.slice none 0 0,.slice none 0 0,.int .i64 0,.bool false] 31 (0,0)):=by rw [lY,o6 _ zOM];exact hbz
    have s7:W₇.heap.size=W4.heap.size+1:=by rw [lY,z6]
    have d0:W₇.cell? ⟨W4.heap.size,0,none⟩=some (.slice a1 a2 a3):=by simp [World.cell?,n7]
    have d1:W₇.cell? ⟨W4.heap.size,1,none⟩=some (.slice y1 y2 y3):=by simp [World.cell?,n7]
    have d2:W₇.cell? ⟨W4.heap.size,2,none⟩=some (.int .i64 z.s):=by simp [World.cell?,n7]
    have d3:W₇.cell? ⟨W4.heap.size,3,none⟩=some (.bool (z.rd.any id)):=by simp [World.cell?,n7]
    have hfin:∀ (w1 W':World) vv,Fa w1 W₇.heap.size 1 vv n (z.σ.map (Value.int .i64))->Below W₇.heap.size W₇.drew w1->(∀ g,g≠W.heap.size+1->W'.heap[g]?=w1.heap[g]?)->W'.heap.size=w1.heap.size->JW (S0 (X:=Wk Ef Ec) (Sg:=List Int) Try.prog Fin Ea).base (.Gp B' (nn+plans.length)) (G (c.finish (.tuple #[.agg #[.slice a1 a2 a3,.slice y1 y2 y3,.int .i64 z.s,.bool (z.rd.any id)],vv,.int .i64 0])) cs) W':=fun w1 W' vv hov hB hst hsz=>by
      have rY:∀ g,g < W4.heap.size->g≠W.heap.size+1->W'.heap[g]?=W4.heap[g]?:=fun g hg hne=>by rw [hst g hne,hB.block g zOM];show W₇.heap[g]?=_;rw [lY,o6 g hg]
      have hs1:W₇.heap.size<=w1.heap.size:=hB.size;refine hK B' W' N1 a1 a2 a3 y1 y2 y3 vv (fun g hg=>?_) zOM zOM ?_ ?_ fun g hg=>?_
      . rcases hB' g hg with h | h
        . exact .inl h
        . rw [Aab] at h;exact .inr ⟨by omega,h.2⟩
      . obtain ⟨vs,k1,k2⟩:=NM.ex;refine ⟨⟨vs,FD k1 fun g hg=>by have:=FM k1 hg;exact rY g this.2 zOM,fun j v x hv hx=>?_⟩,FD NM.opn fun g hg=>by have:=FM NM.opn hg;exact rY g this.2 zOM⟩;obtain ⟨⟨I4,l1,l2,l3⟩,l4⟩:=k2 j v x hv hx;refine ⟨⟨I4,l1,FD l2 fun g hg=>by have:=FM l2 hg;exact rY g this.2 zOM,fun i a iv ha hi=>?_⟩,l4⟩;rcases l3 i a iv ha hi with h|⟨h0,g,cap,x1,_,x3,x4,x5⟩
        . exact .inl h
        . have hne:g≠W.heap.size+1:=fun e=>by
            cases hl:a.a.ints with
            | nil=>exact h0 hl
            | cons y0 l0=>
              have:=x5 0 y0 (by rw [hl];rfl);rw [e] at this;simp [World.cell?,hbz] at this
          refine .inr ⟨h0,g,cap,x1,trivial,x3,x4,fun k y hy=>?_⟩;have hlt:g < W4.heap.size:=Et (x5 k y hy);rw [cell_of (w:=W4) (a:=⟨g,k,none⟩) (rY g hlt hne)];exact x5 k y hy
      . obtain ⟨te,m1,m2 | ⟨g,cap,cur,m3,m4,m5,m6⟩⟩:=hov
        . exact ⟨te,m1,.inl m2⟩
        . exact ⟨te,m1,.inr ⟨g,cap,cur,m3,by omega,by rw [hst g zOM];exact m5,m6⟩⟩
      . have hl:=hkl g hg;rw [rY g zOM zOM];exact aJ g hg
    have HV:=Lib.hid (zAI hfin (zAI i1 (zAI j2 (zAI j3 (zAI n7 (zAI b7 s7))))));clear hfin hK hB' NM aJ hN1 hbz i1 i2 i3 hkl j2 j3 n7 b7 s7 z6 o6 n6 lY ha7;simp only [yJ,Try.f7];gi_wp2
    gi_region_with (gi_at_call 15;refine (values_in 7 (cb:=W.heap.size+2) (σ:=z.σ) W₇.drew hn2 HV.out.2.1 HV.out.2.2.1 HV.out.2.2.2.1).mono ?_;rintro e w1 ⟨v,rfl,ho,hB⟩;have e0:w1.cell? ⟨W4.heap.size,0,none⟩=some (.slice a1 a2 a3):=(hB.cell (p:=⟨W4.heap.size,0,none⟩) (by have:=HV.out.2.2.2.2.2.2;show W4.heap.size < W₇.heap.size;omega)).trans d0;have e1:w1.cell? ⟨W4.heap.size,1,none⟩=some (.slice y1 y2 y3):=(hB.cell (p:=⟨W4.heap.size,1,none⟩) (by have:=HV.out.2.2.2.2.2.2;show W4.heap.size < W₇.heap.size;omega)).trans d1;have e2:w1.cell? ⟨W4.heap.size,2,none⟩=some (.int .i64 z.s):=(hB.cell (p:=⟨W4.heap.size,2,none⟩) (by have:=HV.out.2.2.2.2.2.2;show W4.heap.size < W₇.heap.size;omega)).trans d2;have e3:w1.cell? ⟨W4.heap.size,3,none⟩=some (.bool (z.rd.any id)):=(hB.cell (p:=⟨W4.heap.size,3,none⟩) (by have:=HV.out.2.2.2.2.2.2;show W4.heap.size < W₇.heap.size;omega)).trans d3;have hbb:w1.heap[W.heap.size+1]?=some (.cells #[.slice none 0 0,.slice none 0 0,.int .i64 0,.bool false] 31 (0,0)):=(hB.block _ (by have:=HV.out.2.2.2.2.2.2;show W.heap.size+1 < W₇.heap.size;omega)).trans HV.out.2.2.2.2.2.1;have x0:w1.cell? ⟨W.heap.size+1,0,none⟩=some (.slice none 0 0):=(by simp [World.cell?,hbb]);have x1:w1.cell? ⟨W.heap.size+1,1,none⟩=some (.slice none 0 0):=(by simp [World.cell?,hbb]);have x2:w1.cell? ⟨W.heap.size+1,2,none⟩=some (.int .i64 0):=(by simp [World.cell?,hbb]);have x3:w1.cell? ⟨W.heap.size+1,3,none⟩=some (.bool false):=(by simp [World.cell?,hbb]);have f0:w1.frozen? ⟨W.heap.size+1,0,none⟩=false:=(by simp [World.frozen?,hbb]);have f1:w1.frozen? ⟨W.heap.size+1,1,none⟩=false:=(by simp [World.frozen?,hbb]);have f2:w1.frozen? ⟨W.heap.size+1,2,none⟩=false:=(by simp [World.frozen?,hbb]);have f3:w1.frozen? ⟨W.heap.size+1,3,none⟩=false:=(by simp [World.frozen?,hbb]);have HB:=Lib.hid (zAI hB (zAI ho hbb));clear hB ho hbb)
    all_goals
      gi_wp2;intro Y;obtain ⟨hfin,_⟩:=HV.out;obtain ⟨hB,ho,hbb⟩:=HB.out;generalize hW':World.setCell _ _ _=W';have hoth:∀ g,g≠W.heap.size+1->W'.heap[g]?=w1.heap[g]?:=fun g hg=>by rw [← hW'];simp [World.setCell,Array.getElem?_modify,Ne.symm hg]
      have hrow:W'.heap[W.heap.size+1]?=some (.cells #[.slice a1 a2 a3,.slice y1 y2 y3,.int .i64 z.s,.bool (z.rd.any id)] 31 (0,0)):=by rw [← hW'];simp [World.setCell,Array.getElem?_modify,hbb]
      have hsz:W'.heap.size=w1.heap.size:=by rw [← hW'];simp [World.setCell]
      clear hW';refine JW.returns (S:=(S0 (X:=Wk Ef Ec) (Sg:=List Int) Try.prog Fin Ea)) Try.func7 (v:=.tuple #[.agg #[.slice a1 a2 a3,.slice y1 y2 y3,.int .i64 z.s,.bool (z.rd.any id)],v,.int .i64 0]) (fun W₂ ha2=>?_) (hfin w1 W' v ho hB hoth hsz);have J3:W₂.heap=W'.heap:=by obtain ⟨τ,d,rfl⟩:=ha2;rfl
      have g0:W₂.cell? ⟨W.heap.size+1,0,none⟩=some (.slice a1 a2 a3):=by simp [World.cell?,J3,hrow]
      have g1:W₂.cell? ⟨W.heap.size+1,1,none⟩=some (.slice y1 y2 y3):=by simp [World.cell?,J3,hrow]
      have g2:W₂.cell? ⟨W.heap.size+1,2,none⟩=some (.int .i64 z.s):=by simp [World.cell?,J3,hrow]
      have g3:W₂.cell? ⟨W.heap.size+1,3,none⟩=some (.bool (z.rd.any id)):=by simp [World.cell?,J3,hrow]
      clear J3 hrow hoth hsz hfin hB ho hbb HV HB x0 x1 x2 x3 e0 e1 e2 e3 f0 f1 f2 f3 d0 d1 d2 d3;simp [results,Try.results7,go_sem,Frame.at,g0,g1,g2,g3]
end
end
section
section
variable {main:Bool}{Γ:Type}{S:EL Try.prog main Γ}{γ:Γ}{W:World}{cf:Frame}{cs:List Frame}
theorem Vh {n:Int}(hn:n < 1\/256 < n)(hJ:∀ W',W'.heap=W.heap->JW S.base γ (G (cf.finish (.tuple #[.pointer none,.int .i64 42])) cs) W') :
    JW S.base γ (G (Frame.enter Try.prog 9 #[.int .i64 n] .normal) (cf :: cs)) W:=by
  have ht:#[.int .i64 n] ++ Array.replicate (Try.f9.ntmps - (#[.int .i64 n]:Array Value).size) undef=#[.int .i64 n,undef,undef,undef,undef,undef,undef,undef,undef,undef,undef,undef,undef,undef]:=by
    have:Try.f9.ntmps=14:=by kernel_rfl
    rw [this];walk_nrm
  rw [enter_at (c:=(Try.f9.body).get rfl) _ Try.func9 rfl,ht];show JL S.L γ _ W;refine EL.EJ (S:=S) (b:=base 9) [] (by simp) zKR nE zKR fun W₁ ha=>?_;have hh:W₁.heap=W.heap:=by obtain ⟨τ,d,rfl⟩:=ha;rfl
  have HH:=Lib.hid (zAI hJ hh);clear hJ hh;by_cases h1:n < 1
  . have g1:decide (n < 1)=true:=by simp [h1]
    clear hn;simp only [Try.f9,Option.get_some];gi_wp2;intro Y;obtain ⟨hJ,hh⟩:=HH.out;exact JL.back rfl Try.func9 (v:=.tuple #[.pointer none,.int .i64 42]) (fun w=>by kernel_rfl) (hJ _ hh)
  . have h2:256 < n:=by omega
    have g1:decide (n < 1)=false:=by simp;omega
    have g2:decide (256 < n)=true:=by simp [h2]
    clear hn;simp only [Try.f9,Option.get_some];gi_wp2;intro Y;obtain ⟨hJ,hh⟩:=HH.out;exact JL.back rfl Try.func9 (v:=.tuple #[.pointer none,.int .i64 42]) (fun w=>by kernel_rfl) (hJ _ hh)
end
end
end Go.Proofs.Yticecinjcajmcaa
namespace Go.Proofs.Yticecinjcajmcaa
open Go Go.RowKit BA
theorem Ym {pg po Fw n:Nat}{wo ta ha:Option Addr}{tn tc hn hc:Nat}{u:Int}(w:World)(hn0:n<=1000000)(hwo:0 < n->wo=some ⟨pg,po,none⟩)(hcell:∀ i,i < n->∃ a q c,q<=1000000000/\w.cell? ⟨pg,po+i,none⟩=some (.slice a q c))(hbad:n=0\/8 < n\/u < 0\/20000 < u\/∃ j,j < n/\∃ a q c,64 < q/\w.cell? ⟨pg,po+j,none⟩=some (.slice a q c)) :
    CallsIn (Fence.list [19,29] none) 0 Try.prog 29 #[.agg #[.slice wo n Fw,.slice ta tn tc,.slice ha hn hc,.int .i64 u]] w fun e w'=>e=.returned (.int .i64 30)/\Below w.heap.size w w':=by
  have HC:=Lib.hid hcell;clear hcell;by_cases hA:n=0
  . subst hA;clear hbad;gi_enter Try.func29,Try.ntmps29
    gi_wp2;go_ret
    exact ⟨rfl,(Below.refl _ w).alloc (Nat.le_refl _) _⟩
  have g1:((n:Int) == 0)=false:=by simp;omega
  by_cases hB:8 < n
  . clear hbad;have g2:decide (8 < (n:Int))=true:=by simp;omega
    gi_enter Try.func29,Try.ntmps29
    gi_wp2;go_ret
    exact ⟨rfl,(Below.refl _ w).alloc (Nat.le_refl _) _⟩
  have g2:decide (8 < (n:Int))=false:=by simp;omega
  by_cases hu:u < 0
  . clear hbad;have g3:decide (u < 0)=true:=by simp;omega
    gi_enter Try.func29,Try.ntmps29
    gi_wp2;go_ret
    exact ⟨rfl,(Below.refl _ w).alloc (Nat.le_refl _) _⟩
  have g3:decide (u < 0)=false:=by simp;omega
  by_cases hu2:20000 < u
  . clear hbad;have g4:decide (20000 < u)=true:=by simp;omega
    gi_enter Try.func29,Try.ntmps29
    gi_wp2;go_ret
    exact ⟨rfl,(Below.refl _ w).alloc (Nat.le_refl _) _⟩
  have g4:decide (20000 < u)=false:=by simp;omega
  obtain ⟨j,hj,aj,qj,cj,hqj,hcj⟩:∃ j,j < n/\∃ a q c,64 < q/\w.cell? ⟨pg,po+j,none⟩=some (.slice a q c):=by
    rcases hbad with h|h|h|h|h
    . exact absurd h hA
    . exact absurd h hB
    . exact absurd h hu
    . exact absurd h hu2
    . exact h
  obtain rfl:=hwo zOM;gi_enter Try.func29,Try.ntmps29
  gi_wp2;generalize hW:World.alloc w _=W1;have Y8:(∀ i,i < n->∃ a q c,q<=1000000000/\W1.cell? ⟨pg,po+i,none⟩=some (.slice a q c))/\W1.cell? ⟨pg,po+j,none⟩=some (.slice aj qj cj):=⟨fun i hi=>by obtain ⟨a,q,c,hq,hcx⟩:=HC.out i hi;exact ⟨a,q,c,hq,by rw [← hW];exact Lib.cell?_alloc_some _ hcx⟩,by rw [← hW];exact Lib.cell?_alloc_some _ hcj⟩
  have HB:Below w.heap.size w W1:=by rw [← hW];exact (Below.refl _ w).alloc (Nat.le_refl _) _
  have zn:=Lib.hid Y8;have HB2:=Lib.hid HB;clear Y8 HB HC hW hcj hbad;gi_loop [28] (fun i=>∃ k:Nat,k<=j/\i=.int .i64 k) (fun i=>n - (intOf i).toNat)
  case atStart=>exact ⟨0,by omega,rfl⟩
  case round=>
    obtain ⟨k,hk,rfl⟩:=hrel;have hlt:k < n:=by omega
    obtain ⟨a,q,c,hq0,hcx⟩:=zn.out.1 k hlt;by_cases hq:64 < q
    . have g5:decide (64 < (q:Int))=true:=by simp;omega
      gi_wp2;go_ret
      exact ⟨rfl,HB2.out⟩
    . have g5:decide (64 < (q:Int))=false:=by simp;omega
      have hkj:k < j:=by
        rcases Nat.lt_or_ge k j with h|h
        . exact h
        . exfalso
          obtain rfl:k=j:=by omega
          have:=zn.out.2;rw [hcx] at this;cases this
          exact hq hqj
      gi_wp2;go_round
      case rel=>exact ⟨k+1,by omega,by go_num⟩
      case measure=>simp [intOf];omega
end Go.Proofs.Yticecinjcajmcaa
namespace Go.Proofs.Yticecinjcajmcaa
open Go Go.Conc Go.LT Go.LC Go.LK Go.RowKit
open Go.ConcN (WgLive)
section
section
variable {X Sg:Type}
variable {Fin:FE}{Ea:E5 Try.prog Fin}
variable {B:Nat->Bool}{W:World}{n:Nat}{c:Frame}{cs:List Frame}
theorem jE {pg po Fw wn:Nat}{wo xa ya:Option Addr}{xn xc yn yc:Nat}{u:Int}{dt:TypeId}{dw:Value}(hn0:wn<=1000000)(hwo:0 < wn->wo=some ⟨pg,po,none⟩)(hcell:(∀ i,i < wn->∃ a q c,q<=1000000000/\W.cell? ⟨pg,po+i,none⟩=some (.slice a q c))/\(wn=0\/8 < wn\/u < 0\/20000 < u\/∃ j,j < wn/\∃ a q c,64 < q/\W.cell? ⟨pg,po+j,none⟩=some (.slice a q c)))(hK:∀ W',(∀ g,g < W.heap.size->W'.heap[g]?=W.heap[g]?)->W.heap.size<=W'.heap.size->JW (S0 (X:=X) (Sg:=Sg) Try.prog Fin Ea).base (.Gp B n) (G (c.finish (.tuple #[.agg #[.slice none 0 0,.slice none 0 0,.int .i64 0,.bool false],.int .i64 30])) cs) W') :
    JW (S0 (X:=X) (Sg:=Sg) Try.prog Fin Ea).base (.Gp B n) (G (Frame.enter Try.prog 19 #[.agg #[.slice wo wn Fw,.slice xa xn xc,.slice ya yn yc,.int .i64 u],.iface dt dw] .normal) (c :: cs)) W:=by
  have ht:#[.agg #[.slice wo wn Fw,.slice xa xn xc,.slice ya yn yc,.int .i64 u],.iface dt dw] ++ Array.replicate (Try.f19.ntmps - (#[.agg #[.slice wo wn Fw,.slice xa xn xc,.slice ya yn yc,.int .i64 u],.iface dt dw]:Array Value).size) undef=#[.agg #[.slice wo wn Fw,.slice xa xn xc,.slice ya yn yc,.int .i64 u],.iface dt dw,undef,undef,undef,undef,undef,undef,undef,undef,undef,undef,undef,undef,undef,undef,undef,undef,undef,undef,undef,undef,undef,undef,undef,undef,undef,undef,undef,undef,undef,undef,undef,undef,undef,undef,undef,undef,undef,undef,undef,undef,undef,undef,undef,undef,undef,undef,undef,undef,undef,undef,undef]:=by
    have:Try.f19.ntmps=53:=by kernel_rfl
    rw [this];walk_nrm
  rw [enter_at _ Try.func19 XP,ht];show JL (S0 (X:=X) (Sg:=Sg) Try.prog Fin Ea).L (.Gp B n) _ W;refine Ei ?_;refine EL.EJ (S:=S0 (X:=X) (Sg:=Sg) Try.prog Fin Ea) (b:=base 19) [] (by simp) zKR nE zKR fun W₁ ha=>?_;have hh:W₁.heap=W.heap:=by obtain ⟨τ,d,rfl⟩:=ha;rfl
  have HH:=Lib.hid (zAI hK (zAI hh hcell));clear hK hh hcell;simp only [rn0,Try.f19];gi_wp2;obtain ⟨hK,hh,hcell⟩:=HH.out;clear HH;generalize hW2:World.alloc _ _=W2;have q:∀ g,g < W.heap.size->W2.heap[g]?=W.heap[g]?:=fun g hg=>by rw [← hW2,← hh];rw [Below.heap_alloc _ _ _ (by simp;rw [hh];omega),Below.heap_alloc _ _ _ (by simp;rw [hh];omega),Below.heap_alloc _ _ _ (by rw [hh];omega)]
  have hz:W2.heap.size=W.heap.size+3:=by rw [← hW2];simp [hh]
  have q0:W2.heap[W.heap.size]?=some (.cells #[.slice wo wn Fw,.slice xa xn xc,.slice ya yn yc,.int .i64 u] 25 (0,0)):=by rw [← hW2,← hh];rw [Below.heap_alloc _ _ _ (by simp;omega),Below.heap_alloc _ _ _ (by simp)];exact heap_alloc_new _ _
  have q1:W2.heap[W.heap.size+1]?=some (.cells #[.iface dt dw] 59 (0,0)):=by rw [← hW2,← hh];rw [Below.heap_alloc _ _ _ (by simp)];exact Rv _ _ _
  have q2:W2.heap[W.heap.size+2]?=some (.cells #[.slice none 0 0,.slice none 0 0,.int .i64 0,.bool false] 31 (0,0)):=by rw [← hW2,← hh];exact Rt _ _ _ _
  clear hW2;rw [hh];show JL (S0 (X:=X) (Sg:=Sg) Try.prog Fin Ea).L (.Gp B n) _ W2;try dsimp only
  refine Ei ?_;refine EL.EJ (S:=S0 (X:=X) (Sg:=Sg) Try.prog Fin Ea) (b:=base 19) [29] Uq zKR nE zKR fun W₃ LA=>?_;have hh3:W₃.heap=W2.heap:=by obtain ⟨τ,d,rfl⟩:=LA;rfl
  have Pw:(∀ i,i < wn->∃ a q c,q<=1000000000/\W₃.cell? ⟨pg,po+i,none⟩=some (.slice a q c))/\(wn=0\/8 < wn\/u < 0\/20000 < u\/∃ j,j < wn/\∃ a q c,64 < q/\W₃.cell? ⟨pg,po+j,none⟩=some (.slice a q c)):=by
    have mv:∀ o v,W.cell? ⟨pg,o,none⟩=some v->W₃.cell? ⟨pg,o,none⟩=some v:=fun o v hx=>by
      have hlt:pg < W.heap.size:=by
        simp only [World.cell?] at hx;cases ho:W.heap[pg]? with
        | none=>rw [ho] at hx;cases hx
        | some o=>exact (zGE ho).1
      simp only [World.cell?,hh3,q pg hlt] at hx ⊢;exact hx
    refine ⟨fun i hi=>?_,?_⟩
    . obtain ⟨a,q',c,hq,hx⟩:=hcell.1 i hi;exact ⟨a,q',c,hq,mv _ _ hx⟩
    . rcases hcell.2 with h | h | h | h | ⟨j,hj,a,q',c,hq,hx⟩
      . exact .inl h
      . exact .inr (.inl h)
      . exact .inr (.inr (.inl h))
      . exact .inr (.inr (.inr (.inl h)))
      . exact .inr (.inr (.inr (.inr ⟨j,hj,a,q',c,hq,mv _ _ hx⟩)))
  have c0:W₃.cell? ⟨W.heap.size,0,none⟩=some (.slice wo wn Fw):=by simp [World.cell?,hh3,q0]
  have c1:W₃.cell? ⟨W.heap.size,1,none⟩=some (.slice xa xn xc):=by simp [World.cell?,hh3,q0]
  have c2:W₃.cell? ⟨W.heap.size,2,none⟩=some (.slice ya yn yc):=by simp [World.cell?,hh3,q0]
  have c3:W₃.cell? ⟨W.heap.size,3,none⟩=some (.int .i64 u):=by simp [World.cell?,hh3,q0]
  have HH:=Lib.hid (zAI hK (zAI hh3 (zAI q (zAI hz (zAI q0 (zAI q1 q2))))));clear hK hh hh3 hcell q hz q0 q1 q2;have HC:=Lib.hid Pw;clear Pw;simp only [rn1,Try.f19]
  gi_wp2_with (gi_at_call 29;refine (Ym (pg:=pg) (po:=po) _ hn0 hwo HC.out.1 HC.out.2).mono ?_;rintro e w1 ⟨rfl,hB⟩;have hbb:w1.heap[W.heap.size+1+1]?=some (.cells #[.slice none 0 0,.slice none 0 0,.int .i64 0,.bool false] 31 (0,0)):=(hB.block _ (by have:=HH.out.2.2.2.1;have:=HH.out.2.1;show W.heap.size+1+1 < W₃.heap.size;rw [this];omega)).trans (by rw [HH.out.2.1];exact HH.out.2.2.2.2.2.2);have x0:w1.cell? ⟨W.heap.size+1+1,0,none⟩=some (.slice none 0 0):=(by simp [World.cell?,hbb]);have x1:w1.cell? ⟨W.heap.size+1+1,1,none⟩=some (.slice none 0 0):=(by simp [World.cell?,hbb]);have x2:w1.cell? ⟨W.heap.size+1+1,2,none⟩=some (.int .i64 0):=(by simp [World.cell?,hbb]);have x3:w1.cell? ⟨W.heap.size+1+1,3,none⟩=some (.bool false):=(by simp [World.cell?,hbb]);have f0:w1.frozen? ⟨W.heap.size+1+1,0,none⟩=false:=(by simp [World.frozen?,hbb]);have f1:w1.frozen? ⟨W.heap.size+1+1,1,none⟩=false:=(by simp [World.frozen?,hbb]);have f2:w1.frozen? ⟨W.heap.size+1+1,2,none⟩=false:=(by simp [World.frozen?,hbb]);have f3:w1.frozen? ⟨W.heap.size+1+1,3,none⟩=false:=(by simp [World.frozen?,hbb]);have HB:=Lib.hid (zAI hB hbb);clear hB hbb)
  obtain ⟨hK,hh3,q,hz,q0,q1,q2⟩:=HH.out;clear HH;obtain ⟨hB,hbb⟩:=HB.out;intro Y;generalize hW':World.setCell _ _ _=W';have hB':∀ g,g < W.heap.size+2->W'.heap[g]?=W2.heap[g]?:=fun g hg=>by
    rw [← hh3,← hB.block g (by rw [hh3,hz];omega),← hW'];have hne:¬ (W.heap.size+1+1=g):=by omega
    simp [World.setCell,Array.getElem?_modify,hne]
  have hrow:W'.heap[W.heap.size+1+1]?=some (.cells #[.slice none 0 0,.slice none 0 0,.int .i64 0,.bool false] 31 (0,0)):=by rw [← hW'];simp [World.setCell,Array.getElem?_modify,hbb]
  have hsz:W'.heap.size=w1.heap.size:=by rw [← hW'];simp [World.setCell]
  clear hW';refine JW.returns (S:=S0 (X:=X) (Sg:=Sg) Try.prog Fin Ea) Try.func19 (v:=.tuple #[.agg #[.slice none 0 0,.slice none 0 0,.int .i64 0,.bool false],.int .i64 30]) (fun W₂ ha2=>?_) (hK W' (fun g hg=>by rw [hB' g zOM,q g hg]) (by have:=hB.size;rw [hh3,hz] at this;omega));have J3:W₂.heap=W'.heap:=by obtain ⟨τ,d,rfl⟩:=ha2;rfl
  have g0:W₂.cell? ⟨W.heap.size+1+1,0,none⟩=some (.slice none 0 0):=by simp [World.cell?,J3,hrow]
  have g1:W₂.cell? ⟨W.heap.size+1+1,1,none⟩=some (.slice none 0 0):=by simp [World.cell?,J3,hrow]
  have g2:W₂.cell? ⟨W.heap.size+1+1,2,none⟩=some (.int .i64 0):=by simp [World.cell?,J3,hrow]
  have g3:W₂.cell? ⟨W.heap.size+1+1,3,none⟩=some (.bool false):=by simp [World.cell?,J3,hrow]
  clear J3 hrow hsz hB hbb hB' hh3 q hz q0 q1 q2 hK x0 x1 x2 x3 f0 f1 f2 f3 c0 c1 c2 c3;simp [results,Try.results19,go_sem,Frame.at, *]
end
end
end Go.Proofs.Yticecinjcajmcaa
end
