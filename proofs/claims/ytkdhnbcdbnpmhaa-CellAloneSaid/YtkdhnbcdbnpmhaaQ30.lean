/-
  Part 30 of the proof that CellAlone returns true for every input and leaves its arguments as they were. No further condition.
-/
import Derived.Test.YtkdhnbcdbnpmhaaQ29
import Derived.LoopIn
set_option linter.unusedVariables false
set_option linter.unusedSectionVars false
set_option maxHeartbeats 4000000
set_option maxRecDepth 100000
namespace Go.Proofs.Ytkdhnbcdbnpmhaa
open Go Go.Conc Go.LT Go.LC Go.LK Go.RowKit
open BA TU
section
section
variable {Fin:Iw}{GR:Ig Try.prog Fin}
variable {B:Nat->Bool}{W:World}{nn:Nat}{c:Frame}{cs:List Frame}
theorem mH {ct cb lb n:Nat}{σ:List Int}{d:G5}{pa:Option Addr}{pn pc:Nat}{Kp:Nat->Prop}(hl:σ.length=n)(TY:n<=256)(hct:W.heap[ct]?=some (.cells #[.slice (some ⟨cb,0,none⟩) n n] 71 (0,0)))(hcb:W.heap[cb]?=some (.cells (σ.map (Value.int .i64)).toArray 80 (0,0)))(hlb:W.heap[lb]?=some (.cells (σ.map (Value.int .i64)).toArray 3 (0,0)))(n1:ct≠cb)(n2:lb≠cb)(n5:ct≠lb)(hkp:∀ g,Kp g->(∃ c e f,W.heap[g]?=some (.cells c e f))/\g≠cb/\g≠lb)(hJ:∀ W' (σ':List Int),σ'.length=n->W'.heap[ct]?=some (.cells #[.slice (some ⟨cb,0,none⟩) n n] 71 (0,0))->W'.heap[cb]?=some (.cells (σ'.map (Value.int .i64)).toArray 80 (0,0))->W'.heap[lb]?=some (.cells (σ'.map (Value.int .i64)).toArray 3 (0,0))->(∀ g,Kp g->W'.heap[g]?=W.heap[g]?)->W.heap.size<=W'.heap.size->JW (S0 (X:=Wk G5 GU) (Sg:=List Int) Try.prog Fin GR).base (.Ii B nn) (G (c.finish (.bool true)) cs) W') :
    JW (S0 (X:=Wk G5 GU) (Sg:=List Int) Try.prog Fin GR).base (.Ii B nn) (G (Frame.enter Try.prog 8 #[.pointer (some ⟨ct,0,none⟩),.slice (some ⟨lb,0,none⟩) n n,.agg #[.int .i64 d.kind,.int .i64 d.a,.int .i64 d.b,.int .i64 d.c,.slice pa pn pc]] .normal) (c :: cs)) W:=by
  have ht:#[.pointer (some ⟨ct,0,none⟩),.slice (some ⟨lb,0,none⟩) n n,.agg #[.int .i64 d.kind,.int .i64 d.a,.int .i64 d.b,.int .i64 d.c,.slice pa pn pc]] ++ Array.replicate (Try.f8.ntmps - (#[.pointer (some ⟨ct,0,none⟩),.slice (some ⟨lb,0,none⟩) n n,.agg #[.int .i64 d.kind,.int .i64 d.a,.int .i64 d.b,.int .i64 d.c,.slice pa pn pc]]:Array Value).size) undef=#[.pointer (some ⟨ct,0,none⟩),.slice (some ⟨lb,0,none⟩) n n,.agg #[.int .i64 d.kind,.int .i64 d.a,.int .i64 d.b,.int .i64 d.c,.slice pa pn pc],undef,undef,undef,undef,undef,undef,undef,undef,undef,undef,undef,undef,undef,undef,undef,undef,undef,undef,undef,undef,undef,undef,undef,undef,undef,undef,undef,undef,undef,undef,undef,undef,undef,undef,undef,undef,undef,undef,undef,undef,undef,undef,undef,undef,undef,undef,undef,undef,undef,undef,undef,undef,undef,undef,undef,undef,undef,undef,undef,undef,undef,undef,undef,undef,undef,undef,undef,undef,undef,undef,undef,undef,undef,undef,undef,undef,undef,undef,undef,undef,undef,undef,undef,undef,undef,undef,undef,undef,undef,undef,undef,undef,undef,undef,undef,undef,undef,undef,undef,undef,undef,undef,undef,undef,undef,undef,undef,undef,undef,undef,undef,undef,undef,undef,undef,undef,undef,undef,undef,undef,undef,undef,undef,undef,undef,undef,undef,undef,undef,undef,undef,undef,undef,undef,undef,undef,undef,undef,undef,undef,undef,undef,undef,undef,undef,undef,undef,undef,undef,undef,undef,undef,undef,undef,undef,undef,undef,undef,undef,undef,undef,undef,undef,undef,undef,undef]:=by
    have:Try.f8.ntmps=169:=by kernel_rfl
    rw [this];walk_nrm
  rw [enter_at _ Try.func8 oL,ht];clear ht;show JL (S0 (X:=Wk G5 GU) (Sg:=List Int) Try.prog Fin GR).L _ _ W;refine GY stepG_seq ?_;refine HY.Ht (S:=(S0 (X:=Wk G5 GU) (Sg:=List Int) Try.prog Fin GR)) (b:=base 8) [] (by simp) (by kernel_rfl) nE (by kernel_rfl) fun GQ hal=>?_;have HA:=Lib.hid (And.intro hl (And.intro TY (And.intro hct (And.intro hcb (And.intro hlb (And.intro n1 (And.intro n2 (And.intro n5 (And.intro hkp hJ)))))))));have HH:=Lib.hid (show GQ.heap=W.heap by obtain ⟨τ,d,rfl⟩:=hal;rfl);clear hl TY hct hcb hlb n1 n2 n5 hkp hJ hal;simp only [dn0,Try.f8];gi_wp2;refine Hg ?_;generalize hW1:World.alloc GQ _=W1;have q1:W1.heap=W.heap.push (.cells #[.int .i64 d.kind,.int .i64 d.a,.int .i64 d.b,.int .i64 d.c,.slice pa pn pc] 32 (0,0)):=by rw [← hW1,← HH.out];rfl
  have hs:GQ.heap.size=W.heap.size:=by rw [HH.out]
  rw [hs];clear hs hW1 HH;obtain ⟨hl,TY,hct,hcb,hlb,n1,n2,n5,hkp,hJ⟩:=HA.out;clear HA;have lt:∀ {g:Nat} {o},W.heap[g]?=some o->g < W.heap.size:=fun h=>(Array.getElem?_eq_some_iff.1 h).1;have o1:∀ g,g < W.heap.size->W1.heap[g]?=W.heap[g]?:=fun g hg=>by rw [q1,Array.getElem?_push,if_neg (by omega)]
  have z1:W1.heap.size=W.heap.size+1:=by rw [q1];simp
  have h:Two ct cb lb W.heap.size n σ σ d (.slice pa pn pc) Kp W1:=by
    have l1:=lt hct;have l2:=lt hcb;have l3:=lt hlb;exact ⟨hl,hl,TY,(o1 _ l1).trans hct,(o1 _ l2).trans hcb,(o1 _ l3).trans hlb,by rw [q1,Array.getElem?_push,if_pos rfl],n1,n2,by omega,by omega,n5,fun g hg=>by obtain ⟨⟨x,y,z,hx⟩,k1,k2⟩:=hkp g hg;exact ⟨⟨x,y,z,(o1 g (lt hx)).trans hx⟩,k1,k2⟩⟩
  have hJ':∀ W' σ',Two ct cb lb W.heap.size n σ' σ' d (.slice pa pn pc) Kp W'->(∀ g,Kp g->W'.heap[g]?=W1.heap[g]?)->W1.heap.size<=W'.heap.size->JW (S0 (X:=Wk G5 GU) (Sg:=List Int) Try.prog Fin GR).base (.Ii B nn) (G (c.finish (.bool true)) cs) W':=fun W' σ' t1 t2 t3=>hJ W' σ' t1.len t1.qct t1.qcb t1.wz (fun g hg=>by obtain ⟨⟨x,y,z,hx⟩,_⟩:=hkp g hg;exact (t2 g hg).trans (o1 g (lt hx))) (by omega)
  cases hi:inn n d.a with
  | true=>
    obtain ⟨k,ha,hkn⟩:∃ k:Nat,d.a=(k:Int)/\k < n:=by
      have hi2:0<=d.a/\d.a < (n:Int):=by simpa [inn] using hi
      exact ⟨d.a.toNat,by omega,by omega⟩
    refine iq h ha hkn fun W' hh EB EC ED EF EG EH EI EJ EK EL=>?_;exact fQ (h.same hh) ha hkn rfl fun W2 σ' t1 t2 t3=>hJ' W2 σ' t1 (fun g hg=>by rw [t2 g hg,hh]) (by rw [hh] at t3;exact t3)
  | false=>
    refine aB (k:=0) h hi fun W' hh EB EC ED EF EG EH EI EJ EK EL=>?_;exact ZY (k:=0) (h.same hh) hi fun W2 σ' t1 t2 t3=>hJ' W2 σ' t1 (fun g hg=>by rw [t2 g hg,hh]) (by rw [hh] at t3;exact t3)
end
end
section
section
variable {main:Bool}{Γ:Type}{S:HY Try.prog main Γ}{γ:Γ}{W:World}{cf:Frame}{cs:List Frame}
theorem Rj {n:Int}(hn:n < 1\/256 < n)(hJ:∀ W',W'.heap=W.heap->JW S.base γ (G (cf.finish (.tuple #[.pointer none,.int .i64 42])) cs) W') :
    JW S.base γ (G (Frame.enter Try.prog 6 #[.int .i64 n] .normal) (cf :: cs)) W:=by
  have ht:#[.int .i64 n] ++ Array.replicate (Try.f6.ntmps - (#[.int .i64 n]:Array Value).size) undef=#[.int .i64 n,undef,undef,undef,undef,undef,undef,undef,undef,undef,undef,undef,undef,undef]:=by
    have:Try.f6.ntmps=14:=by kernel_rfl
    rw [this];walk_nrm
  rw [enter_at (c:=(Try.f6.body).get rfl) _ Try.func6 rfl,ht];show JL S.L γ _ W;refine HY.Ht (S:=S) (b:=base 6) [] (by simp) (by kernel_rfl) nE (by kernel_rfl) fun GQ ha=>?_;have hh:GQ.heap=W.heap:=by obtain ⟨τ,d,rfl⟩:=ha;rfl
  have HH:=Lib.hid (And.intro hJ hh);clear hJ hh;by_cases h1:n < 1
  . have g1:decide (n < 1)=true:=by simp [h1]
    clear hn;simp only [Try.f6,Option.get_some];gi_wp2;intro Y;obtain ⟨hJ,hh⟩:=HH.out;exact JL.back rfl Try.func6 (v:=.tuple #[.pointer none,.int .i64 42]) (fun w=>by kernel_rfl) (hJ _ hh)
  . have h2:256 < n:=by omega
    have g1:decide (n < 1)=false:=by simp;omega
    have g2:decide (256 < n)=true:=by simp [h2]
    clear hn;simp only [Try.f6,Option.get_some];gi_wp2;intro Y;obtain ⟨hJ,hh⟩:=HH.out;exact JL.back rfl Try.func6 (v:=.tuple #[.pointer none,.int .i64 42]) (fun w=>by kernel_rfl) (hJ _ hh)
end
end
theorem XH (h:FuncId){g o:Nat}{y:Int}(w:World)(hc:w.cell? ⟨g,o,none⟩=some (.int .i64 y)) :
    CallsIn (Fence.list [h,9,27,61,10] none) 0 Try.prog 27 #[.pointer (some ⟨g,o,none⟩)] w fun e w'=>e=.returned (.int .i64 y)/\w=w':=by
  have hl:=run_call_load (P:=Try.prog) Try.func61 (by kernel_rfl) (by kernel_rfl) (by kernel_rfl) .i64 (by kernel_rfl) hc;gi_enter Try.func27,Try.ntmps27
  gi_wp2;go_ret
  exact ⟨rfl,rfl⟩
theorem PU (h:FuncId){ct cb n:Nat}{σ:List Int}(w:World)(hn:n<=256)(hl:σ.length=n)(h1:w.heap[ct]?=some (.cells #[.slice (some ⟨cb,0,none⟩) n n] 71 (0,0)))(h2:w.heap[cb]?=some (.cells (σ.map (Value.int .i64)).toArray 80 (0,0))) :
    CallsIn (Fence.list [h,9,27,61,10] none) 0 Try.prog 9 #[.pointer (some ⟨ct,0,none⟩)] w fun e w'=>∃ v,e=.returned v/\IE w' w.heap.size 1 v n (σ.map (Value.int .i64))/\Below w.heap.size w w':=by
  obtain ⟨i0,hi,hz0,hz1,hz2⟩:=info_parts Qp;have c0:w.cell? ⟨ct,0,none⟩=some (.slice (some ⟨cb,0,none⟩) n n):=by simp [World.cell?,h1]
  have hlt1:ct < w.heap.size:=(Array.getElem?_eq_some_iff.1 h1).1;have hlt2:cb < w.heap.size:=(Array.getElem?_eq_some_iff.1 h2).1;have hcell:∀ i,i < n->w.cell? ⟨cb,i,none⟩=some (.int .i64 (σ.getD i 0)):=fun i hi=>by simp [World.cell?,h2,hl,hi]
  have HC:=Lib.hid (And.intro hcell (And.intro hl (And.intro hlt1 hlt2)));clear hcell hl h1 h2 hlt1 hlt2;gi_enter Try.func9,Try.ntmps9
  gi_wp2;gi_loopw [3,10] (fun v i wr=>∃ k:Nat,k<=n/\i=.int .i64 k/\RowKit.Hid (IE wr w.heap.size 1 v k ((σ.take k).map (Value.int .i64))/\Below w.heap.size w wr)) (fun _ i _=>n - (intOf i).toNat)
  case atStart=>exact ⟨0,Nat.zero_le _,rfl,Lib.hid ⟨by simpa using IE.nil w w.heap.size 1,Below.refl _ _⟩⟩
  case round=>
    obtain ⟨k,hk,rfl,hinv⟩:=hrel;by_cases hlt:k < n
    . obtain ⟨hcell,hl,hlt1,hlt2⟩:=HC.out;obtain ⟨ho,hb⟩:=hinv.out;have d0:wr.cell? ⟨ct,0,none⟩=some (.slice (some ⟨cb,0,none⟩) n n):=(hb.cell (p:=⟨ct,0,none⟩) hlt1).trans c0;have dk:wr.cell? ⟨cb,k,none⟩=some (.int .i64 (σ.getD k 0)):=(hb.cell (p:=⟨cb,k,none⟩) hlt2).trans (hcell k hlt);have htk:(σ.take (k+1)).map (Value.int .i64)=(σ.take k).map (Value.int .i64) ++ [.int .i64 (σ.getD k 0)]:=by
        have:σ[k]?=some (σ.getD k 0):=by simp [List.getD,hl,hlt]
        rw [List.take_add_one,this]
        simp
      have HT:=Lib.hid htk;generalize σ.getD k 0=y at dk htk;have HT2:=Lib.hid htk;clear htk hcell hl hlt1 hlt2 c0 hinv;gi_wp2_with (first | (gi_at_call 27;refine (XH h _ dk).mono ?_;rintro e w2 ⟨rfl,rfl⟩) | (gi_at_builtin;refine Jv _ rfl _ _ 29 rfl w.heap.size 3 i0 (.int .i64 0) 1 8 Try.underlying29 hi hz0 hz1 hz2 rfl (by decide) _ _ _ rfl (ho.alloc _) ⟨wr.heap.size,0,none⟩ 1 1 [.int .i64 y] rfl rfl ?c1 ?c2 ?c3 ?c4 ?c5 ?_))
      case c1=>exact cell_one_new _ _ _
      case c2=>intro u hu;simp at hu;subst hu;rfl
      case c3=>unfold maxLen;omega
      case c4=>omega
      case c5=>have:=hb.size;simp;omega
      intro v' w1 g1 g2 g3;have hb1:Below w.heap.size w w1:=(hb.alloc hb.size _).grown g2 (by have:=hb.size;simp;omega) (fun j hj=>(ho.blk j hj).1);have HI:=Lib.hid (And.intro g1 hb1);clear g1 g2 g3 hb1 ho hb;gi_wp2;go_roundw
      case rel=>exact ⟨k+1,by omega,by go_num,Lib.hid ⟨by rw [HT2.out,List.map_take];exact HI.out.1,HI.out.2⟩⟩
      case measure=>simp [intOf];omega
    . obtain rfl:k=n:=by omega
      gi_wp2;go_ret
      obtain ⟨ho,hb⟩:=hinv.out;have:σ.take k=σ:=List.take_of_length_le (by have:=HC.out.2.1;omega);rw [this] at ho;exact ⟨_,rfl,ho,hb⟩
theorem Xm (h:FuncId)(u v:Value)(a b:List Int)(w:World)(hu:Reads w u (a.map (Value.int .i64)))(hv:Reads w v (b.map (Value.int .i64)))(h1:a.length<=1000000) :
    CallsIn (Fence.list [h,9,27,61,10] none) 0 Try.prog 10 #[u,v] w fun e w'=>e=.returned (.bool (decide (a=b)))/\Below w.heap.size w w':=by
  obtain ⟨ua,uc,rfl,yZ⟩:=Og hu;obtain ⟨va,vc,rfl,hva⟩:=Og hv;have HU:=Lib.hid yZ;have HV:=Lib.hid hva;clear hu hv yZ hva;gi_enter Try.func10,Try.ntmps10
  by_cases hl:a.length=b.length
  . gi_wp2;gi_loopw [5] (fun iv wr=>∃ i:Nat,i<=a.length/\iv=.int .i64 i/\Below w.heap.size w wr/\Xx a b i) (fun iv _=>a.length - (intOf iv).toNat)
    case atStart=>exact ⟨0,by omega,rfl,Below.refl _ _,fun j hj=>by omega⟩
    case round=>
      obtain ⟨i,hi,rfl,hB,hE⟩:=hrel;by_cases hlt:i < a.length
      . have hlt':i < b.length:=by omega
        obtain ⟨b1,o1,rfl,d1⟩:=HU.out i hlt;obtain ⟨b2,o2,rfl,d2⟩:=HV.out i hlt';have q1:wr.cell? ⟨b1,o1+i,none⟩=some (.int .i64 (Qb a i)):=(hB.cell (p:=⟨b1,o1+i,none⟩) (World.block_lt_of_cell? w _ d1)).trans d1;have q2:wr.cell? ⟨b2,o2+i,none⟩=some (.int .i64 (Qb b i)):=(hB.cell (p:=⟨b2,o2+i,none⟩) (World.block_lt_of_cell? w _ d2)).trans d2;have Ac2:(i:Int) < (b.length:Int):=by omega
        clear d1 d2;by_cases he:Qb a i=Qb b i
        . have hE':Xx a b (i+1):=fun j hj=>by
            by_cases hji:j=i
            . subst hji;exact he
            . exact hE j (by omega)
          have he':(Qb a i != Qb b i)=false:=by simpa using he
          have HE':=Lib.hid hE';clear he hE hE';generalize Qb a i=x at q1 he';generalize Qb b i=y at q2 he';gi_wp2;gi_region
          gi_wp2;go_roundw
          case rel=>exact ⟨i+1,by omega,by go_num,hB.drew,HE'.out⟩
          case measure=>simp [intOf];omega
        . have he':(Qb a i != Qb b i)=true:=by simpa using he
          have hne:decide (a=b)=false:=decide_eq_false (fun e=>he (by rw [e]));have HN:=Lib.hid hne;clear he hE hne;generalize Qb a i=x at q1 he';generalize Qb b i=y at q2 he';gi_wp2;gi_region
          gi_wp2;go_ret
          exact ⟨by rw [HN.out];rfl,hB.drew⟩
      . obtain rfl:i=a.length:=by omega
        have hh:decide (a=b)=true:=decide_eq_true (UG hl hE);have HH:=Lib.hid hh;clear hh;gi_wp2;go_ret
        exact ⟨by rw [HH.out];rfl,hB⟩
  . have hne:decide (a=b)=false:=decide_eq_false (fun e=>hl (by rw [e]));have HN:=Lib.hid hne;have hli:¬ ((a.length:Int)=(b.length:Int)):=by omega
    clear hne;gi_wp2;go_ret
    exact ⟨by rw [HN.out];rfl,Below.refl _ _⟩
section
noncomputable def al0:Code:=match Try.f3.body with | some (.seq c _)=>c | _=>.skip
noncomputable def al1:Code:=match Try.f3.body with | some (.seq _ (.seq c _))=>c | _=>.skip
noncomputable def ak1:Code:=match Try.f3.body with | some (.seq _ (c))=>c | _=>.skip
noncomputable def al2:Code:=match Try.f3.body with | some (.seq _ (.seq _ (.seq c _)))=>c | _=>.skip
noncomputable def ak2:Code:=match Try.f3.body with | some (.seq _ (.seq _ (c)))=>c | _=>.skip
noncomputable def al3:Code:=match Try.f3.body with | some (.seq _ (.seq _ (.seq _ (.seq c _))))=>c | _=>.skip
noncomputable def ak3:Code:=match Try.f3.body with | some (.seq _ (.seq _ (.seq _ (c))))=>c | _=>.skip
noncomputable def al4:Code:=match Try.f3.body with | some (.seq _ (.seq _ (.seq _ (.seq _ (.seq c _)))))=>c | _=>.skip
noncomputable def ak4:Code:=match Try.f3.body with | some (.seq _ (.seq _ (.seq _ (.seq _ (c)))))=>c | _=>.skip
noncomputable def al5:Code:=match Try.f3.body with | some (.seq _ (.seq _ (.seq _ (.seq _ (.seq _ (.seq c _))))))=>c | _=>.skip
noncomputable def wL:Code:=match Try.f3.body with | some (.seq _ (.seq _ (.seq _ (.seq _ (.seq _ (c))))))=>c | _=>.skip
noncomputable def al6:Code:=match Try.f3.body with | some (.seq _ (.seq _ (.seq _ (.seq _ (.seq _ (.seq _ (.seq c _)))))))=>c | _=>.skip
noncomputable def ak6:Code:=match Try.f3.body with | some (.seq _ (.seq _ (.seq _ (.seq _ (.seq _ (.seq _ (c)))))))=>c | _=>.skip
noncomputable def al7:Code:=match Try.f3.body with | some (.seq _ (.seq _ (.seq _ (.seq _ (.seq _ (.seq _ (.seq _ (.seq c _))))))))=>c | _=>.skip
noncomputable def ak7:Code:=match Try.f3.body with | some (.seq _ (.seq _ (.seq _ (.seq _ (.seq _ (.seq _ (.seq _ (c))))))))=>c | _=>.skip
noncomputable def cu:Code:=match Try.f3.body with | some (.seq _ (.seq _ (.seq _ (.seq _ (.seq _ (.seq _ (.seq _ (.seq _ (.seq c _)))))))))=>c | _=>.skip
noncomputable def ak8:Code:=match Try.f3.body with | some (.seq _ (.seq _ (.seq _ (.seq _ (.seq _ (.seq _ (.seq _ (.seq _ (c)))))))))=>c | _=>.skip
noncomputable def al9:Code:=match Try.f3.body with | some (.seq _ (.seq _ (.seq _ (.seq _ (.seq _ (.seq _ (.seq _ (.seq _ (.seq _ (.seq c _))))))))))=>c | _=>.skip
noncomputable def pG:Code:=match Try.f3.body with | some (.seq _ (.seq _ (.seq _ (.seq _ (.seq _ (.seq _ (.seq _ (.seq _ (.seq _ (c))))))))))=>c | _=>.skip
noncomputable def Abc:Code:=match Try.f3.body with | some (.seq _ (.seq _ (.seq _ (.seq _ (.seq _ (.seq _ (.seq _ (.seq _ (.seq _ (.seq _ (.seq c _)))))))))))=>c | _=>.skip
noncomputable def qO:Code:=match Try.f3.body with | some (.seq _ (.seq _ (.seq _ (.seq _ (.seq _ (.seq _ (.seq _ (.seq _ (.seq _ (.seq _ (c)))))))))))=>c | _=>.skip
noncomputable def alE:Code:=match Try.f3.body with | some (.seq _ (.seq _ (.seq _ (.seq _ (.seq _ (.seq _ (.seq _ (.seq _ (.seq _ (.seq _ (.seq _ (c))))))))))))=>c | _=>.skip
theorem mg:Try.f3.body=some (.seq al0 ak1):=rfl
theorem vF:ak1=.seq al1 ak2:=rfl
theorem vB:ak2=.seq al2 ak3:=rfl
theorem tH:ak3=.seq al3 ak4:=rfl
theorem sO:ak4=.seq al4 wL:=rfl
theorem sF:wL=.seq al5 ak6:=rfl
theorem gW:ak6=.seq al6 ak7:=rfl
theorem uE:ak7=.seq al7 ak8:=rfl
theorem sU:ak8=.seq cu pG:=rfl
theorem rZ:pG=.seq al9 qO:=rfl
theorem nX:qO=.seq Abc alE:=rfl
noncomputable def Ua:Code:=match cu with | .seq _ (.block _ (.loop x))=>x | _=>.skip
noncomputable def uT:Code:=match Ua with | .seq (.seq x _) _=>x | _=>.skip
noncomputable def Abl:Code:=match Ua with | .seq _ (.seq (.block _ (.seq x _)) _)=>x | _=>.skip
noncomputable def su:Code:=match Ua with | .seq _ (.seq (.block _ (.seq _ (.seq x _))) _)=>x | _=>.skip
noncomputable def uM:Code:=match Ua with | .seq _ (.seq (.block _ (.seq _ (.seq _ x))) _)=>x | _=>.skip
noncomputable def uN:Code:=match Ua with | .seq _ (.seq _ x)=>x | _=>.skip
noncomputable def xW:Code:=match cu with | .seq x _=>x | _=>.skip
theorem sH:cu=.seq xW (.block 0 (.loop Ua)):=rfl
theorem gG:Ua=.seq (.seq uT (.cond (.tmp 90) .skip (.exit 0))) (.seq (.block 1 (.seq Abl (.seq su uM))) uN):=rfl
theorem Vd:∀ g∈[9,27,61,10],@Lets (Host.only 3) Try.prog g:=fun g hg=>by
  simp only [List.mem_cons,List.not_mem_nil,or_false] at hg;rcases hg with rfl|rfl|rfl|rfl
  . exact Po (by kernel_rfl) (by kernel_rfl) _ (by simp)
  . exact Po (by kernel_rfl) (by kernel_rfl) _ (by simp)
  . exact Po (h:=3) (by kernel_rfl) (by kernel_rfl) _ (by simp)
  . exact ⟨by kernel_rfl,.inl ⟨_,_,Try.func10,by kernel_rfl,rfl,by kernel_rfl⟩⟩
theorem Sk:∀ g∈[7,10],@Lets (Host.only 3) Try.prog g:=fun g hg=>by
  simp only [List.mem_cons,List.not_mem_nil,or_false] at hg;rcases hg with rfl|rfl
  . exact ⟨by kernel_rfl,.inl ⟨_,_,Try.func7,by kernel_rfl,rfl,by kernel_rfl⟩⟩
  . exact ⟨by kernel_rfl,.inl ⟨_,_,Try.func10,by kernel_rfl,rfl,by kernel_rfl⟩⟩
def kC (tm:Array Value):Prop:=∀ w,(results Try.f3 tm).runT Try.prog w #[]=(.ok (.bool true) w,#[])
structure CA (ct cb lb n MI Np MX n2:Nat)(σ τ:List Int)(Kp:Nat->Prop)(W:World):Prop where
  n1:1<=n
  n12:1<=n2
  hn:n<=256
  hn2:n2<=256
  hl:σ.length=n
  hl2:τ.length=n2
  hct:W.heap[ct]?=some (.cells #[.slice (some ⟨cb,0,none⟩) n n] 71 (0,0))
  hcb:W.heap[cb]?=some (.cells (σ.map (Value.int .i64)).toArray 80 (0,0))
  hlb:W.heap[lb]?=some (.cells (σ.map (Value.int .i64)).toArray 3 (0,0))
  Py:W.heap[MI]?=some (.cells #[.slice (some ⟨Np,0,none⟩) n2 n2] 71 (0,0))
  Pv:W.heap[Np]?=some (.cells (τ.map (Value.int .i64)).toArray 80 (0,0))
  U8:W.heap[MX]?=some (.cells (τ.map (Value.int .i64)).toArray 3 (0,0))
  ne:[ct,cb,lb,MI,Np,MX].Nodup
  kp:∀ g,Kp g->(∃ c e f,W.heap[g]?=some (.cells c e f))/\g∉[ct,cb,lb,MI,Np,MX]
section
variable {ct cb lb n MI Np MX n2:Nat}{σ τ:List Int}{Kp:Nat->Prop}{W W':World}
theorem CA.lt (h:CA ct cb lb n MI Np MX n2 σ τ Kp W):∀ g∈[ct,cb,lb,MI,Np,MX],g < W.heap.size:=fun g hg=>by
  have lt:∀ {g:Nat} {o},W.heap[g]?=some o->g < W.heap.size:=fun h=>(Array.getElem?_eq_some_iff.1 h).1;simp only [List.mem_cons,List.not_mem_nil,or_false] at hg;rcases hg with rfl|rfl|rfl|rfl|rfl|rfl
  . exact lt h.hct
  . exact lt h.hcb
  . exact lt h.hlb
  . exact lt h.Py
  . exact lt h.Pv
  . exact lt h.U8
theorem CA.keep (h:CA ct cb lb n MI Np MX n2 σ τ Kp W)(hk:∀ g,g < W.heap.size->W'.heap[g]?=W.heap[g]?):CA ct cb lb n MI Np MX n2 σ τ Kp W':=by
  have l:=fun g hg=>hk g (h.lt g hg);exact ⟨h.n1,h.n12,h.hn,h.hn2,h.hl,h.hl2,(l ct (by simp)).trans h.hct,(l cb (by simp)).trans h.hcb,(l lb (by simp)).trans h.hlb,(l MI (by simp)).trans h.Py,(l Np (by simp)).trans h.Pv,(l MX (by simp)).trans h.U8,h.ne,fun g hg=>by obtain ⟨⟨x,y,z,hx⟩,h2⟩:=h.kp g hg;exact ⟨⟨x,y,z,(hk g (Array.getElem?_eq_some_iff.1 hx).1).trans hx⟩,h2⟩⟩
theorem CA.same (h:CA ct cb lb n MI Np MX n2 σ τ Kp W)(hh:W'.heap=W.heap):CA ct cb lb n MI Np MX n2 σ τ Kp W':=h.keep fun g _=>by rw [hh]
theorem PE {l:List Int}{n:Nat}(h:l.length=n)(h1:1<=n):l.map (Value.int .i64)≠[]:=fun e=>by have:=congrArg List.length e;simp at this;subst this;simp at h;omega
theorem CA.ra (h:CA ct cb lb n MI Np MX n2 σ τ Kp W):Reads W (.slice (some ⟨lb,0,none⟩) n n) (σ.map (Value.int .i64)):=Jf h.hlb (by simp [h.hl]) (PE h.hl h.n1) (by have:=h.hn;omega)
theorem CA.rb (h:CA ct cb lb n MI Np MX n2 σ τ Kp W):Reads W (.slice (some ⟨MX,0,none⟩) n2 n2) (τ.map (Value.int .i64)):=Jf h.U8 (by simp [h.hl2]) (PE h.hl2 h.n12) (by have:=h.hn2;omega)
end
section
variable {Fin:Iw}{GR:Ig Try.prog Fin}
variable {B:Nat->Bool}{W:World}{nn:Nat}{cs:List Frame}
variable {v0 v1 v2 v3 v4 v5 v6 v7 v8 v9 Aa Ab Ac Ae Af Ah Ai Aj Ak Al Am Ao Ap Aq Ar Au Av Aw Ay Az AA AB AJ AL AO AP AQ AU AV AX AY AZ A8 A9 Ba Bb Bc Bf Bh Bj Bl Bp Bq Br Bu Bv Bw Bz BD BF BG BH BI BJ BK BL BM BN BO BP BQ BR BS BU BX BZ Ca Cb Cc Ce Cg Ci Cj Ck Cm Co Cq Cr Ct Cu Cw Cx Cy Cz CB CF CG CJ CK CO CQ CS CU CV CW CX CY CZ C8 C9 Da Db Dc Df Dg Dh Di Dj Dk Dl Dm Dn Dp Dq Dt Du Dv Dw Dx Dy Dz DC DF DI DJ DL DN DR DT DU DV DX DY:Value}
theorem sV {ct cb lb n MI Np MX n2:Nat}{σ τ:List Int}{Kp:Nat->Prop}{uc:Nat}{ua:Option Addr}(h:CA ct cb lb n MI Np MX n2 σ τ Kp W)(hJ:∀ W' tm Y,kC tm->(∀ g,g < W.heap.size->W'.heap[g]?=W.heap[g]?)->W.heap.size<=W'.heap.size->JL (S0 (X:=Wk G5 GU) (Sg:=List Int) Try.prog Fin GR).L (.Ii B nn) (G { (base 3).at ⟨tm,[]⟩ Y with mode:=.returning } cs) W') :
    JL (S0 (X:=Wk G5 GU) (Sg:=List Int) Try.prog Fin GR).L (.Ii B nn) (G ((base 3).at ⟨#[.int .i64 n,v1,v2,v3,v4,v5,v6,.pointer (some ⟨ct,0,none⟩),v8,.pointer (some ⟨MI,0,none⟩),Aa,.slice (some ⟨lb,0,none⟩) n n,.slice (some ⟨MX,0,none⟩) n2 n2,Ae,Af,Ah,.slice ua n uc,Aj,Ak,Al,Am,Ao,Ap,Aq,Ar,Au,Av,Aw,Ay,Az,AA,AB,AJ,AL,AO,AP,AQ,AU,AV,AX,AY,AZ,A8,A9,Ba,Bb,Bc,Bf,Bh,Bj,Bl,Bp,Bq,Br,Bu,Bv,Bw,Bz,BD,BF,BG,BH,BI,BJ,BK,BL,BM,BN,BO,BP,BQ,BR,BS,BU,BX,BZ,Ca,Cb,Cc,Ce,Cg,Ci,Cj,Ck,Cm,Co,Cq,Cr,Ct,Cu,Cw,Cx,Cy,Cz,CB,CF,CG,CJ,CK,CO,CQ,CS,CU,CV,CW,CX,CY,CZ,C8,C9,Da,Db,Dc,Df,Dg,Dh,Di,Dj,Dk,Dl,Dm,Dn,Dp,Dq,Dt,Du,Dv,Dw,Dx,Dy,Dz,DC,DF,DI,DJ,DL,DN,DR,DT,DU,DV,DX,DY],[]⟩ (.code alE :: [])) cs) W:=by
  refine HY.Ht (S:=(S0 (X:=Wk G5 GU) (Sg:=List Int) Try.prog Fin GR)) (b:=base 3) [9,27,61,10] Vd (by kernel_rfl) nE (by kernel_rfl) fun GQ ha=>?_;have hh:GQ.heap=W.heap:=by obtain ⟨τ,d,rfl⟩:=ha;rfl
  replace h:=h.same hh;have lt:∀ {g:Nat} {o},GQ.heap[g]?=some o->g < GQ.heap.size:=fun h=>(Array.getElem?_eq_some_iff.1 h).1;have HH:=Lib.hid (And.intro hJ (And.intro h (And.intro hh @lt)));have hhn:RowKit.Hid (n=n):=Lib.hid rfl;clear hJ ha hh lt h;simp only [alE,Try.f3];gi_wp2_with (gi_at_call 9;fail)
  obtain ⟨hJ,h,hh,lt⟩:=HH.out;refine (PU _ (σ:=σ) GQ h.hn h.hl h.hct h.hcb).mono ?_;rintro e w1 ⟨v,rfl,ho,hB⟩;have hv:=ho.reads;have h1:=h.keep hB.block;have H1:=Lib.hid (And.intro hv (And.intro h1 hB));clear hJ h lt ho hB hv h1 hh;gi_wp2_with (gi_at_call 10;fail)
  refine (Xm _ _ _ σ σ w1 H1.out.1 H1.out.2.1.ra (by have:=H1.out.2.1.hl;have:=H1.out.2.1.hn;omega)).mono ?_;rintro e w2 ⟨rfl,hB2⟩;rw [decide_eq_true (rfl:σ=σ)];have H2:=Lib.hid hB2;clear hB2;gi_wp2_with (gi_at_call 9;fail)
  obtain ⟨hv,h1,hB⟩:=H1.out;have hB2:=H2.out;have h2:=h1.keep hB2.block;refine (PU _ (σ:=τ) w2 h2.hn2 h2.hl2 h2.Py h2.Pv).mono ?_;rintro e w3 ⟨v',rfl,ho3,hB3⟩;have H3:=Lib.hid (And.intro ho3.reads (And.intro (h2.keep hB3.block) (And.intro hB (And.intro hB2 hB3))));clear hv h1 hB hB2 h2 ho3 hB3;gi_wp2_with (gi_at_call 10;fail)
  refine (Xm _ _ _ τ τ w3 H3.out.1 H3.out.2.1.rb (by have:=H3.out.2.1.hl2;have:=H3.out.2.1.hn2;omega)).mono ?_;rintro e w4 ⟨rfl,hB4⟩;rw [decide_eq_true (rfl:τ=τ)];have H4:=Lib.hid hB4;clear hB4;gi_wp2;intro Y;obtain ⟨_,_,hB,hB2,hB3⟩:=H3.out;have hB4:=H4.out;obtain ⟨hJ,_,hh,_⟩:=HH.out;have s1:=hB.size;have s2:=hB2.size;have s3:=hB3.size;have hs:=congrArg Array.size hh;have hBB:Below GQ.heap.size GQ w4:=((hB.trans (hB2.mono (by omega))).trans (hB3.mono (by omega))).trans (hB4.mono (by omega));exact hJ _ _ Y (fun w=>by kernel_rfl) (fun g hg=>by rw [hBB.block g (by rw [hs];exact hg),hh]) (by have:=hBB.size;omega)
theorem Aaz {ct cb lb n MI Np MX n2:Nat}{σ τ:List Int}{Kp:Nat->Prop}{ub uc:Nat}{xs:List Value}{base0:Nat}(h:CA ct cb lb n MI Np MX n2 σ τ Kp W)(hb0:∀ g∈[ct,cb,lb,MI,Np,MX],g < base0)(hk0:∀ g,Kp g->g < base0)(ho:IE W base0 1 (.slice (some ⟨ub,0,none⟩) n uc) n xs)(hx:∀ v∈xs,∃ x:Int,v=.int .i64 x)(hJ:∀ W' tm Y,kC tm->(∀ g,Kp g->W'.heap[g]?=W.heap[g]?)->W.heap.size<=W'.heap.size->JL (S0 (X:=Wk G5 GU) (Sg:=List Int) Try.prog Fin GR).L (.Ii B nn) (G { (base 3).at ⟨tm,[]⟩ Y with mode:=.returning } cs) W') :
    JL (S0 (X:=Wk G5 GU) (Sg:=List Int) Try.prog Fin GR).L (.Ii B nn) (G ((base 3).at ⟨#[.int .i64 n,v1,v2,v3,v4,v5,v6,.pointer (some ⟨ct,0,none⟩),v8,.pointer (some ⟨MI,0,none⟩),Aa,.slice (some ⟨lb,0,none⟩) n n,.slice (some ⟨MX,0,none⟩) n2 n2,Ae,Af,Ah,.slice (some ⟨ub,0,none⟩) n uc,Aj,Ak,Al,Am,Ao,Ap,Aq,Ar,Au,Av,Aw,Ay,Az,AA,AB,AJ,AL,AO,AP,AQ,AU,AV,AX,AY,AZ,A8,A9,Ba,Bb,Bc,Bf,Bh,Bj,Bl,Bp,Bq,Br,Bu,Bv,Bw,Bz,BD,BF,BG,BH,BI,BJ,BK,BL,BM,BN,BO,BP,BQ,BR,BS,BU,BX,BZ,Ca,Cb,Cc,Ce,Cg,Ci,Cj,Ck,Cm,Co,Cq,Cr,Ct,Cu,Cw,Cx,Cy,Cz,CB,CF,CG,CJ,CK,CO,CQ,CS,CU,CV,CW,CX,CY,CZ,C8,C9,Da,Db,Dc,Df,Dg,Dh,Di,Dj,Dk,Dl,Dm,Dn,Dp,Dq,Dt,Du,Dv,Dw,Dx,Dy,Dz,DC,DF,DI,DJ,DL,DN,DR,DT,DU,DV,DX,DY],[]⟩ (.code qO :: [])) cs) W:=by
  rw [nX];refine GY stepG_seq ?_;refine HY.Ht (S:=(S0 (X:=Wk G5 GU) (Sg:=List Int) Try.prog Fin GR)) (b:=base 3) [9,27,61,10] Vd (by kernel_rfl) nE (by kernel_rfl) fun GQ ha=>?_;have hh:GQ.heap=W.heap:=by obtain ⟨τ,d,rfl⟩:=ha;rfl
  obtain ⟨te,ho⟩:=ho;have ho1:IE GQ base0 1 (.slice (some ⟨ub,0,none⟩) n uc) n xs:=⟨te,by have:=ho;unfold World.ownsRow at this ⊢;rw [hh];exact this⟩
  have HH:=Lib.hid (And.intro h (And.intro hb0 (And.intro hk0 (And.intro hJ hh))));have hn1:n<=256:=h.hn;have hxl:xs.length=n:=by have:=ho1.len;omega
  have HO:=Lib.hid (And.intro ho1 (And.intro hx hxl));clear h hb0 hk0 hJ hh ha ho ho1 hx hxl;simp only [Abc,Try.f3];gi_wp2;gi_loopw [17] (fun iv wr=>∃ i:Nat,i<=n/\iv=.int .i64 i/\RowKit.Hid (∃ ys:List Value,IE wr base0 1 (.slice (some ⟨ub,0,none⟩) n uc) n ys/\(∀ v∈ys,∃ x:Int,v=.int .i64 x)/\ys.length=n/\Below base0 GQ wr)) (fun iv _=>n - (intOf iv).toNat)
  case atStart=>exact ⟨0,Nat.zero_le _,rfl,Lib.hid ⟨xs,HO.out.1,HO.out.2.1,HO.out.2.2,Below.refl _ _⟩⟩
  case round=>
    obtain ⟨i,hi,rfl,hinv⟩:=hrel;by_cases hlt:i < n
    . obtain ⟨ys,⟨te,ho⟩,hy,hyl,hB⟩:=hinv.out;obtain ⟨x,hx⟩:∃ x:Int,ys[i]?=some (.int .i64 x):=by obtain ⟨x,hx⟩:=hy ys[i] (List.getElem_mem (by omega));exact ⟨x,by rw [List.getElem?_eq_getElem (by omega),hx]⟩
      have q1:wr.cell? ⟨ub,i,none⟩=some (.int .i64 x):=(ho.cellAt i (by omega)).trans hx;have q2:wr.frozen? ⟨ub,i,none⟩=false:=ho.frozenAt i;have HS:=Lib.hid (fun u:Value=>(ho.stored i u).1);have HB:=Lib.hid (And.intro hB (And.intro hy (And.intro hyl (World.ownsRow.lt ho ub rfl))));clear ho hy hyl hB hx hinv;gi_wp2;go_roundw
      case rel=>
        obtain ⟨hB,hy,hyl,hub⟩:=HB.out;refine ⟨i+1,by omega,by go_num,Lib.hid ⟨_,⟨te,HS.out _⟩,fun v hv=>?_,by simpa using hyl,hB.setCell hub.1 _⟩⟩;rcases List.mem_or_eq_of_mem_set hv with hv|rfl
        . exact hy v hv
        . exact ⟨_,rfl⟩
      case measure=>simp [intOf];omega
    . obtain rfl:i=n:=by omega
      gi_wp2;refine Hg ?_;obtain ⟨h,hb0,hk0,hJ,hh⟩:=HH.out;obtain ⟨ys,ho,_,_,hB⟩:=hinv.out;have h':=h.same hh;have k1:∀ g,g < base0->wr.heap[g]?=W.heap[g]?:=fun g hg=>(hB.block g hg).trans (by rw [hh]);have l:=fun g hg=>k1 g (hb0 g hg);have hz:=hB.size;have hs:=congrArg Array.size hh;refine sV (Kp:=Kp) ⟨h.n1,h.n12,h.hn,h.hn2,h.hl,h.hl2,(l ct (by simp)).trans h.hct,(l cb (by simp)).trans h.hcb,(l lb (by simp)).trans h.hlb,(l MI (by simp)).trans h.Py,(l Np (by simp)).trans h.Pv,(l MX (by simp)).trans h.U8,h.ne,fun g hg=>?_⟩ fun W' tm Y ht hk hsz=>hJ W' tm Y ht (fun g hg=>?_) (by omega)
      . obtain ⟨⟨x,y,z,hx⟩,h2⟩:=h.kp g hg;exact ⟨⟨x,y,z,(k1 g (hk0 g hg)).trans hx⟩,h2⟩
      . obtain ⟨⟨x,y,z,hx⟩,h2⟩:=h.kp g hg;have e:=k1 g (hk0 g hg);rw [hk g (Array.getElem?_eq_some_iff.1 (e.trans hx)).1];exact e
theorem Ad3 {ct cb lb n MI Np MX n2:Nat}{σ τ:List Int}{Kp:Nat->Prop}(h:CA ct cb lb n MI Np MX n2 σ τ Kp W)(hJ:∀ W' tm Y,kC tm->(∀ g,Kp g->W'.heap[g]?=W.heap[g]?)->W.heap.size<=W'.heap.size->JL (S0 (X:=Wk G5 GU) (Sg:=List Int) Try.prog Fin GR).L (.Ii B nn) (G { (base 3).at ⟨tm,[]⟩ Y with mode:=.returning } cs) W') :
    JL (S0 (X:=Wk G5 GU) (Sg:=List Int) Try.prog Fin GR).L (.Ii B nn) (G ((base 3).at ⟨#[.int .i64 n,v1,v2,v3,v4,v5,v6,.pointer (some ⟨ct,0,none⟩),v8,.pointer (some ⟨MI,0,none⟩),Aa,.slice (some ⟨lb,0,none⟩) n n,.slice (some ⟨MX,0,none⟩) n2 n2,Ae,Af,Ah,Ai,Aj,Ak,Al,Am,Ao,Ap,Aq,Ar,Au,Av,Aw,Ay,Az,AA,AB,AJ,AL,AO,AP,AQ,AU,AV,AX,AY,AZ,A8,A9,Ba,Bb,Bc,Bf,Bh,Bj,Bl,Bp,Bq,Br,Bu,Bv,Bw,Bz,BD,BF,BG,BH,BI,BJ,BK,BL,BM,BN,BO,BP,BQ,BR,BS,BU,BX,BZ,Ca,Cb,Cc,Ce,Cg,Ci,Cj,Ck,Cm,Co,Cq,Cr,Ct,Cu,Cw,Cx,Cy,Cz,CB,CF,CG,CJ,CK,CO,CQ,CS,CU,CV,CW,CX,CY,CZ,C8,C9,Da,Db,Dc,Df,Dg,Dh,Di,Dj,Dk,Dl,Dm,Dn,Dp,Dq,Dt,Du,Dv,Dw,Dx,Dy,Dz,DC,DF,DI,DJ,DL,DN,DR,DT,DU,DV,DX,DY],[]⟩ (.code pG :: [])) cs) W:=by
  rw [rZ];refine GY stepG_seq ?_;refine HY.Ht (S:=(S0 (X:=Wk G5 GU) (Sg:=List Int) Try.prog Fin GR)) (b:=base 3) [9,27,61,10] Vd (by kernel_rfl) nE (by kernel_rfl) fun GQ ha=>?_;have hh:GQ.heap=W.heap:=by obtain ⟨τ,d,rfl⟩:=ha;rfl
  replace h:=h.same hh;have HH:=Lib.hid (And.intro hJ (And.intro h hh));clear hJ ha hh h;simp only [al9,Try.f3];gi_wp2_with (gi_at_call 9;fail)
  obtain ⟨hJ,h,hh⟩:=HH.out;refine (PU _ (σ:=σ) GQ h.hn h.hl h.hct h.hcb).mono ?_;rintro e w1 ⟨v,rfl,ho,hB⟩;have H1:=Lib.hid (And.intro ho hB);clear hJ h ho hB hh;gi_wp2;refine Hg ?_;obtain ⟨ho,hB⟩:=H1.out;obtain ⟨hJ,h,hh⟩:=HH.out;obtain ⟨g,cap,rfl⟩:∃ g cap,v=.slice (some ⟨g,0,none⟩) n cap:=by
    obtain ⟨te,ho⟩:=ho;rcases ho.2 with ⟨_,h0⟩|⟨g,cap,cur,hv,_⟩
    . have:=h.n1;omega
    . exact ⟨g,cap,hv⟩
  refine Aaz (base0:=GQ.heap.size) (h.keep hB.block) h.lt (fun g hg=>?_) ho (fun v hv=>?_) fun W' tm Y ht k1 k2=>hJ W' tm Y ht (fun g hg=>?_) (by have:=hB.size;rw [← hh];omega)
  . obtain ⟨⟨x,y,z,hx⟩,h2⟩:=h.kp g hg;exact (Array.getElem?_eq_some_iff.1 hx).1
  . obtain ⟨x,_,rfl⟩:=List.mem_map.1 hv;exact ⟨x,rfl⟩
  . obtain ⟨⟨x,y,z,hx⟩,h2⟩:=h.kp g hg;rw [k1 g hg,hB.block g (Array.getElem?_eq_some_iff.1 hx).1,hh]
end
end
section
section
variable {Fin:Iw}{GR:Ig Try.prog Fin}
variable {B:Nat->Bool}{W:World}{nn:Nat}{cs:List Frame}
variable {v0 v1 v2 v3 v4 v5 v6 v7 v8 v9 Aa Ab Ac Ae Af Ah Ai Aj Ak Al Am Ao Ap Aq Ar Au Av Aw Ay Az AA AB AJ AL AO AP AQ AU AV AX AY AZ A8 A9 Ba Bb Bc Bf Bh Bj Bl Bp Bq Br Bu Bv Bw Bz BD BF BG BH BI BJ BK BL BM BN BO BP BQ BR BS BU BX BZ Ca Cb Cc Ce Cg Ci Cj Ck Cm Co Cq Cr Ct Cu Cw Cx Cy Cz CB CF CG CJ CK CO CQ CS CU CV CW CX CY CZ C8 C9 Da Db Dc Df Dg Dh Di Dj Dk Dl Dm Dn Dp Dq Dt Du Dv Dw Dx Dy Dz DC DF DI DJ DL DN DR DT DU DV DX DY:Value}
theorem Aa9 {cx bx lx nx ga go i m mc pn pc:Nat}{pa:Option Addr}{d:G5}{ρ:List Int}{Kq:Nat->Prop}(hi:i < m)(hm:m<=300)(hl:ρ.length=nx)(TY:nx<=256)(hct:W.heap[cx]?=some (.cells #[.slice (some ⟨bx,0,none⟩) nx nx] 71 (0,0)))(hcb:W.heap[bx]?=some (.cells (ρ.map (Value.int .i64)).toArray 80 (0,0)))(hlb:W.heap[lx]?=some (.cells (ρ.map (Value.int .i64)).toArray 3 (0,0)))(n1:cx≠bx)(n2:lx≠bx)(n5:cx≠lx)(hkp:∀ g,Kq g->(∃ c e f,W.heap[g]?=some (.cells c e f))/\g≠bx/\g≠lx)(c0:W.cell? ⟨ga,go+i * 5,none⟩=some (.int .i64 d.kind))(c1:W.cell? ⟨ga,go+i * 5+1,none⟩=some (.int .i64 d.a))(c2:W.cell? ⟨ga,go+i * 5+2,none⟩=some (.int .i64 d.b))(c3:W.cell? ⟨ga,go+i * 5+3,none⟩=some (.int .i64 d.c))(c4:W.cell? ⟨ga,go+i * 5+4,none⟩=some (.slice pa pn pc))(hJ:∀ W' (ρ':List Int) (EB EC Gf Gg Gh Gi Gj Gl Gm Gn Gp Gq Gr Gs Gt Gu Gv Gx Gy Gz GD GH GI GJ GK GL:Value),ρ'.length=nx->W'.heap[cx]?=some (.cells #[.slice (some ⟨bx,0,none⟩) nx nx] 71 (0,0))->W'.heap[bx]?=some (.cells (ρ'.map (Value.int .i64)).toArray 80 (0,0))->W'.heap[lx]?=some (.cells (ρ'.map (Value.int .i64)).toArray 3 (0,0))->(∀ g,Kq g->W'.heap[g]?=W.heap[g]?)->W.heap.size<=W'.heap.size->JL (S0 (X:=Wk G5 GU) (Sg:=List Int) Try.prog Fin GR).L (.Ii B nn) (G ((base 3).at ⟨#[v0,v1,.slice (some ⟨ga,go,none⟩) m mc,v3,v4,v5,v6,v7,v8,v9,Aa,Ab,Ac,.int .i64 ((i:Int)+1),EB,EC,Ai,Aj,Ak,Al,Am,Ao,Ap,Aq,Ar,Au,Av,Aw,Ay,Az,AA,AB,AJ,AL,AO,AP,AQ,AU,AV,AX,AY,AZ,A8,A9,Ba,Bb,Bc,Bf,Bh,Bj,Bl,Bp,Bq,Br,Bu,Bv,Bw,Bz,BD,BF,BG,BH,BI,BJ,BK,BL,BM,BN,BO,BP,BQ,BR,BS,BU,BX,BZ,Ca,Cb,Cc,Ce,Cg,Ci,Cj,Ck,Cm,Co,Cq,Gf,Gg,Gh,Gi,Gj,Gl,Gm,Gn,Gp,Gq,Gr,Gs,Gt,Gu,Gv,Gx,Gy,Gz,GD,GH,GI,GJ,GK,GL,Db,Dc,Df,Dg,Dh,Di,Dj,Dk,Dl,Dm,Dn,Dp,Dq,Dt,Du,Dv,Dw,Dx,Dy,Dz,DC,DF,DI,DJ,DL,DN,DR,DT,DU,DV,DX,DY],[]⟩ [.inLoop Ua,.inBlock 0,.code pG]) cs) W') :
    JL (S0 (X:=Wk G5 GU) (Sg:=List Int) Try.prog Fin GR).L (.Ii B nn) (G ((base 3).at ⟨#[v0,v1,.slice (some ⟨ga,go,none⟩) m mc,v3,v4,v5,v6,v7,v8,v9,Aa,Ab,Ac,.int .i64 i,.pointer (some ⟨cx,0,none⟩),.slice (some ⟨lx,0,none⟩) nx nx,Ai,Aj,Ak,Al,Am,Ao,Ap,Aq,Ar,Au,Av,Aw,Ay,Az,AA,AB,AJ,AL,AO,AP,AQ,AU,AV,AX,AY,AZ,A8,A9,Ba,Bb,Bc,Bf,Bh,Bj,Bl,Bp,Bq,Br,Bu,Bv,Bw,Bz,BD,BF,BG,BH,BI,BJ,BK,BL,BM,BN,BO,BP,BQ,BR,BS,BU,BX,BZ,Ca,Cb,Cc,Ce,Cg,Ci,Cj,Ck,Cm,Co,Cq,Cr,Ct,Cu,Cw,Cx,Cy,Cz,CB,CF,CG,CJ,CK,CO,CQ,CS,CU,CV,CW,CX,CY,CZ,C8,C9,Da,Db,Dc,Df,Dg,Dh,Di,Dj,Dk,Dl,Dm,Dn,Dp,Dq,Dt,Du,Dv,Dw,Dx,Dy,Dz,DC,DF,DI,DJ,DL,DN,DR,DT,DU,DV,DX,DY],[]⟩ (.code uM :: [.inBlock 1,.code uN,.inLoop Ua,.inBlock 0,.code pG])) cs) W:=by
  have HK:=Lib.hid (And.intro hl (And.intro TY (And.intro hct (And.intro hcb (And.intro hlb (And.intro n1 (And.intro n2 (And.intro n5 (And.intro hkp hJ)))))))));clear hl TY hct hcb hlb n1 n2 n5 hkp hJ;simp only [uM,Ua,cu,Try.f3];refine GY stepG_seq ?_;refine Hu fun _ hkk=>?_;refine HY.Jm (S:=(S0 (X:=Wk G5 GU) (Sg:=List Int) Try.prog Fin GR)) (b:=base 3) 0 6 [] (by simp) (by kernel_rfl) nE (rest:=[6,7]) rfl (by kernel_rfl) fun Hl Ky=>?_;have hh3:Hl.heap=W.heap:=by obtain ⟨τ,d,rfl⟩:=Ky;rfl
  replace c0:Hl.cell? ⟨ga,go+i * 5,none⟩=some (.int .i64 d.kind):=by simp only [World.cell?,hh3] at c0 ⊢;exact c0
  replace c1:Hl.cell? ⟨ga,go+i * 5+1,none⟩=some (.int .i64 d.a):=by simp only [World.cell?,hh3] at c1 ⊢;exact c1
  replace c2:Hl.cell? ⟨ga,go+i * 5+2,none⟩=some (.int .i64 d.b):=by simp only [World.cell?,hh3] at c2 ⊢;exact c2
  replace c3:Hl.cell? ⟨ga,go+i * 5+3,none⟩=some (.int .i64 d.c):=by simp only [World.cell?,hh3] at c3 ⊢;exact c3
  replace c4:Hl.cell? ⟨ga,go+i * 5+4,none⟩=some (.slice pa pn pc):=by simp only [World.cell?,hh3] at c4 ⊢;exact c4
  have H3:=Lib.hid hh3;clear hh3 Ky;dsimp only [List.drop,List.take];gi_wp2;try refine ⟨rfl,?_⟩
  show JL (S0 (X:=Wk G5 GU) (Sg:=List Int) Try.prog Fin GR).L _ _ Hl;try dsimp only
  refine JL.enter rfl rfl nE rfl Try.func8 (by kernel_rfl) (by kernel_rfl) ?_;walk_nrm;obtain ⟨hl,TY,hct,hcb,hlb,n1,n2,n5,hkp,hJ⟩:=HK.out;have hh3:=H3.out;refine mH (d:=d) (Kp:=Kq) hl TY (by rw [hh3];exact hct) (by rw [hh3];exact hcb) (by rw [hh3];exact hlb) n1 n2 n5 (fun g hg=>by rw [hh3];exact hkp g hg) fun W' ρ' k1 k2 k3 k4 k5 k6=>?_;rw [hh3] at k5 k6;rw [Frame.finish_at];show JL (S0 (X:=Wk G5 GU) (Sg:=List Int) Try.prog Fin GR).L (.Ii B nn) _ W';have HJ:=Lib.hid hJ;have HK2:=Lib.hid (And.intro k1 (And.intro k2 (And.intro k3 (And.intro k4 (And.intro k5 k6)))));clear HK H3 hh3 c0 c1 c2 c3 c4 hl TY hct hcb hlb n1 n2 n5 hkp hJ k1 k2 k3 k4 k5 k6;walk_nrm;try cases hkk
  (refine Hf ?_;walk_nrm)
  refine GY stepG_region_end ?_;refine JL.Ho rfl ?_;refine GY stepG_skip ?_;refine GY stepG_inBlock ?_;refine HY.Ht (S:=(S0 (X:=Wk G5 GU) (Sg:=List Int) Try.prog Fin GR)) (b:=base 3) [] (by simp) (by kernel_rfl) nE (by kernel_rfl) fun GQ ha=>?_;have hh:GQ.heap=W'.heap:=by obtain ⟨τ,d,rfl⟩:=ha;rfl
  have H1:=Lib.hid hh;clear ha hh;simp only [uN,Ua,cu,Try.f3];gi_wp2;refine Hg ?_;obtain ⟨k1,k2,k3,k4,k5,k6⟩:=HK2.out;exact HJ.out GQ ρ' _ _ _ _ _ _ _ _ _ _ _ _ _ _ _ _ _ _ _ _ _ _ _ _ _ _ k1 (by rw [H1.out];exact k2) (by rw [H1.out];exact k3) (by rw [H1.out];exact k4) (fun g hg=>by rw [H1.out];exact k5 g hg) (by rw [H1.out];exact k6)
end
end
section
def SS (ga go i:Nat)(d:G5)(pa:Option Addr)(pn pc:Nat)(W:World):Prop:=W.cell? ⟨ga,go+i * 5,none⟩=some (.int .i64 d.kind)/\W.cell? ⟨ga,go+i * 5+1,none⟩=some (.int .i64 d.a)/\W.cell? ⟨ga,go+i * 5+2,none⟩=some (.int .i64 d.b)/\W.cell? ⟨ga,go+i * 5+3,none⟩=some (.int .i64 d.c)/\W.cell? ⟨ga,go+i * 5+4,none⟩=some (.slice pa pn pc)
theorem SS.same {ga go i pn pc:Nat}{d:G5}{pa:Option Addr}{W W':World}(h:SS ga go i d pa pn pc W)(hh:W'.heap[ga]?=W.heap[ga]?):SS ga go i d pa pn pc W':=by obtain ⟨h0,h1,h2,h3,h4⟩:=h;exact ⟨(cell_of hh).trans h0,(cell_of hh).trans h1,(cell_of hh).trans h2,(cell_of hh).trans h3,(cell_of hh).trans h4⟩
section
variable {Fin:Iw}{GR:Ig Try.prog Fin}
variable {B:Nat->Bool}{W:World}{nn:Nat}{cs:List Frame}
variable {v0 v1 v2 v3 v4 v5 v6 v7 v8 v9 Aa Ab Ac Ae Af Ah Ai Aj Ak Al Am Ao Ap Aq Ar Au Av Aw Ay Az AA AB AJ AL AO AP AQ AU AV AX AY AZ A8 A9 Ba Bb Bc Bf Bh Bj Bl Bp Bq Br Bu Bv Bw Bz BD BF BG BH BI BJ BK BL BM BN BO BP BQ BR BS BU BX BZ Ca Cb Cc Ce Cg Ci Cj Ck Cm Co Cq Cr Ct Cu Cw Cx Cy Cz CB CF CG CJ CK CO CQ CS CU CV CW CX CY CZ C8 C9 Da Db Dc Df Dg Dh Di Dj Dk Dl Dm Dn Dp Dq Dt Du Dv Dw Dx Dy Dz DC DF DI DJ DL DN DR DT DU DV DX DY:Value}
theorem dJ {ct cb lb n MI Np MX n2:Nat}{σ τ:List Int}{Kp:Nat->Prop}{ga go i m mc pn pc:Nat}{pa:Option Addr}{d:G5}(hi:i < m)(hm:m<=300)(h:CA ct cb lb n MI Np MX n2 σ τ Kp W)(hc:SS ga go i d pa pn pc W)(hJ:∀ W' (σ' XG:List Int) (EB EC Gf Gg Gh Gi Gj Gl Gm Gn Gp Gq Gr Gs Gt Gu Gv Gx Gy Gz GD GH GI GJ GK GL:Value),CA ct cb lb n MI Np MX n2 σ' XG Kp W'->(∀ g,Kp g->W'.heap[g]?=W.heap[g]?)->W.heap.size<=W'.heap.size->JL (S0 (X:=Wk G5 GU) (Sg:=List Int) Try.prog Fin GR).L (.Ii B nn) (G ((base 3).at ⟨#[.int .i64 n,v1,.slice (some ⟨ga,go,none⟩) m mc,v3,v4,v5,v6,.pointer (some ⟨ct,0,none⟩),v8,.pointer (some ⟨MI,0,none⟩),Aa,.slice (some ⟨lb,0,none⟩) n n,.slice (some ⟨MX,0,none⟩) n2 n2,.int .i64 ((i:Int)+1),EB,EC,Ai,Aj,Ak,Al,Am,Ao,Ap,Aq,Ar,Au,Av,Aw,Ay,Az,AA,AB,AJ,AL,AO,AP,AQ,AU,AV,AX,AY,AZ,A8,A9,Ba,Bb,Bc,Bf,Bh,Bj,Bl,Bp,Bq,Br,Bu,Bv,Bw,Bz,BD,BF,BG,BH,BI,BJ,BK,BL,BM,BN,BO,BP,BQ,BR,BS,BU,BX,BZ,Ca,Cb,Cc,Ce,Cg,Ci,Cj,Ck,Cm,Co,Cq,Gf,Gg,Gh,Gi,Gj,Gl,Gm,Gn,Gp,Gq,Gr,Gs,Gt,Gu,Gv,Gx,Gy,Gz,GD,GH,GI,GJ,GK,GL,Db,Dc,Df,Dg,Dh,Di,Dj,Dk,Dl,Dm,Dn,Dp,Dq,Dt,Du,Dv,Dw,Dx,Dy,Dz,DC,DF,DI,DJ,DL,DN,DR,DT,DU,DV,DX,DY],[]⟩ [.inLoop Ua,.inBlock 0,.code pG]) cs) W') :
    JL (S0 (X:=Wk G5 GU) (Sg:=List Int) Try.prog Fin GR).L (.Ii B nn) (G ((base 3).at ⟨#[.int .i64 n,v1,.slice (some ⟨ga,go,none⟩) m mc,v3,v4,v5,v6,.pointer (some ⟨ct,0,none⟩),v8,.pointer (some ⟨MI,0,none⟩),Aa,.slice (some ⟨lb,0,none⟩) n n,.slice (some ⟨MX,0,none⟩) n2 n2,.int .i64 i,Af,Ah,Ai,Aj,Ak,Al,Am,Ao,Ap,Aq,Ar,Au,Av,Aw,Ay,Az,AA,AB,AJ,AL,AO,AP,AQ,AU,AV,AX,AY,AZ,A8,A9,Ba,Bb,Bc,Bf,Bh,Bj,Bl,Bp,Bq,Br,Bu,Bv,Bw,Bz,BD,BF,BG,BH,BI,BJ,BK,BL,BM,BN,BO,BP,BQ,BR,BS,BU,BX,BZ,Ca,Cb,Cc,Ce,Cg,Ci,Cj,Ck,Cm,Co,Cq,Cr,Ct,Cu,Cw,Cx,Cy,Cz,CB,CF,CG,CJ,CK,CO,CQ,CS,CU,CV,CW,CX,CY,CZ,C8,C9,Da,Db,Dc,Df,Dg,Dh,Di,Dj,Dk,Dl,Dm,Dn,Dp,Dq,Dt,Du,Dv,Dw,Dx,Dy,Dz,DC,DF,DI,DJ,DL,DN,DR,DT,DU,DV,DX,DY],[]⟩ (.code Ua :: [.inLoop Ua,.inBlock 0,.code pG])) cs) W:=by
  have HK:=Lib.hid (And.intro h (And.intro hc hJ));have hc3:=hc.2.2.2.1;clear h hc hJ;rw [gG];refine GY stepG_seq ?_;refine GY stepG_seq ?_;refine HY.Ht (S:=(S0 (X:=Wk G5 GU) (Sg:=List Int) Try.prog Fin GR)) (b:=base 3) [] (by simp) (by kernel_rfl) nE (by kernel_rfl) fun Wa ha=>?_;have ea:=Lib.hid (show Wa.heap=W.heap by obtain ⟨τ,d,rfl⟩:=ha;rfl);clear ha;simp only [uT,Ua,cu,Try.f3];gi_wp2;refine Hg ?_;refine JL.Iq rfl ?_;refine GY stepG_skip ?_;refine GY stepG_seq ?_;refine GY stepG_block ?_;refine GY stepG_seq ?_;refine HY.Ht (S:=(S0 (X:=Wk G5 GU) (Sg:=List Int) Try.prog Fin GR)) (b:=base 3) [] (by simp) (by kernel_rfl) nE (by kernel_rfl) fun Wb ha=>?_;have eb:=Lib.hid (show Wb.heap=Wa.heap by obtain ⟨τ,d,rfl⟩:=ha;rfl);clear ha;simp only [Abl,Ua,cu,Try.f3];gi_wp2;refine Hg ?_;refine GY stepG_seq ?_;by_cases hneg:d.c < 0
  . refine HY.Ht (S:=(S0 (X:=Wk G5 GU) (Sg:=List Int) Try.prog Fin GR)) (b:=base 3) [] (by simp) (by kernel_rfl) nE (by kernel_rfl) fun Wc ha=>?_;have hh:Wc.heap=W.heap:=by
      have:Wc.heap=Wb.heap:=by obtain ⟨τ,d,rfl⟩:=ha;rfl
      rw [this,eb.out,ea.out]
    replace hc3:Wc.cell? ⟨ga,go+i * 5+3,none⟩=some (.int .i64 d.c):=by simp only [World.cell?,hh] at hc3 ⊢;exact hc3
    have ec:=Lib.hid hh;clear ha hh ea eb;simp only [su,Ua,cu,Try.f3];gi_wp2;refine Hg ?_;obtain ⟨h,⟨c0,c1,c2,c3,c4⟩,hJ⟩:=HK.out;have hh:=ec.out;have h':=h.same hh;have hne:=h.ne;simp only [List.nodup_cons,List.mem_cons,List.not_mem_nil,or_false,not_or,List.nodup_nil,and_true] at hne;obtain ⟨⟨e01,e02,e03,e04,e05⟩,⟨e12,e13,e14,e15⟩,⟨e23,e24,e25⟩,⟨e34,e35⟩,e45,_⟩:=hne;refine Aa9 (d:=d) (ρ:=τ) (Kq:=fun g=>g=ct\/g=cb\/g=lb\/Kp g) hi hm h.hl2 h.hn2 h'.Py h'.Pv h'.U8 e34 (Ne.symm e45) e35 (fun g hg=>?_) ((cell_of (by rw [hh])).trans c0) ((cell_of (by rw [hh])).trans c1) ((cell_of (by rw [hh])).trans c2) ((cell_of (by rw [hh])).trans c3) ((cell_of (by rw [hh])).trans c4) fun W' ρ' EB EC Gf Gg Gh Gi Gj Gl Gm Gn Gp Gq Gr Gs Gt Gu Gv Gx Gy Gz GD GH GI GJ GK GL k1 k2 k3 k4 k5 k6=>?_
    . rcases hg with rfl | rfl | rfl | hg
      . exact ⟨⟨_,_,_,h'.hct⟩,e04,e05⟩
      . exact ⟨⟨_,_,_,h'.hcb⟩,e14,e15⟩
      . exact ⟨⟨_,_,_,h'.hlb⟩,e24,e25⟩
      . obtain ⟨hr,hx⟩:=h'.kp g hg;simp only [List.mem_cons,List.not_mem_nil,or_false,not_or] at hx;exact ⟨hr,hx.2.2.2.2.1,hx.2.2.2.2.2⟩
    . refine hJ W' σ ρ' EB EC Gf Gg Gh Gi Gj Gl Gm Gn Gp Gq Gr Gs Gt Gu Gv Gx Gy Gz GD GH GI GJ GK GL ⟨h.n1,h.n12,h.hn,h.hn2,h.hl,k1,(k5 ct (.inl rfl)).trans h'.hct,(k5 cb (.inr (.inl rfl))).trans h'.hcb,(k5 lb (.inr (.inr (.inl rfl)))).trans h'.hlb,k2,k3,k4,h.ne,fun g hg=>?_⟩ (fun g hg=>(k5 g (.inr (.inr (.inr hg)))).trans (by rw [hh])) (by rw [← hh];exact k6)
      obtain ⟨⟨x,y,z,hr⟩,hx⟩:=h'.kp g hg;exact ⟨⟨x,y,z,(k5 g (.inr (.inr (.inr hg)))).trans hr⟩,hx⟩
  . refine HY.Ht (S:=(S0 (X:=Wk G5 GU) (Sg:=List Int) Try.prog Fin GR)) (b:=base 3) [] (by simp) (by kernel_rfl) nE (by kernel_rfl) fun Wc ha=>?_;have hh:Wc.heap=W.heap:=by
      have:Wc.heap=Wb.heap:=by obtain ⟨τ,d,rfl⟩:=ha;rfl
      rw [this,eb.out,ea.out]
    replace hc3:Wc.cell? ⟨ga,go+i * 5+3,none⟩=some (.int .i64 d.c):=by simp only [World.cell?,hh] at hc3 ⊢;exact hc3
    have ec:=Lib.hid hh;clear ha hh ea eb;simp only [su,Ua,cu,Try.f3];gi_wp2;refine Hg ?_;obtain ⟨h,⟨c0,c1,c2,c3,c4⟩,hJ⟩:=HK.out;have hh:=ec.out;have h':=h.same hh;have hne:=h.ne;simp only [List.nodup_cons,List.mem_cons,List.not_mem_nil,or_false,not_or,List.nodup_nil,and_true] at hne;obtain ⟨⟨e01,e02,e03,e04,e05⟩,⟨e12,e13,e14,e15⟩,⟨e23,e24,e25⟩,⟨e34,e35⟩,e45,_⟩:=hne;refine Aa9 (d:=d) (ρ:=σ) (Kq:=fun g=>g=MI\/g=Np\/g=MX\/Kp g) hi hm h.hl h.hn h'.hct h'.hcb h'.hlb e01 (Ne.symm e12) e02 (fun g hg=>?_) ((cell_of (by rw [hh])).trans c0) ((cell_of (by rw [hh])).trans c1) ((cell_of (by rw [hh])).trans c2) ((cell_of (by rw [hh])).trans c3) ((cell_of (by rw [hh])).trans c4) fun W' ρ' EB EC Gf Gg Gh Gi Gj Gl Gm Gn Gp Gq Gr Gs Gt Gu Gv Gx Gy Gz GD GH GI GJ GK GL k1 k2 k3 k4 k5 k6=>?_
    . rcases hg with rfl | rfl | rfl | hg
      . exact ⟨⟨_,_,_,h'.Py⟩,Ne.symm e13,Ne.symm e23⟩
      . exact ⟨⟨_,_,_,h'.Pv⟩,Ne.symm e14,Ne.symm e24⟩
      . exact ⟨⟨_,_,_,h'.U8⟩,Ne.symm e15,Ne.symm e25⟩
      . obtain ⟨hr,hx⟩:=h'.kp g hg;simp only [List.mem_cons,List.not_mem_nil,or_false,not_or] at hx;exact ⟨hr,hx.2.1,hx.2.2.1⟩
    . refine hJ W' ρ' τ EB EC Gf Gg Gh Gi Gj Gl Gm Gn Gp Gq Gr Gs Gt Gu Gv Gx Gy Gz GD GH GI GJ GK GL ⟨h.n1,h.n12,h.hn,h.hn2,k1,h.hl2,k2,k3,k4,(k5 MI (.inl rfl)).trans h'.Py,(k5 Np (.inr (.inl rfl))).trans h'.Pv,(k5 MX (.inr (.inr (.inl rfl)))).trans h'.U8,h.ne,fun g hg=>?_⟩ (fun g hg=>(k5 g (.inr (.inr (.inr hg)))).trans (by rw [hh])) (by rw [← hh];exact k6)
      obtain ⟨⟨x,y,z,hr⟩,hx⟩:=h'.kp g hg;exact ⟨⟨x,y,z,(k5 g (.inr (.inr (.inr hg)))).trans hr⟩,hx⟩
def Calls (ao:Option Addr)(m:Nat)(Kp:Nat->Prop)(W:World):Prop:=∀ i,i < m->∃ ga go d pa pn pc,ao=some ⟨ga,go,none⟩/\Kp ga/\SS ga go i d pa pn pc W
theorem Calls.same {ao:Option Addr}{m:Nat}{Kp:Nat->Prop}{W W':World}(h:Calls ao m Kp W)(hk:∀ g,Kp g->W'.heap[g]?=W.heap[g]?):Calls ao m Kp W':=fun i hi=>by obtain ⟨ga,go,d,pa,pn,pc,h1,h2,h3⟩:=h i hi;exact ⟨ga,go,d,pa,pn,pc,h1,h2,h3.same (hk ga h2)⟩
end
section
variable {Fin:Iw}{GR:Ig Try.prog Fin}
variable {B:Nat->Bool}{nn:Nat}{cs:List Frame}
variable {v0 v1 v2 v3 v4 v5 v6 v7 v8 v9 Aa Ab Ac Ae Af Ah Ai Aj Ak Al Am Ao Ap Aq Ar Au Av Aw Ay Az AA AB AJ AL AO AP AQ AU AV AX AY AZ A8 A9 Ba Bb Bc Bf Bh Bj Bl Bp Bq Br Bu Bv Bw Bz BD BF BG BH BI BJ BK BL BM BN BO BP BQ BR BS BU BX BZ Ca Cb Cc Ce Cg Ci Cj Ck Cm Co Cq Cr Ct Cu Cw Cx Cy Cz CB CF CG CJ CK CO CQ CS CU CV CW CX CY CZ C8 C9 Da Db Dc Df Dg Dh Di Dj Dk Dl Dm Dn Dp Dq Dt Du Dv Dw Dx Dy Dz DC DF DI DJ DL DN DR DT DU DV DX DY:Value}
theorem mR {ct cb lb n MI Np MX n2:Nat}{Kp:Nat->Prop}{ao:Option Addr}{m mc:Nat}(hm:m<=300):∀ (k i:Nat) (W:World) (σ τ:List Int) (EB EC Gf Gg Gh Gi Gj Gl Gm Gn Gp Gq Gr Gs Gt Gu Gv Gx Gy Gz GD GH GI GJ GK GL:Value),m - i=k->i<=m->CA ct cb lb n MI Np MX n2 σ τ Kp W->Calls ao m Kp W->
    (∀ W' tm Y,kC tm->(∀ g,Kp g->W'.heap[g]?=W.heap[g]?)->W.heap.size<=W'.heap.size->JL (S0 (X:=Wk G5 GU) (Sg:=List Int) Try.prog Fin GR).L (.Ii B nn) (G { (base 3).at ⟨tm,[]⟩ Y with mode:=.returning } cs) W')->
    JL (S0 (X:=Wk G5 GU) (Sg:=List Int) Try.prog Fin GR).L (.Ii B nn) (G ((base 3).at ⟨#[.int .i64 n,v1,.slice ao m mc,v3,v4,v5,v6,.pointer (some ⟨ct,0,none⟩),v8,.pointer (some ⟨MI,0,none⟩),Aa,.slice (some ⟨lb,0,none⟩) n n,.slice (some ⟨MX,0,none⟩) n2 n2,.int .i64 i,EB,EC,Ai,Aj,Ak,Al,Am,Ao,Ap,Aq,Ar,Au,Av,Aw,Ay,Az,AA,AB,AJ,AL,AO,AP,AQ,AU,AV,AX,AY,AZ,A8,A9,Ba,Bb,Bc,Bf,Bh,Bj,Bl,Bp,Bq,Br,Bu,Bv,Bw,Bz,BD,BF,BG,BH,BI,BJ,BK,BL,BM,BN,BO,BP,BQ,BR,BS,BU,BX,BZ,Ca,Cb,Cc,Ce,Cg,Ci,Cj,Ck,Cm,Co,Cq,Gf,Gg,Gh,Gi,Gj,Gl,Gm,Gn,Gp,Gq,Gr,Gs,Gt,Gu,Gv,Gx,Gy,Gz,GD,GH,GI,GJ,GK,GL,Db,Dc,Df,Dg,Dh,Di,Dj,Dk,Dl,Dm,Dn,Dp,Dq,Dt,Du,Dv,Dw,Dx,Dy,Dz,DC,DF,DI,DJ,DL,DN,DR,DT,DU,DV,DX,DY],[]⟩ (.code Ua :: [.inLoop Ua,.inBlock 0,.code pG])) cs) W:=by
  intro k;induction k with
  | zero=>
    intro i W σ τ EB EC Gf Gg Gh Gi Gj Gl Gm Gn Gp Gq Gr Gs Gt Gu Gv Gx Gy Gz GD GH GI GJ GK GL hk hi h hC hJ;obtain rfl:i=m:=by omega
    have HK:=Lib.hid (And.intro h hJ);clear h hJ hC;rw [gG];refine GY stepG_seq ?_;refine GY stepG_seq ?_;refine HY.Ht (S:=(S0 (X:=Wk G5 GU) (Sg:=List Int) Try.prog Fin GR)) (b:=base 3) [] (by simp) (by kernel_rfl) nE (by kernel_rfl) fun Wa ha=>?_;have ea:=Lib.hid (show Wa.heap=W.heap by obtain ⟨τ,d,rfl⟩:=ha;rfl);clear ha;simp only [uT,Ua,cu,Try.f3];gi_wp2;refine Hg ?_;refine JL.Ho rfl ?_;refine JL.exit rfl ?_;obtain ⟨h,hJ⟩:=HK.out;have hh:=ea.out;exact Ad3 (h.same hh) fun W' tm Y ht k1 k2=>hJ W' tm Y ht (fun g hg=>by rw [k1 g hg,hh]) (by rw [← hh];exact k2)
  | succ k ih=>
    intro i W σ τ EB EC Gf Gg Gh Gi Gj Gl Gm Gn Gp Gq Gr Gs Gt Gu Gv Gx Gy Gz GD GH GI GJ GK GL hk hi h hC hJ;have hlt:i < m:=by omega
    obtain ⟨ga,go,d,pa,pn,pc,rfl,hg,hc⟩:=hC i hlt;refine dJ hlt hm h hc fun W' σ' XG EB EC Gf Gg Gh Gi Gj Gl Gm Gn Gp Gq Gr Gs Gt Gu Gv Gx Gy Gz GD GH GI GJ GK GL h' k1 k2=>?_;refine GY stepG_inLoop ?_;have e:((i:Int)+1)=((i+1:Nat):Int):=by push_cast;rfl
    rw [e];exact ih (i+1) W' σ' XG EB EC Gf Gg Gh Gi Gj Gl Gm Gn Gp Gq Gr Gs Gt Gu Gv Gx Gy Gz GD GH GI GJ GK GL (by omega) (by omega) h' (hC.same k1) fun W2 tm Y ht k3 k4=>hJ W2 tm Y ht (fun g hg=>(k3 g hg).trans (k1 g hg)) (Nat.le_trans k2 k4)
end
end
end Go.Proofs.Ytkdhnbcdbnpmhaa
