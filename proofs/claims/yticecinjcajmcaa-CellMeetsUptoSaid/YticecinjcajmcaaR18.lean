/-
  Part 18 of the proof that CellMeets returns true, and leaves its arguments as they were, for every input whose reading is of bulk at most 1048576. No further condition.
-/
import Derived.Test.YticecinjcajmcaaR00
import Derived.Test.YticecinjcajmcaaR12
import Derived.Test.YticecinjcajmcaaR17
import Derived.OrdersIn
import Derived.WalkLawsBesides
import Derived.OwnWalkIn
set_option linter.unusedVariables false
set_option linter.unusedSectionVars false
set_option linter.unusedSimpArgs false
set_option maxHeartbeats 2000000
noncomputable section
namespace Go.Proofs.Yticecinjcajmcaa
open Go Go.Conc Go.LT Go.LC Go.LK Go.RowKit
open Go.ConcN (WgLive)
section
def p9:Code:=match Zc with | .seq c _=>c | _=>.skip
def zY:Code:=match Zc with | .seq _ (.seq c _)=>c | _=>.skip
def wR:Code:=match Zc with | .seq _ (.seq _ (.seq c _))=>c | _=>.skip
def p14:Code:=match Zc with | .seq _ (.seq _ (.seq _ (.seq c _)))=>c | _=>.skip
def p15:Code:=match Zc with | .seq _ (.seq _ (.seq _ (.seq _ c)))=>c | _=>.skip
theorem lW:Zc=.seq p9 (.seq zY (.seq wR (.seq p14 p15))):=rfl
section
variable {Cs Sg:Type}{D:Dr Ef Cs Sg}{m:Mem Sg}{ρ:Rn}{b k:Nat}{cf:Frame}{fs:List Frame}{W:World}{σ:Sg}
variable {x:Wx (Wk Ef Cs) Sg ρ}{own core:Nat->Prop}{pb:Nat}{z:Wk Ef Cs}{ans:Value}{gr:Bool}{wv dv cv u7 u8 Ob FU FC:Value}{ds:List Deferred}{K:List Item}
theorem oH (hA:Jt m b k ⟨x,own,core,pb,z,gr,ans⟩ σ W){tm:Array Value}(hs:Sl wv dv cv pb u7 u8 Ob FU FC tm)(hJ:∀ W' tm',Sl wv dv cv pb u7 u8 Ob FU FC tm'->Jt m b k ⟨x,own,core,pb,FI.up ⟨x,own,core,pb,z,gr,ans⟩,false,ans⟩ σ W'->Ht b W W'->JL (SW (Eu D m) ρ Try.prog).L x (G ((base 33).at ⟨tm',ds⟩ K) (cf :: fs)) W') :
    JL (SW (Eu D m) ρ Try.prog).L x (G ((base 33).at ⟨tm,ds⟩ (.code p9 :: K)) (cf :: fs)) W:=by
  obtain ⟨v9,Ae,Af,Ah,Ai,Aj,Ak,Al,Am,Ao,Ap,Ar,Au,Av,Aw,Ay,Az,AA,AB,AJ,AL,AO,AP,AQ,AU,AV,AX,AY,AZ,A8,A9,Ba,Bb,Bc,Bf,Bh,Bj,Bl,Bp,Bq,Br,Bu,Bv,Bw,Bz,BD,BF,BG,BH,BI,BJ,BK,BL,BM,BN,BO,BP,BQ,BR,BS,BU,BX,BZ,Ca,Cb,Cc,Ce,Cg,Ci,rfl⟩:=hs;refine EL.EJ (S:=SW (Eu D m) ρ Try.prog) (b:=base 33) [] (by simp) zKR nE zKR fun W₁ ha=>?_;have hA1:=hA.alike (EW ha);obtain ⟨c5,c6,c7,c8,c9,c10,c11⟩:=hA1.row.cells;have f5:W₁.frozen? ⟨b,5,none⟩=false:=hA1.row.frozen;have f8:W₁.frozen? ⟨b,8,none⟩=false:=hA1.row.frozen;have hpc:=hA1.pc;have hcap:=hA.cap;simp only at hpc c5 c6 c7 c8 c9 c10 c11 hcap;dsimp only;simp only [p9,Zc,Ti,Tg,Try.f33];have hh:=EW ha;cases gr with
  | false=>
    have HH:=Lib.hid (zAI hJ (zAI hA1 hh));clear hJ hA hA1 hcap hh;gi_wp2;obtain ⟨hJ,hA1,hh⟩:=HH.out;exact hJ W₁ _ ⟨_,_,_,_,_,_,_,_,_,_,_,_,_,_,_,_,_,_,_,_,_,_,_,_,_,_,_,_,_,_,_,_,_,_,_,_,_,_,_,_,_,_,_,_,_,_,_,_,_,_,_,_,_,_,_,_,_,_,_,_,_,_,_,_,_,_,_,_,_,rfl⟩ hA1 ⟨fun g _=>by rw [hh],by rw [hh]⟩
  | true=>
    have hw:RowKit.wrap64 ((z.ow:Int)+1)=((z.ow+1:Nat):Int):=KA (by simp at hcap;omega);have hl1:(-9223372036854775808:Int)<=(z.ow:Int)+1:=by omega
    have hl2:(z.ow:Int)+1<=9223372036854775807:=by simp at hcap;omega
    have HH:=Lib.hid (zAI hJ (zAI hA (zAI hA1 (zAI hcap (zAI hh hw)))));clear hJ hA hA1 hcap hh hw;gi_wp2;obtain ⟨hJ,hA,hA1,hcap,hh,hw⟩:=HH.out;clear HH;have hrow:=hA1.row;unfold Fq at hrow;generalize hW':World.setCell _ _ _=W';have ht:Ht b W W':=⟨fun g hg=>by rw [← hW',← hh];simp [World.setCell,Array.getElem?_modify,hg.symm],by rw [← hW',← hh];simp [World.setCell]⟩
    refine hJ W' _ ⟨_,_,_,_,_,_,_,_,_,_,_,_,_,_,_,_,_,_,_,_,_,_,_,_,_,_,_,_,_,_,_,_,_,_,_,_,_,_,_,_,_,_,_,_,_,_,_,_,_,_,_,_,_,_,_,_,_,_,_,_,_,_,_,_,_,_,_,_,_,rfl⟩ (hA.turn (zx:=false) ?_ ht rfl rfl rfl rfl (by simp [FI.up] at hcap ⊢;omega)) ht;show W'.heap[b]?=_;rw [← hW'];simp [World.setCell,Array.getElem?_modify,hrow,FI.up]
theorem iM (hA:Jt m b k ⟨x,own,core,pb,z,gr,ans⟩ σ W){N8:Nat}{q0 q1 q2 q3 q4 q5 q6 q7 q8:Value}(h8:W.heap[N8]?=some (.cells #[q0,q1,q2,q3,q4,q5,q6,q7,q8] 42 (0,0)))(hN:¬ (own N8\/m.Sh N8)){tm:Array Value}(hs:Sl wv dv cv pb u7 (.pointer (some ⟨N8,0,none⟩)) Ob FU FC tm)(hJ:∀ W' tm',Sl wv dv cv pb u7 (.pointer (some ⟨N8,0,none⟩)) Ob FU FC tm'->Jt m b k ⟨x,own,core,pb,z,gr,ans⟩ σ W'->W'.heap[N8]?=some (.cells #[.int .i64 z.bg,.int .i64 z.st,.int .i64 z.ow,q3,q4,q5,q6,q7,q8] 42 (0,0))->Ht N8 W W'->JL (SW (Eu D m) ρ Try.prog).L x (G ((base 33).at ⟨tm',ds⟩ K) (cf :: fs)) W') :
    JL (SW (Eu D m) ρ Try.prog).L x (G ((base 33).at ⟨tm,ds⟩ (.code zY :: K)) (cf :: fs)) W:=by
  obtain ⟨v9,Ae,Af,Ah,Ai,Aj,Ak,Al,Am,Ao,Ap,Ar,Au,Av,Aw,Ay,Az,AA,AB,AJ,AL,AO,AP,AQ,AU,AV,AX,AY,AZ,A8,A9,Ba,Bb,Bc,Bf,Bh,Bj,Bl,Bp,Bq,Br,Bu,Bv,Bw,Bz,BD,BF,BG,BH,BI,BJ,BK,BL,BM,BN,BO,BP,BQ,BR,BS,BU,BX,BZ,Ca,Cb,Cc,Ce,Cg,Ci,rfl⟩:=hs;refine EL.EJ (S:=SW (Eu D m) ρ Try.prog) (b:=base 33) [] (by simp) zKR nE zKR fun W₁ ha=>?_;have hh:=EW ha;have hA1:=hA.alike hh;rw [← hh] at h8;obtain ⟨c5,c6,c7,c8,c9,c10,c11⟩:=hA1.row.cells;have hpc:=hA1.pc;have e0:W₁.cell? ⟨N8,0,none⟩=some q0:=by simp [World.cell?,h8]
  have e1:W₁.cell? ⟨N8,1,none⟩=some q1:=by simp [World.cell?,h8]
  have e2:W₁.cell? ⟨N8,2,none⟩=some q2:=by simp [World.cell?,h8]
  have f0:W₁.frozen? ⟨N8,0,none⟩=false:=by simp [World.frozen?,h8]
  have f1:W₁.frozen? ⟨N8,1,none⟩=false:=by simp [World.frozen?,h8]
  have f2:W₁.frozen? ⟨N8,2,none⟩=false:=by simp [World.frozen?,h8]
  have hne1:b≠N8:=fun e=>hN (.inl (e ▸ hA.co b hA.cb));have hne2:pb≠N8:=fun e=>hN (.inl (e ▸ hA.co pb hA.Pb));have HH:=Lib.hid (zAI hJ (zAI hA (zAI hN (zAI hh h8))));clear hJ hA hA1 hN hh h8;simp only at hpc c5 c6 c7 c8 c9 c10 c11;dsimp only;simp only [zY,Zc,Ti,Tg,Try.f33];gi_region
  obtain ⟨hJ,hA,hN,hh,h8⟩:=HH.out;clear HH;generalize hW':World.setCell _ _ _=W';have ht:Ht N8 W W'.drew:=⟨fun g hg=>by
    show W'.heap[g]?=_;rw [← hW',← hh];simp [World.setCell,Array.getElem?_modify,hg.symm],by
    show W'.heap.size=_;rw [← hW',← hh];simp [World.setCell]⟩
  refine hJ W'.drew _ ⟨_,_,_,_,_,_,_,_,_,_,_,_,_,_,_,_,_,_,_,_,_,_,_,_,_,_,_,_,_,_,_,_,_,_,_,_,_,_,_,_,_,_,_,_,_,_,_,_,_,_,_,_,_,_,_,_,_,_,_,_,_,_,_,_,_,_,_,_,_,rfl⟩ (hA.other (fun g hg=>ht.other g fun e=>hN (e ▸ hg)) (Nat.le_of_eq ht.size.symm)) ?_ ht;show W'.heap[N8]?=_;rw [← hW'];simp [World.setCell,Array.getElem?_modify,h8]
end
end
end Go.Proofs.Yticecinjcajmcaa
namespace Go.LT
open Go Go.Conc
section
section
variable {md:Region.Mode}{ops Il:Array Oper}{N:Nat}
def Down (md:Region.Mode)(ops:Array Oper)(listed:Array Bool):Prop:=∀ (i:Nat) (o:Oper),ops[i]?=some o->listed[i]?=some true->∀ e∈o.after,Region.binds md e=true->listed[e.on]?=some true
theorem I5 {l:Array Bool}{i:Nat}:l.getD i false=true↔l[i]?=some true:=by
  rw [Array.getD_eq_getD_getElem?];cases l[i]? with
  | none=>simp
  | some b=>simp
theorem Ga {l:Array Bool}{i:Nat}:l.getD i true=false↔l[i]?=some false:=by
  rw [Array.getD_eq_getD_getElem?];cases l[i]? with
  | none=>simp
  | some b=>simp
theorem Xz {ops:Array Oper}{fuel t:Nat}{listed:Array Bool}{acc:List Nat}(h:Region.ready md ops listed=[]):Region.linearise.go md ops fuel t listed acc=acc.reverse:=by
  cases fuel with
  | zero=>simp [Region.linearise.go]
  | succ fuel=>
    simp only [Region.linearise.go];change (match (Region.ready md ops listed)[t % (Region.ready md ops listed).length]? with
      | some i=>Region.linearise.go md ops fuel (t / (Region.ready md ops listed).length) (listed.setIfInBounds i true) (i :: acc)
      | none=>acc.reverse)=_
    rw [h];rfl
theorem Pq {ops:Array Oper}{fuel t i:Nat}{listed:Array Bool}{acc:List Nat}(h:(Region.ready md ops listed)[t % (Region.ready md ops listed).length]?=some i) :
    Region.linearise.go md ops (fuel+1) t listed acc=Region.linearise.go md ops fuel (t / (Region.ready md ops listed).length) (listed.setIfInBounds i true) (i :: acc):=by
  simp only [Region.linearise.go];change (match (Region.ready md ops listed)[t % (Region.ready md ops listed).length]? with
    | some i=>Region.linearise.go md ops fuel (t / (Region.ready md ops listed).length) (listed.setIfInBounds i true) (i :: acc)
    | none=>acc.reverse)=_
  rw [h]
theorem O9 {l:Array Bool}{i:Nat}(h:i < l.size):l[i]?=some true\/l[i]?=some false:=by rw [Array.getElem?_eq_getElem h];cases l[i] <;> simp
theorem Qm {listed:Array Bool}(hs:ops.size=N+1)(Jy:∀ (i:Nat) (o:Oper),ops[i]?=some o->∀ e∈o.after,e.on < i)(h1:listed.size=N+1)(h4:listed[N]?=some false)(hall:∀ i,i < N->listed[i]?=some true):Region.ready md ops listed=[N]:=by
  unfold Region.ready;rw [hs,List.range_succ,List.filter_append];have e1:List.filter (fun i=>!listed.getD i true && ((ops[i]?).map (·.after.all fun e=>!Region.binds md e || listed.getD e.on false)).getD false) (List.range N)=[]:=by refine List.filter_eq_nil_iff.2 fun i hi hp=>?_;rw [List.mem_range] at hi;have:=I5.2 (hall i hi);simp only [Bool.and_eq_true,Bool.not_eq_true'] at hp;have h2:=Ga.1 hp.1;rw [hall i hi] at h2;cases h2
  rw [e1,List.nil_append,List.filter_cons,List.filter_nil,if_pos];have ho:ops[N]?=some (ops[N]'zOM):=Array.getElem?_eq_getElem zOM;rw [ho,Ga.2 h4];simp only [Bool.not_false,Bool.true_and,Option.map_some,Option.getD_some];rw [Array.all_eq_true'];intro e he;rw [I5.2 (hall _ (Jy N _ ho e he))]
  simp
theorem fI (hs:ops.size=N+1)(hs0:Il.size=N)(hop:∀ i,i < N->Il[i]?=ops[i]?)(Jy:∀ (i:Nat) (o:Oper),ops[i]?=some o->∀ e∈o.after,e.on < i)(hcl:∀ listed:Array Bool,listed.size=N+1->Down md ops listed->N∈Region.ready md ops listed->∀ i,i < N->listed[i]?=some true) :
    ∀ (fuel t:Nat) (listed Ic:Array Bool) (acc:List Nat),listed.size=N+1->Ic.size=N->(∀ i,i < N->Ic[i]?=listed[i]?)->listed[N]?=some false->Down md ops listed->
      (∃ l:List Nat,l.length<=fuel/\∀ i,i < N->listed[i]?=some false->i∈l)->
      Region.linearise.go md ops (fuel+1) t listed acc=Region.linearise.go md Il fuel t Ic acc ++ [N]:=by
  intro fuel;induction fuel with
  | zero=>
    intro t listed Ic acc h1 h2 h3 h4 h5 ⟨l,hl,hu⟩;have hall:∀ i,i < N->listed[i]?=some true:=fun i hi=>by
      rcases O9 (show i < listed.size by omega) with hb|hb
      . exact hb
      . have:=hu i hi hb;rw [List.length_eq_zero_iff.1 (Nat.le_zero.1 hl)] at this;cases this
    have hr:=Qm (md:=md) hs Jy h1 h4 hall;rw [Pq (i:=N) (by rw [hr];simp [Nat.mod_one])];simp [Region.linearise.go]
  | succ fuel ih=>
    intro t listed Ic acc h1 h2 h3 h4 h5 ⟨l,hl,hu⟩;by_cases hall:∀ i,i < N->listed[i]?=some true
    . have hr:=Qm (md:=md) hs Jy h1 h4 hall;have hr0:Region.ready md Il Ic=[]:=by
        refine List.eq_nil_iff_forall_not_mem.2 fun i hi=>?_;obtain ⟨h,o,ho,_⟩:=mem_ready.1 hi;have hlt:i < N:=by rw [← hs0];exact (zGE ho).1
        rw [Ga,h3 i hlt,hall i hlt] at h;cases h
      rw [Pq (i:=N) (by rw [hr];simp [Nat.mod_one]),Xz hr0,Xz (by
        refine List.eq_nil_iff_forall_not_mem.2 fun i hi=>?_;obtain ⟨h,o,ho,_⟩:=mem_ready.1 hi;have hlt:i < N+1:=by rw [← hs];exact (zGE ho).1
        rw [Ga] at h;by_cases e:i=N
        . subst e;rw [Array.getElem?_setIfInBounds_self_of_lt zOM] at h;cases h
        . rw [Array.getElem?_setIfInBounds_ne (fun z=>e z.symm),hall i zOM] at h;cases h)]
      simp
    . have hN:N∉Region.ready md ops listed:=fun h=>hall (hcl listed h1 h5 h);have hrr:Region.ready md ops listed=Region.ready md Il Ic:=by
        unfold Region.ready;rw [hs,hs0,List.range_succ,List.filter_append];have e1:List.filter (fun i=>!listed.getD i true && ((ops[i]?).map (·.after.all fun e=>!Region.binds md e || listed.getD e.on false)).getD false) [N]=[]:=by refine List.filter_eq_nil_iff.2 fun i hi hp=>?_;rw [List.mem_singleton] at hi;subst hi;refine hN ?_;unfold Region.ready;rw [List.mem_filter];exact ⟨by rw [List.mem_range,hs];omega,hp⟩
        rw [e1,List.append_nil];refine List.filter_congr fun i hi=>?_;rw [List.mem_range] at hi;rw [hop i hi];have e2:Ic.getD i true=listed.getD i true:=by rw [Array.getD_eq_getD_getElem?,Array.getD_eq_getD_getElem?,h3 i hi]
        rw [e2]
        congr 1
        cases ho:ops[i]? with
        | none=>rfl
        | some o=>
          simp only [Option.map_some,Option.getD_some];rw [Bool.eq_iff_iff,Array.all_eq_true',Array.all_eq_true'];have key:∀ e∈o.after,Ic.getD e.on false=listed.getD e.on false:=fun e he=>by have:=Jy i o ho e he;rw [Array.getD_eq_getD_getElem?,Array.getD_eq_getD_getElem?,h3 e.on zOM]
          exact ⟨fun h e he=>by rw [key e he];exact h e he,fun h e he=>by rw [← key e he];exact h e he⟩
      have hex:∀ i,i < N->listed[i]?=some false->∃ j,j∈Region.ready md ops listed:=by
        intro i;induction i using Nat.strongRecOn with
        | _ i ihi=>
          intro hi hb;have hlt:i < ops.size:=by omega
          have ho:ops[i]?=some ops[i]:=Array.getElem?_eq_getElem hlt;by_cases hd:∀ e∈ops[i].after,listed[e.on]?=some true
          . exact ⟨i,mem_ready.2 ⟨Ga.2 hb,_,ho,fun e he _=>I5.2 (hd e he)⟩⟩
          . obtain ⟨e,he,hd⟩:∃ e,e∈ops[i].after/\¬ listed[e.on]?=some true:=Classical.byContradiction fun hc=>hd fun e he=>Classical.byContradiction fun h=>hc ⟨e,he,h⟩;have hlt2:=Jy i _ ho e he;rcases O9 (show e.on < listed.size by omega) with hb'|hb'
            . exact absurd hb' hd
            . exact ihi e.on hlt2 zOM hb'
      obtain ⟨i0,hi0⟩:∃ i0,i0 < N/\listed[i0]?=some false:=by
        obtain ⟨i,hi,hb⟩:∃ i,i < N/\¬ listed[i]?=some true:=Classical.byContradiction fun hc=>hall fun i hi=>Classical.byContradiction fun h=>hc ⟨i,hi,h⟩;rcases O9 (show i < listed.size by omega) with hb'|hb'
        . exact absurd hb' hb
        . exact ⟨i,hi,hb'⟩
      obtain ⟨j0,hj0⟩:=hex i0 hi0.1 hi0.2;have hpos:0 < (Region.ready md ops listed).length:=List.length_pos_of_mem hj0;have hlt:=Nat.mod_lt t hpos;have hget:(Region.ready md ops listed)[t % (Region.ready md ops listed).length]?=some (Region.ready md ops listed)[t % (Region.ready md ops listed).length]:=List.getElem?_eq_getElem hlt;generalize hj:(Region.ready md ops listed)[t % (Region.ready md ops listed).length]=j at hget;have hmem:j∈Region.ready md ops listed:=List.mem_of_getElem? hget;obtain ⟨hju,o,ho,hod⟩:=mem_ready.1 hmem;have hjN:j < N:=by
        have:j < N+1:=by rw [← hs];exact (zGE ho).1
        have:j≠N:=fun e=>hN (e ▸ hmem);omega
      have yX:(Region.ready md Il Ic)[t % (Region.ready md Il Ic).length]?=some j:=by rw [← hrr];exact hget
      rw [Pq (fuel:=fuel+1) (acc:=acc) hget,Pq (fuel:=fuel) (acc:=acc) yX,← hrr];refine ih _ (listed.setIfInBounds j true) (Ic.setIfInBounds j true) (j :: acc) (by simpa using h1) (by simpa using h2) (fun i hi=>?_) ?_ ?_ ⟨l.erase j,?_,fun i hi hb=>?_⟩
      . by_cases e:j=i
        . subst e;rw [Array.getElem?_setIfInBounds_self_of_lt zOM,Array.getElem?_setIfInBounds_self_of_lt zOM]
        . rw [Array.getElem?_setIfInBounds_ne e,Array.getElem?_setIfInBounds_ne e];exact h3 i hi
      . rw [Array.getElem?_setIfInBounds_ne zOM];exact h4
      . intro i o' ho' hb e he hbi;have up:listed[e.on]?=some true->(listed.setIfInBounds j true)[e.on]?=some true:=fun h=>by
          by_cases ee:j=e.on
          . rw [← ee,Array.getElem?_setIfInBounds_self_of_lt zOM]
          . rw [Array.getElem?_setIfInBounds_ne ee];exact h
        by_cases ee:j=i
        . subst ee;rw [ho] at ho';cases ho'
          exact up (I5.1 (hod e he hbi))
        . rw [Array.getElem?_setIfInBounds_ne ee] at hb;exact up (h5 i o' ho' hb e he hbi)
      . have hjl:=hu j hjN (Ga.1 hju);rw [List.length_erase_of_mem hjl];have:=List.length_pos_of_mem hjl;omega
      . by_cases ee:j=i
        . subst ee;rw [Array.getElem?_setIfInBounds_self_of_lt zOM] at hb;cases hb
        . rw [Array.getElem?_setIfInBounds_ne ee] at hb;exact (List.mem_erase_of_ne (fun z=>ee z.symm)).2 (hu i hi hb)
theorem QF {P:Program}(hm:P.follows .mixedOrders=true)(hs:ops.size=N+1)(hs0:Il.size=N)(hop:∀ i,i < N->Il[i]?=ops[i]?)(Jy:∀ (i:Nat) (o:Oper),ops[i]?=some o->∀ e∈o.after,e.on < i)(hcl:∀ listed:Array Bool,listed.size=N+1->Down .any ops listed->N∈Region.ready .any ops listed->∀ i,i < N->listed[i]?=some true)(t:Nat) :
    Region.schedule (P.follows .mixedOrders) ops t=Region.linearise .any Il t ++ [N]:=by
  simp only [Region.schedule,hm,Bool.true_or,if_true];unfold Region.linearise;rw [hs,hs0];refine fI hs hs0 hop Jy hcl N t _ _ [] (by simp) (by simp) (fun i hi=>?_) ?_ ?_ ⟨List.range N,by simp,fun i hi _=>List.mem_range.2 hi⟩
  . rw [Array.getElem?_replicate,Array.getElem?_replicate,if_pos hi,if_pos zOM]
  . rw [Array.getElem?_replicate,if_pos zOM]
  . intro i o _ hb;rw [Array.getElem?_replicate] at hb;split at hb <;> cases hb
end
end
section
section
variable {F:Fence}{n:Nat}{P:Program}{md:Region.Mode}{ops:Array Oper}{Q:Exit->Act->World->Prop}
theorem ZA {listed:Array Bool}{j:Nat}{o:Oper}(h5:Down md ops listed)(hlt:j < listed.size)(ho:ops[j]?=some o)(hod:∀ e∈o.after,Region.binds md e=true->listed[e.on]?=some true):Down md ops (listed.setIfInBounds j true):=by
  intro i o' ho' hb e he hbi;have up:listed[e.on]?=some true->(listed.setIfInBounds j true)[e.on]?=some true:=fun h=>by
    by_cases ee:j=e.on
    . rw [← ee,Array.getElem?_setIfInBounds_self_of_lt hlt]
    . rw [Array.getElem?_setIfInBounds_ne ee];exact h
  by_cases ee:j=i
  . subst ee;rw [ho] at ho';cases ho'
    exact up (hod e he hbi)
  . rw [Array.getElem?_setIfInBounds_ne ee] at hb;exact up (h5 i o' ho' hb e he hbi)
theorem Rh {I:Array Bool->Act->World->Prop}(Jy:∀ (i:Nat) (o:Oper),ops[i]?=some o->∀ e∈o.after,e.on < i)(hstep:∀ (l:Array Bool) (a:Act) (w:World) (i:Nat) (o:Oper),I l a w->l.size=ops.size->Down md ops l->l[i]?=some false->ops[i]?=some o->(∀ e∈o.after,Region.binds md e=true->l[e.on]?=some true)->wpOpIn F n P ops Q i (fun a' w'=>I (l.setIfInBounds i true) a' w') a w)(hend:∀ (l:Array Bool) (a:Act) (w:World),I l a w->l.size=ops.size->(∀ i,i < ops.size->l[i]?=some true)->Q .normal a w) :
    ∀ (fuel:Nat) (l:Array Bool) (a:Act) (w:World),(∃ u:List Nat,u.length<=fuel/\∀ i,i < ops.size->l[i]?=some false->i∈u)->l.size=ops.size->Down md ops l->I l a w->wpAnyIn F n P md ops Q fuel l a w:=by
  have done:∀ l:Array Bool,l.size=ops.size->Region.ready md ops l=[]->∀ i,i < ops.size->l[i]?=some true:=by
    intro l hl hr i;induction i using Nat.strongRecOn with
    | _ i ih=>
      intro hi;rcases O9 (show i < l.size by omega) with hb|hb
      . exact hb
      . have:i∈Region.ready md ops l:=mem_ready.2 ⟨Ga.2 hb,_,Array.getElem?_eq_getElem hi,fun e he _=>I5.2 (ih e.on (Jy i _ (Array.getElem?_eq_getElem hi) e he) (by have:=Jy i _ (Array.getElem?_eq_getElem hi) e he;omega))⟩
        rw [hr] at this;cases this
  intro fuel;induction fuel with
  | zero=>
    intro l a w ⟨u,hu,hm⟩ hl hd hI;have hr:Region.ready md ops l=[]:=List.eq_nil_iff_forall_not_mem.2 fun i hi=>by obtain ⟨h,o,ho,_⟩:=mem_ready.1 hi;have:=hm i (zGE ho).1 (Ga.1 h);rw [List.length_eq_zero_iff.1 (Nat.le_zero.1 hu)] at this;cases this
    exact ⟨hr,hend l a w hI hl (done l hl hr)⟩
  | succ fuel ih=>
    intro l a w ⟨u,hu,hm⟩ hl hd hI;refine ⟨fun hr=>hend l a w hI hl (done l hl hr),fun i hi=>?_⟩;obtain ⟨h,o,ho,hod⟩:=mem_ready.1 hi;have hlt:i < ops.size:=(zGE ho).1;have wu:∀ e∈o.after,Region.binds md e=true->l[e.on]?=some true:=fun e he hb=>I5.1 (hod e he hb);refine wpOpIn_mono (fun a' w' hI'=>ih _ a' w' ⟨u.erase i,?_,fun j hj hb=>?_⟩ (by simpa using hl) (ZA hd zOM ho wu) hI') (hstep l a w i o hI hl hd (Ga.1 h) ho wu)
    . have:=hm i hlt (Ga.1 h);rw [List.length_erase_of_mem this];have:=List.length_pos_of_mem this;omega
    . by_cases ee:i=j
      . subst ee;rw [Array.getElem?_setIfInBounds_self_of_lt zOM] at hb;cases hb
      . rw [Array.getElem?_setIfInBounds_ne ee] at hb;exact (List.mem_erase_of_ne (fun z=>ee z.symm)).2 (hm j hj hb)
theorem UR {I:Array Bool->Act->World->Prop}{id:Nat}{a:Act}{w:World}(hm:P.follows .mixedOrders=true)(Jy:∀ (i:Nat) (o:Oper),ops[i]?=some o->∀ e∈o.after,e.on < i)(h0:I (Array.replicate ops.size false) a w.drew)(hstep:∀ (l:Array Bool) (a:Act) (w:World) (i:Nat) (o:Oper),I l a w->l.size=ops.size->Down .any ops l->l[i]?=some false->ops[i]?=some o->(∀ e∈o.after,Region.binds .any e=true->l[e.on]?=some true)->wpOpIn F n P ops Q i (fun a' w'=>I (l.setIfInBounds i true) a' w') a w)(hend:∀ (l:Array Bool) (a:Act) (w:World),I l a w->l.size=ops.size->(∀ i,i < ops.size->l[i]?=some true)->Q .normal a w):(Code.region id ops true).wpIn F n P Q a w:=by
  refine wpIn_region_any hm (Rh Jy hstep hend ops.size _ a _ ⟨List.range ops.size,by simp,fun i hi _=>List.mem_range.2 hi⟩ (by simp) (fun i o ho hb=>?_) h0);have hlt:i < ops.size:=(zGE ho).1;rw [Array.getElem?_replicate,if_pos hlt] at hb;cases hb
theorem FL {i:Nat}{o:Oper}{K:Act->World->Prop}{a:Act}{w w':World}{v:Value}(hF:F.round=none)(ho:ops[i]?=some o)(hg:o.guard=none)(hab:o.about P w a.eval=none)(hr:(execOp a.eval o).run P w=.ok (.value v) w')(hk:K (a.put o.dst v) w'):wpOpIn F n P ops Q i K a w:=by refine wpOpIn_step ho fun K' hK=>?_;rw [if_pos (by unfold Region.wanted;rw [hg])];refine ⟨fun f hf=>(by rw [hab] at hf;cases hf),?_⟩;rw [hF,Oper.semAt_none,hr];exact hK _ _ hk
theorem RP {i:Nat}{o:Oper}{K:Act->World->Prop}{a:Act}{w w':World}(hF:F.round=none)(ho:ops[i]?=some o)(hg:o.guard=none)(hab:o.about P w a.eval=none)(hr:(execOp a.eval o).run P w=.ok .skip w')(hk:K (a.put o.dst undef) w'):wpOpIn F n P ops Q i K a w:=by refine wpOpIn_step ho fun K' hK=>?_;rw [if_pos (by unfold Region.wanted;rw [hg])];refine ⟨fun f hf=>(by rw [hab] at hf;cases hf),?_⟩;rw [hF,Oper.semAt_none,hr];exact hK _ _ hk
end
end
end Go.LT
namespace Go.Proofs.Yticecinjcajmcaa
open Go Go.RowKit
open BA
theorem Jo {P:Program}(w:World)(base:Nat)(t ty e:TypeId)(i:TypeInfo)(z:Value)(size bytes:Nat)(ht:P.underlying t=some (.slice e))(hi:P.info? e=some i)(hz:i.zero=some z)(hsize:i.size=size)(hby:i.bytes=bytes)(hzs:z.cells.size=size)(hsz:0 < size)(v:Value)(n:Nat)(xs:List Value)(hown:Fa w base size v n xs)(a:Addr)(m c:Nat)(news:List Value)(hl:news.length=m * size)(hnews:∀ j u,news[j]?=some u->w.cell? (a.add j)=some u)(h1:∀ u∈news,u.oneCell'=true)(h63:n+m<=maxLen)(hbytes:(n+m) * bytes<=140737488355328)(hbase:base<=w.heap.size) :
    ∃ v' w',(Builtin.append_ #[t,t] ty #[v,.slice (some a) m c]).run P w=.ok v' w'/\Fa w' base size v' (n+m) (xs ++ news)/\w.grownBy w' v.ownBlock/\
      (v'.ownBlock=v.ownBlock\/((∀ k,v'.ownBlock=some k->w.heap.size<=k)/\w.grownBy w' none)):=by
  obtain ⟨te,hown⟩:=hown;rcases hown.2 with ⟨rfl,rfl⟩|⟨g,cap,cur,rfl,hbg,hg,hnc,hcm,hcs,htake⟩
  . have hx:xs=[]:=List.eq_nil_of_length_eq_zero (by simpa using hown.1);subst hx;obtain ⟨v',w',r1,r2,r3,r4⟩:=run_append_own (P:=P) w w.heap.size t ty e i z size bytes ht hi hz hsize hby hzs hsz (.slice none 0 0) 0 [] (World.ownsRow_nil w _ e size) a m c news hl hnews h1 h63 hbytes (Nat.le_refl _);refine ⟨v',w',r1,⟨e,r2.1,?_⟩,r3,.inr ⟨fun k hk=>?_,r3⟩⟩
    . rcases r2.2 with hh | ⟨g,cap,cur,q1,q2,q3⟩
      . exact .inl hh
      . exact .inr ⟨g,cap,cur,q1,Nat.le_trans hbase q2,q3⟩
    . rcases r2.2 with ⟨hh,_⟩ | ⟨g,cap,cur,q1,q2,q3⟩
      . rw [hh] at hk;cases hk
      . rw [q1] at hk;cases hk;exact q2
  . by_cases hroom:n+m<=cap
    . subst hsize;have hfit:n * i.size+news.length<=cur.size:=by rw [hl,hcs,← Nat.add_mul];exact Nat.mul_le_mul_right _ hroom
      have hlen:(xs ++ news).length=(n+m) * i.size:=by rw [List.length_append,hown.1,hl,Nat.add_mul]
      have hr:=OL (P:=P) w t ty e te i ht hi g n cap cur hg a m c news hl hnews h1 hroom hfit;refine ⟨_,_,hr,⟨te,hlen,.inr ⟨g,cap,_,rfl,hbg,setRow_heap w g cur _ te _ hg,hroom,hcm,?_,?_⟩⟩,⟨rfl,rfl,rfl,by simp,fun k _ hk=>setRow_other w g k _ (fun e=>hk (by simp [Value.ownBlock,e]))⟩,.inl rfl⟩
      . simp only [List.size_toArray,List.length_append,List.length_take,List.length_drop,Array.length_toList];omega
      . rw [htake,← hlen];exact List.take_left
    . have holds:∀ j u,xs[j]?=some u->w.cell? ((⟨g,0,none⟩:Addr).add j)=some u:=hown.cells (g:=g) rfl;obtain ⟨v',w',r1,r2,r3⟩:=run_append_arg_grows (P:=P) w t ty e i z size bytes ht hi hz hsize hby hzs hsz ⟨g,0,none⟩ n cap xs hown.1 holds a m c news hl hnews zOM h63 hbytes;refine ⟨v',w',r1,⟨e,r2.1,?_⟩,⟨r3.os,r3.tape,r3.output,r3.size,fun k hk _=>r3.block k hk (by simp)⟩,.inr ⟨fun k hk=>?_,⟨r3.os,r3.tape,r3.output,r3.size,fun k hk _=>r3.block k hk (by simp)⟩⟩⟩
      . rcases r2.2 with hh | ⟨g,cap,cur,q1,q2,q3⟩
        . exact .inl hh
        . exact .inr ⟨g,cap,cur,q1,Nat.le_trans hbase q2,q3⟩
      . rcases r2.2 with ⟨hh,_⟩ | ⟨g,cap,cur,q1,q2,q3⟩
        . rw [hh] at hk;cases hk
        . rw [q1] at hk;cases hk;exact q2
theorem GZ {F:Fence}{n:Nat}{P:Program}(w:World){ops:Array Oper}{rest:List Oper}{o:Oper}{a:Act}{Q:Exit->Act->World->Prop}(hg:o.guard=none)(s x:Operand)(t:TypeId)(hop:o.op=Op.call { callee:=Callee.builtin Builtin.append,args:=#[s,x],argTypes:=#[t,t] })(base:Nat)(e:TypeId)(i:TypeInfo)(z:Value)(size bytes:Nat)(h1:P.underlying t=some (.slice e))(h2:P.info? e=some i)(h3:i.zero=some z)(h4:i.size=size)(h5:i.bytes=bytes)(h6:z.cells.size=size)(h7:0 < size)(v:Value)(k:Nat)(xs:List Value)(hs:a.eval s=v)(hown:Fa w base size v k xs)(ad:Addr)(m c:Nat)(news:List Value)(hx:a.eval x=.slice (some ad) m c)(hn:news.length=m * size)(hc:∀ j u,news[j]?=some u->w.cell? (ad.add j)=some u)(h1c:∀ u∈news,u.oneCell'=true)(b1:k+m<=maxLen)(b2:(k+m) * bytes<=140737488355328)(b3:base<=w.heap.size)(hK:∀ v' w',Fa w' base size v' (k+m) (xs ++ news)->w.grownBy w' v.ownBlock->(v'.ownBlock=v.ownBlock\/((∀ g,v'.ownBlock=some g->w.heap.size<=g)/\w.grownBy w' none))->wpListIn F n P ops Q rest (a.put o.dst v') w') :
    wpListIn F n P ops Q (o :: rest) a w:=by
  refine wpListIn_plain hg fun K hK'=>?_;obtain ⟨v',w',hrun,r1,r2,r3⟩:=Jo (P:=P) w base t o.type e i z size bytes h1 h2 h3 h4 h5 h6 h7 v k xs hown ad m c news hn hc h1c b1 b2 b3;unfold Oper.wpIn;refine ⟨?_,?_⟩
  . simp [Oper.about,hop,resolve,Target.leads,Sem.run_pure]
  . rw [Oper.semAt_plain F _ _ (by rw [hop];intro c hc';cases hc')]
    simp [execOp,hop,resolve,invoke,builtin,hs,hx,hrun,Result.andThen];exact hK' _ _ (hK v' w' r1 r2 r3)
end Go.Proofs.Yticecinjcajmcaa
namespace Go.Proofs.Yticecinjcajmcaa
open Go Go.Conc Go.LT Go.LC Go.LK Go.RowKit
open Go.ConcN (WgLive)
section
def FB:Array Oper:=match wR with | .region _ ops _=>ops | _=>#[]
theorem qV:wR=.region 13 FB true:=by simp only [FB,wR,Zc,Ti,Tg,Try.f33]
def GR (o:Oper):List Nat:=(o.after.toList.filter (Region.binds .any)).map (·.on)
theorem Rz {o:Oper}{l:Array Bool}{i:Nat}(h:i∈GR o)(hl:∀ e∈o.after,Region.binds .any e=true->l[e.on]?=some true):l[i]?=some true:=by obtain ⟨e,he,rfl⟩:=List.mem_map.1 h;rw [List.mem_filter] at he;exact hl e (Array.mem_toList_iff.1 he.1) he.2
theorem sU:(FB[4]?).map GR=some [3]:=by kernel_rfl
theorem Vj:(FB[7]?).map GR=some [4,6]:=by kernel_rfl
theorem vX:(FB[8]?).map GR=some [0,0,1,2,3,4,5,6,7]:=by kernel_rfl
theorem lu:(FB[9]?).map GR=some [8,0,1,2,3,4,5,6,7]:=by kernel_rfl
theorem kK:(FB[6]?).map GR=some [5]:=by kernel_rfl
theorem kr:(FB[10]?).map (fun o=>(GR o).take 2)=some [9,7]:=by kernel_rfl
theorem vF (i:Nat)(o:Oper)(ho:FB[i]?=some o):∀ e∈o.after,e.on < i:=by
  have h:(FB.toList.zipIdx.all fun x=>x.1.after.all fun e=>decide (e.on < x.2))=true:=by kernel_rfl
  rw [List.all_eq_true] at h;have h1:=h (o,i) (by rw [List.mem_zipIdx_iff_getElem?];simpa using ho);simp only [Array.all_eq_true'] at h1;exact fun e he=>of_decide_eq_true (h1 e he)
def Dc (w0 w1 w2 w3:World)(l:Array Bool):World:=if l[10]?=some true then w3 else if l[7]?=some true then w2 else if l[6]?=some true then w1 else w0
structure zq (tm:Array Value)(vs:List Value)(w0 w1 w2 w3:World)(l:Array Bool)(a:Act)(w:World):Prop where
  ds:a.defers=[]
  size:a.tmps.size=81
  low:∀ s,s < 63->a.tmps[s]?=tm[s]?
  val:∀ j v,l[j]?=some true->vs[j]?=some v->a.tmps[63+j]?=some v
  wo:w=Dc w0 w1 w2 w3 l
theorem zq.put {tm:Array Value}{vs:List Value}{w0 w1 w2 w3:World}{l:Array Bool}{a:Act}{w:World}(h:zq tm vs w0 w1 w2 w3 l a w){i:Nat}{v:Value}{w':World}(hi:i < 10)(hv:vs[i]?=some v)(hl:l.size=11)(hw:w'=Dc w0 w1 w2 w3 (l.setIfInBounds i true)):zq tm vs w0 w1 w2 w3 (l.setIfInBounds i true) (a.put (some (63+i)) v) w':=by
  refine ⟨h.ds,by simp [Act.put,h.size],fun s hs=>?_,fun j u hj hu=>?_,hw⟩
  . show (a.tmps.setIfInBounds (63+i) v)[s]?=_;rw [Array.getElem?_setIfInBounds_ne zOM];exact h.low s hs
  . show (a.tmps.setIfInBounds (63+i) v)[63+j]?=_;by_cases e:i=j
    . subst e;rw [Array.getElem?_setIfInBounds_self_of_lt (by rw [h.size];omega)];rw [hv] at hu;exact hu
    . rw [Array.getElem?_setIfInBounds_ne zOM];rw [Array.getElem?_setIfInBounds_ne e] at hj;exact h.val j u hj hu
theorem Mg {w0 w1 w2 w3:World}{l:Array Bool}{i:Nat}(h1:i≠10)(h2:i≠7)(h3:i≠6):Dc w0 w1 w2 w3 (l.setIfInBounds i true)=Dc w0 w1 w2 w3 l:=by unfold Dc;rw [Array.getElem?_setIfInBounds_ne h1,Array.getElem?_setIfInBounds_ne h2,Array.getElem?_setIfInBounds_ne h3]
theorem Eh {a:Act}{s:Nat}{v:Value}(h:a.tmps[s]?=some v):a.eval (.tmp s)=v:=by simp [Act.eval,Array.getD_eq_getD_getElem?,h]
theorem Ee {α:Type}{l:List α}{n:Nat}(h:l.length=n+1):∃ x t,l=x :: t/\t.length=n:=by
  cases l with
  | nil=>cases h
  | cons x t=>exact ⟨x,t,rfl,by simpa using h⟩
theorem vL {tm:Array Value}(h:tm.size=81):∃ v0 v1 v2 v3 v4 v5 v6 v7 v8 v9 Aa Ab Ac Ae Af Ah Ai Aj Ak Al Am Ao Ap Ar Au Av Aw Ay Az AA AB AJ AL AO AP AQ AU AV AX AY AZ A8 A9 Ba Bb Bc Bf Bh Bj Bl Bp Bq Br Bu Bv Bw Bz BD BF BG BH BI BJ BK BL BM BN BO BP BQ BR BS BU BX BZ Ca Cb Cc Ce Cg Ci,tm=#[v0,v1,v2,v3,v4,v5,v6,v7,v8,v9,Aa,Ab,Ac,Ae,Af,Ah,Ai,Aj,Ak,Al,Am,Ao,Ap,Ar,Au,Av,Aw,Ay,Az,AA,AB,AJ,AL,AO,AP,AQ,AU,AV,AX,AY,AZ,A8,A9,Ba,Bb,Bc,Bf,Bh,Bj,Bl,Bp,Bq,Br,Bu,Bv,Bw,Bz,BD,BF,BG,BH,BI,BJ,BK,BL,BM,BN,BO,BP,BQ,BR,BS,BU,BX,BZ,Ca,Cb,Cc,Ce,Cg,Ci]:=by
  obtain ⟨l⟩:=tm;replace h:l.length=81:=h;obtain ⟨v0,l0,rfl,h0⟩:=Ee h;obtain ⟨v1,l1,rfl,h1⟩:=Ee h0;obtain ⟨v2,l2,rfl,h2⟩:=Ee h1;obtain ⟨v3,l3,rfl,h3⟩:=Ee h2;obtain ⟨v4,l4,rfl,h4⟩:=Ee h3;obtain ⟨v5,l5,rfl,h5⟩:=Ee h4;obtain ⟨v6,l6,rfl,h6⟩:=Ee h5;obtain ⟨v7,l7,rfl,h7⟩:=Ee h6;obtain ⟨v8,l8,rfl,h8⟩:=Ee h7;obtain ⟨v9,l9,rfl,h9⟩:=Ee h8;obtain ⟨Aa,l10,rfl,h10⟩:=Ee h9;obtain ⟨Ab,l11,rfl,h11⟩:=Ee h10;obtain ⟨Ac,l12,rfl,h12⟩:=Ee h11;obtain ⟨Ae,l13,rfl,aA⟩:=Ee h12;obtain ⟨Af,l14,rfl,kY⟩:=Ee aA;obtain ⟨Ah,l15,rfl,uW⟩:=Ee kY;obtain ⟨Ai,l16,rfl,h16⟩:=Ee uW;obtain ⟨Aj,l17,rfl,h17⟩:=Ee h16;obtain ⟨Ak,l18,rfl,h18⟩:=Ee h17;obtain ⟨Al,l19,rfl,h19⟩:=Ee h18;obtain ⟨Am,l20,rfl,h20⟩:=Ee h19;obtain ⟨Ao,l21,rfl,h21⟩:=Ee h20;obtain ⟨Ap,l22,rfl,h22⟩:=Ee h21
  obtain ⟨Ar,l23,rfl,h23⟩:=Ee h22;obtain ⟨Au,l24,rfl,h24⟩:=Ee h23;obtain ⟨Av,l25,rfl,h25⟩:=Ee h24;obtain ⟨Aw,l26,rfl,h26⟩:=Ee h25;obtain ⟨Ay,l27,rfl,h27⟩:=Ee h26;obtain ⟨Az,l28,rfl,h28⟩:=Ee h27;obtain ⟨AA,l29,rfl,h29⟩:=Ee h28;obtain ⟨AB,l30,rfl,h30⟩:=Ee h29;obtain ⟨AJ,l31,rfl,h31⟩:=Ee h30;obtain ⟨AL,l32,rfl,h32⟩:=Ee h31;obtain ⟨AO,l33,rfl,h33⟩:=Ee h32;obtain ⟨AP,l34,rfl,h34⟩:=Ee h33;obtain ⟨AQ,l35,rfl,h35⟩:=Ee h34;obtain ⟨AU,l36,rfl,h36⟩:=Ee h35;obtain ⟨AV,l37,rfl,h37⟩:=Ee h36;obtain ⟨AX,l38,rfl,h38⟩:=Ee h37;obtain ⟨AY,l39,rfl,h39⟩:=Ee h38;obtain ⟨AZ,l40,rfl,h40⟩:=Ee h39;obtain ⟨A8,l41,rfl,h41⟩:=Ee h40;obtain ⟨A9,l42,rfl,rZ⟩:=Ee h41;obtain ⟨Ba,l43,rfl,h43⟩:=Ee rZ;obtain ⟨Bb,l44,rfl,h44⟩:=Ee h43;obtain ⟨Bc,l45,rfl,h45⟩:=Ee h44
  obtain ⟨Bf,l46,rfl,h46⟩:=Ee h45;obtain ⟨Bh,l47,rfl,h47⟩:=Ee h46;obtain ⟨Bj,l48,rfl,h48⟩:=Ee h47;obtain ⟨Bl,l49,rfl,h49⟩:=Ee h48;obtain ⟨Bp,l50,rfl,h50⟩:=Ee h49;obtain ⟨Bq,l51,rfl,h51⟩:=Ee h50;obtain ⟨Br,l52,rfl,h52⟩:=Ee h51;obtain ⟨Bu,l53,rfl,h53⟩:=Ee h52;obtain ⟨Bv,l54,rfl,h54⟩:=Ee h53;obtain ⟨Bw,l55,rfl,h55⟩:=Ee h54;obtain ⟨Bz,l56,rfl,h56⟩:=Ee h55;obtain ⟨BD,l57,rfl,h57⟩:=Ee h56;obtain ⟨BF,l58,rfl,h58⟩:=Ee h57;obtain ⟨BG,l59,rfl,h59⟩:=Ee h58;obtain ⟨BH,l60,rfl,h60⟩:=Ee h59;obtain ⟨BI,l61,rfl,h61⟩:=Ee h60;obtain ⟨BJ,l62,rfl,h62⟩:=Ee h61;obtain ⟨BK,l63,rfl,h63⟩:=Ee h62;obtain ⟨BL,l64,rfl,h64⟩:=Ee h63;obtain ⟨BM,l65,rfl,h65⟩:=Ee h64;obtain ⟨BN,l66,rfl,h66⟩:=Ee h65;obtain ⟨BO,l67,rfl,h67⟩:=Ee h66;obtain ⟨BP,l68,rfl,h68⟩:=Ee h67
  obtain ⟨BQ,l69,rfl,h69⟩:=Ee h68;obtain ⟨BR,l70,rfl,qE⟩:=Ee h69;obtain ⟨BS,l71,rfl,h71⟩:=Ee qE;obtain ⟨BU,l72,rfl,h72⟩:=Ee h71;obtain ⟨BX,l73,rfl,h73⟩:=Ee h72;obtain ⟨BZ,l74,rfl,h74⟩:=Ee h73;obtain ⟨Ca,l75,rfl,h75⟩:=Ee h74;obtain ⟨Cb,l76,rfl,h76⟩:=Ee h75;obtain ⟨Cc,l77,rfl,h77⟩:=Ee h76;obtain ⟨Ce,l78,rfl,h78⟩:=Ee h77;obtain ⟨Cg,l79,rfl,h79⟩:=Ee h78;obtain ⟨Ci,l80,rfl,h80⟩:=Ee h79;cases List.length_eq_zero_iff.1 h80
  exact ⟨v0,v1,v2,v3,v4,v5,v6,v7,v8,v9,Aa,Ab,Ac,Ae,Af,Ah,Ai,Aj,Ak,Al,Am,Ao,Ap,Ar,Au,Av,Aw,Ay,Az,AA,AB,AJ,AL,AO,AP,AQ,AU,AV,AX,AY,AZ,A8,A9,Ba,Bb,Bc,Bf,Bh,Bj,Bl,Bp,Bq,Br,Bu,Bv,Bw,Bz,BD,BF,BG,BH,BI,BJ,BK,BL,BM,BN,BO,BP,BQ,BR,BS,BU,BX,BZ,Ca,Cb,Cc,Ce,Cg,Ci,rfl⟩
end
section
section
variable {Cs Sg:Type}{D:Dr Ef Cs Sg}{m:Mem Sg}{ρ:Rn}{b k:Nat}{cf:Frame}{fs:List Frame}{W:World}{σ:Sg}
variable {x:Wx (Wk Ef Cs) Sg ρ}{own core:Nat->Prop}{pb:Nat}{z:Wk Ef Cs}{ans:Value}{gr:Bool}{wv dv cv u7 u8 Ob FU FC:Value}{ds:List Deferred}{K:List Item}
theorem iN (hA:Jt m b k ⟨x,own,core,pb,z,gr,ans⟩ σ W){tm:Array Value}(hs:Sl wv dv cv pb u7 u8 Ob FU FC tm)(hJ:∀ W' tm',Sl wv dv cv pb u7 u8 Ob FU FC tm'->Jt m b k ⟨x,own,core,pb,{ z with bg:=0,cur:=none },gr,ans⟩ σ W'->Ht b W W'->JL (SW (Eu D m) ρ Try.prog).L x (G ((base 33).at ⟨tm',ds⟩ K) (cf :: fs)) W') :
    JL (SW (Eu D m) ρ Try.prog).L x (G ((base 33).at ⟨tm,ds⟩ (.code p14 :: K)) (cf :: fs)) W:=by
  obtain ⟨v9,Ae,Af,Ah,Ai,Aj,Ak,Al,Am,Ao,Ap,Ar,Au,Av,Aw,Ay,Az,AA,AB,AJ,AL,AO,AP,AQ,AU,AV,AX,AY,AZ,A8,A9,Ba,Bb,Bc,Bf,Bh,Bj,Bl,Bp,Bq,Br,Bu,Bv,Bw,Bz,BD,BF,BG,BH,BI,BJ,BK,BL,BM,BN,BO,BP,BQ,BR,BS,BU,BX,BZ,Ca,Cb,Cc,Ce,Cg,Ci,rfl⟩:=hs;refine EL.EJ (S:=SW (Eu D m) ρ Try.prog) (b:=base 33) [] (by simp) zKR nE zKR fun W₁ ha=>?_;have hh:=EW ha;have hA1:=hA.alike hh;obtain ⟨c5,c6,c7,c8,c9,c10,c11⟩:=hA1.row.cells;have f7:W₁.frozen? ⟨b,7,none⟩=false:=hA1.row.frozen;have hpc:=hA1.pc;have hcap:=hA.cap;have HH:=Lib.hid (zAI hJ (zAI hA (zAI hA1 (zAI hh hcap))));clear hJ hA hA1 hh hcap;simp only at hpc c5 c6 c7 c8 c9 c10 c11;dsimp only;simp only [p14,Zc,Ti,Tg,Try.f33];gi_wp2;obtain ⟨hJ,hA,hA1,hh,hcap⟩:=HH.out;clear HH;have hrow:=hA1.row;unfold Fq at hrow
  generalize hW':World.setCell _ _ _=W';have ht:Ht b W W':=⟨fun g hg=>by rw [← hW',← hh];simp [World.setCell,Array.getElem?_modify,hg.symm],by rw [← hW',← hh];simp [World.setCell]⟩
  refine hJ W' _ ⟨_,_,_,_,_,_,_,_,_,_,_,_,_,_,_,_,_,_,_,_,_,_,_,_,_,_,_,_,_,_,_,_,_,_,_,_,_,_,_,_,_,_,_,_,_,_,_,_,_,_,_,_,_,_,_,_,_,_,_,_,_,_,_,_,_,_,_,_,_,rfl⟩ (hA.turn ?_ ht rfl rfl rfl rfl hcap) ht;show W'.heap[b]?=_;rw [← hW'];simp [World.setCell,Array.getElem?_modify,hrow]
theorem jl (hA:Jt m b k ⟨x,own,core,pb,z,gr,ans⟩ σ W){tm:Array Value}(hs:Sl wv dv cv pb u7 u8 Ob FU FC tm)(hJ:∀ W' tm',Sl wv dv cv pb u7 u8 Ob FU FC tm'->Jt m b k ⟨x,own,core,pb,z,gr,ans⟩ σ W'->W'.heap=W.heap->JL (SW (Eu D m) ρ Try.prog).L x (G ((base 33).at ⟨tm',ds⟩ K) (cf :: fs)) W') :
    JL (SW (Eu D m) ρ Try.prog).L x (G ((base 33).at ⟨tm,ds⟩ (.code p15 :: K)) (cf :: fs)) W:=by
  obtain ⟨v9,Ae,Af,Ah,Ai,Aj,Ak,Al,Am,Ao,Ap,Ar,Au,Av,Aw,Ay,Az,AA,AB,AJ,AL,AO,AP,AQ,AU,AV,AX,AY,AZ,A8,A9,Ba,Bb,Bc,Bf,Bh,Bj,Bl,Bp,Bq,Br,Bu,Bv,Bw,Bz,BD,BF,BG,BH,BI,BJ,BK,BL,BM,BN,BO,BP,BQ,BR,BS,BU,BX,BZ,Ca,Cb,Cc,Ce,Cg,Ci,rfl⟩:=hs;refine EL.EJ (S:=SW (Eu D m) ρ Try.prog) (b:=base 33) [] (by simp) zKR nE zKR fun W₁ ha=>?_;have hh:=EW ha;have hA1:=hA.alike hh;obtain ⟨c5,c6,c7,c8,c9,c10,c11⟩:=hA1.row.cells;have hpc:=hA1.pc;have HH:=Lib.hid (zAI hJ (zAI hA (zAI hA1 hh)));clear hJ hA hA1 hh;simp only at hpc c5 c6 c7 c8 c9 c10 c11;dsimp only;simp only [p15,Zc,Ti,Tg,Try.f33];gi_wp2;obtain ⟨hJ,hA,hA1,hh⟩:=HH.out;exact hJ W₁ _ ⟨_,_,_,_,_,_,_,_,_,_,_,_,_,_,_,_,_,_,_,_,_,_,_,_,_,_,_,_,_,_,_,_,_,_,_,_,_,_,_,_,_,_,_,_,_,_,_,_,_,_,_,_,_,_,_,_,_,_,_,_,_,_,_,_,_,_,_,_,_,rfl⟩ hA1 hh
end
end
section
def Kj (W:World)(cv:Value)(cs:List Ef):Prop:=∃ p cap,cv=.slice p cs.length cap/\cs.length<=1000000/\∀ (i:Nat) (c:Ef),cs[i]?=some c->∃ g o pa pn pc,p=some ⟨g,o,none⟩/\W.cell? ⟨g,o+i * 5,none⟩=some (.int .i64 c.kind)/\W.cell? ⟨g,o+i * 5+1,none⟩=some (.int .i64 c.a)/\W.cell? ⟨g,o+i * 5+2,none⟩=some (.int .i64 c.b)/\W.cell? ⟨g,o+i * 5+3,none⟩=some (.int .i64 c.c)/\W.cell? ⟨g,o+i * 5+4,none⟩=some (.slice pa pn pc)
section
variable {Cs Sg:Type}{D:Dr Ef Cs Sg}{m:Mem Sg}{ρ:Rn}{b k:Nat}{cf:Frame}{fs:List Frame}{W:World}{σ:Sg}
variable {x:Wx (Wk Ef Cs) Sg ρ}{own core:Nat->Prop}{pb:Nat}{z:Wk Ef Cs}{ans:Value}{gr:Bool}{wv dv cv u7 u8 Ob FU FC:Value}{ds:List Deferred}{K:List Item}
theorem Jt.lay (D:Dr Ef Cs Sg){s:FI Ef Cs Sg ρ}{W':World}{N:Nat}(hA:Jt m b k s σ W)(hN:N=W.heap.size)(hr:∃ c e f,W'.heap[N]?=some (Obj.cells c e f))(ho:∀ g,g < W.heap.size->W'.heap[g]?=W.heap[g]?)(hs:W.heap.size<=W'.heap.size):Jt m b k { s with own:=fun g=>s.own g\/g=N } σ W':=by have hA':Jt m b k s σ W':=hA.other (fun g hg=>ho g (hA.lt hg)) hs;exact ((J2 D m ρ b k).XQ hA' (by rw [hN];exact hA.size) (fun h=>by have:=hA.lt (.inr h);omega) hr).1
theorem rA {s:FI Ef Cs Sg ρ}(hA:Jt m b k s σ W){cs:List Ef}{i:Nat}{c:Ef}(hcs:∀ W,m.Inv σ W->Kj W cv cs)(hi:cs[i]?=some c){tm:Array Value}(hs:Sl wv dv cv pb u7 u8 cv FU (.int .i64 i) tm)(hJ:∀ s' N7 pa pn pc W' tm',Sl wv dv cv pb (.pointer (some ⟨N7,0,none⟩)) u8 cv FU (.int .i64 i) tm'->Jt m b k s' σ W'->s'.x=s.x->s'.pb=s.pb->s'.z=s.z->s'.gr=s.gr->s'.ans=s.ans->(s'.own N7/\N7≠b)->W'.heap[N7]?=some (.cells #[.int .i64 c.kind,.int .i64 c.a,.int .i64 c.b,.int .i64 c.c,.slice pa pn pc] 44 (0,0))->W.heap.size<=W'.heap.size->JL (SW (Eu D m) ρ Try.prog).L s'.x (G ((base 33).at ⟨tm',ds⟩ K) (cf :: fs)) W') :
    JL (SW (Eu D m) ρ Try.prog).L s.x (G ((base 33).at ⟨tm,ds⟩ (.code pb4 :: K)) (cf :: fs)) W:=by
  obtain ⟨v9,Ae,Af,Ah,Ai,Aj,Ak,Al,Am,Ao,Ap,Ar,Au,Av,Aw,Ay,Az,AA,AB,AJ,AL,AO,AP,AQ,AU,AV,AX,AY,AZ,A8,A9,Ba,Bb,Bc,Bf,Bh,Bj,Bl,Bp,Bq,Br,Bu,Bv,Bw,Bz,BD,BF,BG,BH,BI,BJ,BK,BL,BM,BN,BO,BP,BQ,BR,BS,BU,BX,BZ,Ca,Cb,Cc,Ce,Cg,Ci,rfl⟩:=hs;refine EL.EJ (S:=SW (Eu D m) ρ Try.prog) (b:=base 33) [] (by simp) zKR nE zKR fun W₁ ha=>?_;have hh:=EW ha;have hA1:=hA.alike hh;obtain ⟨p,cap,rfl,hn,hc⟩:=hcs W₁ hA1.inv;obtain ⟨g,o,pa,pn,pc,rfl,e0,e1,e2,e3,e4⟩:=hc i c hi;have hlt:i < cs.length:=(List.getElem?_eq_some_iff.1 hi).1;have HH:=Lib.hid (zAI hJ (zAI hA (zAI hA1 (zAI hh (zAI hcs hc)))));clear hJ hA hA1 hh hcs hc hi;dsimp only;simp only [pb4,Ti,Tg,Try.f33];gi_wp2;obtain ⟨hJ,hA,hA1,hh,hcs,hc⟩:=HH.out;clear HH
  generalize hO:Obj.cells #[Value.int IntKind.i64 c.kind,.int .i64 c.a,.int .i64 c.b,.int .i64 c.c,.slice pa pn pc] 44 (0,0)=O;have hA2:=hA1.lay D (W':=W₁.alloc O) rfl ⟨_,_,_,by rw [heap_alloc_new,← hO]⟩ (fun g hg=>Below.heap_alloc W₁ O g hg) (by simp);refine hJ { s with own:=fun g=>s.own g\/g=W₁.heap.size } W₁.heap.size pa pn pc (W₁.alloc O) _ ⟨_,_,_,_,_,_,_,_,_,_,_,_,_,_,_,_,_,_,_,_,_,_,_,_,_,_,_,_,_,_,_,_,_,_,_,_,_,_,_,_,_,_,_,_,_,_,_,_,_,_,_,_,_,_,_,_,_,_,_,_,_,_,_,_,_,_,_,_,_,rfl⟩ hA2 rfl rfl rfl rfl rfl ⟨.inr rfl,fun e=>?_⟩ (by rw [heap_alloc_new,← hO]) (by rw [← hh];simp);have:=hA1.lt (.inl (hA1.co b hA1.cb));omega
end
end
end Go.Proofs.Yticecinjcajmcaa
namespace Go.Proofs.Yticecinjcajmcaa
open Go Go.Conc Go.LT Go.LC Go.LK Go.RowKit
section
theorem Ma {w:World}{base size n:Nat}{v:Value}{xs:List Value}(h:BA.Fa w base size v n xs){g:Nat}(hg:v.ownBlock=some g):∃ c e f,w.heap[g]?=some (.cells c e f):=by
  obtain ⟨te,_,⟨rfl,_⟩|⟨g',cap,cur,rfl,_,h1,_⟩⟩:=h
  . cases hg
  . cases hg
    exact ⟨_,_,_,h1⟩
section
variable {Cs Sg:Type}{D:Dr Ef Cs Sg}{m:Mem Sg}{ρ:Rn}{b k:Nat}{W:World}{σ:Sg}
variable {x:Wx (Wk Ef Cs) Sg ρ}{own core:Nat->Prop}{pb:Nat}{z:Wk Ef Cs}{ans:Value}{gr:Bool}
theorem Jt.wrote (hA:Jt m b k ⟨x,own,core,pb,z,gr,ans⟩ σ W){iv:Value}{e:An}(hiv:FR W (fun g=>own g/\g≠b/\g≠pb/\ans.ownBlock≠some g) iv e.ints){I4:List Value}(U9:I4.length=z.out.length)(hints:∀ (i:Nat) (a:Gq) (iv:Value),z.out[i]?=some a->I4[i]?=some iv->FR W (fun g=>(core g/\g≠b/\g≠pb)/\ans.ownBlock≠some g) iv a.a.ints)(hblk:∀ g,ans.ownBlock=some g->core g/\g≠b/\g≠pb){w':World}{a':Value}(h1:BA.Fa w' 0 9 a' (z.out.length+1) ((List.zipWith E9 z.out I4).flatten ++ E9 ⟨e,z.bg,z.st,z.ow⟩ iv))(hst:∀ g,g < W.heap.size->a'.ownBlock≠some g->w'.heap[g]?=W.heap[g]?)(hbn:∀ g,a'.ownBlock=some g->(own g/\ans.ownBlock=some g)\/W.heap.size<=g)(hsz:W.heap.size<=w'.heap.size) :
    Jt m b k ⟨x,fun g=>own g\/a'.ownBlock=some g,fun g=>own g\/a'.ownBlock=some g,pb,{ z with out:=z.out ++ [⟨e,z.bg,z.st,z.ow⟩] },gr,a'⟩ σ (w'.setCell ⟨b,9,none⟩ a'):=by
  have hbl:b < W.heap.size:=hA.lt (.inl (hA.co b hA.cb));have hpl:pb < W.heap.size:=hA.lt (.inl (hA.co pb hA.Pb));have hne:∀ g,a'.ownBlock=some g->g≠b/\g≠pb:=fun g hg=>by
    rcases hbn g hg with ⟨_,h⟩|h
    . exact (hblk g h).2
    . exact ⟨by omega,by omega⟩
  have hset:∀ g,g≠b->(w'.setCell ⟨b,9,none⟩ a').heap[g]?=w'.heap[g]?:=fun g hg=>by simp only [World.setCell,Array.getElem?_modify];rw [if_neg (fun e=>hg e.symm)]
  have jO:∀ g,g < W.heap.size->g≠b->a'.ownBlock≠some g->(w'.setCell ⟨b,9,none⟩ a').heap[g]?=W.heap[g]?:=fun g hg hb ha=>(hset g hb).trans (hst g hg ha);have hrow:=hA.row;unfold Fq at hrow;have hwb:w'.heap[b]?=W.heap[b]?:=hst b hbl fun e=>(hne b e).1 rfl;have hbr:Fq (w'.setCell ⟨b,9,none⟩ a') b k x.1.1.v.t ρ.come ρ.gone gr z.st z.bg z.ow a' false false:=by unfold Fq;have:w'.heap[b]?=_:=hwb.trans hrow;simp [World.setCell,Array.getElem?_modify,this]
  have hown:∀ g,own g->g < W.heap.size:=fun g hg=>hA.lt (.inl hg);have hsh:∀ g,m.Sh g->(w'.setCell ⟨b,9,none⟩ a').heap[g]?=W.heap[g]?:=fun g hg=>by
    have hlt:=hA.lt (.inr hg);refine jO g hlt (fun e=>(hA.o3 b (hA.co b hA.cb)).2.1 (e ▸ hg)) fun ha=>?_;rcases hbn g ha with ⟨h,_⟩|h
    . exact (hA.o3 g h).2.1 hg
    . omega
  have hO:=IK (w':=w'.setCell ⟨b,9,none⟩ a') h1 fun g hg=>.of (hset g (hne g hg).1);have hI:∀ (P:Nat->Prop) iv l,FR W P iv l->(∀ g,P g->own g/\g≠b/\g≠pb/\ans.ownBlock≠some g)->FR (w'.setCell ⟨b,9,none⟩ a') (fun g=>((own g\/a'.ownBlock=some g)/\g≠b/\g≠pb)/\a'.ownBlock≠some g) iv l:=fun P iv l h hP=>by
    have hna:∀ g,P g->a'.ownBlock≠some g:=fun g hg ha=>by
      obtain ⟨p1,p2,p3,p4⟩:=hP g hg;rcases hbn g ha with ⟨_,q⟩|q
      . exact p4 q
      . have:=hown g p1;omega
    exact (h.QD fun g hg=>.of (jO g (hown g (hP g hg).1) (hP g hg).2.1 (hna g hg))).mono fun g hg=>⟨⟨.inl (hP g hg).1,(hP g hg).2.1,(hP g hg).2.2.1⟩,hna g hg⟩
  exact {
          zi:=hA.zi,zg:=hA.zg,vb:=hA.vb,vk:=hA.vk
          row:=hbr
          zk:=hA.zk,zo:=hA.zo,zf:=hA.zf
          am:=⟨⟨I4 ++ [iv],by simp [U9],by
              have e1:(List.zipWith E9 (z.out ++ [⟨e,z.bg,z.st,z.ow⟩]) (I4 ++ [iv])).flatten=(List.zipWith E9 z.out I4).flatten ++ E9 ⟨e,z.bg,z.st,z.ow⟩ iv:=by
                rw [List.zipWith_append U9.symm]
                simp
              show BA.Fa _ 0 9 a' (z.out ++ [_]).length _;rw [e1,List.length_append];exact hO,fun i a jv hi hj=>by
              rw [List.getElem?_append] at hi hj;by_cases hlt:i < z.out.length
              . rw [if_pos hlt] at hi;rw [if_pos zOM] at hj;exact hI _ _ _ (hints i a jv hi hj) fun g hg=>⟨hA.co g hg.1.1,hg.1.2.1,hg.1.2.2,hg.2⟩
              . rw [if_neg hlt] at hi;rw [if_neg zOM] at hj;have h0:i - z.out.length=0:=by
                  rcases Nat.eq_zero_or_pos (i - z.out.length) with h|h
                  . exact h
                  . rw [List.getElem?_eq_none (by simp;omega)] at hi;cases hi
                rw [h0] at hi;rw [U9,h0] at hj;cases hi
                cases hj
                exact hI _ _ _ hiv fun g hg=>hg⟩,fun g hg=>⟨.inr hg,hne g hg⟩⟩
          inv:=m.eq σ W _ (fun g hg=>.of (hsh g hg)) hA.inv
          sh:=hA.sh,low:=hA.low,size:=Nat.le_trans hA.size (by simpa [World.setCell] using hsz),Wo:=hA.Wo
          cb:=.inl (hA.co b hA.cb),Pb:=.inl (hA.co pb hA.Pb),co:=fun g hg=>hg
          o1:=fun g hg=>.inl (hA.o1 g hg)
          o2:=fun g hg=>by
            rcases hg with hg|hg
            . exact hA.o2 g hg
            . rcases hbn g hg with ⟨h,_⟩ | h
              . exact hA.o2 g h
              . exact .inr (Nat.le_trans hA.size h)
          o3:=fun g hg=>by
            have hcells:∀ g,a'.ownBlock=some g->∃ c e f,(w'.setCell ⟨b,9,none⟩ a').heap[g]?=some (.cells c e f):=fun g hg=>Ma hO hg;rcases sO:decide (a'.ownBlock=some g) with _|_
            . have hna:=of_decide_eq_false sO;have hg':own g:=hg.resolve_right hna;refine ⟨(hA.o3 g hg').1,(hA.o3 g hg').2.1,?_⟩;by_cases e:g=b
              . rw [e];exact ⟨_,_,_,hbr⟩
              . rw [jO g (hown g hg') e hna];exact (hA.o3 g hg').2.2
            . have ha:=of_decide_eq_true sO;rcases hbn g ha with ⟨h,_⟩|h
              . exact ⟨(hA.o3 g h).1,(hA.o3 g h).2.1,hcells g ha⟩
              . refine ⟨?_,fun hs=>?_,hcells g ha⟩
                . cases hB:x.1.1.B g with
                  | false=>rfl
                  | true=>
                    have:g < x.1.1.n0:=hA.low g hB;have h2:x.1.1.n0<=W.heap.size:=hA.size;omega
                . have:=hA.lt (.inr hs);omega
          Ld:=hA.Ld
          TM:=hA.TM
          pc:=by show (w'.setCell ⟨b,9,none⟩ a').cell? ⟨pb,0,none⟩=_;rw [cell_of (a:=⟨pb,0,none⟩) (jO pb hpl hA.TM fun e=>(hne pb e).2 rfl)];exact hA.pc
          cap:=hA.cap }
end
end
end Go.Proofs.Yticecinjcajmcaa
end
