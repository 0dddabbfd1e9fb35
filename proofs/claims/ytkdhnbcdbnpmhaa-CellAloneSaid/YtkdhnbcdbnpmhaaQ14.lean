/-
  Part 14 of the proof that CellAlone returns true for every input and leaves its arguments as they were. No further condition.
-/
import Derived.Test.YtkdhnbcdbnpmhaaQ12
import Derived.Test.YtkdhnbcdbnpmhaaQ13
import Derived.Lib.Hide
import Derived.WalkKit
import Derived.WalkSpells
import Derived.WalkLawsBesides
import Derived.Deep.RegionLaw
set_option linter.unusedVariables false
set_option linter.unusedSectionVars false
set_option maxHeartbeats 4000000
namespace Go.Proofs.Ytkdhnbcdbnpmhaa
open Go Go.Conc Go.LT Go.LC Go.LK
section
noncomputable def tw0:Code:=match Try.f58.body with | some (.seq c _)=>c | _=>.skip
noncomputable def rA:Code:=match Try.f58.body with | some (.seq _ (.block _ (.loop c)))=>c | _=>.skip
theorem mJ:Try.f58.body=some (.seq tw0 (.block 0 (.loop rA))):=rfl
section
variable {main:Bool}{Γ:Type}{S:HY Try.prog main Γ}{m:Mem (List Int)}{cb ct n:Nat}{cf:Frame}{fs:List Frame}{W:World}{σ:List Int}{cs:GU}
theorem bP {γ:Γ}{x v:Int}{N:Nat}(hc:W.cell? ⟨N,0,none⟩=some (.int .i64 v))(hJ:JL S.L γ (G (cf.finish (.bool (decide (v<=x)))) fs) W) :
    JL S.L γ (G (Frame.enter Try.prog 59 #[.int .i64 x,.pointer (some ⟨N,0,none⟩)] .normal) (cf :: fs)) W:=by
  have ht:#[.int .i64 x,.pointer (some ⟨N,0,none⟩)] ++ Array.replicate (Try.f59.ntmps - (#[.int .i64 x,.pointer (some ⟨N,0,none⟩)]:Array Value).size) undef=#[.int .i64 x,.pointer (some ⟨N,0,none⟩),undef,undef,undef,undef,undef]:=by
    have:Try.f59.ntmps=7:=by kernel_rfl
    rw [this];walk_nrm
  rw [enter_at (c:=(Try.f59.body).get rfl) _ Try.func59 rfl,ht];refine HY.Ht (S:=S) (b:=base 59) [] (by simp) (by kernel_rfl) nE (by kernel_rfl) fun GQ ha=>?_;have hc1:GQ.cell? ⟨N,0,none⟩=some (.int .i64 v):=by obtain ⟨τ,d,rfl⟩:=ha;exact hc
  have hend:=JW.tape (S:=S.base) hJ ha;clear hJ hc;simp only [Try.f59,Option.get_some];gi_wp2;intro Y;exact JL.back rfl Try.func59 (v:=.bool (decide (v<=x))) (fun w=>by kernel_rfl) hend
theorem Yc {γ:Γ}{x v:Int}{N:Nat}(hc:W.cell? ⟨N,0,none⟩=some (.int .i64 v))(hJ:JL S.L γ (G (cf.finish (.bool (decide (x<=v)))) fs) W) :
    JL S.L γ (G (Frame.enter Try.prog 60 #[.int .i64 x,.pointer (some ⟨N,0,none⟩)] .normal) (cf :: fs)) W:=by
  have ht:#[.int .i64 x,.pointer (some ⟨N,0,none⟩)] ++ Array.replicate (Try.f60.ntmps - (#[.int .i64 x,.pointer (some ⟨N,0,none⟩)]:Array Value).size) undef=#[.int .i64 x,.pointer (some ⟨N,0,none⟩),undef,undef,undef,undef,undef]:=by
    have:Try.f60.ntmps=7:=by kernel_rfl
    rw [this];walk_nrm
  rw [enter_at (c:=(Try.f60.body).get rfl) _ Try.func60 rfl,ht];refine HY.Ht (S:=S) (b:=base 60) [] (by simp) (by kernel_rfl) nE (by kernel_rfl) fun GQ ha=>?_;have hc1:GQ.cell? ⟨N,0,none⟩=some (.int .i64 v):=by obtain ⟨τ,d,rfl⟩:=ha;exact hc
  have hend:=JW.tape (S:=S.base) hJ ha;clear hJ hc;simp only [Try.f60,Option.get_some];gi_wp2;intro Y;exact JL.back rfl Try.func60 (v:=.bool (decide (x<=v))) (fun w=>by kernel_rfl) hend
theorem lJ:∀ g∈[27,61],@Lets (Host.only 58) Try.prog g:=fun g hg=>by
  simp only [List.mem_cons,List.not_mem_nil,or_false] at hg;rcases hg with rfl|rfl
  . exact ⟨by kernel_rfl,.inl ⟨_,_,Try.func27,by kernel_rfl,rfl,by kernel_rfl⟩⟩
  . exact ⟨by kernel_rfl,.inr (.inl (JN Try.func61 (by kernel_rfl) rfl (by kernel_rfl) (e:=Extern.Atomic.loadT (.int .i64)) (by kernel_rfl) (Vy fun _=>trivial)))⟩
theorem nR:∀ g∈[57,84],@Lets (Host.only 58) Try.prog g:=fun g hg=>by
  simp only [List.mem_cons,List.not_mem_nil,or_false] at hg;rcases hg with rfl|rfl
  . exact ⟨by kernel_rfl,.inl ⟨_,_,Try.func57,by kernel_rfl,rfl,by kernel_rfl⟩⟩
  . exact ⟨by kernel_rfl,.inr (.inl (JN Try.func84 (by kernel_rfl) rfl (by kernel_rfl) (e:=Extern.Atomic.casT (.int .i64)) (by kernel_rfl) (je fun _=>trivial)))⟩
def YL (S : HY Try.prog main Γ)(most : Bool)(bf : FuncId)(v : Int)(N : Nat) : Prop := (∃ fn, Try.prog.funcs[bf]? = some fn /\ (fn.name == "runtime.NumGoroutine") = false /\ fn.body.isNone = false) /\
  ∀ (γ:Γ) (x:Int) (cf:Frame) (fs:List Frame) (W:World),W.cell? ⟨N,0,none⟩=some (.int .i64 v)->JL S.L γ (G (cf.finish (.bool (PD most x v))) fs) W->JL S.L γ (G (Frame.enter Try.prog bf #[.int .i64 x,.pointer (some ⟨N,0,none⟩)] .normal) (cf :: fs)) W
theorem fD (I:Js S He m 63)(hm:Ir m ct cb n){most:Bool}{i v:Int}{bf:FuncId}{N:Nat}(hB:YL S most bf v N){s₀:I.St}{Z8:World}(hN:I.kept s₀ N)(hNv:Z8.cell? ⟨N,0,none⟩=some (.int .i64 v))(hL:I.Leaves cf fs)(hJ:∀ s' σ' W' e,I.At s' σ' W'->I.On s₀ Z8 s' W'->I.End s' σ' (e,false)->(e.ok=false/\e.m=0/\e.ints=[])->JW S.base (I.γ s') (G (cf.finish (.tuple #[.int .i64 e.n,.int .i64 e.err])) fs) W') :
    ∀ (f:Nat) (s:I.St) (σ:List Int) (W:World),I.fuel s=f->I.At s σ W->I.On s₀ Z8 s W->I.Step s σ (.look most i v)->∀ wv,I.wv=wv->∀ Aa Ab Ac Ae Af Ah Ai Aj Ak Al Am Ao Ap Aq Ar Au Av Aw Ay Az AA AB AJ AL AO AP AQ AU:Value,
      JL S.L (I.γ s) (G ((base 58).at ⟨#[.pointer (some ⟨ct,0,none⟩),wv,.int .i64 i,.int .i64 v,.func (.func bf) #[] #[.pointer (some ⟨N,0,none⟩)],undef,undef,undef,undef,undef,Aa,Ab,Ac,Ae,Af,Ah,Ai,Aj,Ak,Al,Am,Ao,Ap,Aq,Ar,Au,Av,Aw,Ay,Az,AA,AB,AJ,AL,AO,AP,AQ,AU],[]⟩ [.code rA,.inLoop rA,.inBlock 0]) (cf :: fs)) W:=by
  intro f;induction f using Nat.strongRecOn with
  | _ f ih=>
  intro s σ W hfu hA hO hS wv hw Aa Ab Ac Ae Af Ah Ai Aj Ak Al Am Ao Ap Aq Ar Au Av Aw Ay Az AA AB AJ AL AO AP AQ AU;have hbl:∃ c,rA=.block 1 c/\c=(match rA with | .block _ c=>c | _=>.skip):=⟨_,rfl,rfl⟩
  obtain ⟨c0,hc0,hc1⟩:=hbl;dsimp only;generalize hlp:[Item.inLoop rA,.inBlock 0]=lp;rw [hc0];refine GY stepG_block ?_;rw [hc1];simp only [rA,Try.f58];refine GY stepG_seq ?_;refine Hu fun _ hkk=>?_;iterate 3 (refine Hf ?_;walk_nrm)
  refine JL.enter rfl rfl nE rfl Try.func53 (by kernel_rfl) (by kernel_rfl) ?_;walk_nrm;rw [← hw];refine Pj I hm hA hS (I.pop Try.func58 hL) fun s' σ' W' hA' hO' hf hT=>?_;rw [Frame.finish_at];rw [hw];show JL S.L (I.γ s') _ W';have hlen:=(hm.get _ _ (I.inv hA')).1;have hO0:=hO.trans hO';cases hi:inn n i with
  | false=>
    rw [if_neg (by simp)];walk_nrm;iterate 5 (refine Hf ?_;walk_nrm)
    refine Hw ?_;cases hkk;have hT':I.End s' σ' ({ err:=41 },false):=I.done (by have:=hT;simp only [He] at this;rw [hlen,if_pos hi] at this;exact this);have hend:=hJ s' σ' W' _ hA' hO0 hT' ⟨rfl,rfl,rfl⟩;clear hT hT' hJ ih hS;refine GY stepG_seq ?_;refine GY stepG_seq ?_;refine Hu fun _ hkk=>?_;iterate 2 (refine Hf ?_;walk_nrm)
    refine Hw ?_;cases hkk;refine JL.Iq rfl ?_;refine GY stepG_seq ?_;refine Hu fun _ hkk=>?_;iterate 3 (refine Hf ?_;walk_nrm)
    refine Hw ?_;cases hkk;refine GY stepG_ret' ?_;exact JL.back rfl Try.func58 (v:=.tuple #[.int .i64 0,.int .i64 41]) (fun w=>by kernel_rfl) hend
  | true=>
    rw [if_pos rfl];walk_nrm;iterate 5 (refine Hf ?_;walk_nrm)
    refine Hw ?_;cases hkk;refine GY stepG_seq ?_;refine GY stepG_seq ?_;refine Hu fun _ hkk=>?_;iterate 2 (refine Hf ?_;walk_nrm)
    refine Hw ?_;cases hkk;refine JL.Ho rfl ?_;refine GY stepG_skip ?_;refine GY stepG_seq ?_;have hi':i.toNat < n:=by simp [inn] at hi;omega
    refine HY.Ht (S:=S) (b:=base 58) [27,61] lJ (by kernel_rfl) nE (by kernel_rfl) fun GQ ha=>?_;obtain ⟨hA1,Ke⟩:=I.alike hA' ha;have hO2:=hO0.trans Ke;have hc:=hm.cell (I.inv hA1) hi';rw [show He.next I.num (.look most i v) σ'=if PD most (σ'.getD i.toNat 0) v then (σ',.inr ({ n:=σ'.getD i.toNat 0 },false)) else (σ',.inl (.cas most i v (σ'.getD i.toNat 0))) by simp only [He];rw [hlen,if_neg (by simp [hi])]] at hT;generalize σ'.getD i.toNat 0=x at *;have hl:=run_call_load (P:=Try.prog) Try.func61 (by kernel_rfl) (by kernel_rfl) (by kernel_rfl) .i64 (by kernel_rfl) hc;have hk1:=hO2.kept N hN;have Aev:GQ.cell? ⟨N,0,none⟩=some (.int .i64 v):=by rw [cell_of (a:=⟨N,0,none⟩) hk1.2];exact hNv
    have HH:=Lib.hid (And.intro hJ (And.intro ih (And.intro hT hB)));clear hJ ih hS hT hB;gi_wp2;obtain ⟨hJ,ih,hT,hB⟩:=HH.out;clear HH;show JL S.L (I.γ s') _ GQ;refine GY stepG_seq ?_;refine GY stepG_seq ?_;refine Hu fun _ hkk=>?_;iterate 2 (refine Hf ?_;walk_nrm)
    obtain ⟨⟨bfn,b1,b2,b3⟩,hB'⟩:=hB;refine JL.jV rfl rfl nE rfl rfl b1 b2 b3 ?_;walk_nrm;refine hB' _ _ _ _ _ Aev ?_;rw [Frame.finish_at];walk_nrm;refine Hw ?_;cases hkk;by_cases YT:PD most x v=true
    . rw [if_pos YT] at hT;refine JL.Iq (by simp [Act.eval,YT]) ?_;have hend:=hJ s' σ' GQ _ hA1 hO2 (I.done hT) ⟨rfl,rfl,rfl⟩;clear hT hJ ih;refine GY stepG_seq ?_;refine Hu fun _ hkk=>?_;iterate 3 (refine Hf ?_;walk_nrm)
      refine Hw ?_;cases hkk;refine GY stepG_ret' ?_;exact JL.back rfl Try.func58 (v:=.tuple #[.int .i64 x,.int .i64 0]) (fun w=>by kernel_rfl) hend
    . rw [if_neg YT] at hT;refine JL.Ho (by simp [Act.eval,YT]) ?_;refine GY stepG_skip ?_;refine GY stepG_seq ?_;refine Hu fun _ hkk=>?_
      (refine Hf ?_;walk_nrm)
      refine JL.enter rfl rfl nE rfl Try.func63 (by kernel_rfl) (by kernel_rfl) ?_;walk_nrm;rw [← hw];refine I.line hA1 (I.more hT) (I.pop Try.func58 hL) fun s'' TM W'' hA2 hO3 hf2 _ eD=>?_;rw [Frame.finish_at];rw [hw];show JL S.L (I.γ s'') _ W'';walk_nrm;refine Hw ?_;cases hkk;refine GY stepG_seq ?_;have hO4:=hO2.trans hO3;have Aa2:=(hm.get _ _ (I.inv hA2)).1;rw [show He.next I.num (.cas most i v x) TM=if TM.getD i.toNat 0=x then (TM.set i.toNat v,.inr ({ n:=v },false)) else (TM,.inl (.look most i v)) from rfl] at eD;refine HY.Ht (S:=S) (b:=base 58) [57,84] nR (by kernel_rfl) nE (by kernel_rfl) fun Hl Ky=>?_;obtain ⟨hA3,R8⟩:=I.alike hA2 Ky;have rO:=hO4.trans R8;have hc3:=hm.cell (I.inv hA3) hi';have hz3:=hm.frozen (I.inv hA3) i.toNat;by_cases hx:TM.getD i.toNat 0=x
      . rw [if_pos hx] at eD;rw [hx] at hc3;obtain ⟨XU,vZ⟩:=I.turn hA3 (hm.set _ _ _ v (I.inv hA3) hi') (fun b hb=>by simp [World.setCell,Array.getElem?_modify];intro h;exact absurd (h ▸ hm.sh) hb) (by simp [World.setCell]);have hend:=hJ s'' _ _ _ XU (rO.trans vZ) (I.done eD) ⟨rfl,rfl,rfl⟩;have HH:=Lib.hid hend;clear hJ ih eD hT hend XU vZ hB';have hl:=run_call_cas_hit (P:=Try.prog) Try.func84 (by kernel_rfl) (by kernel_rfl) (by kernel_rfl) .i64 (by kernel_rfl) (y:=v) hc3 hz3;gi_wp2;show JL S.L (I.γ s'') _ _;refine JL.Iq rfl ?_;refine GY stepG_seq ?_;refine Hu fun _ hkk=>?_;iterate 3 (refine Hf ?_;walk_nrm)
        refine Hw ?_;cases hkk;refine GY stepG_ret' ?_;exact JL.back rfl Try.func58 (v:=.tuple #[.int .i64 v,.int .i64 0]) (fun w=>by kernel_rfl) HH.out
      . rw [if_neg hx] at eD;have HH:=Lib.hid (And.intro ih (And.intro eD hx));have hl:=run_call_cas_miss (P:=Try.prog) Try.func84 (by kernel_rfl) (by kernel_rfl) (by kernel_rfl) .i64 (by kernel_rfl) (y:=v) hc3 hz3 hx;clear hJ ih eD hT hB' hx;gi_wp2;obtain ⟨ih,eD,hx⟩:=HH.out;clear HH;show JL S.L (I.γ s'') _ _;refine JL.Ho rfl ?_;refine GY stepG_skip ?_;refine GY stepG_inBlock ?_;rw [← hlp];refine GY stepG_inLoop ?_;exact ih (I.fuel s'') (by omega) s'' TM Hl rfl hA3 rO (I.more eD) wv hw _ _ _ _ _ _ _ _ _ _ _ _ _ _ _ _ _ _ _ _ _ _ _ _ _ _ _ _
end
end
end Go.Proofs.Ytkdhnbcdbnpmhaa
namespace Go.Proofs.Ytkdhnbcdbnpmhaa
open Go Go.Conc Go.LT Go.LC Go.LK Go.RowKit
section
section
variable {main:Bool}{Γ:Type}{S:HY Try.prog main Γ}{m:Mem (List Int)}{cb ct n:Nat}{cf:Frame}{fs:List Frame}{W:World}{σ:List Int}
theorem Ru (w:World)(v:Value)(t:TypeId):(w.alloc (.cells #[v] t)).cell? ⟨w.heap.size,0,none⟩=some v:=by unfold World.cell?;rw [show (w.alloc (.cells #[v] t)).heap[(⟨w.heap.size,0,none⟩:Addr).block]?=some (.cells #[v] t) from heap_alloc_new _ _];rfl
theorem XP {v:Int}{N:Nat}:YL S true 59 v N:=⟨⟨_,Try.func59,by kernel_rfl,by kernel_rfl⟩,fun γ x cf fs W hc h=>bP hc h⟩
theorem WE {v:Int}{N:Nat}:YL S false 60 v N:=⟨⟨_,Try.func60,by kernel_rfl,by kernel_rfl⟩,fun γ x cf fs W hc h=>Yc hc h⟩
theorem Wh (I:Js S He m 63)(hm:Ir m ct cb n){most:Bool}{i v:Int}{bf:FuncId}{N:Nat}(hB:YL S most bf v N){s:I.St}(hN:I.kept s N)(hNv:W.cell? ⟨N,0,none⟩=some (.int .i64 v))(hA:I.At s σ W)(hS:I.Step s σ (.look most i v))(hL:I.Leaves cf fs)(hJ:∀ s' σ' W' e,I.At s' σ' W'->I.On s W s' W'->I.End s' σ' (e,false)->(e.ok=false/\e.m=0/\e.ints=[])->JW S.base (I.γ s') (G (cf.finish (.tuple #[.int .i64 e.n,.int .i64 e.err])) fs) W') :
    JW S.base (I.γ s) (G (Frame.enter Try.prog 58 #[.pointer (some ⟨ct,0,none⟩),I.wv,.int .i64 i,.int .i64 v,.func (.func bf) #[] #[.pointer (some ⟨N,0,none⟩)]] .normal) (cf :: fs)) W:=by
  have ht:#[.pointer (some ⟨ct,0,none⟩),I.wv,.int .i64 i,.int .i64 v,.func (.func bf) #[] #[.pointer (some ⟨N,0,none⟩)]] ++ Array.replicate (Try.f58.ntmps - (#[.pointer (some ⟨ct,0,none⟩),I.wv,.int .i64 i,.int .i64 v,.func (.func bf) #[] #[.pointer (some ⟨N,0,none⟩)]]:Array Value).size) undef=#[.pointer (some ⟨ct,0,none⟩),I.wv,.int .i64 i,.int .i64 v,.func (.func bf) #[] #[.pointer (some ⟨N,0,none⟩)],undef,undef,undef,undef,undef,undef,undef,undef,undef,undef,undef,undef,undef,undef,undef,undef,undef,undef,undef,undef,undef,undef,undef,undef,undef,undef,undef,undef,undef,undef,undef,undef,undef]:=by
    have:Try.f58.ntmps=38:=by kernel_rfl
    rw [this];walk_nrm
  rw [enter_at _ Try.func58 mJ,ht];generalize hw:I.wv=wv;show JL S.L (I.γ s) _ W;dsimp only;refine GY stepG_seq ?_;simp only [tw0,Try.f58];refine Hu fun _ hkk=>?_;iterate 2 (refine Hf ?_;walk_nrm)
  refine Hw ?_;cases hkk;refine GY stepG_block ?_;refine GY stepG_loop ?_;exact fD I hm hB hN hNv hL hJ _ s σ W rfl hA (Js.On.refl I s W) hS wv hw _ _ _ _ _ _ _ _ _ _ _ _ _ _ _ _ _ _ _ _ _ _ _ _ _ _ _ _
noncomputable def mo0:Code:=match Try.f25.body with | some (.seq c _)=>c | _=>.skip
noncomputable def mo1:Code:=match Try.f25.body with | some (.seq _ c)=>c | _=>.skip
theorem ny:Try.f25.body=some (.seq mo0 mo1):=rfl
theorem U7 (I:Js S He m 63)(hm:Ir m ct cb n){s:I.St}{i v:Int}(hA:I.At s σ W)(hS:I.Step s σ (.look true i v))(hL:I.Leaves cf fs)(hJ:∀ s' σ' W' e,I.At s' σ' W'->I.On s W s' W'->I.End s' σ' (e,false)->(e.ok=false/\e.m=0/\e.ints=[])->JW S.base (I.γ s') (G (cf.finish (.tuple #[.int .i64 e.n,.int .i64 e.err])) fs) W') :
    JW S.base (I.γ s) (G (Frame.enter Try.prog 25 #[.pointer (some ⟨ct,0,none⟩),I.wv,.int .i64 i,.int .i64 v] .normal) (cf :: fs)) W:=by
  have ht:#[.pointer (some ⟨ct,0,none⟩),I.wv,.int .i64 i,.int .i64 v] ++ Array.replicate (Try.f25.ntmps - (#[.pointer (some ⟨ct,0,none⟩),I.wv,.int .i64 i,.int .i64 v]:Array Value).size) undef=#[.pointer (some ⟨ct,0,none⟩),I.wv,.int .i64 i,.int .i64 v,undef,undef,undef,undef,undef,undef,undef,undef,undef,undef,undef,undef,undef,undef]:=by
    have:Try.f25.ntmps=18:=by kernel_rfl
    rw [this];walk_nrm
  rw [enter_at _ Try.func25 ny,ht];generalize hw:I.wv=wv;show JL S.L (I.γ s) _ W;refine GY stepG_seq ?_;refine HY.Ht (S:=S) (b:=base 25) [] (by simp) (by kernel_rfl) nE (by kernel_rfl) fun GQ ha=>?_;obtain ⟨hA1,Ke⟩:=I.alike hA ha;have HH:=Lib.hid (And.intro hJ (And.intro hS (And.intro hA1 Ke)));clear hJ hS hA hA1 Ke;simp only [mo0,Try.f25];gi_wp2;obtain ⟨hJ,hS,hA1,Ke⟩:=HH.out;clear HH;obtain ⟨s',hA2,hO2,e1,e2,e3,_,e4,_⟩:=I.lay (W':=GQ.alloc (.cells #[.int .i64 v] 3)) (N:=GQ.heap.size) hA1 rfl ⟨_,_,_,heap_alloc_new _ _⟩ (fun b hb=>Below.heap_alloc _ _ _ hb) (by simp);have hS2:=e4 _ hS;have hO3:=Ke.trans hO2;have hN:I.kept s' GQ.heap.size:=(e3 _).2 (.inr rfl);have hc:(GQ.alloc (.cells #[.int .i64 v] 3)).cell? ⟨GQ.heap.size,0,none⟩=some (.int .i64 v):=Ru _ _ _;rw [← e1];generalize GQ.alloc (.cells #[.int .i64 v] 3)=W2 at *;generalize GQ.heap.size=N at *
  show JL S.L (I.γ s') _ W2;simp only [mo1,Try.f25];refine GY stepG_seq ?_;refine Hu fun _ hkk=>?_;iterate 3 (refine Hf ?_;walk_nrm)
  refine HY.read (S:=S) (.int .i64 v) rfl rfl nE hc (fun w h=>by go_simp) (fun w h e he=>by simp [go_sem,h] at he;exact he) ?_;walk_nrm;refine JL.KX (.func (.func 59) #[] #[.pointer (some ⟨N,0,none⟩)]) rfl rfl nE (fun _=>by kernel_rfl) ?_;walk_nrm;refine JL.enter rfl rfl nE rfl Try.func58 (by kernel_rfl) (by kernel_rfl) ?_;walk_nrm;rw [← hw];refine Wh I hm XP hN hc hA2 hS2 (I.pop Try.func25 hL) fun s'' TM W'' e hA3 hO4 hE he=>?_;rw [Frame.finish_at];have hend:=hJ s'' TM W'' e hA3 (hO3.trans hO4) hE he;obtain ⟨VX,en,em,Jw,NA⟩:=e;simp only at hend;rw [hw];show JL S.L (I.γ s'') _ W'';walk_nrm;iterate 4 (refine Hf ?_;walk_nrm)
  refine Hw ?_;cases hkk;refine GY stepG_ret' ?_;exact JL.back rfl Try.func25 (v:=.tuple #[.int .i64 en,.int .i64 Jw]) (fun w=>by kernel_rfl) hend
noncomputable def le0:Code:=match Try.f26.body with | some (.seq c _)=>c | _=>.skip
noncomputable def le1:Code:=match Try.f26.body with | some (.seq _ c)=>c | _=>.skip
theorem kW:Try.f26.body=some (.seq le0 le1):=rfl
theorem VR (I:Js S He m 63)(hm:Ir m ct cb n){s:I.St}{i v:Int}(hA:I.At s σ W)(hS:I.Step s σ (.look false i v))(hL:I.Leaves cf fs)(hJ:∀ s' σ' W' e,I.At s' σ' W'->I.On s W s' W'->I.End s' σ' (e,false)->(e.ok=false/\e.m=0/\e.ints=[])->JW S.base (I.γ s') (G (cf.finish (.tuple #[.int .i64 e.n,.int .i64 e.err])) fs) W') :
    JW S.base (I.γ s) (G (Frame.enter Try.prog 26 #[.pointer (some ⟨ct,0,none⟩),I.wv,.int .i64 i,.int .i64 v] .normal) (cf :: fs)) W:=by
  have ht:#[.pointer (some ⟨ct,0,none⟩),I.wv,.int .i64 i,.int .i64 v] ++ Array.replicate (Try.f26.ntmps - (#[.pointer (some ⟨ct,0,none⟩),I.wv,.int .i64 i,.int .i64 v]:Array Value).size) undef=#[.pointer (some ⟨ct,0,none⟩),I.wv,.int .i64 i,.int .i64 v,undef,undef,undef,undef,undef,undef,undef,undef,undef,undef,undef,undef,undef,undef]:=by
    have:Try.f26.ntmps=18:=by kernel_rfl
    rw [this];walk_nrm
  rw [enter_at _ Try.func26 kW,ht];generalize hw:I.wv=wv;show JL S.L (I.γ s) _ W;refine GY stepG_seq ?_;refine HY.Ht (S:=S) (b:=base 26) [] (by simp) (by kernel_rfl) nE (by kernel_rfl) fun GQ ha=>?_;obtain ⟨hA1,Ke⟩:=I.alike hA ha;have HH:=Lib.hid (And.intro hJ (And.intro hS (And.intro hA1 Ke)));clear hJ hS hA hA1 Ke;simp only [le0,Try.f26];gi_wp2;obtain ⟨hJ,hS,hA1,Ke⟩:=HH.out;clear HH;obtain ⟨s',hA2,hO2,e1,e2,e3,_,e4,_⟩:=I.lay (W':=GQ.alloc (.cells #[.int .i64 v] 3)) (N:=GQ.heap.size) hA1 rfl ⟨_,_,_,heap_alloc_new _ _⟩ (fun b hb=>Below.heap_alloc _ _ _ hb) (by simp);have hS2:=e4 _ hS;have hO3:=Ke.trans hO2;have hN:I.kept s' GQ.heap.size:=(e3 _).2 (.inr rfl);have hc:(GQ.alloc (.cells #[.int .i64 v] 3)).cell? ⟨GQ.heap.size,0,none⟩=some (.int .i64 v):=Ru _ _ _;rw [← e1];generalize GQ.alloc (.cells #[.int .i64 v] 3)=W2 at *;generalize GQ.heap.size=N at *
  show JL S.L (I.γ s') _ W2;simp only [le1,Try.f26];refine GY stepG_seq ?_;refine Hu fun _ hkk=>?_;iterate 3 (refine Hf ?_;walk_nrm)
  refine HY.read (S:=S) (.int .i64 v) rfl rfl nE hc (fun w h=>by go_simp) (fun w h e he=>by simp [go_sem,h] at he;exact he) ?_;walk_nrm;refine JL.KX (.func (.func 60) #[] #[.pointer (some ⟨N,0,none⟩)]) rfl rfl nE (fun _=>by kernel_rfl) ?_;walk_nrm;refine JL.enter rfl rfl nE rfl Try.func58 (by kernel_rfl) (by kernel_rfl) ?_;walk_nrm;rw [← hw];refine Wh I hm WE hN hc hA2 hS2 (I.pop Try.func26 hL) fun s'' TM W'' e hA3 hO4 hE he=>?_;rw [Frame.finish_at];have hend:=hJ s'' TM W'' e hA3 (hO3.trans hO4) hE he;obtain ⟨VX,en,em,Jw,NA⟩:=e;simp only at hend;rw [hw];show JL S.L (I.γ s'') _ W'';walk_nrm;iterate 4 (refine Hf ?_;walk_nrm)
  refine Hw ?_;cases hkk;refine GY stepG_ret' ?_;exact JL.back rfl Try.func26 (v:=.tuple #[.int .i64 en,.int .i64 Jw]) (fun w=>by kernel_rfl) hend
end
end
end Go.Proofs.Ytkdhnbcdbnpmhaa
namespace Go.Proofs.Ytkdhnbcdbnpmhaa.BA
open Go.RowKit
def IE (w:World)(base size:Nat)(v:Value)(n:Nat)(xs:List Value):Prop:=∃ te,w.ownsRow base te size v n xs
theorem IE.kept {w w':World}{base size:Nat}{v:Value}{n:Nat}{xs:List Value}{row:Option Nat}(h:IE w base size v n xs)(hg:w.grownBy w' row)(hne:v.ownBlock=none\/v.ownBlock≠row):IE w' base size v n xs:=
  let ⟨te,h⟩:=h;⟨te,h.kept hg hne⟩
theorem IE.alloc {w:World}{base size:Nat}{v:Value}{n:Nat}{xs:List Value}(h:IE w base size v n xs)(o:Obj):IE (w.alloc o) base size v n xs:=
  let ⟨te,h⟩:=h;⟨te,h.alloc o⟩
theorem IE.len {w:World}{base size:Nat}{v:Value}{n:Nat}{xs:List Value}(h:IE w base size v n xs):xs.length=n * size:=let ⟨_,h⟩:=h;h.1
section
variable {P:Program}(w:World)
theorem Rk (t ty e te:TypeId)(i:TypeInfo)(ht:P.underlying t=some (.slice e))(hi:P.info? e=some i)(g sLen sCap:Nat)(cur:Array Value)(hg:w.heap[g]?=some (.cells cur te (0,0)))(a:Addr)(m c:Nat)(news:List Value)(hl:news.length=m * i.size)(hnews:∀ j u,news[j]?=some u->w.cell? (a.add j)=some u)(h1:∀ u∈news,u.oneCell'=true)(hroom:sLen+m<=sCap)(hfit:sLen * i.size+news.length<=cur.size) :
    (Builtin.append_ #[t,t] ty #[.slice (some ⟨g,0,none⟩) sLen sCap,.slice (some a) m c]).run P w =
      .ok (.slice (some ⟨g,0,none⟩) (sLen+m) sCap) (w.setRow g (cur.toList.take (sLen * i.size) ++ news ++ cur.toList.drop (sLen * i.size+news.length)).toArray):=by
  have hf:=run_firstCells_some (P:=P) w i.size m a m c news hl hnews;have hst:=run_storeCells_at P g (sLen * i.size) te news 0 cur w hg (by simpa using hfit) h1;simp only [Nat.add_zero] at hst;simp [Builtin.append_,run_underlying ht,sizeOf,typeInfo,hi,Builtin.lenOf,hroom,hf,Addr.add_lit,hst]
theorem Ou (base:Nat)(t ty e:TypeId)(i:TypeInfo)(z:Value)(size bytes:Nat)(ht:P.underlying t=some (.slice e))(hi:P.info? e=some i)(hz:i.zero=some z)(hsize:i.size=size)(hby:i.bytes=bytes)(hzs:z.cells.size=size)(hsz:0 < size)(v:Value)(n:Nat)(xs:List Value)(hown:IE w base size v n xs)(a:Addr)(m c:Nat)(news:List Value)(hl:news.length=m * size)(hnews:∀ j u,news[j]?=some u->w.cell? (a.add j)=some u)(h1:∀ u∈news,u.oneCell'=true)(h63:n+m<=maxLen)(hbytes:(n+m) * bytes<=140737488355328)(hbase:base<=w.heap.size) :
    ∃ v' w',(Builtin.append_ #[t,t] ty #[v,.slice (some a) m c]).run P w=.ok v' w'/\IE w' base size v' (n+m) (xs ++ news)/\w.grownBy w' v.ownBlock/\
      (v'.ownBlock=v.ownBlock\/v'.ownBlock=none\/∃ k,v'.ownBlock=some k/\w.heap.size<=k):=by
  obtain ⟨te,hown⟩:=hown;rcases hown.2 with ⟨rfl,rfl⟩|⟨g,cap,cur,rfl,hbg,hg,hnc,hcm,hcs,htake⟩
  . have hx:xs=[]:=List.eq_nil_of_length_eq_zero (by simpa using hown.1);subst hx;obtain ⟨v',w',r1,r2,r3,r4⟩:=run_append_own (P:=P) w w.heap.size t ty e i z size bytes ht hi hz hsize hby hzs hsz (.slice none 0 0) 0 [] (World.ownsRow_nil w _ e size) a m c news hl hnews h1 h63 hbytes (Nat.le_refl _);refine ⟨v',w',r1,⟨e,r2.1,?_⟩,r3,?_⟩
    . rcases r2.2 with hh | ⟨g,cap,cur,q1,q2,q3⟩
      . exact .inl hh
      . exact .inr ⟨g,cap,cur,q1,Nat.le_trans hbase q2,q3⟩
    . rcases r2.2 with ⟨hh,_⟩ | ⟨g,cap,cur,q1,q2,q3⟩
      . exact .inr (.inl (by rw [hh];rfl))
      . exact .inr (.inr ⟨g,by rw [q1];rfl,q2⟩)
  . by_cases hroom:n+m<=cap
    . subst hsize;have hfit:n * i.size+news.length<=cur.size:=by rw [hl,hcs,← Nat.add_mul];exact Nat.mul_le_mul_right _ hroom
      have hlen:(xs ++ news).length=(n+m) * i.size:=by rw [List.length_append,hown.1,hl,Nat.add_mul]
      have hr:=Rk (P:=P) w t ty e te i ht hi g n cap cur hg a m c news hl hnews h1 hroom hfit;refine ⟨_,_,hr,⟨te,hlen,.inr ⟨g,cap,_,rfl,hbg,setRow_heap w g cur _ te _ hg,hroom,hcm,?_,?_⟩⟩,⟨rfl,rfl,rfl,by simp,fun k _ hk=>setRow_other w g k _ (fun e=>hk (by simp [Value.ownBlock,e]))⟩,.inl rfl⟩
      . simp only [List.size_toArray,List.length_append,List.length_take,List.length_drop,Array.length_toList];omega
      . rw [htake,← hlen];exact List.take_left
    . have holds:∀ j u,xs[j]?=some u->w.cell? ((⟨g,0,none⟩:Addr).add j)=some u:=hown.cells (g:=g) rfl;obtain ⟨v',w',r1,r2,r3⟩:=run_append_arg_grows (P:=P) w t ty e i z size bytes ht hi hz hsize hby hzs hsz ⟨g,0,none⟩ n cap xs hown.1 holds a m c news hl hnews (by omega) h63 hbytes;refine ⟨v',w',r1,⟨e,r2.1,?_⟩,⟨r3.os,r3.tape,r3.output,r3.size,fun k hk _=>r3.block k hk (by simp)⟩,?_⟩
      . rcases r2.2 with hh | ⟨g,cap,cur,q1,q2,q3⟩
        . exact .inl hh
        . exact .inr ⟨g,cap,cur,q1,Nat.le_trans hbase q2,q3⟩
      . rcases r2.2 with ⟨hh,_⟩ | ⟨g,cap,cur,q1,q2,q3⟩
        . exact .inr (.inl (by rw [hh];rfl))
        . exact .inr (.inr ⟨g,by rw [q1];rfl,q2⟩)
end
def bools (l:List Bool):List Value:=l.map Value.bool
def Reads (w:World)(v:Value)(xs:List Value):Prop:=
  (xs=[]/\∃ ao c,v=.slice ao 0 c/\c<=maxLen/\(ao=none->c=0))\/
  (xs≠[]/\∃ b o c,v=.slice (some ⟨b,o,none⟩) xs.length c/\xs.length<=c/\c<=maxLen/\∀ i u,xs[i]?=some u->w.cell? ⟨b,o+i,none⟩=some u)
theorem Reads.shape {w:World}{v:Value}{xs:List Value}(h:Reads w v xs):∃ ao c,v=.slice ao xs.length c:=by
  rcases h with ⟨rfl,ao,c,hv,_⟩|⟨_,b,o,c,hv,_⟩
  . exact ⟨ao,c,hv⟩
  . exact ⟨some ⟨b,o,none⟩,c,hv⟩
theorem Reads.len {w:World}{v:Value}{xs:List Value}(h:Reads w v xs):xs.length<=maxLen:=by
  rcases h with ⟨rfl,_⟩|⟨_,b,o,c,_,h1,h2,_⟩
  . simp
  . omega
theorem Reads.same {w w':World}{v:Value}{xs:List Value}(h:Reads w v xs)(hb:∀ k,v.ownBlock=some k->k < w.heap.size->w'.heap[k]?=w.heap[k]?):Reads w' v xs:=by
  rcases h with h|⟨hne,b,o,c,rfl,h1,h2,h3⟩
  . exact .inl h
  . refine .inr ⟨hne,b,o,c,rfl,h1,h2,fun i u hu=>?_⟩;have hc:=h3 i u hu;exact (World.cell?_of_block (a:=⟨b,o+i,none⟩) (w:=w) (hb b rfl (World.block_lt_of_cell? w _ hc))).trans hc
theorem IE.reads {w:World}{base:Nat}{v:Value}{n:Nat}{xs:List Value}(h:IE w base 1 v n xs):Reads w v xs:=by
  obtain ⟨te,h⟩:=h;have hl:=h.1;rcases h.2 with ⟨rfl,rfl⟩|⟨g,cap,cur,rfl,_,hg,h1,h2,_,_⟩
  . exact .inl ⟨List.eq_nil_of_length_eq_zero (by omega),none,0,rfl,by unfold maxLen;omega,fun _=>rfl⟩
  . by_cases hx:xs=[]
    . subst hx;obtain rfl:n=0:=by simpa using hl.symm
      exact .inl ⟨rfl,_,_,rfl,h2,fun hh=>by cases hh⟩
    . refine .inr ⟨hx,g,0,cap,by rw [hl,Nat.mul_one],by omega,h2,fun i u hu=>?_⟩;have:=h.cells (g:=g) rfl i u hu;rw [Addr.add_lit] at this;exact this
theorem Q0 {P:Program}(w:World)(base:Nat)(t ty e:TypeId)(i:TypeInfo)(z:Value)(bytes:Nat)(ht:P.underlying t=some (.slice e))(hi:P.info? e=some i)(hz:i.zero=some z)(hsize:i.size=1)(hby:i.bytes=bytes)(hzs:z.cells.size=1)(v:Value)(n:Nat)(xs:List Value)(hown:IE w base 1 v n xs)(sv:Value)(ys:List Value)(hr:Reads w sv ys)(h1:∀ u∈ys,u.oneCell'=true)(h63:n+ys.length<=maxLen)(hbytes:(n+ys.length) * bytes<=140737488355328)(hbase:base<=w.heap.size) :
    ∃ v' w',(Builtin.append_ #[t,t] ty #[v,sv]).run P w=.ok v' w'/\IE w' base 1 v' (n+ys.length) (xs ++ ys)/\w.grownBy w' v.ownBlock/\
      (v'.ownBlock=v.ownBlock\/v'.ownBlock=none\/∃ k,v'.ownBlock=some k/\w.heap.size<=k):=by
  rcases hr with ⟨rfl,ao,c,rfl,_,hc⟩|⟨_,b,o,c,rfl,_,_,h3⟩
  . cases ao with
    | none=>
      obtain rfl:=hc rfl;have hown':=hown;obtain ⟨te,hown⟩:=hown;have hrun:(Builtin.append_ #[t,t] ty #[v,.slice none 0 0]).run P w=.ok v w:=by
        rcases hown.2 with ⟨rfl,rfl⟩|⟨g,cap,cur,rfl,_,_,hnc,_⟩
        . simp [Builtin.append_,run_underlying ht,sizeOf,typeInfo,hi,Builtin.lenOf,Builtin.firstCells]
        . simp [Builtin.append_,run_underlying ht,sizeOf,typeInfo,hi,Builtin.lenOf,Builtin.firstCells,hnc,storeCells]
      exact ⟨v,w,hrun,by simpa using hown',World.grownBy.refl _ _,.inl rfl⟩
    | some a=>
      obtain ⟨v',w',r1,r2,r3,r4⟩:=Ou (P:=P) w base t ty e i z 1 bytes ht hi hz hsize hby hzs (by decide) v n xs hown a 0 c [] rfl (fun j u hu=>by simp at hu) (fun u hu=>by simp at hu) (by simpa using h63) (by simpa using hbytes) hbase;exact ⟨v',w',r1,r2,r3,r4⟩
  . obtain ⟨v',w',r1,r2,r3,r4⟩:=Ou (P:=P) w base t ty e i z 1 bytes ht hi hz hsize hby hzs (by decide) v n xs hown ⟨b,o,none⟩ ys.length c ys (by simp) (fun j u hu=>by rw [Addr.add_lit];exact h3 j u hu) h1 h63 hbytes hbase
    exact ⟨v',w',r1,r2,r3,r4⟩
theorem IE.nil (w:World)(base size:Nat):IE w base size (.slice none 0 0) 0 []:=⟨0,World.ownsRow_nil _ _ _ _⟩
theorem IE.blk {w:World}{base size:Nat}{v:Value}{n:Nat}{xs:List Value}(h:IE w base size v n xs):∀ k,v.ownBlock=some k->base<=k/\k < w.heap.size:=let ⟨_,h⟩:=h;h.lt
theorem UF {w:World}{b o:Nat}{cs:Array Value}{t:TypeId}{z:Nat × Nat}{u:Value}(h:w.heap[b]?=some (.cells cs t z)):(w.setCell ⟨b,o,none⟩ u).heap[b]?=some (.cells (cs.setIfInBounds o u) t z):=by
  have hlt:=lt_of_block h;have h':w.heap[b]=.cells cs t z:=by simpa [Array.getElem?_eq_getElem hlt] using h
  show (w.heap.modify b _)[b]?=_;rw [Array.getElem?_eq_getElem (by simpa using hlt),Array.getElem_modify_self,h'];rfl
theorem cZ {w:World}{b:Nat}{x y u:Value}{t:TypeId}(h:w.heap[b]?=some (.cells #[x,y] t (0,0))):(w.setCell ⟨b,0,none⟩ u).heap[b]?=some (.cells #[u,y] t (0,0)):=UF h
theorem WU {w:World}{b:Nat}{x y u:Value}{t:TypeId}(h:w.heap[b]?=some (.cells #[x,y] t (0,0))):(w.setCell ⟨b,1,none⟩ u).heap[b]?=some (.cells #[x,u] t (0,0)):=UF h
theorem Reads.drew {w:World}{v:Value}{xs:List Value}(h:Reads w v xs):Reads w.drew v xs:=h.same fun _ _ _=>rfl
end Go.Proofs.Ytkdhnbcdbnpmhaa.BA
namespace Go.Proofs.Ytkdhnbcdbnpmhaa.BA
open Go.RowKit
end Go.Proofs.Ytkdhnbcdbnpmhaa.BA
namespace Go.Proofs.Ytkdhnbcdbnpmhaa
open Go Go.Conc Go.LT Go.LC Go.LK
section
theorem Nq {n:Nat}(h:n < 2 ^ 62):RowKit.wrap64 ((n:Int)+1)=((n+1:Nat):Int):=by unfold RowKit.wrap64;omega
def IY (a:QI)(iv:Value):List Value:=[.int .i64 a.bg,.int .i64 a.st,.int .i64 a.ow,.bool a.a.ok,.int .i64 a.a.n,.int .i64 a.a.m,.int .i64 a.a.err,iv,.slice none 0 0]
def Jg (w:World)(own:Nat->Prop)(iv:Value)(l:List Int):Prop:=
  (l=[]/\iv=.slice none 0 0)\/(l≠[]/\∃ g c,iv=.slice (some ⟨g,0,none⟩) l.length c/\own g/\l.length<=c/\c<=maxLen/\∀ (i:Nat) (u:Int),l[i]?=some u->w.cell? ⟨g,i,none⟩=some (.int .i64 u))
structure Nn (w:World)(own:Nat->Prop)(ans:Value)(out:List QI):Prop where
  ex:∃ Mt:List Value,Mt.length=out.length/\BA.IE w 0 9 ans out.length (List.zipWith IY out Mt).flatten/\∀ (i:Nat) (a:QI) (iv:Value),out[i]?=some a->Mt[i]?=some iv->Jg w (fun g=>own g/\ans.ownBlock≠some g) iv a.a.ints
  blk:∀ g,ans.ownBlock=some g->own g
theorem Lf {w w':World}{base size n:Nat}{v:Value}{xs:List Value}(h:BA.IE w base size v n xs)(he:∀ g,v.ownBlock=some g->NY w w' g):BA.IE w' base size v n xs:=by
  obtain ⟨te,h1,h2⟩:=h;refine ⟨te,h1,?_⟩;rcases h2 with h2|⟨g,cap,cur,rfl,hb,hg,hr⟩
  . exact .inl h2
  . exact .inr ⟨g,cap,cur,rfl,hb,(he g rfl).cells hg,hr⟩
theorem dS {w w':World}{a:Addr}{v:Value}(h:w.cell? a=some v)(he:NY w w' a.block):w'.cell? a=some v:=by
  cases ho:w.heap[a.block]? with
  | none=>simp [World.cell?,ho] at h
  | some o=>
    cases o with
    | cells c e f=>
      have:=he.cells ho;simp only [World.cell?,ho] at h;simp only [World.cell?,this];exact h
    | _=>simp [World.cell?,ho] at h
theorem Jg.TW {w w':World}{own:Nat->Prop}{iv:Value}{l:List Int}(h:Jg w own iv l)(he:∀ g,own g->NY w w' g):Jg w' own iv l:=by
  rcases h with h|⟨h0,g,c,h1,h2,h3,h4,h5⟩
  . exact .inl h
  . exact .inr ⟨h0,g,c,h1,h2,h3,h4,fun i u hu=>dS (h5 i u hu) (he g h2)⟩
theorem Jg.mono {w:World}{own own':Nat->Prop}{iv:Value}{l:List Int}(h:Jg w own iv l)(he:∀ g,own g->own' g):Jg w own' iv l:=by
  rcases h with h|⟨h0,g,c,h1,h2,h3⟩
  . exact .inl h
  . exact .inr ⟨h0,g,c,h1,he g h2,h3⟩
theorem Nn.TW {w w':World}{own:Nat->Prop}{ans:Value}{out:List QI}(h:Nn w own ans out)(he:∀ g,own g->NY w w' g):Nn w' own ans out:=by obtain ⟨⟨Mt,h1,h2,h3⟩,h4⟩:=h;exact ⟨⟨Mt,h1,Lf h2 fun g hg=>he g (h4 g hg),fun i a iv h5 h6=>(h3 i a iv h5 h6).TW fun g hg=>he g hg.1⟩,h4⟩
theorem Nn.mono {w:World}{own own':Nat->Prop}{ans:Value}{out:List QI}(h:Nn w own ans out)(he:∀ g,own g->own' g):Nn w own' ans out:=by obtain ⟨⟨Mt,h1,h2,h3⟩,h4⟩:=h;exact ⟨⟨Mt,h1,h2,fun i a iv h5 h6=>(h3 i a iv h5 h6).mono fun g hg=>⟨he g hg.1,hg.2⟩⟩,fun g hg=>he g (h4 g hg)⟩
section
variable {Cl Cs Sg:Type}
def uF (k:Nat)(x:Wk Cl Cs)(b:Nat)(own:Nat->Prop)(w:World):Prop:=
  x.k=k/\own b/\∃ t co go gr ans,IQ w b k t co go gr x.st x.bg x.ow ans x.over x.fell/\Nn w (fun g=>own g/\g≠b) ans x.out
def H9 (D:Dr Cl Cs Sg)(m:Mem Sg):Md (Wk Cl Cs) Sg where
  hold:=D.hold
  Sh:=m.Sh
  Inv:=m.Inv
  Rec:=uF
  TD:=m.rows
  inv_eq:=m.eq
  rec_eq:=fun k x b o w w' he ⟨h1,h2,t,co,go,gr,ans,h3,h4⟩=>⟨h1,h2,t,co,go,gr,ans,(he b h2).cells h3,h4.TW fun g hg=>he g hg.1⟩
structure Jl (Cl Cs Sg:Type)(ρ:Rn) where
  x:Wx (Wk Cl Cs) Sg ρ
  own:Nat->Prop
  core:Nat->Prop
  pb:Nat
  z:Wk Cl Cs
  gr:Bool
  ans:Value
variable {ρ:Rn}(D:Dr Cl Cs Sg)(m:Mem Sg)(b k:Nat)
structure Mq (s:Jl Cl Cs Sg ρ)(σ:Sg)(W:World):Prop where
  zi:ρ.zi=.int .i64 0
  zg:ρ.zg=.agg #[]
  vb:s.x.1.1.v.b=b
  vk:s.x.1.1.v.k=k
  row:IQ W b k s.x.1.1.v.t ρ.come ρ.gone s.gr s.z.st s.z.bg s.z.ow s.ans false false
  zk:s.z.k=k
  zo:s.z.over=false
  zf:s.z.fell=false
  am:Nn W (fun g=>s.core g/\g≠b/\g≠s.pb) s.ans s.z.out
  inv:m.Inv σ W
  sh:∀ b,m.Sh b->s.x.1.1.B b=false
  low:∀ b,s.x.1.1.B b=true->b < s.x.1.1.n0
  size:s.x.1.1.n0<=W.heap.size
  Yu:∀ b,s.x.1.1.v.own b->b < s.x.1.1.n0
  cb:s.core b
  RL:s.core s.pb
  co:∀ b,s.core b->s.own b
  o1:∀ b,s.x.1.1.v.own b->s.own b
  o2:∀ b,s.own b->s.x.1.1.v.own b\/s.x.1.1.n0<=b
  o3:∀ b,s.own b->s.x.1.1.B b=false/\¬ m.Sh b/\∃ c e f,W.heap[b]?=some (.cells c e f)
  NU:s.x.1.1.v.own b
  VW:s.pb≠b
  pc:W.cell? ⟨s.pb,0,none⟩=some (.pointer (some ⟨b,0,none⟩))
  cap:s.z.ow+s.x.1.2+s.gr.toNat < 2 ^ 62
structure PLe (s s':Jl Cl Cs Sg ρ):Prop where
  pb:s'.pb=s.pb
  ans:s'.ans=s.ans
  core:s'.core=s.core
  own:∀ b,s.own b->s'.own b
  h:s'.x.1.1.v.h=s.x.1.1.v.h
  t:s'.x.1.1.v.t=s.x.1.1.v.t
  r:s'.x.1.2<=s.x.1.2
  zk:s'.z.k=s.z.k
  todo:s'.z.todo=s.z.todo
  bg:s'.z.bg=s.z.bg
  out:s'.z.out=s.z.out
def Jl.up (s:Jl Cl Cs Sg ρ):Wk Cl Cs:=if s.gr then { s.z with ow:=s.z.ow+1 } else s.z
def Ut (s:Jl Cl Cs Sg ρ)(σ:Sg)(cs:Cs):Prop:=s.x.1.1.tgt=if s.gr then s.up.land (D.next k cs σ) else s.z.land (σ,.inl cs)
variable {D m b k}
theorem Mq.turn {x:Wx (Wk Cl Cs) Sg ρ}{own core:Nat->Prop}{pb:Nat}{z z':Wk Cl Cs}{gr gr':Bool}{ans:Value}{σ:Sg}{W W':World}(hA:Mq m b k ⟨x,own,core,pb,z,gr,ans⟩ σ W)(hr:IQ W' b k x.1.1.v.t ρ.come ρ.gone gr' z'.st z'.bg z'.ow ans false false)(ht:KA b W W')(h1:z'.k=z.k)(h2:z'.over=z.over)(h3:z'.fell=z.fell)(h4:z'.out=z.out)(h5:z'.ow+x.1.2+gr'.toNat < 2 ^ 62):Mq m b k ⟨x,own,core,pb,z',gr',ans⟩ σ W':=by
  have hrow:∀ g:Nat,(∃ c e f,W.heap[g]?=some (Obj.cells c e f))->∃ c e f,W'.heap[g]?=some (Obj.cells c e f):=fun g hg=>by
    by_cases e:g=b
    . rw [e];exact ⟨_,_,_,hr⟩
    . rw [ht.other g e];exact hg
  exact {
          zi:=hA.zi,zg:=hA.zg,vb:=hA.vb,vk:=hA.vk,row:=hr,zk:=h1.trans hA.zk,zo:=h2.trans hA.zo,zf:=h3.trans hA.zf
          am:=by show Nn W' _ ans z'.out;rw [h4];exact hA.am.TW fun g hg=>.of (ht.other g hg.2.1)
          inv:=m.eq σ W W' (fun g hg=>.of (ht.other g fun e=>(hA.o3 b (hA.co b hA.cb)).2.1 (e ▸ hg))) hA.inv
          sh:=hA.sh,low:=hA.low,size:=Nat.le_trans hA.size (Nat.le_of_eq ht.size.symm),Yu:=hA.Yu,cb:=hA.cb,RL:=hA.RL,co:=hA.co,o1:=hA.o1,o2:=hA.o2
          o3:=fun g hg=>⟨(hA.o3 g hg).1,(hA.o3 g hg).2.1,hrow g (hA.o3 g hg).2.2⟩
          NU:=hA.NU,VW:=hA.VW,pc:=by rw [cell_of (ht.other pb hA.VW)];exact hA.pc
          cap:=h5 }
theorem xE {s:Jl Cl Cs Sg ρ}{σ:Sg}{W:World}{cs:Cs}{c:Frame}{fs:List Frame}(hA:Mq m b k s σ W)(hS:Ut D k s σ cs)(hL:ρ.shut->kI ρ Try.prog 180 c fs)(hJ:∀ s' σ' W',Mq m b k s' σ' W'->PLe s s'->s'.own=s.own->(∀ g,s.own g/\g≠b->W'.heap[g]?=W.heap[g]?)->W.heap.size<=W'.heap.size->2 * s'.x.1.2+(if s'.gr then 1 else 0) < 2 * s.x.1.2+(if s.gr then 1 else 0)->(s'.gr=false/\s'.x.1.1.tgt=s'.z.land (D.next k cs σ'))->
      JW (SW (H9 D m) ρ Try.prog).base s'.x (G (c.finish (.tuple #[])) fs) W') :
    JW (SW (H9 D m) ρ Try.prog).base s.x (G (Frame.enter Try.prog 63 #[.pointer (some ⟨b,0,none⟩)] .normal) (c :: fs)) W:=by
  obtain ⟨x,own,core,pb,z,gr,ans⟩:=s;have hcap:=hA.cap;have hr:=hA.row;have hbB:x.1.1.B b=false:=(hA.o3 b (hA.co b hA.cb)).1;simp only at hcap hr;cases gr with
  | true=>
    simp only [Ut,if_true,Jl.up] at hS;refine ZV hr hbB fun W' h1 h2=>?_;have e1:=Nq (n:=z.ow) (by omega);rw [e1] at h1;refine hJ ⟨x,own,core,pb,{ z with ow:=z.ow+1 },false,ans⟩ σ W' ?_ ⟨rfl,rfl,rfl,fun _ h=>h,rfl,rfl,Nat.le_refl _,rfl,rfl,rfl,rfl⟩ rfl (fun g hg=>h2.other g hg.2) (Nat.le_of_eq h2.size.symm) (by simp) ⟨rfl,hS⟩;exact hA.turn h1 h2 rfl rfl rfl rfl (by simp at hcap ⊢;omega)
  | false=>
    simp only [Ut,Bool.false_eq_true,if_false,Wk.V5] at hS;obtain rfl:x.1.1.v.b=b:=hA.vb;obtain rfl:x.1.1.v.k=k:=hA.vk;have hrec:uF x.1.1.v.k ({ z with cur:=some cs }:Wk Cl Cs) x.1.1.v.b own W:=⟨hA.zk,hA.co _ hA.cb,_,_,_,_,_,by have e1:=hA.zo;have e2:=hA.zf;simp only at e1 e2;simp only [e1,e2];exact hr,hA.am.mono fun g hg=>⟨hA.co g hg.1,hg.2.1⟩⟩
    refine bL (M:=H9 D m) (x:=x) (own:=own) (pb:=pb) hA.zi hA.zg hr (by rw [hS];exact hA.inv) hA.sh (by rw [hS];exact hrec) (hA.co _ hA.RL) hA.o1 hA.o2 hA.o3 hA.NU (by rw [hS]) hL hA.pc ?_;intro r' hx v' hs s σ' W' y e1 e2 e3 Px hn0 hH hI W'' h6 h7;have e5:=Nq (n:=z.ow) (by omega);rw [e5] at h6;rw [hS] at e2;have hso:v'.own=own:=hs.own;have hA':Mq m x.1.1.v.b x.1.1.v.k ⟨y,own,core,pb,{ z with st:=s,ow:=z.ow+1 },false,ans⟩ σ' W'':=by
      have hoth:∀ g,own g->g≠x.1.1.v.b->W''.heap[g]?=W.heap[g]?:=fun g hg hne=>(h7.other g hne).trans (hH.own g hg);exact {
              zi:=hA.zi,zg:=hA.zg,vb:=by show y.1.1.v.b=_;rw [e1,hs.b],vk:=by show y.1.1.v.k=_;rw [e1,hs.k]
              row:=by show IQ W'' _ _ y.1.1.v.t _ _ _ _ _ _ _ _ _;rw [e1,hs.t];exact h6
              zk:=hA.zk,zo:=hA.zo,zf:=hA.zf
              am:=hA.am.TW fun g hg=>.of (hoth g (hA.co g hg.1) hg.2.1)
              inv:=m.eq σ' W' W'' (fun g hg=>.of (h7.other g fun e=>(hA.o3 _ (hA.co _ hA.cb)).2.1 (e ▸ hg))) hI
              sh:=fun g hg=>Px.sh g hg,low:=fun g hg=>Px.low g hg
              size:=by show y.1.1.n0<=_;rw [hn0,h7.size];exact Nat.le_refl _
              Yu:=fun g hg=>by
                show g < y.1.1.n0;have hg':own g:=by rw [← hso,← e1];exact hg
                obtain ⟨_,_,c,e,f,hc⟩:=hA.o3 g hg';have:=(Array.getElem?_eq_some_iff.1 hc).1;have:=hH.size;rw [hn0];omega
              cb:=hA.cb,RL:=hA.RL,co:=hA.co
              o1:=fun g hg=>by rw [← hso,← e1];exact hg
              o2:=fun g hg=>.inl (by show y.1.1.v.own g;rw [e1,hso];exact hg)
              o3:=fun g hg=>⟨Px.own g (by rw [hso];exact hg),(hA.o3 g hg).2.1,by
                by_cases e:g=x.1.1.v.b
                . rw [e];exact ⟨_,_,_,h6⟩
                . rw [hoth g hg e];exact (hA.o3 g hg).2.2⟩
              NU:=by show y.1.1.v.own _;rw [e1,hso];exact hA.co _ hA.cb
              VW:=hA.VW
              pc:=by rw [cell_of (hoth pb (hA.co _ hA.RL) hA.VW)];exact hA.pc
              cap:=by simp at hcap ⊢;omega }
    refine hJ ⟨y,own,core,pb,{ z with st:=s,ow:=z.ow+1 },false,ans⟩ σ' W'' hA' ⟨rfl,rfl,rfl,fun _ h=>h,by show y.1.1.v.h=_;rw [e1,hs.h],by show y.1.1.v.t=_;rw [e1,hs.t],by show y.1.2<=x.1.2;omega,rfl,rfl,rfl,rfl⟩ rfl
      (fun g hg=>(h7.other g hg.2).trans (hH.own g hg.1)) (by rw [h7.size];exact hH.size) (by show 2 * y.1.2+0 < 2 * x.1.2+0;omega) ⟨rfl,?_⟩
    show y.1.1.tgt=_;rw [e2];show D.hold ({ z with cur:=some cs }:Wk Cl Cs) s σ'=_;rw [Dr.iV];have:=hA.zk;simp only at this;rw [this]
def MP (D:Dr Cl Cs Sg)(m:Mem Sg)(ρ:Rn)(b k:Nat):Js (SW (H9 D m) ρ Try.prog) D m 63 where
  St:=Jl Cl Cs Sg ρ
  γ:=fun s=>s.x
  wv:=.pointer (some ⟨b,0,none⟩)
  num:=k
  At:=Mq m b k
  core:=fun s=>s.core
  own:=fun s=>s.own
  kept:=fun s g=>s.own g/\g≠b
  n0:=fun s=>s.x.1.1.n0
  fuel:=fun s=>2 * s.x.1.2+(if s.gr then 1 else 0)
  Le:=PLe
  R4:=fun s σ c=>s.gr=true/\s.x.1.1.tgt=match D.init k c σ with
    | .inl cs=>s.up.land (D.next k cs σ)
    | .inr e=>s.up.land (σ,.inr e)
  Step:=fun s σ cs=>Ut D k s σ cs
  gF:=fun s r=>s.gr=false/\s.x.1.1.tgt=s.z.land r
  End:=fun s σ e=>s.x.1.1.tgt=s.up.land (σ,.inr e)
  Leaves:=fun c fs=>ρ.shut->kI ρ Try.prog 180 c fs
  add:=fun s N=>{ s with own:=fun g=>s.own g\/g=N }
  refl:=fun s=>⟨rfl,rfl,rfl,fun _ h=>h,rfl,rfl,Nat.le_refl _,rfl,rfl,rfl,rfl⟩
  trans:=fun s s' s'' h k=>⟨k.pb.trans h.pb,k.ans.trans h.ans,k.core.trans h.core,fun b hb=>k.own b (h.own b hb),k.h.trans h.h,k.t.trans h.t,Nat.le_trans k.r h.r,k.zk.trans h.zk,k.todo.trans h.todo,k.bg.trans h.bg,k.out.trans h.out⟩
  Vm:=fun {s σ c cs} ⟨h1,h2⟩ hi=>by rw [hi] at h2;unfold Ut;rw [h1,if_pos rfl];exact h2
  ends:=fun {s σ c e} ⟨h1,h2⟩ hi=>by rw [hi] at h2;exact h2
  more:=fun {s σ cs} ⟨h1,h2⟩=>by unfold Ut;rw [h1];exact h2
  done:=fun {s σ e} ⟨h1,h2⟩=>by unfold Jl.up;rw [h1];exact h2
  inv:=fun h=>h.inv
  size:=fun h=>h.size
  row:=fun h hb=>(h.o3 _ hb).2
  Pq:=fun h hb=>h.co _ hb
  JX:=fun h hb=>hb.1
  put:=fun {s σ W σ' W'} hA hI hc ho hs=>
    {
      zi:=hA.zi,zg:=hA.zg,vb:=hA.vb,vk:=hA.vk,row:=by have:=hA.row;unfold IQ at this ⊢;rw [hc b hA.cb];exact this
      zk:=hA.zk,zo:=hA.zo,zf:=hA.zf,am:=hA.am.TW fun g hg=>.of (hc g hg.1),inv:=hI,sh:=hA.sh,low:=hA.low,size:=Nat.le_trans hA.size hs,Yu:=hA.Yu
      cb:=hA.cb,RL:=hA.RL,co:=hA.co,o1:=hA.o1,o2:=hA.o2,o3:=fun g hg=>⟨(hA.o3 g hg).1,(hA.o3 g hg).2.1,ho g hg⟩,NU:=hA.NU,VW:=hA.VW
      pc:=by rw [cell_of (hc s.pb hA.RL)];exact hA.pc,cap:=hA.cap }
  YW:=fun {s σ W N} hA h1 h2 h3=>by
    have hNb:N≠b:=fun e=>by have:=hA.Yu b hA.NU;have:s.x.1.1.n0<=N:=h1;omega
    refine ⟨{
              zi:=hA.zi,zg:=hA.zg,vb:=hA.vb,vk:=hA.vk,row:=hA.row,zk:=hA.zk,zo:=hA.zo,zf:=hA.zf,am:=hA.am,inv:=hA.inv,sh:=hA.sh,low:=hA.low,size:=hA.size,Yu:=hA.Yu
              cb:=hA.cb,RL:=hA.RL,co:=fun g hg=>.inl (hA.co g hg),o1:=fun g hg=>.inl (hA.o1 g hg),o2:=fun g hg=>hg.elim (hA.o2 g) fun e=>.inr (e ▸ h1)
              o3:=fun g hg=>hg.elim (hA.o3 g) fun e=>⟨by
                cases hB:s.x.1.1.B g with
                | false=>rfl
                | true=>
                  have:=hA.low g hB;have:s.x.1.1.n0<=N:=h1;omega,by rw [e];exact h2,by rw [e];exact h3⟩
              NU:=hA.NU,VW:=hA.VW,pc:=hA.pc,cap:=hA.cap },⟨rfl,rfl,rfl,fun _ h=>.inl h,rfl,rfl,Nat.le_refl _,rfl,rfl,rfl,rfl⟩,rfl,rfl,fun _=>.rfl,fun _=>.rfl,fun g=>⟨fun ⟨h,hb⟩=>h.elim (fun h=>.inl ⟨h,hb⟩) .inr,fun h=>h.elim (fun h=>⟨.inl h.1,h.2⟩) fun e=>⟨.inr e,e ▸ hNb⟩⟩⟩
  Yw:=fun h=>h
  VL:=fun h=>h
  Yo:=fun h=>h
  XR:=fun h=>h
  pop:=fun hf h hs=>kI.pop hf (h hs)
  step:=fun {s σ W cs c fs} hA hS hL hJ=>xE hA hS hL fun s' σ' W' a1 a2 a3 a4 a5 a6 a7=>hJ s' σ' W' a1 a2 a2.core a3 (by funext g;rw [a3]) a4 a5 a6 a7
end
end
end Go.Proofs.Ytkdhnbcdbnpmhaa
