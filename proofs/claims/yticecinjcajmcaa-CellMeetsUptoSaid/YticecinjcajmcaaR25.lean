/-
  Part 25 of the proof that CellMeets returns true, and leaves its arguments as they were, for every input whose reading is of bulk at most 1048576. No further condition.
-/
import Derived.Test.YticecinjcajmcaaR00
import Derived.Test.YticecinjcajmcaaR12
import Derived.Test.YticecinjcajmcaaR14
import Derived.Test.YticecinjcajmcaaR16
import Derived.Test.YticecinjcajmcaaR18
import Derived.Test.YticecinjcajmcaaR24
import Derived.Lib.Hide
import Derived.LoopIn
import Derived.Test.YticecinjcajmcaaProg
import Derived.OwnWalkIn
import Derived.TacticsInMore
set_option linter.unusedVariables false
set_option linter.unusedSectionVars false
set_option linter.unusedSimpArgs false
set_option maxHeartbeats 4000000
set_option maxRecDepth 100000
noncomputable section
namespace Go.Proofs.Yticecinjcajmcaa
open Go Go.Conc Go.LT Go.LC Go.LK Go.RowKit
open BA TU
section
def Yo:Code:=match Try.f64.body with | some (.seq _ (.seq _ (.seq _ c)))=>c | _=>.skip
def pk0:Code:=match Try.f64.body with | some (.seq c _)=>c | _=>.skip
def pk1:Code:=match Try.f64.body with | some (.seq _ (.seq c _))=>c | _=>.skip
def pk2:Code:=match Try.f64.body with | some (.seq _ (.seq _ (.seq c _)))=>c | _=>.skip
def pkL:Code:=match Yo with | .seq c _=>c | _=>.skip
def pk9:Code:=match Yo with | .seq _ (.seq c _)=>c | _=>.skip
def yU:Code:=match Yo with | .seq _ (.seq _ (.seq c _))=>c | _=>.skip
def mV:Code:=match Yo with | .seq _ (.seq _ (.seq _ (.seq c _)))=>c | _=>.skip
def uR:Code:=match Yo with | .seq _ (.seq _ (.seq _ (.seq _ (.seq c _))))=>c | _=>.skip
def wG:Code:=match Yo with | .seq _ (.seq _ (.seq _ (.seq _ (.seq _ c))))=>c | _=>.skip
theorem jg:Try.f64.body=some (.seq pk0 (.seq pk1 (.seq pk2 (.seq pkL (.seq pk9 (.seq yU (.seq mV (.seq uR wG)))))))):=rfl
def xg:Code:=match Try.f79.body with | some (.seq _ (.seq (.seq c _) _))=>c | _=>.skip
def ix0:Code:=match Try.f79.body with | some (.seq c _)=>c | _=>.skip
def qA:Code:=match Try.f79.body with | some (.seq _ (.seq (.seq _ (.block _ (.loop c))) _))=>c | _=>.skip
def uJ:Code:=match Try.f79.body with | some (.seq _ (.seq _ c))=>c | _=>.skip
theorem jP:Try.f79.body=some (.seq ix0 (.seq (.seq xg (.block 0 (.loop qA))) uJ)):=rfl
structure IL (W0 W:World):Prop where
  blk:∀ g,g < W0.heap.size->W.heap[g]?=W0.heap[g]?
  size:W0.heap.size<=W.heap.size
theorem IL.refl (W:World):IL W W:=⟨fun _ _=>rfl,Nat.le_refl _⟩
theorem IL.trans {a b c:World}(h:IL a b)(k:IL b c):IL a c:=⟨fun g hg=>(k.blk g (Nat.lt_of_lt_of_le hg h.size)).trans (h.blk g hg),Nat.le_trans h.size k.size⟩
theorem IL.alike {a b c:World}(h:IL a b)(hh:c.heap=b.heap):IL a c:=⟨by rw [hh];exact h.blk,by rw [hh];exact h.size⟩
theorem IL.below {a b c:World}{n:Nat}(h:IL a b)(k:Below n b c)(hn:a.heap.size<=n):IL a c:=⟨fun g hg=>(k.block g (Nat.lt_of_lt_of_le hg hn)).trans (h.blk g hg),Nat.le_trans h.size k.size⟩
theorem IL.alloc {a b:World}(h:IL a b)(o:Obj):IL a (b.alloc o):=⟨fun g hg=>(Below.heap_alloc b o g (Nat.lt_of_lt_of_le hg h.size)).trans (h.blk g hg),by simp;exact Nat.le_succ_of_le h.size⟩
theorem IL.cell {a b:World}(h:IL a b){ad:Addr}(hl:ad.block < a.heap.size):b.cell? ad=a.cell? ad:=by simp only [World.cell?,h.blk _ hl]
theorem Et {a:World}{ad:Addr}{v:Value}(h:a.cell? ad=some v):ad.block < a.heap.size:=by
  simp only [World.cell?] at h;cases ho:a.heap[ad.block]? with
  | none=>rw [ho] at h;cases h
  | some o=>exact (zGE ho).1
structure aI (W0 W:World)(T ob:Nat)(lv:Value)(left:List Int)(last:Int)(L:List Nat):Prop where
  blk:∀ g,g < W0.heap.size->g≠ob->W.heap[g]?=W0.heap[g]?
  size:W0.heap.size<=W.heap.size
  ord:∃ Jh,SB W T ob Jh (KH left L) (Kw left last L)/\Jh.ownBlock=lv.ownBlock
section
variable {main:Bool}{Γ:Type}{S:EL Try.prog main Γ}{γ:Γ}{W:World}{cf:Frame}{cs:List Frame}
theorem Zk {k last:Int}{N ob:Nat}(hN:W.cell? ⟨N,0,none⟩=some (.pointer (some ⟨ob,0,none⟩)))(hl:W.cell? ⟨ob,1,none⟩=some (.int .i64 last))(hJ:JL S.L γ (G (cf.finish (.bool (decide (last < k)))) cs) W) :
    JL S.L γ (G (Frame.enter Try.prog 80 #[.int .i64 k,.pointer (some ⟨N,0,none⟩)] .normal) (cf :: cs)) W:=by
  have ht:#[.int .i64 k,.pointer (some ⟨N,0,none⟩)] ++ Array.replicate (Try.f80.ntmps - (#[.int .i64 k,.pointer (some ⟨N,0,none⟩)]:Array Value).size) undef=#[.int .i64 k,.pointer (some ⟨N,0,none⟩),undef,undef,undef,undef,undef,undef,undef,undef]:=by
    have:Try.f80.ntmps=10:=by kernel_rfl
    rw [this];walk_nrm
  rw [enter_at (c:=(Try.f80.body).get rfl) _ Try.func80 rfl,ht];refine EL.EJ (S:=S) (b:=base 80) [] (by simp) zKR nE zKR fun W₁ ha=>?_;have hc1:W₁.cell? ⟨N,0,none⟩=some (.pointer (some ⟨ob,0,none⟩)):=by obtain ⟨τ,d,rfl⟩:=ha;exact hN
  have hc2:W₁.cell? ⟨ob,1,none⟩=some (.int .i64 last):=by obtain ⟨τ,d,rfl⟩:=ha;exact hl
  have hend:=JW.tape (S:=S.base) hJ ha;clear hJ hN hl;simp only [Try.f80,Option.get_some];gi_wp2;intro Y;exact JL.back rfl Try.func80 (v:=.bool (decide (last < k))) (fun w=>by kernel_rfl) hend
theorem iV {last:Int}{N ob rb ro rc:Nat}{L:List Nat}(hsm:L.length<=1000000)(hN:W.cell? ⟨N,0,none⟩=some (.pointer (some ⟨ob,0,none⟩)))(hl:W.cell? ⟨ob,1,none⟩=some (.int .i64 last))(hr:∀ j,j < L.length->W.cell? ⟨rb,ro+j,none⟩=some (.int .i64 (L.getD j 0:Nat)))(hJ:JL S.L γ (G (cf.finish (.int .i64 (ix last L))) cs) W) :
    ∀ (d x:Nat) (W':World),L.length - x=d->x<=L.length->LT.Alike W W'->(∀ j,j < x->((L.getD j 0:Nat):Int)<=last)->∀ v2 v3 v5 v9 Aa Ab Ac Ae Af Ah Ai Aj Ak:Value,
      JL S.L γ (G ((base 79).at ⟨#[.slice (some ⟨rb,ro,none⟩) L.length rc,.func (.func 80) #[] #[.pointer (some ⟨N,0,none⟩)],v2,v3,.int .i64 0,v5,.slice (some ⟨rb,ro,none⟩) L.length rc,.int .i64 L.length,.int .i64 x,v9,Aa,Ab,Ac,Ae,Af,Ah,Ai,Aj,Ak],[]⟩ [.code qA,.inLoop qA,.inBlock 0,.code uJ]) (cf :: cs)) W':=by
  intro d;induction d with
  | zero=>
    intro x W' hd hx ha0 hbel v2 v3 v5 v9 Aa Ab Ac Ae Af Ah Ai Aj Ak;obtain rfl:x=L.length:=by omega
    have e:=(jQ last L hbel).1;have hend:=JW.tape (S:=S.base) hJ ha0;rw [e] at hend;have hd:decide ((L.length:Int) < (L.length:Int))=false:=by simp
    clear hJ hbel hr;generalize hlp:[Item.inLoop qA,.inBlock 0,.code uJ]=lp;simp only [qA,Try.f79];refine Ei ?_;refine EH fun _ hkk=>?_
    (refine Eo ?_;walk_nrm)
    refine EB ?_;cases hkk;refine Ei ?_;refine JL.Ey (by simp [Act.eval]) ?_;subst hlp;refine JL.exit rfl ?_;simp only [uJ,Try.f79];refine Ei ?_;refine EH fun _ hkk=>?_
    (refine Eo ?_;walk_nrm)
    refine EB ?_;cases hkk;refine Er stepG_ret' ?_;exact JL.back rfl Try.func79 (v:=.int .i64 (-1)) (fun w=>by kernel_rfl) hend
  | succ d ih=>
    intro x W' hd hx ha0 hbel v2 v3 v5 v9 Aa Ab Ac Ae Af Ah Ai Aj Ak;have hlt:x < L.length:=by omega
    have hcx:=hr x hlt;obtain ⟨y,hy⟩:∃ y,L.getD x 0=y:=⟨_,rfl⟩
    rw [hy] at hcx;generalize hlp:[Item.inLoop qA,.inBlock 0,.code uJ]=lp;simp only [qA,Try.f79];refine Ei ?_;refine EH fun _ hkk=>?_
    (refine Eo ?_;walk_nrm)
    refine EB ?_;cases hkk;refine Ei ?_;refine JL.Fz (by first | (simp [Act.eval];done) | (simp [Act.eval];omega)) ?_;refine Er stepG_skip ?_;refine Ei ?_;refine Er stepG_block ?_;refine Ei ?_;refine EH fun _ hkk=>?_;iterate 2 (refine Eo ?_;walk_nrm)
    refine EB ?_;cases hkk;refine Ei ?_;refine EH fun _ hkk=>?_;have HH:=Lib.hid (zAI hJ (zAI ih (zAI hr (zAI hbel (zAI hN (zAI hl (zAI ha0 hy)))))));clear hJ ih hr hbel hN hl hy;refine EL.KU (S:=S) (b:=base 79) 0 5 [] (by simp) zKR nE (rest:=[5]) rfl zKR fun W₁ ha=>?_;have hcell:∀ a,W₁.cell? a=W.cell? a:=fun a=>by obtain ⟨τ,d,rfl⟩:=ha;obtain ⟨τ,d,rfl⟩:=ha0;rfl
    have ha1:=ha0.trans ha;clear ha0;rw [← hcell] at hcx;dsimp only [List.drop,List.take];gi_wp2;refine ⟨rfl,?_⟩;obtain ⟨hJ,ih,hr,hbel,hN,hl,_,hy⟩:=HH.out;clear HH;show JL S.L γ _ W₁;try dsimp only
    refine JL.ZL rfl rfl nE rfl rfl Try.func80 zKR zKR ?_;walk_nrm;refine Zk (ob:=ob) (last:=last) (by rw [hcell];exact hN) (by rw [hcell];exact hl) ?_;rw [Frame.finish_at];walk_nrm;refine EB ?_;cases hkk;by_cases hgt:last < (y:Int)
    . refine JL.Fz (by simp [Act.eval];exact hgt) ?_
      have e:=(ru last L x hlt (by rw [hy];exact hgt) hbel).1;have hend:=JW.tape (S:=S.base) hJ ha1;rw [e] at hend;clear hJ ih hr hbel;refine Ei ?_;refine EH fun _ hkk=>?_;iterate 2 (refine Eo ?_;walk_nrm)
      refine EB ?_;cases hkk;refine Er stepG_ret' ?_;exact JL.back rfl Try.func79 (v:=.int .i64 (x:Int)) (fun w=>by kernel_rfl) hend
    . refine JL.Ey (by simp [Act.eval];omega) ?_
      have XK:∀ j,j < x+1->((L.getD j 0:Nat):Int)<=last:=fun j hj=>by
        rcases Nat.lt_succ_iff_lt_or_eq.1 hj with h|rfl
        . exact hbel j h
        . rw [hy];omega
      refine Er stepG_skip ?_;refine Er stepG_inBlock ?_;have hl1:(-9223372036854775808:Int)<=(x:Int)+1:=by omega
      have hl2:(x:Int)+1<=9223372036854775807:=by omega
      have HH:=Lib.hid (zAI ih (zAI XK (zAI ha1 hlp)));clear ih XK ha1 hJ hr hbel hN hl hcell hcx hlp ha;refine EL.EJ (S:=S) (b:=base 79) [] (by simp) zKR nE zKR fun W₂ ha2=>?_;gi_wp2;obtain ⟨ih,XK,ha1,hlp⟩:=HH.out;show JL S.L γ _ W₂;subst hlp;refine Er stepG_inLoop ?_;exact ih (x+1) W₂ zOM hlt (ha1.trans ha2) XK _ _ _ _ _ _ _ _ _ _ _ _ _
theorem tZ {last:Int}{N ob rb ro rc:Nat}{L:List Nat}(hsm:L.length<=1000000)(hN:W.cell? ⟨N,0,none⟩=some (.pointer (some ⟨ob,0,none⟩)))(hl:W.cell? ⟨ob,1,none⟩=some (.int .i64 last))(hr:∀ j,j < L.length->W.cell? ⟨rb,ro+j,none⟩=some (.int .i64 (L.getD j 0:Nat)))(hJ:JL S.L γ (G (cf.finish (.int .i64 (ix last L))) cs) W) :
    JL S.L γ (G (Frame.enter Try.prog 79 #[.slice (some ⟨rb,ro,none⟩) L.length rc,.func (.func 80) #[] #[.pointer (some ⟨N,0,none⟩)]] .normal) (cf :: cs)) W:=by
  have ht:#[.slice (some ⟨rb,ro,none⟩) L.length rc,.func (.func 80) #[] #[.pointer (some ⟨N,0,none⟩)]] ++ Array.replicate (Try.f79.ntmps - (#[.slice (some ⟨rb,ro,none⟩) L.length rc,.func (.func 80) #[] #[.pointer (some ⟨N,0,none⟩)]]:Array Value).size) undef=#[.slice (some ⟨rb,ro,none⟩) L.length rc,.func (.func 80) #[] #[.pointer (some ⟨N,0,none⟩)],undef,undef,undef,undef,undef,undef,undef,undef,undef,undef,undef,undef,undef,undef,undef,undef,undef]:=by
    have:Try.f79.ntmps=19:=by kernel_rfl
    rw [this];walk_nrm
  rw [enter_at _ Try.func79 jP,ht];have HH:=Lib.hid (zAI hJ (zAI hr (zAI hN hl)));clear hJ hr hN hl;simp only [ix0,Try.f79];refine Ei ?_;refine EH fun _ hkk=>?_
  (refine Eo ?_;walk_nrm)
  refine EB ?_;cases hkk;refine Ei ?_;refine Ei ?_;simp only [xg,Try.f79];refine EH fun _ hkk=>?_;iterate 3 (refine Eo ?_;walk_nrm)
  refine EB ?_;cases hkk;refine Er stepG_block ?_;refine Er stepG_loop ?_;obtain ⟨hJ,hr,hN,hl⟩:=HH.out;exact iV hsm hN hl hr hJ _ 0 W rfl (Nat.zero_le _) (.refl _) (fun j hj=>by omega) _ _ _ _ _ _ _ _ _ _ _ _ _
end
end
section
theorem rJ {W wr W':World}{T ob:Nat}{lv:Value}{last k:Int}{L:List Nat}(HO:IL W wr)(hO:wr.heap[ob]?=some (.cells #[lv,.int .i64 last] T (0,0)))(hR:Reads W lv (([]:List Int).map (Value.int .i64)))(hne:lv.ownBlock≠some ob)(hL:L≠[])(hk:k=KC [] last L)(hh:W'.heap=(wr.setCell ⟨ob,1,none⟩ (.int .i64 k)).heap):aI W W' T ob lv [] last L:=by
  have hb:∀ g,g≠ob->W'.heap[g]?=wr.heap[g]?:=fun g hg=>by rw [hh];simp [World.setCell,Array.getElem?_modify,Ne.symm hg]
  have hs:W'.heap.size=wr.heap.size:=by rw [hh];simp [World.setCell]
  refine ⟨fun g hg hgo=>(hb g hgo).trans (HO.blk g hg),by rw [hs];exact HO.size,lv,⟨?_,?_,hne⟩,rfl⟩
  . rw [Kw,if_neg hL,← hk,hh];exact Uv hO
  . rw [KH,if_neg hL];exact hR.same fun j hj hlt=>(hb j (fun e=>hne (by rw [hj,e]))).trans (HO.blk j hlt)
theorem nQ {W wr W':World}{T ob:Nat}{lv Jh:Value}{t:Int}{rest:List Int}{last k:Int}{L:List Nat}(HO:IL W wr)(hO:wr.heap[ob]?=some (.cells #[lv,.int .i64 last] T (0,0)))(hR:Reads W Jh (rest.map (Value.int .i64)))(hne:Jh.ownBlock≠some ob)(hlv:Jh.ownBlock=lv.ownBlock)(hL:L≠[])(hk:k=KC (t :: rest) last L)(hh:W'.heap=((wr.setCell ⟨ob,0,none⟩ Jh).setCell ⟨ob,1,none⟩ (.int .i64 k)).heap):aI W W' T ob lv (t :: rest) last L:=by
  have hb:∀ g,g≠ob->W'.heap[g]?=wr.heap[g]?:=fun g hg=>by rw [hh];simp [World.setCell,Array.getElem?_modify,Ne.symm hg]
  have hs:W'.heap.size=wr.heap.size:=by rw [hh];simp [World.setCell]
  refine ⟨fun g hg hgo=>(hb g hgo).trans (HO.blk g hg),by rw [hs];exact HO.size,Jh,⟨?_,?_,hne⟩,hlv⟩
  . rw [Kw,if_neg hL,← hk,hh];exact Uv (aT hO)
  . rw [KH,if_neg hL];exact hR.same fun j hj hlt=>(hb j (fun e=>hne (by rw [hj,e]))).trans (HO.blk j hlt)
theorem Ab4 {v v':Value}{n:Nat}{P:Prop}(h:v'.ownBlock=v.ownBlock\/((∀ g,v'.ownBlock=some g->n<=g)/\P)):v'.ownBlock=v.ownBlock\/v'.ownBlock=none\/∃ j,v'.ownBlock=some j/\n<=j:=by
  rcases h with h|⟨h,_⟩
  . exact .inl h
  . cases e:v'.ownBlock with
    | none=>exact .inr (.inl rfl)
    | some j=>exact .inr (.inr ⟨j,rfl,h j e⟩)
section
variable {main:Bool}{Γ:Type}{S:EL Try.prog main Γ}{γ:Γ}{W:World}{cf:Frame}{cs:List Frame}
theorem iL {ob:Nat}{lv:Value}{left:List Int}{last:Int}{l:List Bool}{b o c:Nat}(ho:SB W 145 ob lv left last)(hb:∀ i u,(bools l)[i]?=some u->W.cell? ⟨b,o+i,none⟩=some u)(hlen:l.length<=1000)(Mf:LB l≠[])(hJ:∀ W',aI W W' 145 ob lv left last (LB l)->JL S.L γ (G (cf.finish (.int .i64 (KC left last (LB l)))) cs) W') :
    JL S.L γ (G (Frame.enter Try.prog 64 #[.pointer (some ⟨ob,0,none⟩),.slice (some ⟨b,o,none⟩) l.length c] .normal) (cf :: cs)) W:=by
  obtain ⟨i0,hi,hz0,hz1,hz2⟩:=info_parts QA;have hl0:0 < l.length:=by
    rcases Nat.eq_zero_or_pos l.length with h|h
    . exact absurd (by rw [List.length_eq_zero_iff.1 h];rfl) Mf
    . exact h
  have hbN:b < W.heap.size:=Et (ad:=⟨b,o+0,none⟩) (P5 hb hl0);have gP:ob < W.heap.size:=(zGE ho.1).1;have hlv:∀ k,lv.ownBlock=some k->left≠[]->k < W.heap.size:=fun k hk hleft=>by
    rcases ho.2.1 with ⟨hx,_⟩|⟨_,lb,lo,lc,hv,_,_,hcells⟩
    . exact absurd (by simpa using hx) hleft
    . rw [hv] at hk;cases hk
      cases left with
      | nil=>exact absurd rfl hleft
      | cons t r=>exact Et (hcells 0 _ rfl)
  rw [enter_at _ Try.func64 jg,show Try.f64.ntmps=82 from by kernel_rfl];walk_nrm;have HH:=Lib.hid (zAI hJ (zAI ho (zAI hb (zAI Mf (zAI hbN (zAI gP hlv))))));clear hJ ho hb Mf hbN gP hlv;refine Ei ?_;refine EL.EJ (S:=S) (b:=base 64) [] (by simp) zKR nE zKR fun W₁ ha=>?_;have hh1:W₁.heap=W.heap:=by obtain ⟨τ,d,rfl⟩:=ha;rfl
  simp only [pk0,Try.f64];gi_wp2;generalize hWA:World.alloc W₁ _=WA;have hA:WA.heap=W.heap.push (.cells #[.pointer (some ⟨ob,0,none⟩)] 124 (0,0)):=by rw [← hWA,← hh1];rfl
  try rw [hh1]
  show JL S.L γ _ WA;try dsimp only
  clear hWA hh1 ha;refine Ei ?_;refine EL.EJ (S:=S) (b:=base 64) [] (by simp) zKR nE zKR fun W₂ ha2=>?_;have J3:W₂.heap=WA.heap:=by obtain ⟨τ,d,rfl⟩:=ha2;rfl
  simp only [pk1,Try.f64];gi_wp2;generalize hWB:World.alloc W₂ _=WB;have hB:WB.heap=WA.heap.push (.cells #[Value.int .i64 0,Value.int .i64 0,Value.int .i64 0,Value.int .i64 0,Value.int .i64 0,Value.int .i64 0,Value.int .i64 0,Value.int .i64 0] 146 (0,0)):=by rw [← hWB,← J3];rfl
  have hs1:WA.heap.size=W.heap.size+1:=by rw [hA];simp
  have hs2:W₂.heap.size=W.heap.size+1:=by rw [J3,hs1]
  first | rw [hs2] | rw [hs1] | skip
  show JL S.L γ _ WB;try dsimp only
  clear hWB J3 ha2;refine Ei ?_;refine EL.EJ (S:=S) (b:=base 64) [] (by simp) zKR nE zKR fun W₃ LA=>?_;have hh3:W₃.heap=WB.heap:=by obtain ⟨τ,d,rfl⟩:=LA;rfl
  simp only [pk2,Try.f64];gi_wp2;show JL S.L γ _ W₃;try dsimp only
  refine Ei ?_;refine EL.EJ (S:=S) (b:=base 64) [] (by simp) zKR nE zKR fun W₄ sG=>?_;have Ze:W₄.heap=WB.heap:=by rw [← hh3];obtain ⟨τ,d,rfl⟩:=sG;rfl
  clear LA sG hh3;have hz:W₄.heap.size=W.heap.size+2:=by rw [Ze,hB,hA];simp
  have yF:IL W W₄:=⟨fun g hg=>by rw [Ze,hB,hA,Array.getElem?_push,Array.getElem?_push];rw [if_neg (by simp;omega),if_neg zOM],by omega⟩
  have q0:W₄.heap[W.heap.size]?=some (.cells #[.pointer (some ⟨ob,0,none⟩)] 124 (0,0)):=by rw [Ze,hB,hA,Array.getElem?_push,Array.getElem?_push];rw [if_neg (by simp),if_pos rfl]
  have q1:W₄.heap[W.heap.size+1]?=some (.cells #[Value.int .i64 0,Value.int .i64 0,Value.int .i64 0,Value.int .i64 0,Value.int .i64 0,Value.int .i64 0,Value.int .i64 0,Value.int .i64 0] 146 (0,0)):=by rw [Ze,hB,hA,Array.getElem?_push];rw [if_pos (by simp)]
  have hG0:QW W₄ W₄ W.heap.size ob l (.slice (some ⟨W.heap.size+1,0,none⟩) 0 8) 0:=
    ⟨⟨146,by simp [M9],.inr ⟨W.heap.size+1,8,_,rfl,Nat.le_refl _,q1,by simp [M9],by unfold maxLen;omega,rfl,by simp [M9]⟩⟩,
      Below.refl _ _,by omega,q0,fun g hg=>by cases hg;exact Nat.le_refl _⟩
  clear hA hB Ze;generalize hN:W.heap.size=N at *;have H1:=Lib.hid (zAI hN (zAI yF hz));clear hN yF hz;have hHB:∀ i u,(bools l)[i]?=some u->W₄.cell? ⟨b,o+i,none⟩=some u:=fun i u hu=>by rw [H1.out.2.1.cell (by show b < _;rw [H1.out.1];exact HH.out.2.2.2.2.1)];exact HH.out.2.2.1 i u hu
  have hbN:=HH.out.2.2.2.2.1;have HB:=Lib.hid hHB;clear hHB q0 q1;simp only [pkL,Yo,Try.f64];gi_wp2;gi_loopw [6,15] (fun v i wr=>∃ k:Nat,k<=l.length/\i=.int .i64 k/\QW W₄ wr N ob l v k) (fun _ i _=>l.length - (intOf i).toNat)
  case atStart=>exact ⟨0,by omega,rfl,hG0⟩
  case round=>
    clear hG0;obtain ⟨k,hk,rfl,hG⟩:=hrel;by_cases hlt:k < l.length
    . have yw:=Uk l k;have hbig:=hG.big;cases hv:l.getD k false with
      | true=>
        have hcx:wr.cell? ⟨b,o+k,none⟩=some (.bool true):=by rw [hG.below.cell (by exact hbN)];rw [← hv];exact P5 HB.out hlt
        have HV:=Lib.hid hv;clear hv;gi_wp2_with (gi_at_builtin;refine GZ _ rfl _ _ 22 rfl (N+1) 3 i0 (.int .i64 0) 1 8 Try.underlying22 hi hz0 hz1 hz2 rfl (by decide) _ _ _ rfl (hG.own.alloc _) ⟨wr.heap.size,0,none⟩ 1 1 [.int .i64 k] rfl rfl ?c1 ?c2 ?c3 ?c4 ?c5 ?_)
        case c1=>exact cell_one_new _ _ _
        case c2=>intro u hu;simp at hu;subst hu;rfl
        case c3=>unfold maxLen;omega
        case c4=>omega
        case c5=>simp;omega
        intro v' w1 h1 h2 h3;have hG':=hG.hit HV.out h1 h2 (by simpa using Ab4 h3);clear h1 h2 h3 hG hcx;gi_wp2;go_roundw
        case rel=>exact ⟨k+1,by omega,by go_num,hG'⟩
        case measure=>simp [intOf];omega
      | false=>
        have hcx:wr.cell? ⟨b,o+k,none⟩=some (.bool false):=by rw [hG.below.cell (by exact hbN)];rw [← hv];exact P5 HB.out hlt
        have HV:=Lib.hid hv;clear hv;gi_wp2;go_roundw
        case rel=>exact ⟨k+1,by omega,by go_num,hG.miss HV.out⟩
        case measure=>simp [intOf];omega
    . obtain rfl:k=l.length:=by omega
      obtain ⟨hJ,ho,hb,Mf,_,gP,hlv⟩:=HH.out;obtain ⟨hN,yF,hz⟩:=H1.out;clear HH H1 HB;rcases hG.done with ⟨h,_⟩|⟨rb,ro,rc,rfl,hpos,hcap,hrb,hr3⟩
      . exact absurd h Mf
      have Zf:IL W wr:=yF.below hG.below (by rw [hN];exact Nat.le_refl _);have jU:=hG.box;have hLl:(LB l).length<=l.length:=Uk l l.length;clear hG yF;generalize LB l=L at *;have HH:=Lib.hid (zAI hJ (zAI ho (zAI Mf (zAI hlv (zAI Zf (zAI hN hr3))))));clear hJ ho hb Mf hlv Zf hN hr3;gi_wp2;obtain ⟨hJ,ho,Mf,hlv,Zf,hN,hr3⟩:=HH.out;clear HH;subst hN;show JL S.L γ _ wr;try dsimp only
      refine Ei ?_;simp only [pk9,Yo,Try.f64];refine EH fun _ hkk=>?_;iterate 3 (refine Eo ?_;walk_nrm)
      refine EB ?_;cases hkk;refine Ei ?_;simp only [yU,Yo,Try.f64];refine Ei ?_;refine EH fun _ hkk=>?_;iterate 2 (refine Eo ?_;walk_nrm)
      refine EB ?_;cases hkk;refine JL.Ey (by simp [Act.eval];omega) ?_;refine Er stepG_skip ?_;have hO:wr.heap[ob]?=some (.cells #[lv,.int .i64 last] 145 (0,0)):=by rw [Zf.blk ob gP];exact ho.1
      refine Ei ?_;cases left with
      | cons t rest=>
        rcases ho.2.1 with ⟨h,_⟩|⟨_,lb,lo,lc,rfl,hl1,hl2,hl3⟩
        . simp at h
        simp only [List.length_map,List.length_cons] at *;have Acp:lb < W.heap.size:=hlv lb rfl (by simp);have Acy:lb≠ob:=fun e=>ho.2.2 (by rw [← e];rfl);have hcl:wr.cell? ⟨lb,lo,none⟩=some (.int .i64 t):=by rw [Zf.cell (ad:=⟨lb,lo,none⟩) Acp];exact hl3 0 _ rfl
        obtain ⟨x,hx⟩:∃ x,at_ t L.length=x:=⟨_,rfl⟩
        have hxl:x < L.length:=by rw [← hx];exact j5 t L.length hpos
        obtain ⟨y,hy⟩:∃ y,L.getD x 0=y:=⟨_,rfl⟩
        have hcx:=hr3 x hxl;rw [hy] at hcx;obtain ⟨hm2,hm1,hm3,hm4⟩:=kV t L.length hpos;have hxe:(t.tmod (L.length:Int)+(L.length:Int)) % (L.length:Int)=(x:Int):=by rw [← hx,at_,Int.toNat_of_nonneg hm3]
        have hk:(y:Int)=KC (t :: rest) last L:=by
          rw [KC,if_neg Mf];show _=((L.getD (at_ t L.length) 0:Nat):Int)
          rw [hx,hy]
        have hRt:=VX (w:=W) (rest:=rest) hl1 hl2 (fun i u hu=>hl3 i u hu);have hL1:L.length≠0:=by omega
        have hL2:(1:Int)<=(rest.length:Int)+1:=by omega
        refine EL.EJ (S:=S) (b:=base 64) [] (by simp) zKR nE zKR fun W₅ TH=>?_;have ML:W₅.heap=wr.heap:=by obtain ⟨τ,d,rfl⟩:=TH;rfl
        have c0:W₅.cell? ⟨W.heap.size,0,none⟩=some (.pointer (some ⟨ob,0,none⟩)):=by simp [World.cell?,ML,jU]
        have c1:W₅.cell? ⟨ob,0,none⟩=some (.slice (some ⟨lb,lo,none⟩) (rest.length+1) lc):=by simp [World.cell?,ML,hO]
        have c2:W₅.cell? ⟨lb,lo,none⟩=some (.int .i64 t):=by simp only [World.cell?,ML] at hcl ⊢;exact hcl
        have c3:W₅.cell? ⟨rb,ro+x,none⟩=some (.int .i64 y):=by simp only [World.cell?,ML] at hcx ⊢;exact hcx
        have c4:W₅.cell? ⟨ob,1,none⟩=some (.int .i64 last):=by simp [World.cell?,ML,hO]
        have f0:W₅.frozen? ⟨ob,0,none⟩=false:=by simp [World.frozen?,ML,hO]
        have f1:W₅.frozen? ⟨ob,1,none⟩=false:=by simp [World.frozen?,ML,hO]
        obtain ⟨Jh,bI⟩:∃ x,Value.slice (if lc=1 then some ⟨lb,lo,none⟩ else some ⟨lb,lo+1,none⟩) rest.length (lc - 1)=x:=⟨_,rfl⟩
        rw [bI] at hRt;have hlo:Jh.ownBlock=some lb:=by rw [← bI];split <;> rfl
        have hfin:=fun (W':World) (hh:W'.heap=((wr.setCell ⟨ob,0,none⟩ Jh).setCell ⟨ob,1,none⟩ (.int .i64 y)).heap)=>
          hJ W' (nQ Zf hO hRt (by rw [hlo];intro h;cases h;exact Acy rfl) (by rw [hlo];rfl) Mf hk hh)
        rw [← hk] at hfin;have HH:=Lib.hid (zAI hfin (zAI ML bI));clear hJ hfin ho hlv Mf Zf hr3 hRt hlo hO hcl hcx hl3 hk hx hy jU ML bI TH hm3 hm4;simp only [mV,Yo,Try.f64];gi_wp2;gi_region
        simp only [HH.out.2.2];gi_wp2;gi_region
        gi_wp2;intro Y;obtain ⟨hfin,ML,bI⟩:=HH.out;exact JL.back rfl Try.func64 (v:=.int .i64 (y:Int)) (fun w=>by kernel_rfl) (hfin _ (by simp only [World.setCell,ML];rfl))
      | nil=>
        rcases ho.2.1 with ⟨_,lo,lc,rfl,hl1,hl2⟩|⟨h,_⟩
        rotate_left
        . simp at h
        refine EL.EJ (S:=S) (b:=base 64) [] (by simp) zKR nE zKR fun W₅ TH=>?_;have ML:W₅.heap=wr.heap:=by obtain ⟨τ,d,rfl⟩:=TH;rfl
        have c0:W₅.cell? ⟨W.heap.size,0,none⟩=some (.pointer (some ⟨ob,0,none⟩)):=by simp [World.cell?,ML,jU]
        have c1:W₅.cell? ⟨ob,0,none⟩=some (.slice lo 0 lc):=by simp [World.cell?,ML,hO]
        have c4:W₅.cell? ⟨ob,1,none⟩=some (.int .i64 last):=by simp [World.cell?,ML,hO]
        have HH:=Lib.hid (zAI hJ (zAI ML (zAI Zf (zAI hO (zAI hr3 (zAI Mf (zAI ho (zAI c0 c4))))))));clear hJ ML Zf hO hr3 Mf ho hlv jU TH;simp only [mV,Yo,Try.f64];gi_wp2;obtain ⟨hJ,ML,Zf,hO,hr3,Mf,ho,c0,c4⟩:=HH.out;clear HH;show JL S.L γ _ W₅;try dsimp only
        refine Ei ?_;simp only [uR,Yo,Try.f64];refine EH fun _ hkk=>?_
        (refine Eo ?_;walk_nrm)
        refine JL.Ii (.func (.func 80) #[] #[.pointer (some ⟨W.heap.size,0,none⟩)]) rfl rfl nE (fun _=>by kernel_rfl) ?_;walk_nrm;refine JL.enter rfl rfl nE rfl Try.func79 zKR zKR ?_;walk_nrm;refine tZ zOM c0 c4 (fun j hj=>by have:=hr3 j hj;simp only [World.cell?,ML] at this ⊢;exact this) ?_;rw [Frame.finish_at];walk_nrm
        (refine Eo ?_;walk_nrm)
        refine EB ?_;cases hkk;obtain ⟨x,hxl,hmx,hnx⟩:=Z8 last L hpos;obtain ⟨y,hy⟩:∃ y,L.getD x 0=y:=⟨_,rfl⟩
        have hcx:=hr3 x hxl;rw [hy] at hcx;have hk:(y:Int)=KC [] last L:=by
          rw [KC,if_neg Mf];show _=((Yq last L:Nat):Int)
          rw [hnx,hy]
        refine EL.EJ (S:=S) (b:=base 64) [] (by simp) zKR nE zKR fun W₆ wI=>?_;have kR:W₆.heap=wr.heap:=by rw [← ML];obtain ⟨τ,d,rfl⟩:=wI;rfl
        have d0:W₆.cell? ⟨W.heap.size,0,none⟩=some (.pointer (some ⟨ob,0,none⟩)):=by simp only [World.cell?,kR,← ML] at c0 ⊢;exact c0
        have d3:W₆.cell? ⟨rb,ro+x,none⟩=some (.int .i64 y):=by simp only [World.cell?,kR] at hcx ⊢;exact hcx
        have d4:W₆.cell? ⟨ob,1,none⟩=some (.int .i64 last):=by simp only [World.cell?,kR,← ML] at c4 ⊢;exact c4
        have f1:W₆.frozen? ⟨ob,1,none⟩=false:=by simp [World.frozen?,kR,hO]
        have hfin:=fun (W':World) (hh:W'.heap=(wr.setCell ⟨ob,1,none⟩ (.int .i64 y)).heap)=>hJ W' (rJ Zf hO (.inl ⟨rfl,_,_,rfl,hl1,hl2⟩) ho.2.2 Mf hk hh);rw [← hk] at hfin;have HH:=Lib.hid (zAI hfin kR);clear hJ hfin ho Mf Zf hr3 hO hcx hk hy ML kR wI c0 c4 c1 hnx;generalize ix last L=iv at *;simp only [wG,Yo,Try.f64];gi_wp2;gi_region
        gi_wp2;intro Y;obtain ⟨hfin,kR⟩:=HH.out;exact JL.back rfl Try.func64 (v:=.int .i64 (y:Int)) (fun w=>by kernel_rfl) (hfin _ (by simp only [World.setCell,kR];rfl))
end
end
end Go.Proofs.Yticecinjcajmcaa
namespace Go.Proofs.Yticecinjcajmcaa
open Go Go.RowKit BA
theorem Lu {F:Fence}{n:Nat}{P:Program}(w:World){ops:Array Oper}{rest:List Oper}{o:Oper}{a:Act}{Q:Exit->Act->World->Prop}(hg:o.guard=none)(s x:Operand)(t:TypeId)(hop:o.op=Op.call { callee:=Callee.builtin Builtin.append,args:=#[s,x],argTypes:=#[t,t] })(base:Nat)(e:TypeId)(i:TypeInfo)(z:Value)(bytes:Nat)(h1:P.underlying t=some (.slice e))(h2:P.info? e=some i)(h3:i.zero=some z)(h4:i.size=1)(h5:i.bytes=bytes)(h6:z.cells.size=1)(v:Value)(k:Nat)(xs:List Value)(hs:a.eval s=v)(hown:Fa w base 1 v k xs)(sv:Value)(ys:List Value)(hx:a.eval x=sv)(hr:Reads w sv ys)(h1c:∀ u∈ys,u.oneCell'=true)(b1:k+ys.length<=maxLen)(b2:(k+ys.length) * bytes<=140737488355328)(b3:base<=w.heap.size)(hK:∀ v' w',Fa w' base 1 v' (k+ys.length) (xs ++ ys)->w.grownBy w' v.ownBlock->(v'.ownBlock=v.ownBlock\/v'.ownBlock=none\/∃ g,v'.ownBlock=some g/\w.heap.size<=g)->wpListIn F n P ops Q rest (a.put o.dst v') w') :
    wpListIn F n P ops Q (o :: rest) a w:=by
  refine wpListIn_plain hg fun K hK'=>?_;obtain ⟨v',w',hrun,r1,r2,r3⟩:=Oj (P:=P) w base t o.type e i z bytes h1 h2 h3 h4 h5 h6 v k xs hown sv ys hr h1c b1 b2 b3;unfold Oper.wpIn;refine ⟨?_,?_⟩
  . simp [Oper.about,hop,resolve,Target.leads,Sem.run_pure]
  . rw [Oper.semAt_plain F _ _ (by rw [hop];intro c hc';cases hc')]
    simp [execOp,hop,resolve,invoke,builtin,hs,hx,hrun,Result.andThen];exact hK' _ _ (hK v' w' r1 r2 r3)
theorem YP (xs:List Int):∀ u∈xs.map (Value.int .i64),u.oneCell'=true:=by intro u hu;rw [List.mem_map] at hu;obtain ⟨x,_,rfl⟩:=hu;rfl
theorem Ue {w:World}{v:Value}{xs:List Int}(h:Reads w v (xs.map (Value.int .i64))):∃ ao c,v=.slice ao xs.length c:=by obtain ⟨ao,c,h⟩:=h.shape;exact ⟨ao,c,by rw [h,List.length_map]⟩
def rV (w:World)(xs:List Int)(e:Ending)(w':World):Prop:=
  ∃ ao c,e=.returned (.slice ao xs.length c)/\Reads w' (.slice ao xs.length c) (xs.map (Value.int .i64))/\Below w.heap.size w w'/\∀ k,(Value.slice ao xs.length c).ownBlock=some k->w.heap.size<=k/\k < w'.heap.size/\∃ c e f,w'.heap[k]?=some (.cells c e f)
theorem cB {w:World}{base size n:Nat}{v:Value}{xs:List Value}(h:Fa w base size v n xs){g:Nat}(hg:v.ownBlock=some g):∃ c e f,w.heap[g]?=some (.cells c e f):=by
  obtain ⟨te,_,⟨rfl,_⟩|⟨g',cap,cur,rfl,_,h1,_⟩⟩:=h
  . cases hg
  . cases hg
    exact ⟨_,_,_,h1⟩
theorem Zv (sv:Value)(xs:List Int)(w:World)(hr:Reads w sv (xs.map (Value.int .i64)))(hlen:xs.length<=1000000000) :
    CallsIn (Fence.list [34,62,78] none) 0 Try.prog 78 #[sv] w (rV w xs):=by
  obtain ⟨i0,hi,hz0,hz1,hz2⟩:=info_parts QA;have hrr:=hr;have hml:(xs.map (Value.int .i64)).length=xs.length:=by simp
  have key:∀ (ao:Option Addr) (n c:Nat),sv=.slice ao n c->∀ wx,(binOp .eql 22 (.slice ao n c) (.slice none 0 0)).run Try.prog wx=.ok (.bool ao.isNone) wx:=fun ao n c _ wx=>Lib.run_eql_slice_nil wx 22 3 ao n c 0 0 Try.underlying22;have hsh:∃ ao n c,sv=.slice ao n c/\(ao=none->xs=[]):=by
    rcases hr with ⟨h,ao,c,hv,_,_⟩|⟨_,b,o,c,hv,_⟩
    . exact ⟨ao,0,c,hv,fun _=>by simpa using h⟩
    . exact ⟨_,_,c,hv,fun h=>by cases h⟩
  obtain ⟨ao,n,c,rfl,hnil⟩:=hsh;have hk:=key ao n c rfl;clear key;cases ao with
  | none=>
    obtain rfl:=hnil rfl;gi_enter Try.func78,Try.ntmps78
    gi_wp2;go_ret
    exact ⟨none,0,rfl,.inl ⟨rfl,none,0,rfl,by unfold maxLen;omega,fun _=>rfl⟩,Below.refl _ _,fun k hk=>by cases hk⟩
  | some a=>
    have HH:=Lib.hid hrr;clear hrr hr hml hnil;gi_enter Try.func78,Try.ntmps78
    have hre:=fun (o:Obj)=>HH.out.same (w':=w.alloc o) fun k _ hlt=>Below.heap_alloc _ _ _ hlt;have HRE:=Lib.hid hre;clear hre;gi_wp2_with (gi_at_builtin;refine Lu _ rfl _ _ 22 rfl w.heap.size 3 i0 (.int .i64 0) 8 Try.underlying22 hi hz0 hz1 hz2 rfl _ 0 [] rfl ?c0 _ (xs.map (Value.int .i64)) rfl (HRE.out _) (YP xs) ?c3 ?c4 ?c5 ?_)
    case c0=>have:=World.ownsRow_made (base:=w.heap.size) (e:=3) (size:=1) w #[] 0 (Nat.le_refl _) (by unfold maxLen;omega) (by simp);exact ⟨_,this⟩
    case c3=>simp;unfold maxLen;omega
    case c4=>simp;omega
    case c5=>simp
    intro v' w1 h1 h2 h3;have hb:=fun k hk=>zAI (h1.blk k hk).1 (zAI (h1.blk k hk).2 (cB h1 hk));have hbel:Below w.heap.size w w1:=((Below.refl _ _).alloc (Nat.le_refl _) _).grown h2 (by simp) (fun k hk=>by cases hk;exact Nat.le_refl _);have hre:=h1.reads;obtain ⟨ao',c',rfl⟩:=Ue hre;clear h1 h2 h3;gi_wp2;go_ret
    exact ⟨ao',c',rfl,hre,hbel,hb⟩
def cu (T:TypeId)(w:World)(left:List Int)(last:Int)(e:Ending)(w':World):Prop:=
  ∃ b lv,e=.returned (.pointer (some ⟨b,0,none⟩))/\SB w' T b lv left last/\Below w.heap.size w w'/\w.heap.size<=b/\∀ k,lv.ownBlock=some k->w.heap.size<=k/\k < w'.heap.size/\∃ c e f,w'.heap[k]?=some (.cells c e f)
theorem je {w w1:World}{T:TypeId}{v:Value}{left:List Int}{last:Int}(hr:Reads w1 v (left.map (Value.int .i64)))(hb:Below w.heap.size w w1)(hf:∀ k,v.ownBlock=some k->w.heap.size<=k/\k < w1.heap.size) :
    SB (w1.alloc (.cells #[v,.int .i64 last] T)) T w1.heap.size v left last/\Below w.heap.size w (w1.alloc (.cells #[v,.int .i64 last] T)):=
  ⟨⟨heap_alloc_new _ _,hr.same fun k _ hlt=>Below.heap_alloc _ _ _ hlt,fun h=>by have:=(hf _ h).2;omega⟩,hb.alloc hb.size _⟩
theorem nH (sv:Value)(xs:List Int)(w:World)(hr:Reads w sv (xs.map (Value.int .i64)))(hlen:xs.length<=1000000000) :
    CallsIn (Fence.list [34,62,78] none) 0 Try.prog 62 #[sv] w (cu 145 w xs (-1)):=by
  gi_enter Try.func62,Try.ntmps62
  gi_wp2_with (gi_at_call 78;refine (Zv _ xs _ hr hlen).mono ?_;rintro e w1 ⟨ao,c,rfl,hr1,hb1,hf1⟩)
  go_ret
  have:=je (T:=145) (last:=-1) hr1 hb1 (fun k hk=>⟨(hf1 k hk).1,(hf1 k hk).2.1⟩);exact ⟨w1.heap.size,_,rfl,this.1,this.2,hb1.size,fun k hk=>⟨(hf1 k hk).1,by have:=(hf1 k hk).2.1;simp;omega,by obtain ⟨c,e,f,hc⟩:=(hf1 k hk).2.2;exact ⟨c,e,f,by rw [Below.heap_alloc _ _ _ (hf1 k hk).2.1];exact hc⟩⟩⟩
end Go.Proofs.Yticecinjcajmcaa
namespace Go.LT
open Go Go.Conc
section
structure Y6 (tm:Array Value)(s0:Nat)(vs:List Value)(l:Array Bool)(a:Act):Prop where
  ds:a.defers=[]
  size:a.tmps.size=tm.size
  low:∀ s,s < s0->a.tmps[s]?=tm[s]?
  val:∀ j v,l[j]?=some true->vs[j]?=some v->a.tmps[s0+j]?=some v
def ES (W0:World):List (Nat × World)->Array Bool->World
  | [],_=>W0
  | (c,w) :: t,l=>ES (if l[c]?=some true then w else W0) t l
theorem E8 {i:Nat}{l:Array Bool}:∀ (cs:List (Nat × World)) (W0:World),¬ i∈cs.map Prod.fst->ES W0 cs (l.setIfInBounds i true)=ES W0 cs l:=by
  intro cs;induction cs with
  | nil=>intro W0 _;rfl
  | cons x t ih=>
    intro W0 h;obtain ⟨c,w⟩:=x;simp only [List.map_cons,List.mem_cons,not_or] at h;simp only [ES,Array.getElem?_setIfInBounds_ne h.1];exact ih _ h.2
theorem Nw {l:Array Bool}:∀ (cs:List (Nat × World)) (W0:World),ES W0 cs l=W0\/∃ c w,(c,w)∈cs/\l[c]?=some true/\ES W0 cs l=w:=by
  intro cs;induction cs with
  | nil=>intro W0;exact .inl rfl
  | cons x t ih=>
    intro W0;obtain ⟨c,w⟩:=x;simp only [ES];by_cases h:l[c]?=some true
    . rw [if_pos h];rcases ih w with e|⟨c',w',hm,hl,e⟩
      . exact .inr ⟨c,w,by simp,h,e⟩
      . exact .inr ⟨c',w',by simp [hm],hl,e⟩
    . rw [if_neg h];rcases ih W0 with e|⟨c',w',hm,hl,e⟩
      . exact .inl e
      . exact .inr ⟨c',w',by simp [hm],hl,e⟩
theorem G8 {l:Array Bool}:∀ (cs:List (Nat × World)) (W0:World),(∀ c w,(c,w)∈cs->l[c]?≠some true)->ES W0 cs l=W0:=by
  intro cs;induction cs with
  | nil=>intro W0 _;rfl
  | cons x t ih=>
    intro W0 h;obtain ⟨c,w⟩:=x;simp only [ES];rw [if_neg (h c w (by simp))];exact ih _ fun c' w' hm=>h c' w' (by simp [hm])
theorem FK {l:Array Bool}{c:Nat}{w:World}{t:List (Nat × World)}(hc:l[c]?=some true)(ht:∀ c w,(c,w)∈t->l[c]?≠some true):∀ (cs:List (Nat × World)) (W0:World),ES W0 (cs ++ (c,w) :: t) l=w:=by
  intro cs;induction cs with
  | nil=>
    intro W0;simp only [List.nil_append,ES,if_pos hc];exact G8 _ _ ht
  | cons x s ih=>
    intro W0;obtain ⟨c',w'⟩:=x;simp only [List.cons_append,ES];exact ih _
section
variable {F:Fence}{n:Nat}{P:Program}{ops:Array Oper}{Q:Exit->Act->World->Prop}
theorem Y6.put {tm:Array Value}{s0 N:Nat}{vs:List Value}{l:Array Bool}{a:Act}(h:Y6 tm s0 vs l a){i:Nat}{v:Value}(hi:vs[i]?=some v)(hfit:s0+vs.length<=tm.size):Y6 tm s0 vs (l.setIfInBounds i true) (a.put (some (s0+i)) v):=by
  have hlt:i < vs.length:=(List.getElem?_eq_some_iff.1 hi).1;refine ⟨h.ds,by simp [Act.put,h.size],fun s hs=>?_,fun j u hj hu=>?_⟩
  . show (a.tmps.setIfInBounds (s0+i) v)[s]?=_;rw [Array.getElem?_setIfInBounds_ne zOM];exact h.low s hs
  . show (a.tmps.setIfInBounds (s0+i) v)[s0+j]?=_;by_cases e:i=j
    . subst e;rw [Array.getElem?_setIfInBounds_self_of_lt (by rw [h.size];omega)];rw [hi] at hu;exact hu
    . rw [Array.getElem?_setIfInBounds_ne zOM];rw [Array.getElem?_setIfInBounds_ne e] at hj;exact h.val j u hj hu
theorem Y6.skip {tm:Array Value}{s0:Nat}{vs:List Value}{l:Array Bool}{a:Act}(h:Y6 tm s0 vs l a){i:Nat}(hi:vs.length<=i):Y6 tm s0 vs (l.setIfInBounds i true) (a.put none undef):=
  ⟨h.ds,h.size,h.low,fun j u hj hu=>by have hlt:j < vs.length:=(List.getElem?_eq_some_iff.1 hu).1;rw [Array.getElem?_setIfInBounds_ne zOM] at hj;exact h.val j u hj hu⟩
theorem P7 {id:Nat}{tm:Array Value}{w:World}{s0 N:Nat}{vs:List Value}(cs:List (Nat × World))(hF:F.round=none)(hm:P.follows .mixedOrders=true)(Jy:∀ (i:Nat) (o:Oper),ops[i]?=some o->∀ e∈o.after,e.on < i)(hsz:ops.size=N+1)(hvs:vs.length=N)(hfit:s0+N<=tm.size)(hg:∀ (i:Nat) (o:Oper),ops[i]?=some o->o.guard=none/\o.dst=if i=N then none else some (s0+i))(hop:∀ (l:Array Bool) (a:Act) (i:Nat) (o:Oper),Y6 tm s0 vs l a->l.size=N+1->Down .any ops l->l[i]?=some false->ops[i]?=some o->(∀ e∈o.after,Region.binds .any e=true->l[e.on]?=some true)->
      o.about P (ES w.drew cs l) a.eval=none/\(if i=N then (execOp a.eval o).run P (ES w.drew cs l)=.ok .skip (ES w.drew cs (l.setIfInBounds i true)) else ∃ v,vs[i]?=some v/\(execOp a.eval o).run P (ES w.drew cs l)=.ok (.value v) (ES w.drew cs (l.setIfInBounds i true))))(hend:∀ (l:Array Bool) (a:Act),Y6 tm s0 vs l a->(∀ i,i < N+1->l[i]?=some true)->Q .normal a (ES w.drew cs l)):(Code.region id ops true).wpIn F n P Q ⟨tm,[]⟩ w:=by
  have hrep:∀ j,(Array.replicate ops.size false)[j]?≠some true:=fun j hj=>by rw [Array.getElem?_replicate] at hj;split at hj <;> cases hj
  refine UR (I:=fun l a w'=>Y6 tm s0 vs l a/\w'=ES w.drew cs l) hm Jy ⟨⟨rfl,rfl,fun _ _=>rfl,fun j v hj=>absurd hj (hrep j)⟩,(G8 _ _ fun c _ _=>hrep c).symm⟩ ?_ ?_
  . rintro l a w' i o ⟨hI,rfl⟩ hl hd hb ho hod;rw [hsz] at hl;obtain ⟨g1,g2⟩:=hg i o ho;obtain ⟨r1,r2⟩:=hop l a i o hI hl hd hb ho hod;by_cases hi:i=N
    . rw [if_pos hi] at r2 g2;refine RP hF ho g1 r1 r2 ⟨?_,rfl⟩;rw [g2];exact hI.skip zOM
    . rw [if_neg hi] at r2 g2;obtain ⟨v,hv,r2⟩:=r2;refine FL hF ho g1 r1 r2 ⟨?_,rfl⟩;rw [g2];exact hI.put (N:=N) hv zOM
  . rintro l a w' ⟨hI,rfl⟩ hl hall;rw [hsz] at hall;exact hend l a hI hall
end
def EM (o:Oper):List Nat:=(o.after.toList.filter (Region.binds .any)).map (·.on)
theorem Nc {o:Oper}{l:Array Bool}{i:Nat}(h:i∈EM o)(hl:∀ e∈o.after,Region.binds .any e=true->l[e.on]?=some true):l[i]?=some true:=by obtain ⟨e,he,rfl⟩:=List.mem_map.1 h;rw [List.mem_filter] at he;exact hl e (Array.mem_toList_iff.1 he.1) he.2
theorem EF {ops:Array Oper}{l:Array Bool}{i j:Nat}{ws:List Nat}(hw:(ops[i]?).map EM=some ws)(hd:Down .any ops l)(h:l[i]?=some true)(hj:j∈ws):l[j]?=some true:=by
  cases ho:ops[i]? with
  | none=>rw [ho] at hw;cases hw
  | some o=>
    rw [ho] at hw;exact Nc (by rw [Option.some.inj hw];exact hj) (hd i o ho h)
theorem Ep {ops:Array Oper}{l:Array Bool}{i j:Nat}{o:Oper}{ws:List Nat}(hw:(ops[i]?).map EM=some ws)(ho:ops[i]?=some o)(hod:∀ e∈o.after,Region.binds .any e=true->l[e.on]?=some true)(hj:j∈ws):l[j]?=some true:=by rw [ho] at hw;exact Nc (by rw [Option.some.inj hw];exact hj) hod
end
section
section
variable [Host]
variable {P:Program}{main:Bool}{Γ:Type}{S:EL P main Γ}{γ:Γ}{W:World}
theorem EL.nC {f:FuncId}{κ:CallKind}{k:List Item}{cs:List Frame}{ds:List Deferred}{tm:Array Value}{ops:Array Oper}(L:List FuncId)(hL:∀ f∈L,Lets P f)(hf:f∈L)(hκ:κ≠.early)(is rest:List Nat)(hok:FH P (.inRegion ops is)=true)(h:∀ W₁,Alike W W₁->wpOpsIn (Fence.list L none) 0 P ops (Behind S γ fun tm=>G (FT f tm (.inRegion ops rest :: k) ds .run κ) cs) is ⟨tm,[]⟩ W₁):JW S.base γ (G (FT f tm (.inRegion ops (is ++ rest) :: k) ds .run κ) cs) W:=by
  intro w hw;refine S.way _ _ _ ((SL (R:=S.R γ) (D:=S.D γ) (F:=(·∈L)) (Fn:=Fence.list L none) (n:=0) (tm:=tm) (Q:=Behind S γ fun tm=>G (FT f tm (.inRegion ops rest :: k) ds .run κ) cs) (S.turns γ) (S.kept γ) hL (fun _ h=>h) rfl rfl rfl hf hκ hok (l':=rest) (k:=k) (ds:=ds) (cs:=cs) hw.2 (fun e a w q=>.inl q.1) fun τ=>?_).mono fun g w' hst=>?_)
  . obtain ⟨⟨τ',d',rfl⟩,_⟩:=hw;exact h _ ⟨τ,0,rfl⟩
  . obtain ⟨e,tm',τ,d,hR,⟨rfl,hq⟩,hg⟩:=hst;have hs:GQ (S.B γ) w' (sh (D7 (S.B γ) w') τ d):=⟨⟨τ,d,rfl⟩,hR⟩
    exact hg ▸ hq w' hs
end
section
variable {F:Fence}{n:Nat}{P:Program}{Q:Exit->Act->World->Prop}
theorem QE {ops Il:Array Oper}:∀ (l:List Nat),(∀ i∈l,Il[i]?=ops[i]?/\∀ o,ops[i]?=some o->o.guard=none)->∀ a w,wpOpsIn F n P Il Q l a w->wpOpsIn F n P ops Q l a w:=by
  intro l;induction l with
  | nil=>intro _ a w h;simpa [wpOpsIn] using h
  | cons i l ih=>
    intro hl a w h;have hi:=hl i (by simp);rw [wpOpsIn_cons] at h ⊢;have h2:wpOpIn F n P ops Q i (wpOpsIn F n P Il Q l) a w:=by
      unfold wpOpIn at h ⊢;rw [hi.1] at h;cases ho:ops[i]? with
      | none=>rw [ho] at h;exact h
      | some o=>
        rw [ho] at h;have hg:=hi.2 o ho;simp only [Region.wanted,hg] at h ⊢;exact h
    exact wpOpIn_mono (fun a w h=>ih (fun j hj=>hl j (by simp [hj])) a w h) h2
end
theorem vY {md:Region.Mode}{ops:Array Oper}:∀ (fuel t:Nat) (listed:Array Bool) (acc:List Nat),(∀ i∈acc,i < ops.size)->∀ i∈Region.linearise.go md ops fuel t listed acc,i < ops.size:=by
  intro fuel;induction fuel with
  | zero=>intro t listed acc h i hi;simp [Region.linearise.go] at hi;exact h i hi
  | succ fuel ih=>
    intro t listed acc h i hi;simp only [Region.linearise.go] at hi;change i∈(match (Region.ready md ops listed)[t % (Region.ready md ops listed).length]? with
      | some i=>Region.linearise.go md ops fuel (t / (Region.ready md ops listed).length) (listed.setIfInBounds i true) (i :: acc)
      | none=>acc.reverse) at hi
    cases hr:(Region.ready md ops listed)[t % (Region.ready md ops listed).length]? with
    | none=>rw [hr] at hi;exact h i (by simpa using hi)
    | some j=>
      rw [hr] at hi;refine ih _ _ _ (fun x hx=>?_) i hi;rcases List.mem_cons.1 hx with rfl|hx
      . obtain ⟨_,o,ho,_⟩:=mem_ready.1 (List.mem_of_getElem? hr);exact (zGE ho).1
      . exact h x hx
theorem NK {md:Region.Mode}{ops:Array Oper}{t:Nat}:∀ i∈Region.linearise md ops t,i < ops.size:=by unfold Region.linearise;exact vY _ _ _ _ (by simp)
section
variable {P:Program}{main:Bool}{Γ:Type}{S:EL P main Γ}{γ:Γ}{W:World}
theorem R5 (B:Hid)(w:World):Kept B w { w with drawn:=w.drawn+1 }:=⟨rfl,rfl,rfl,Nat.le_succ _,Nat.le_refl _,fun _ _=>rfl,fun _ _ h _=>h,fun _ _ _ h=>h,fun _ _=>rfl⟩
theorem EL.Ya {b:Frame}{k:List Item}{cs:List Frame}{ds:List Deferred}{tm:Array Value}{ops Il:Array Oper}{id N s0:Nat}{vs:List Value}(hm:P.follows .mixedOrders=true)(hi:P.inits.idxOf? b.fn=none)(hκ:b.kind≠.early)(hs:ops.size=N+1)(hs0:Il.size=N)(hop:∀ i,i < N->Il[i]?=ops[i]?)(Jy:∀ (i:Nat) (o:Oper),ops[i]?=some o->∀ e∈o.after,e.on < i)(hcl:∀ listed:Array Bool,listed.size=N+1->Down .any ops listed->N∈Region.ready .any ops listed->∀ i,i < N->listed[i]?=some true)(hok:Il.toList.all (@J5 (Host.only b.fn) P)=true)(hvs:vs.length=N)(hfit:s0+N<=tm.size)(hg:∀ (i:Nat) (o:Oper),Il[i]?=some o->o.guard=none/\o.dst=some (s0+i))(hrun:∀ (w:World),Alike W w->∀ (l:Array Bool) (a:Act) (i:Nat) (o:Oper),Y6 tm s0 vs l a->l[i]?=some false->Il[i]?=some o->(∀ e∈o.after,Region.binds .any e=true->l[e.on]?=some true)->
      o.about P w a.eval=none/\∃ v,vs[i]?=some v/\(execOp a.eval o).run P w=.ok (.value v) w)(hJ:∀ (l:Array Bool) (tm':Array Value) (W':World),Y6 tm s0 vs l ⟨tm',[]⟩->(∀ i,i < N->l[i]?=some true)->Alike W W'->JL S.L γ (G (b.at ⟨tm',ds⟩ (.inRegion ops [N] :: k)) cs) W') :
    JL S.L γ (G (b.at ⟨tm,ds⟩ (.code (.region id ops true) :: k)) cs) W:=by
  refine S.step rfl fun w hw=>?_;have hst:stepG P main (G (b.at ⟨tm,ds⟩ (.code (.region id ops true) :: k)) cs) w=.go (G (b.at ⟨tm,ds⟩ (.inRegion ops (Region.schedule (P.follows .mixedOrders) ops (w.tape w.drawn (.order b.fn id))) :: k)) cs) { w with drawn:=w.drawn+1 } #[]:=by simp [G,Frame.at,stepG,stepG.exec,choose,Sem.run,Question.forced,Question.cut]
  refine ⟨_,_,_,hst,R5 _ _,by simp,W,?_,?_⟩
  . obtain ⟨⟨τ,d,rfl⟩,hR⟩:=hw;exact ⟨⟨τ,d,rfl⟩,hR.kept (R5 _ _)⟩
  . rw [QF hm hs hs0 hop Jy hcl];generalize w.tape w.drawn (.order b.fn id)=t;show JW S.base γ (G (FT b.fn tm (.inRegion ops (Region.linearise .any Il t ++ [N]) :: k) ds .run b.kind) cs) W;have yu:∀ (i:Nat) (o:Oper),Il[i]?=some o->∀ e∈o.after,e.on < i:=fun i o ho=>Jy i o (by rw [← hop i (by rw [← hs0];exact (zGE ho).1)];exact ho);refine @EL.nC (Host.only b.fn) P main Γ S γ W b.fn b.kind k cs ds tm ops [b.fn] (NY hi (by simp)) (by simp) hκ (Region.linearise .any Il t) [N] ?_ fun W₁ ha=>?_
    . show ((Region.linearise .any Il t).all fun i=>(ops[i]?).all (@J5 (Host.only b.fn) P))=true;rw [List.all_eq_true];intro i hi';have hlt:=NK i hi';rw [← hop i zOM,Array.getElem?_eq_getElem hlt,Option.all_some];rw [List.all_eq_true] at hok;exact hok _ (Array.getElem_mem_toList hlt)
    . refine QE _ (fun i hi'=>?_) _ _ ?_ (Il:=Il)
      . have hlt:=NK i hi';have e:=hop i zOM;exact ⟨e,fun o ho=>(hg i o (by rw [e];exact ho)).1⟩
      . have hrep:∀ j,(Array.replicate Il.size false)[j]?≠some true:=fun j hj=>by rw [Array.getElem?_replicate] at hj;split at hj <;> cases hj
        refine wpAnyIn_sound _ _ _ _ _ (Rh (I:=fun l a w'=>Y6 tm s0 vs l a/\w'=W₁) yu ?_ ?_ Il.size (Array.replicate Il.size false) _ _ ⟨List.range Il.size,by simp,fun i hi _=>List.mem_range.2 hi⟩ (by simp) (fun i o ho hb=>absurd hb (hrep i)) ⟨⟨rfl,rfl,fun _ _=>rfl,fun j v hj=>absurd hj (hrep j)⟩,rfl⟩)
        . rintro l a w' i o ⟨hI,rfl⟩ hl hd hb ho hod;obtain ⟨g1,g2⟩:=hg i o ho;obtain ⟨r1,v,hv,r2⟩:=hrun w' ha l a i o hI hb ho hod;refine FL (Fence.list_round _ _) ho g1 r1 r2 ⟨?_,rfl⟩;rw [g2];exact hI.put (N:=N) hv zOM
        . rintro l a w' ⟨hI,rfl⟩ hl hall;obtain ⟨tm',eB⟩:=a;obtain rfl:eB=[]:=hI.ds;rw [hs0] at hall;exact ⟨rfl,hJ l tm' _ hI hall ha⟩
end
end
end Go.LT
end
