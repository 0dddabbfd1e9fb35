/-
  Part 15 of the proof that CellMeets returns true, and leaves its arguments as they were, for every input whose reading is of bulk at most 1048576. No further condition.
-/
import Derived.Test.YticecinjcajmcaaR00
import Derived.Test.YticecinjcajmcaaR04
import Derived.Test.YticecinjcajmcaaR12
import Derived.Test.YticecinjcajmcaaR14
import Derived.Lib.Hide
set_option linter.unusedVariables false
set_option linter.unusedSectionVars false
set_option linter.unusedSimpArgs false
set_option maxHeartbeats 4000000
noncomputable section
namespace Go.LT
open Go
section
section
variable {P:Program}{Q:Value->Prop}
theorem R7 {t:Extern.Atomic.T}{a:Addr}(h:∀ v,Q v):Ed P Q (Extern.Atomic.read t a):=by unfold Extern.Atomic.read;refine D9 (Og fun v=>?_);repeat' first | exact Eb (h _) | exact El True.intro | split
theorem Td {t:Extern.Atomic.T}(h:∀ v,Q v)(args:Array Value):Ed P Q (Extern.Atomic.loadT t args):=by
  obtain ⟨l⟩:=args;rcases l with _|⟨x,_|⟨y,l⟩⟩
  . exact Ej
  . exact (D9 (Hg fun _=>R7 h):Ed P Q (asAddr x >>= fun a=>Extern.Atomic.read t a))
  . exact Ej
theorem bX (h:∀ v,Q v)(args:Array Value):Ed P Q (Extern.Atomic.storeT args):=by
  obtain ⟨l⟩:=args;rcases l with _|⟨x,_|⟨y,_|⟨z,l⟩⟩⟩
  . exact Ej
  . exact Ej
  . exact (D9 (Hg fun _=>D9 (Kg fun _=>Eb (h _))):Ed P Q (asAddr x >>= fun a=>store a y .atomic >>= fun _=>pure Extern.Atomic.none_))
  . exact Ej
theorem iT {t:Extern.Atomic.T}(h:∀ v,Q v)(args:Array Value):Ed P Q (Extern.Atomic.swapT t args):=by
  obtain ⟨l⟩:=args;rcases l with _|⟨x,_|⟨y,_|⟨z,l⟩⟩⟩
  . exact Ej
  . exact Ej
  . exact (D9 (Hg fun _=>D9 (R7 fun _=>D9 (Kg fun _=>Eb (h _)))):Ed P Q (asAddr x >>= fun a=>Extern.Atomic.read t a >>= fun old=>store a y .atomic >>= fun _=>pure old))
  . exact Ej
theorem bE {op:IntKind->Int->Int->Sem Value}{k:IntKind}{r:Bool}(hop:∀ (Q':Value->Prop),(∀ v,Q' v)->∀ k x y,Ed P Q' (op k x y))(h:∀ v,Q v)(args:Array Value):Ed P Q (Extern.Atomic.update op k r args):=by
  obtain ⟨l⟩:=args;rcases l with _|⟨x,_|⟨y,_|⟨z,l⟩⟩⟩
  . exact Ej
  . exact Ej
  . show Ed P Q (asAddr x >>= fun a=>Extern.Atomic.read (.int k) a >>= fun old=>asInt old >>= fun u=>asInt y >>= fun v=>op k u v >>= fun new=>store a new .atomic >>= fun _=>pure (if r=true then new else old));refine D9 (Hg fun _=>D9 (R7 fun _=>D9 (Jc fun _=>D9 (Jc fun _=>D9 (hop _ (fun _=>D9 (Kg fun _=>?_)) _ _ _)))));exact Eb (h _)
  . exact Ej
theorem Oy {α:Type}{Q:α->Prop}{f:Bool->Sem α}(hf:∀ b,Ed P Q (f b))(hd:Dead P (f true)){β:Type}(g:β->Addr):∀ l:List β,Ed P Q ((l.anyM fun i=>frozen (g i)) >>= f)
  | []=>hf false
  | a :: l=>by
    have ih:=Oy hf hd g l;refine ⟨fun b=>?_,fun w es h=>absurd ?_ h⟩
    . cases b with
      | true=>exact hf true
      | false=>exact ih
    . rw [Sem.runT_fst];exact hd w
theorem Yr {α:Type}{Q:α->Prop}{f:Bool->Sem α}{a:Addr}(hf:∀ b,Ed P Q (f b))(hd:Dead P (f true)):Ed P Q (Extern.Atomic.touchesFrozen a >>= f):=by
  unfold Extern.Atomic.touchesFrozen;rw [bind_assoc];refine D9 (JY fun v=>?_);cases v with
  | none=>exact ⟨fun b=>hf b,fun w es h=>absurd (by rw [Sem.runT_fst];exact hd w) h⟩
  | some x=>
    obtain ⟨at_,aSx⟩:=x;rw [bind_assoc];refine D9 (Fp fun i=>?_);dsimp only;split
    . exact (El (u := .unsafePointer "memory seen as another type") True.intro : Ed P _ (unsupported _))
    . exact Oy hf hd _ _
theorem aF {k:IntKind}(h:∀ v,Q v)(args:Array Value):Ed P Q (Extern.Atomic.casT (.int k) args):=by
  obtain ⟨l⟩:=args;rcases l with _|⟨x,_|⟨y,_|⟨z,_|⟨u,l⟩⟩⟩⟩
  . exact Ej
  . exact Ej
  . exact Ej
  . change Ed P Q (do
      let a' ← asAddr x
      if ← Extern.Atomic.touchesFrozen a' then unsupported (.unsafePointer "a write to bytes that a string shares")
      let eq ← match Extern.Atomic.T.int k,← Extern.Atomic.read (.int k) a',y with
        | _,.int _ x,.int _ y=>pure (x == y)
        | .ptr,.pointer x,.pointer y=>samePointer x y
        | .int _,.pointer (some _),.int _ 0 | .int _,.int _ 0,.pointer (some _)=>pure false
        | .int _,.pointer (some _),_ | .int _,_,.pointer (some _)=>unsupported .addressObserved
        | _, _, _ => stuck "atomic.CompareAndSwap: old is no T"
      if eq then store a' z .atomic
      pure (Value.bool eq))
    refine D9 (Hg fun a=>?_);refine Yr (fun b=>?_) (fun w=>rfl);cases b with
    | true => exact (El (u := .unsafePointer "a write to bytes that a string shares") True.intro : Ed P _ (unsupported _))
    | false=>
      refine D9 (R7 fun v=>?_);have hj:∀ eq:Bool,Ed P Q (if eq=true then (store a z .atomic >>= fun _=>pure (.bool eq)) else pure (.bool eq)):=fun eq=>by
        split
        . exact D9 (Kg fun _=>Eb (h _))
        . exact Eb (h _)
      dsimp only;split
      . exact hj _
      . rename_i e;cases e
      . exact hj false
      . exact hj false
      . exact (El (u:=.addressObserved) True.intro:Ed P _ (unsupported _))
      . exact (El (u:=.addressObserved) True.intro:Ed P _ (unsupported _))
      . exact (Ej:Ed P _ (stuck _))
  . exact Ej
variable {f:FuncId}{fn:Func}
theorem Gt {e : Array Value -> Sem Value}(hf : P.funcs[f]? = some fn)(hn : (fn.name == "runtime.NumGoroutine") = false)(hb : fn.body.isNone = true)(h1 : Extern.findNext fn = none)(h2 : Extern.find fn = some e)(ht : ∀ args, Ed P (fun _ => True) (e args)) : NR P f := ⟨fn, e, hf, hn, hb, h1, h2, ht⟩
theorem o7 {k:IntKind}{r:Bool}(h:∀ v,Q v)(args:Array Value):Ed P Q (Extern.Atomic.update (Op.intArith .add) k r args):=bE (fun Q' h' k x y=>Io h') h args
end
end
end Go.LT
namespace Go.Proofs.Yticecinjcajmcaa
open Go Go.Conc Go.LT Go.LC Go.LK
section
theorem QX {P : Program}{f : FuncId}{fn : Func}(hf : P.funcs[f]? = some fn)(hname : (fn.name == "runtime.NumGoroutine") = false)(hb : fn.body.isNone = true)(hn : Extern.findNext fn = none)(k : IntKind)(he:Extern.find fn=some (Extern.Atomic.swapT (.int k))){a:Addr}{x y:Int}{w:World}(hc:w.cell? a=some (.int k x))(hz:w.frozen? a=false) :
    (callFunc f #[.pointer (some a),.int k y]).run P w=.ok (.value (.int k x)) (w.setCell a (.int k y)):=by
  rw [run_callFunc_extern hf hname hb hn he];change (Sem.run P (do
    let a' ← asAddr (.pointer (some a))
    let old ← Extern.Atomic.read (.int k) a'
    store a' (.int k y) .atomic
    pure old) w).andThen _=_
  simp [Extern.Atomic.read,asAddr,hc,hz,run_store P w a (.int k y) .atomic rfl,Result.andThen]
def at0:Code:=match Try.f20.body with | some (.seq c _)=>c | _=>.skip
def at1:Code:=match Try.f20.body with | some (.seq _ (.seq c _))=>c | _=>.skip
def at2:Code:=match Try.f20.body with | some (.seq _ (.seq _ c))=>c | _=>.skip
theorem iU:Try.f20.body=some (.seq at0 (.seq at1 at2)):=rfl
section
variable {main:Bool}{Γ:Type}{S:EL Try.prog main Γ}{m:Mem (List Int)}{cb ct n:Nat}{cf:Frame}{fs:List Frame}{W:World}{σ:List Int}{cs:Ec}
theorem Mw (I:Gn S Em m 36)(hm:Fg m ct cb n){s:I.St}{i:Int}(hA:I.At s σ W)(hS:I.Step s σ cs)(hL:I.Leaves cf fs)(hJ:∀ s' σ' W',I.At s' σ' W'->I.On s W s' W'->I.fuel s' < I.fuel s->I.Zp s' (Em.next I.num cs σ')->JW S.base (I.γ s') (G (cf.finish (if inn n i then .tuple #[.pointer (some ⟨cb,i.toNat,none⟩),.int .i64 0] else .tuple #[.pointer none,.int .i64 41])) fs) W') :
    JW S.base (I.γ s) (G (Frame.enter Try.prog 20 #[.pointer (some ⟨ct,0,none⟩),I.wv,.int .i64 i] .normal) (cf :: fs)) W:=by
  have ht:#[.pointer (some ⟨ct,0,none⟩),I.wv,.int .i64 i] ++ Array.replicate (Try.f20.ntmps - #[.pointer (some ⟨ct,0,none⟩),I.wv,Value.int .i64 i].size) undef=#[.pointer (some ⟨ct,0,none⟩),I.wv,.int .i64 i,undef,undef,undef,undef,undef,undef,undef,undef,undef,undef,undef,undef,undef,undef,undef,undef,undef,undef,undef,undef,undef,undef,undef,undef]:=by
    have:Try.f20.ntmps=27:=by kernel_rfl
    rw [this];walk_nrm
  rw [enter_at _ Try.func20 iU,ht];generalize hw:I.wv=wv;show JL S.L (I.γ s) _ W;refine Ei ?_;simp only [at0,Try.f20];refine EH fun _ hkk=>?_;iterate 2 (refine Eo ?_;walk_nrm)
  refine EB ?_;cases hkk;refine Ei ?_;simp only [at1,Try.f20];refine EH fun _ hkk=>?_
  (refine Eo ?_;walk_nrm)
  refine JL.enter rfl rfl nE rfl Try.func36 zKR zKR ?_;walk_nrm;rw [← hw];refine I.line hA hS (I.pop Try.func20 hL) fun s' σ' W' hA' hO hf _ hT=>?_;rw [Frame.finish_at];rw [hw];show JL S.L (I.γ s') _ W';walk_nrm;refine EB ?_;cases hkk;refine EL.EJ (S:=S) (b:=base 20) [] (by simp) zKR nE zKR fun W₁ ha=>?_;have hI:=m.alike (I.inv hA') ha;obtain ⟨_,hc,_⟩:=hm.get _ _ hI;have hn:=hm.len;simp only [at2,Try.f20];have hend:∀ tm v,(∀ w,(results Try.f20 tm).runT Try.prog w #[]=(.ok v w,#[]))->v=(if inn n i then .tuple #[.pointer (some ⟨cb,i.toNat,none⟩),.int .i64 0] else .tuple #[.pointer none,.int .i64 41])->
      aR S (I.γ s') (base 20) [] [] (cf :: fs) .ret ⟨tm,[]⟩ W₁:=fun tm v hr hv Y=>by
    refine JL.back rfl Try.func20 hr ?_;rw [hv];exact JW.tape (hJ s' σ' W' hA' hO hf hT) ha
  clear hJ hT hA' hA hS hL;by_cases h0:i < 0
  . gi_wp2;exact hend _ (.tuple #[.pointer none,.int .i64 41]) (fun w=>by kernel_rfl) (by rw [if_neg (by simp [inn];omega)])
  . by_cases h1:i < n
    . gi_wp2;exact hend _ (.tuple #[.pointer (some ⟨cb,i.toNat,none⟩),.int .i64 0]) (fun w=>by kernel_rfl) (by rw [if_pos (by simp [inn];omega)])
    . gi_wp2;exact hend _ (.tuple #[.pointer none,.int .i64 41]) (fun w=>by kernel_rfl) (by rw [if_neg (by simp [inn];omega)])
def ld0:Code:=match Try.f18.body with | some (.seq c _)=>c | _=>.skip
def ld1:Code:=match Try.f18.body with | some (.seq _ (.seq c _))=>c | _=>.skip
def zV:Code:=match Try.f18.body with | some (.seq _ (.seq _ c))=>c | _=>.skip
theorem jW:Try.f18.body=some (.seq ld0 (.seq ld1 zV)):=rfl
theorem Xc:∀ g∈[28,44],@Lets (Host.only 18) Try.prog g:=fun g hg=>by
  simp only [List.mem_cons,List.not_mem_nil,or_false] at hg;rcases hg with rfl|rfl
  . exact ⟨by kernel_rfl,.inl ⟨_,_,Try.func28,by kernel_rfl,rfl,by kernel_rfl⟩⟩
  . exact ⟨by kernel_rfl,.inr (.inl (Gt Try.func44 zKR rfl zKR (e:=Extern.Atomic.loadT (.int .i64)) zKR (Td fun _=>trivial)))⟩
theorem Xo (I:Gn S Em m 36)(hm:Fg m ct cb n){s:I.St}{c:Ef}(hk:c.kind=1)(hA:I.At s σ W)(hS:I.Step s σ (.one c))(hL:I.Leaves cf fs)(hJ:∀ s' σ' W' e,I.At s' σ' W'->I.On s W s' W'->I.End s' σ' (e,false)->(e.ok=false/\e.m=0/\e.ints=[])->JW S.base (I.γ s') (G (cf.finish (.tuple #[.int .i64 e.n,.int .i64 e.err])) fs) W') :
    JW S.base (I.γ s) (G (Frame.enter Try.prog 18 #[.pointer (some ⟨ct,0,none⟩),I.wv,.int .i64 c.a] .normal) (cf :: fs)) W:=by
  have ht:#[.pointer (some ⟨ct,0,none⟩),I.wv,.int .i64 c.a] ++ Array.replicate (Try.f18.ntmps - (#[.pointer (some ⟨ct,0,none⟩),I.wv,.int .i64 c.a]:Array Value).size) undef=#[.pointer (some ⟨ct,0,none⟩),I.wv,.int .i64 c.a,undef,undef,undef,undef,undef,undef,undef,undef,undef,undef,undef,undef,undef,undef,undef,undef,undef,undef,undef]:=by
    have:Try.f18.ntmps=22:=by kernel_rfl
    rw [this];walk_nrm
  rw [enter_at _ Try.func18 jW,ht];generalize hw:I.wv=wv;show JL S.L (I.γ s) _ W;refine Ei ?_;simp only [ld0,Try.f18];refine EH fun _ hkk=>?_;iterate 2 (refine Eo ?_;walk_nrm)
  refine EB ?_;cases hkk;refine Ei ?_;simp only [ld1,Try.f18];refine EH fun _ hkk=>?_;iterate 3 (refine Eo ?_;walk_nrm)
  refine JL.enter rfl rfl nE rfl Try.func20 zKR zKR ?_;walk_nrm;rw [← hw];refine Mw I hm hA hS (I.pop Try.func18 hL) fun s' σ' W' hA' hO hf hT=>?_;rw [Frame.finish_at];rw [hw];show JL S.L (I.γ s') _ W';have hlen:=(hm.get _ _ (I.inv hA')).1;cases hi:inn n c.a with
  | false=>
    rw [if_neg (by simp)];walk_nrm;iterate 5 (refine Eo ?_;walk_nrm)
    refine EB ?_;cases hkk;refine EL.EJ (S:=S) (b:=base 18) [28,44] Xc zKR nE zKR fun W₁ ha=>?_;simp only [zV,Try.f18];obtain ⟨hA1,Ig⟩:=I.alike hA' ha;have hT':I.End s' σ' ({ err:=41 },false):=I.done (by have:=hT;simp only [Em] at this;rw [hlen,if_pos hi] at this;exact this);have hend:=hJ s' σ' W₁ _ hA1 (hO.trans Ig) hT' ⟨rfl,rfl,rfl⟩;clear hT hT' hJ hA' hA hS hL;gi_wp2;intro Y;exact JL.back rfl Try.func18 (v:=.tuple #[.int .i64 0,.int .i64 41]) (fun w=>by kernel_rfl) hend
  | true=>
    rw [if_pos rfl];walk_nrm;iterate 5 (refine Eo ?_;walk_nrm)
    refine EB ?_;cases hkk;refine EL.EJ (S:=S) (b:=base 18) [28,44] Xc zKR nE zKR fun W₁ ha=>?_;simp only [zV,Try.f18];obtain ⟨hA1,Ig⟩:=I.alike hA' ha;have hO2:=hO.trans Ig;have hi':c.a.toNat < n:=by simp [inn] at hi;omega
    have hc:=hm.cell (I.inv hA1) hi';have hz:=hm.frozen (I.inv hA1) c.a.toNat;rw [show Em.next I.num (.one c) σ'=((Fu c σ').1,.inr ((Fu c σ').2,false)) by simp only [Em];rw [hlen,if_neg (by simp [hi])]] at hT;unfold Fu at hT;simp only [hk] at hT;simp only [if_true] at hT;have hend:=hJ s' σ' W₁ _ hA1 hO2 (I.done hT) ⟨rfl,rfl,rfl⟩;clear hT hJ hA' hA hS hL hlen;generalize σ'.getD c.a.toNat 0=x at *;clear hA1 Ig hO2 hi hO;generalize c.a.toNat=i at *;have hl:=run_call_load (P:=Try.prog) Try.func44 zKR zKR zKR .i64 zKR hc;gi_wp2;intro Y;exact JL.back rfl Try.func18 (v:=.tuple #[.int .i64 x,.int .i64 0]) (fun w=>by kernel_rfl) hend
def st0:Code:=match Try.f10.body with | some (.seq c _)=>c | _=>.skip
def st1:Code:=match Try.f10.body with | some (.seq _ (.seq c _))=>c | _=>.skip
def st2:Code:=match Try.f10.body with | some (.seq _ (.seq _ c))=>c | _=>.skip
theorem gK:Try.f10.body=some (.seq st0 (.seq st1 st2)):=rfl
theorem Xh:∀ g∈[21,37],@Lets (Host.only 10) Try.prog g:=fun g hg=>by
  simp only [List.mem_cons,List.not_mem_nil,or_false] at hg;rcases hg with rfl|rfl
  . exact ⟨by kernel_rfl,.inl ⟨_,_,Try.func21,by kernel_rfl,rfl,by kernel_rfl⟩⟩
  . exact ⟨by kernel_rfl,.inr (.inl (Gt Try.func37 zKR rfl zKR (e:=Extern.Atomic.storeT) zKR (bX fun _=>trivial)))⟩
theorem XD (I:Gn S Em m 36)(hm:Fg m ct cb n){s:I.St}{c:Ef}(hk:c.kind=2)(hA:I.At s σ W)(hS:I.Step s σ (.one c))(hL:I.Leaves cf fs)(hJ:∀ s' σ' W' e,I.At s' σ' W'->I.On s W s' W'->I.End s' σ' (e,false)->(e.ok=false/\e.n=0/\e.m=0/\e.ints=[])->JW S.base (I.γ s') (G (cf.finish (.int .i64 e.err)) fs) W') :
    JW S.base (I.γ s) (G (Frame.enter Try.prog 10 #[.pointer (some ⟨ct,0,none⟩),I.wv,.int .i64 c.a,.int .i64 c.b] .normal) (cf :: fs)) W:=by
  have ht:#[.pointer (some ⟨ct,0,none⟩),I.wv,.int .i64 c.a,.int .i64 c.b] ++ Array.replicate (Try.f10.ntmps - (#[.pointer (some ⟨ct,0,none⟩),I.wv,.int .i64 c.a,.int .i64 c.b]:Array Value).size) undef=#[.pointer (some ⟨ct,0,none⟩),I.wv,.int .i64 c.a,.int .i64 c.b,undef,undef,undef,undef,undef,undef,undef,undef,undef,undef,undef,undef,undef,undef,undef,undef,undef,undef,undef,undef]:=by
    have:Try.f10.ntmps=24:=by kernel_rfl
    rw [this];walk_nrm
  rw [enter_at _ Try.func10 gK,ht];generalize hw:I.wv=wv;show JL S.L (I.γ s) _ W;refine Ei ?_;simp only [st0,Try.f10];refine EH fun _ hkk=>?_
  (refine Eo ?_;walk_nrm)
  refine EB ?_;cases hkk;refine Ei ?_;simp only [st1,Try.f10];refine EH fun _ hkk=>?_;iterate 3 (refine Eo ?_;walk_nrm)
  refine JL.enter rfl rfl nE rfl Try.func20 zKR zKR ?_;walk_nrm;rw [← hw];refine Mw I hm hA hS (I.pop Try.func10 hL) fun s' σ' W' hA' hO hf hT=>?_;rw [Frame.finish_at];rw [hw];show JL S.L (I.γ s') _ W';have hlen:=(hm.get _ _ (I.inv hA')).1;cases hi:inn n c.a with
  | false=>
    rw [if_neg (by simp)];walk_nrm;iterate 5 (refine Eo ?_;walk_nrm)
    refine EB ?_;cases hkk;refine EL.EJ (S:=S) (b:=base 10) [21,37] Xh zKR nE zKR fun W₁ ha=>?_;simp only [st2,Try.f10];obtain ⟨hA1,Ig⟩:=I.alike hA' ha;have hT':I.End s' σ' ({ err:=41 },false):=I.done (by have:=hT;simp only [Em] at this;rw [hlen,if_pos hi] at this;exact this);have hend:=hJ s' σ' W₁ _ hA1 (hO.trans Ig) hT' ⟨rfl,rfl,rfl,rfl⟩;clear hT hT' hJ hA' hA hS hL;gi_wp2;intro Y;exact JL.back rfl Try.func10 (v:=.int .i64 41) (fun w=>by kernel_rfl) hend
  | true=>
    rw [if_pos rfl];walk_nrm;iterate 5 (refine Eo ?_;walk_nrm)
    refine EB ?_;cases hkk;refine EL.EJ (S:=S) (b:=base 10) [21,37] Xh zKR nE zKR fun W₁ ha=>?_;simp only [st2,Try.f10];obtain ⟨hA1,Ig⟩:=I.alike hA' ha;have hO2:=hO.trans Ig;have hi':c.a.toNat < n:=by simp [inn] at hi;omega
    have hc:=hm.cell (I.inv hA1) hi';have hz:=hm.frozen (I.inv hA1) c.a.toNat;rw [show Em.next I.num (.one c) σ'=((Fu c σ').1,.inr ((Fu c σ').2,false)) by simp only [Em];rw [hlen,if_neg (by simp [hi])]] at hT;unfold Fu at hT;simp only [hk] at hT;simp (config:={ decide:=true }) only [if_true,if_false] at hT;obtain ⟨hA2,hO3⟩:=I.turn hA1 (hm.set _ _ _ c.b (I.inv hA1) hi') (fun b hb=>by simp [World.setCell,Array.getElem?_modify];intro h;exact absurd (h ▸ hm.sh) hb) (by simp [World.setCell]);have hend:=hJ s' _ _ _ hA2 (hO2.trans hO3) (I.done hT) ⟨rfl,rfl,rfl,rfl⟩;clear hT hJ hA' hA hS hL hlen;clear hA2 hO3;generalize hy:c.b=y at *;generalize σ'.getD c.a.toNat 0=x at *;clear hA1 Ig hO2 hi hO;generalize c.a.toNat=i at *;have hl:=run_call_store (P:=Try.prog) Try.func37 zKR zKR zKR zKR (k:=.i64) (y:=y) hc hz;gi_wp2;intro Y
    exact JL.back rfl Try.func10 (v:=.int .i64 0) (fun w=>by kernel_rfl) hend
def ad0:Code:=match Try.f22.body with | some (.seq c _)=>c | _=>.skip
def ad1:Code:=match Try.f22.body with | some (.seq _ (.seq c _))=>c | _=>.skip
def ad2:Code:=match Try.f22.body with | some (.seq _ (.seq _ c))=>c | _=>.skip
theorem jy:Try.f22.body=some (.seq ad0 (.seq ad1 ad2)):=rfl
theorem XL:∀ g∈[38,70],@Lets (Host.only 22) Try.prog g:=fun g hg=>by
  simp only [List.mem_cons,List.not_mem_nil,or_false] at hg;rcases hg with rfl|rfl
  . exact ⟨by kernel_rfl,.inl ⟨_,_,Try.func38,by kernel_rfl,rfl,by kernel_rfl⟩⟩
  . exact ⟨by kernel_rfl,.inr (.inl (Gt Try.func70 zKR rfl zKR (e:=Extern.Atomic.update (Op.intArith .add) .i64 true) zKR (o7 fun _=>trivial)))⟩
theorem jR (I:Gn S Em m 36)(hm:Fg m ct cb n){s:I.St}{c:Ef}(hk:c.kind=3)(hA:I.At s σ W)(hS:I.Step s σ (.one c))(hL:I.Leaves cf fs)(hJ:∀ s' σ' W' e,I.At s' σ' W'->I.On s W s' W'->I.End s' σ' (e,false)->(e.ok=false/\e.m=0/\e.ints=[])->JW S.base (I.γ s') (G (cf.finish (.tuple #[.int .i64 e.n,.int .i64 e.err])) fs) W') :
    JW S.base (I.γ s) (G (Frame.enter Try.prog 22 #[.pointer (some ⟨ct,0,none⟩),I.wv,.int .i64 c.a,.int .i64 c.b] .normal) (cf :: fs)) W:=by
  have ht:#[.pointer (some ⟨ct,0,none⟩),I.wv,.int .i64 c.a,.int .i64 c.b] ++ Array.replicate (Try.f22.ntmps - (#[.pointer (some ⟨ct,0,none⟩),I.wv,.int .i64 c.a,.int .i64 c.b]:Array Value).size) undef=#[.pointer (some ⟨ct,0,none⟩),I.wv,.int .i64 c.a,.int .i64 c.b,undef,undef,undef,undef,undef,undef,undef,undef,undef,undef,undef,undef,undef,undef,undef,undef,undef,undef,undef,undef,undef]:=by
    have:Try.f22.ntmps=25:=by kernel_rfl
    rw [this];walk_nrm
  rw [enter_at _ Try.func22 jy,ht];generalize hw:I.wv=wv;show JL S.L (I.γ s) _ W;refine Ei ?_;simp only [ad0,Try.f22];refine EH fun _ hkk=>?_;iterate 2 (refine Eo ?_;walk_nrm)
  refine EB ?_;cases hkk;refine Ei ?_;simp only [ad1,Try.f22];refine EH fun _ hkk=>?_;iterate 3 (refine Eo ?_;walk_nrm)
  refine JL.enter rfl rfl nE rfl Try.func20 zKR zKR ?_;walk_nrm;rw [← hw];refine Mw I hm hA hS (I.pop Try.func22 hL) fun s' σ' W' hA' hO hf hT=>?_;rw [Frame.finish_at];rw [hw];show JL S.L (I.γ s') _ W';have hlen:=(hm.get _ _ (I.inv hA')).1;cases hi:inn n c.a with
  | false=>
    rw [if_neg (by simp)];walk_nrm;iterate 5 (refine Eo ?_;walk_nrm)
    refine EB ?_;cases hkk;refine EL.EJ (S:=S) (b:=base 22) [38,70] XL zKR nE zKR fun W₁ ha=>?_;simp only [ad2,Try.f22];obtain ⟨hA1,Ig⟩:=I.alike hA' ha;have hT':I.End s' σ' ({ err:=41 },false):=I.done (by have:=hT;simp only [Em] at this;rw [hlen,if_pos hi] at this;exact this);have hend:=hJ s' σ' W₁ _ hA1 (hO.trans Ig) hT' ⟨rfl,rfl,rfl⟩;clear hT hT' hJ hA' hA hS hL;gi_wp2;intro Y;exact JL.back rfl Try.func22 (v:=.tuple #[.int .i64 0,.int .i64 41]) (fun w=>by kernel_rfl) hend
  | true=>
    rw [if_pos rfl];walk_nrm;iterate 5 (refine Eo ?_;walk_nrm)
    refine EB ?_;cases hkk;refine EL.EJ (S:=S) (b:=base 22) [38,70] XL zKR nE zKR fun W₁ ha=>?_;simp only [ad2,Try.f22];obtain ⟨hA1,Ig⟩:=I.alike hA' ha;have hO2:=hO.trans Ig;have hi':c.a.toNat < n:=by simp [inn] at hi;omega
    have hc:=hm.cell (I.inv hA1) hi';have hz:=hm.frozen (I.inv hA1) c.a.toNat;rw [show Em.next I.num (.one c) σ'=((Fu c σ').1,.inr ((Fu c σ').2,false)) by simp only [Em];rw [hlen,if_neg (by simp [hi])]] at hT;unfold Fu at hT;simp only [hk] at hT;simp (config:={ decide:=true }) only [if_true,if_false] at hT;obtain ⟨hA2,hO3⟩:=I.turn hA1 (hm.set _ _ _ (RowKit.wrap64 (σ'.getD c.a.toNat 0+c.b)) (I.inv hA1) hi') (fun b hb=>by simp [World.setCell,Array.getElem?_modify];intro h;exact absurd (h ▸ hm.sh) hb) (by simp [World.setCell]);have hend:=hJ s' _ _ _ hA2 (hO2.trans hO3) (I.done hT) ⟨rfl,rfl,rfl⟩;clear hT hJ hA' hA hS hL hlen;clear hA2 hO3;generalize hy:(RowKit.wrap64 (σ'.getD c.a.toNat 0+c.b))=y at *;generalize σ'.getD c.a.toNat 0=x at *;clear hA1 Ig hO2 hi hO;generalize c.a.toNat=i at *
    have hl:=run_call_add (P:=Try.prog) Try.func70 zKR zKR zKR .i64 zKR (y:=c.b) hc hz (s:=y) (by go_simp;rw [IntKind.wrap_i64];unfold RowKit.wrap64 at hy;exact hy);gi_wp2;intro Y;exact JL.back rfl Try.func22 (v:=.tuple #[.int .i64 y,.int .i64 0]) (fun w=>by kernel_rfl) hend
def sw0:Code:=match Try.f23.body with | some (.seq c _)=>c | _=>.skip
def sw1:Code:=match Try.f23.body with | some (.seq _ (.seq c _))=>c | _=>.skip
def sw2:Code:=match Try.f23.body with | some (.seq _ (.seq _ c))=>c | _=>.skip
theorem fG:Try.f23.body=some (.seq sw0 (.seq sw1 sw2)):=rfl
theorem XB:∀ g∈[39,71],@Lets (Host.only 23) Try.prog g:=fun g hg=>by
  simp only [List.mem_cons,List.not_mem_nil,or_false] at hg;rcases hg with rfl|rfl
  . exact ⟨by kernel_rfl,.inl ⟨_,_,Try.func39,by kernel_rfl,rfl,by kernel_rfl⟩⟩
  . exact ⟨by kernel_rfl,.inr (.inl (Gt Try.func71 zKR rfl zKR (e:=Extern.Atomic.swapT (.int .i64)) zKR (iT fun _=>trivial)))⟩
theorem jN (I:Gn S Em m 36)(hm:Fg m ct cb n){s:I.St}{c:Ef}(hk:c.kind=4)(hA:I.At s σ W)(hS:I.Step s σ (.one c))(hL:I.Leaves cf fs)(hJ:∀ s' σ' W' e,I.At s' σ' W'->I.On s W s' W'->I.End s' σ' (e,false)->(e.ok=false/\e.m=0/\e.ints=[])->JW S.base (I.γ s') (G (cf.finish (.tuple #[.int .i64 e.n,.int .i64 e.err])) fs) W') :
    JW S.base (I.γ s) (G (Frame.enter Try.prog 23 #[.pointer (some ⟨ct,0,none⟩),I.wv,.int .i64 c.a,.int .i64 c.b] .normal) (cf :: fs)) W:=by
  have ht:#[.pointer (some ⟨ct,0,none⟩),I.wv,.int .i64 c.a,.int .i64 c.b] ++ Array.replicate (Try.f23.ntmps - (#[.pointer (some ⟨ct,0,none⟩),I.wv,.int .i64 c.a,.int .i64 c.b]:Array Value).size) undef=#[.pointer (some ⟨ct,0,none⟩),I.wv,.int .i64 c.a,.int .i64 c.b,undef,undef,undef,undef,undef,undef,undef,undef,undef,undef,undef,undef,undef,undef,undef,undef,undef,undef,undef,undef,undef]:=by
    have:Try.f23.ntmps=25:=by kernel_rfl
    rw [this];walk_nrm
  rw [enter_at _ Try.func23 fG,ht];generalize hw:I.wv=wv;show JL S.L (I.γ s) _ W;refine Ei ?_;simp only [sw0,Try.f23];refine EH fun _ hkk=>?_;iterate 2 (refine Eo ?_;walk_nrm)
  refine EB ?_;cases hkk;refine Ei ?_;simp only [sw1,Try.f23];refine EH fun _ hkk=>?_;iterate 3 (refine Eo ?_;walk_nrm)
  refine JL.enter rfl rfl nE rfl Try.func20 zKR zKR ?_;walk_nrm;rw [← hw];refine Mw I hm hA hS (I.pop Try.func23 hL) fun s' σ' W' hA' hO hf hT=>?_;rw [Frame.finish_at];rw [hw];show JL S.L (I.γ s') _ W';have hlen:=(hm.get _ _ (I.inv hA')).1;cases hi:inn n c.a with
  | false=>
    rw [if_neg (by simp)];walk_nrm;iterate 5 (refine Eo ?_;walk_nrm)
    refine EB ?_;cases hkk;refine EL.EJ (S:=S) (b:=base 23) [39,71] XB zKR nE zKR fun W₁ ha=>?_;simp only [sw2,Try.f23];obtain ⟨hA1,Ig⟩:=I.alike hA' ha;have hT':I.End s' σ' ({ err:=41 },false):=I.done (by have:=hT;simp only [Em] at this;rw [hlen,if_pos hi] at this;exact this);have hend:=hJ s' σ' W₁ _ hA1 (hO.trans Ig) hT' ⟨rfl,rfl,rfl⟩;clear hT hT' hJ hA' hA hS hL;gi_wp2;intro Y;exact JL.back rfl Try.func23 (v:=.tuple #[.int .i64 0,.int .i64 41]) (fun w=>by kernel_rfl) hend
  | true=>
    rw [if_pos rfl];walk_nrm;iterate 5 (refine Eo ?_;walk_nrm)
    refine EB ?_;cases hkk;refine EL.EJ (S:=S) (b:=base 23) [39,71] XB zKR nE zKR fun W₁ ha=>?_;simp only [sw2,Try.f23];obtain ⟨hA1,Ig⟩:=I.alike hA' ha;have hO2:=hO.trans Ig;have hi':c.a.toNat < n:=by simp [inn] at hi;omega
    have hc:=hm.cell (I.inv hA1) hi';have hz:=hm.frozen (I.inv hA1) c.a.toNat;rw [show Em.next I.num (.one c) σ'=((Fu c σ').1,.inr ((Fu c σ').2,false)) by simp only [Em];rw [hlen,if_neg (by simp [hi])]] at hT;unfold Fu at hT;simp only [hk] at hT;simp (config:={ decide:=true }) only [if_true,if_false] at hT;obtain ⟨hA2,hO3⟩:=I.turn hA1 (hm.set _ _ _ c.b (I.inv hA1) hi') (fun b hb=>by simp [World.setCell,Array.getElem?_modify];intro h;exact absurd (h ▸ hm.sh) hb) (by simp [World.setCell]);have hend:=hJ s' _ _ _ hA2 (hO2.trans hO3) (I.done hT) ⟨rfl,rfl,rfl⟩;clear hT hJ hA' hA hS hL hlen;clear hA2 hO3;generalize hy:c.b=y at *;generalize σ'.getD c.a.toNat 0=x at *;clear hA1 Ig hO2 hi hO;generalize c.a.toNat=i at *;have hl:=QX (P:=Try.prog) Try.func71 zKR zKR zKR .i64 zKR (y:=y) hc hz;gi_wp2;intro Y
    exact JL.back rfl Try.func23 (v:=.tuple #[.int .i64 x,.int .i64 0]) (fun w=>by kernel_rfl) hend
def cs0:Code:=match Try.f24.body with | some (.seq c _)=>c | _=>.skip
def cs1:Code:=match Try.f24.body with | some (.seq _ (.seq c _))=>c | _=>.skip
def cs2:Code:=match Try.f24.body with | some (.seq _ (.seq _ c))=>c | _=>.skip
theorem iy:Try.f24.body=some (.seq cs0 (.seq cs1 cs2)):=rfl
theorem Xe:∀ g∈[40,72],@Lets (Host.only 24) Try.prog g:=fun g hg=>by
  simp only [List.mem_cons,List.not_mem_nil,or_false] at hg;rcases hg with rfl|rfl
  . exact ⟨by kernel_rfl,.inl ⟨_,_,Try.func40,by kernel_rfl,rfl,by kernel_rfl⟩⟩
  . exact ⟨by kernel_rfl,.inr (.inl (Gt Try.func72 zKR rfl zKR (e:=Extern.Atomic.casT (.int .i64)) zKR (aF fun _=>trivial)))⟩
theorem jJ (I:Gn S Em m 36)(hm:Fg m ct cb n){s:I.St}{c:Ef}(hk:c.kind=5)(hA:I.At s σ W)(hS:I.Step s σ (.one c))(hL:I.Leaves cf fs)(hJ:∀ s' σ' W' e,I.At s' σ' W'->I.On s W s' W'->I.End s' σ' (e,false)->(e.n=0/\e.m=0/\e.ints=[])->JW S.base (I.γ s') (G (cf.finish (.tuple #[.bool e.ok,.int .i64 e.err])) fs) W') :
    JW S.base (I.γ s) (G (Frame.enter Try.prog 24 #[.pointer (some ⟨ct,0,none⟩),I.wv,.int .i64 c.a,.int .i64 c.b,.int .i64 c.c] .normal) (cf :: fs)) W:=by
  have ht:#[.pointer (some ⟨ct,0,none⟩),I.wv,.int .i64 c.a,.int .i64 c.b,.int .i64 c.c] ++ Array.replicate (Try.f24.ntmps - (#[.pointer (some ⟨ct,0,none⟩),I.wv,.int .i64 c.a,.int .i64 c.b,.int .i64 c.c]:Array Value).size) undef=#[.pointer (some ⟨ct,0,none⟩),I.wv,.int .i64 c.a,.int .i64 c.b,.int .i64 c.c,undef,undef,undef,undef,undef,undef,undef,undef,undef,undef,undef,undef,undef,undef,undef,undef,undef,undef,undef,undef,undef,undef,undef]:=by
    have:Try.f24.ntmps=28:=by kernel_rfl
    rw [this];walk_nrm
  rw [enter_at _ Try.func24 iy,ht];generalize hw:I.wv=wv;show JL S.L (I.γ s) _ W;refine Ei ?_;simp only [cs0,Try.f24];refine EH fun _ hkk=>?_;iterate 2 (refine Eo ?_;walk_nrm)
  refine EB ?_;cases hkk;refine Ei ?_;simp only [cs1,Try.f24];refine EH fun _ hkk=>?_;iterate 3 (refine Eo ?_;walk_nrm)
  refine JL.enter rfl rfl nE rfl Try.func20 zKR zKR ?_;walk_nrm;rw [← hw];refine Mw I hm hA hS (I.pop Try.func24 hL) fun s' σ' W' hA' hO hf hT=>?_;rw [Frame.finish_at];rw [hw];show JL S.L (I.γ s') _ W';have hlen:=(hm.get _ _ (I.inv hA')).1;cases hi:inn n c.a with
  | false=>
    rw [if_neg (by simp)];walk_nrm;iterate 5 (refine Eo ?_;walk_nrm)
    refine EB ?_;cases hkk;refine EL.EJ (S:=S) (b:=base 24) [40,72] Xe zKR nE zKR fun W₁ ha=>?_;simp only [cs2,Try.f24];obtain ⟨hA1,Ig⟩:=I.alike hA' ha;have hT':I.End s' σ' ({ err:=41 },false):=I.done (by have:=hT;simp only [Em] at this;rw [hlen,if_pos hi] at this;exact this);have hend:=hJ s' σ' W₁ _ hA1 (hO.trans Ig) hT' ⟨rfl,rfl,rfl⟩;clear hT hT' hJ hA' hA hS hL;gi_wp2;intro Y;exact JL.back rfl Try.func24 (v:=.tuple #[.bool false,.int .i64 41]) (fun w=>by kernel_rfl) hend
  | true=>
    rw [if_pos rfl];walk_nrm;iterate 5 (refine Eo ?_;walk_nrm)
    refine EB ?_;cases hkk;refine EL.EJ (S:=S) (b:=base 24) [40,72] Xe zKR nE zKR fun W₁ ha=>?_;simp only [cs2,Try.f24];obtain ⟨hA1,Ig⟩:=I.alike hA' ha;have hO2:=hO.trans Ig;have hi':c.a.toNat < n:=by simp [inn] at hi;omega
    have hc:=hm.cell (I.inv hA1) hi';have hz:=hm.frozen (I.inv hA1) c.a.toNat;rw [show Em.next I.num (.one c) σ'=((Fu c σ').1,.inr ((Fu c σ').2,false)) by simp only [Em];rw [hlen,if_neg (by simp [hi])]] at hT;unfold Fu at hT;simp only [hk] at hT;simp (config:={ decide:=true }) only [if_false] at hT;by_cases hx:σ'.getD c.a.toNat 0=c.b
    . rw [if_pos hx] at hT;obtain ⟨hA2,hO3⟩:=I.turn hA1 (hm.set _ _ _ c.c (I.inv hA1) hi') (fun b hb=>by simp [World.setCell,Array.getElem?_modify];intro h;exact absurd (h ▸ hm.sh) hb) (by simp [World.setCell]);have hend:=hJ s' _ _ _ hA2 (hO2.trans hO3) (I.done hT) ⟨rfl,rfl,rfl⟩;clear hT hJ hA' hA hS hL hlen hA2 hO3;rw [hx] at hc;clear hx hA1 Ig hO2 hi hO;generalize c.a.toNat=i at *;generalize c.b=x at *;generalize c.c=y at *;have hl:=run_call_cas_hit (P:=Try.prog) Try.func72 zKR zKR zKR .i64 zKR (y:=y) hc hz;gi_wp2;intro Y;exact JL.back rfl Try.func24 (v:=.tuple #[.bool true,.int .i64 0]) (fun w=>by kernel_rfl) hend
    . rw [if_neg hx] at hT;have hend:=hJ s' _ _ _ hA1 hO2 (I.done hT) ⟨rfl,rfl,rfl⟩;clear hT hJ hA' hA hS hL hlen hA1 Ig hO2 hi hO;generalize σ'.getD c.a.toNat 0=x at *;generalize c.a.toNat=i at *;generalize c.b=o at *;generalize c.c=y at *;have hl:=run_call_cas_miss (P:=Try.prog) Try.func72 zKR zKR zKR .i64 zKR (y:=y) hc hz hx;clear hx;gi_wp2;intro Y;exact JL.back rfl Try.func24 (v:=.tuple #[.bool false,.int .i64 0]) (fun w=>by kernel_rfl) hend
end
end
section
def tw0:Code:=match Try.f41.body with | some (.seq c _)=>c | _=>.skip
def rD:Code:=match Try.f41.body with | some (.seq _ (.block _ (.loop c)))=>c | _=>.skip
theorem gZ:Try.f41.body=some (.seq tw0 (.block 0 (.loop rD))):=rfl
section
variable {main:Bool}{Γ:Type}{S:EL Try.prog main Γ}{m:Mem (List Int)}{cb ct n:Nat}{cf:Frame}{fs:List Frame}{W:World}{σ:List Int}{cs:Ec}
theorem Yd {γ:Γ}{x v:Int}{N:Nat}(hc:W.cell? ⟨N,0,none⟩=some (.int .i64 v))(hJ:JL S.L γ (G (cf.finish (.bool (decide (v<=x)))) fs) W) :
    JL S.L γ (G (Frame.enter Try.prog 42 #[.int .i64 x,.pointer (some ⟨N,0,none⟩)] .normal) (cf :: fs)) W:=by
  have ht:#[.int .i64 x,.pointer (some ⟨N,0,none⟩)] ++ Array.replicate (Try.f42.ntmps - (#[.int .i64 x,.pointer (some ⟨N,0,none⟩)]:Array Value).size) undef=#[.int .i64 x,.pointer (some ⟨N,0,none⟩),undef,undef,undef,undef,undef]:=by
    have:Try.f42.ntmps=7:=by kernel_rfl
    rw [this];walk_nrm
  rw [enter_at (c:=(Try.f42.body).get rfl) _ Try.func42 rfl,ht];refine EL.EJ (S:=S) (b:=base 42) [] (by simp) zKR nE zKR fun W₁ ha=>?_;have hc1:W₁.cell? ⟨N,0,none⟩=some (.int .i64 v):=by obtain ⟨τ,d,rfl⟩:=ha;exact hc
  have hend:=JW.tape (S:=S.base) hJ ha;clear hJ hc;simp only [Try.f42,Option.get_some];gi_wp2;intro Y;exact JL.back rfl Try.func42 (v:=.bool (decide (v<=x))) (fun w=>by kernel_rfl) hend
theorem Vy {γ:Γ}{x v:Int}{N:Nat}(hc:W.cell? ⟨N,0,none⟩=some (.int .i64 v))(hJ:JL S.L γ (G (cf.finish (.bool (decide (x<=v)))) fs) W) :
    JL S.L γ (G (Frame.enter Try.prog 43 #[.int .i64 x,.pointer (some ⟨N,0,none⟩)] .normal) (cf :: fs)) W:=by
  have ht:#[.int .i64 x,.pointer (some ⟨N,0,none⟩)] ++ Array.replicate (Try.f43.ntmps - (#[.int .i64 x,.pointer (some ⟨N,0,none⟩)]:Array Value).size) undef=#[.int .i64 x,.pointer (some ⟨N,0,none⟩),undef,undef,undef,undef,undef]:=by
    have:Try.f43.ntmps=7:=by kernel_rfl
    rw [this];walk_nrm
  rw [enter_at (c:=(Try.f43.body).get rfl) _ Try.func43 rfl,ht];refine EL.EJ (S:=S) (b:=base 43) [] (by simp) zKR nE zKR fun W₁ ha=>?_;have hc1:W₁.cell? ⟨N,0,none⟩=some (.int .i64 v):=by obtain ⟨τ,d,rfl⟩:=ha;exact hc
  have hend:=JW.tape (S:=S.base) hJ ha;clear hJ hc;simp only [Try.f43,Option.get_some];gi_wp2;intro Y;exact JL.back rfl Try.func43 (v:=.bool (decide (x<=v))) (fun w=>by kernel_rfl) hend
theorem fV:∀ g∈[28,44],@Lets (Host.only 41) Try.prog g:=fun g hg=>by
  simp only [List.mem_cons,List.not_mem_nil,or_false] at hg;rcases hg with rfl|rfl
  . exact ⟨by kernel_rfl,.inl ⟨_,_,Try.func28,by kernel_rfl,rfl,by kernel_rfl⟩⟩
  . exact ⟨by kernel_rfl,.inr (.inl (Gt Try.func44 zKR rfl zKR (e:=Extern.Atomic.loadT (.int .i64)) zKR (Td fun _=>trivial)))⟩
theorem jo:∀ g∈[40,72],@Lets (Host.only 41) Try.prog g:=fun g hg=>by
  simp only [List.mem_cons,List.not_mem_nil,or_false] at hg;rcases hg with rfl|rfl
  . exact ⟨by kernel_rfl,.inl ⟨_,_,Try.func40,by kernel_rfl,rfl,by kernel_rfl⟩⟩
  . exact ⟨by kernel_rfl,.inr (.inl (Gt Try.func72 zKR rfl zKR (e:=Extern.Atomic.casT (.int .i64)) zKR (aF fun _=>trivial)))⟩
def XH (S : EL Try.prog main Γ)(most : Bool)(bf : FuncId)(v : Int)(N : Nat) : Prop := (∃ fn, Try.prog.funcs[bf]? = some fn /\ (fn.name == "runtime.NumGoroutine") = false /\ fn.body.isNone = false) /\
  ∀ (γ:Γ) (x:Int) (cf:Frame) (fs:List Frame) (W:World),W.cell? ⟨N,0,none⟩=some (.int .i64 v)->JL S.L γ (G (cf.finish (.bool (Q8 most x v))) fs) W->JL S.L γ (G (Frame.enter Try.prog bf #[.int .i64 x,.pointer (some ⟨N,0,none⟩)] .normal) (cf :: fs)) W
theorem Z6 (I:Gn S Em m 36)(hm:Fg m ct cb n){most:Bool}{i v:Int}{bf:FuncId}{N:Nat}(hB:XH S most bf v N){s₀:I.St}{W₀:World}(hN:I.kept s₀ N)(hNv:W₀.cell? ⟨N,0,none⟩=some (.int .i64 v))(hL:I.Leaves cf fs)(hJ:∀ s' σ' W' e,I.At s' σ' W'->I.On s₀ W₀ s' W'->I.End s' σ' (e,false)->(e.ok=false/\e.m=0/\e.ints=[])->JW S.base (I.γ s') (G (cf.finish (.tuple #[.int .i64 e.n,.int .i64 e.err])) fs) W') :
    ∀ (f:Nat) (s:I.St) (σ:List Int) (W:World),I.fuel s=f->I.At s σ W->I.On s₀ W₀ s W->I.Step s σ (.look most i v)->∀ wv,I.wv=wv->∀ Aa Ab Ac Ae Af Ah Ai Aj Ak Al Am Ao Ap Ar Au Av Aw Ay Az AA AB AJ AL AO AP AQ AU AV:Value,
      JL S.L (I.γ s) (G ((base 41).at ⟨#[.pointer (some ⟨ct,0,none⟩),wv,.int .i64 i,.int .i64 v,.func (.func bf) #[] #[.pointer (some ⟨N,0,none⟩)],undef,undef,undef,undef,undef,Aa,Ab,Ac,Ae,Af,Ah,Ai,Aj,Ak,Al,Am,Ao,Ap,Ar,Au,Av,Aw,Ay,Az,AA,AB,AJ,AL,AO,AP,AQ,AU,AV],[]⟩ [.code rD,.inLoop rD,.inBlock 0]) (cf :: fs)) W:=by
  intro f;induction f using Nat.strongRecOn with
  | _ f ih=>
  intro s σ W hfu hA hO hS wv hw Aa Ab Ac Ae Af Ah Ai Aj Ak Al Am Ao Ap Ar Au Av Aw Ay Az AA AB AJ AL AO AP AQ AU AV;have hbl:∃ c,rD=.block 1 c/\c=(match rD with | .block _ c=>c | _=>.skip):=⟨_,rfl,rfl⟩
  obtain ⟨c0,hc0,hc1⟩:=hbl;dsimp only;generalize hlp:[Item.inLoop rD,.inBlock 0]=lp;rw [hc0];refine Er stepG_block ?_;rw [hc1];simp only [rD,Try.f41];refine Ei ?_;refine EH fun _ hkk=>?_;iterate 3 (refine Eo ?_;walk_nrm)
  refine JL.enter rfl rfl nE rfl Try.func20 zKR zKR ?_;walk_nrm;rw [← hw];refine Mw I hm hA hS (I.pop Try.func41 hL) fun s' σ' W' hA' hO' hf hT=>?_;rw [Frame.finish_at];rw [hw];show JL S.L (I.γ s') _ W';have hlen:=(hm.get _ _ (I.inv hA')).1;have zu:=hO.trans hO';cases hi:inn n i with
  | false=>
    rw [if_neg (by simp)];walk_nrm;iterate 5 (refine Eo ?_;walk_nrm)
    refine EB ?_;cases hkk;have hT':I.End s' σ' ({ err:=41 },false):=I.done (by have:=hT;simp only [Em] at this;rw [hlen,if_pos hi] at this;exact this);have hend:=hJ s' σ' W' _ hA' zu hT' ⟨rfl,rfl,rfl⟩;clear hT hT' hJ ih hS;refine Ei ?_;refine Ei ?_;refine EH fun _ hkk=>?_;iterate 2 (refine Eo ?_;walk_nrm)
    refine EB ?_;cases hkk;refine JL.Fz rfl ?_;refine Ei ?_;refine EH fun _ hkk=>?_;iterate 3 (refine Eo ?_;walk_nrm)
    refine EB ?_;cases hkk;refine Er stepG_ret' ?_;exact JL.back rfl Try.func41 (v:=.tuple #[.int .i64 0,.int .i64 41]) (fun w=>by kernel_rfl) hend
  | true=>
    rw [if_pos rfl];walk_nrm;iterate 5 (refine Eo ?_;walk_nrm)
    refine EB ?_;cases hkk;refine Ei ?_;refine Ei ?_;refine EH fun _ hkk=>?_;iterate 2 (refine Eo ?_;walk_nrm)
    refine EB ?_;cases hkk;refine JL.Ey rfl ?_;refine Er stepG_skip ?_;refine Ei ?_;have hi':i.toNat < n:=by simp [inn] at hi;omega
    refine EL.EJ (S:=S) (b:=base 41) [28,44] fV zKR nE zKR fun W₁ ha=>?_;obtain ⟨hA1,Ig⟩:=I.alike hA' ha;have hO2:=zu.trans Ig;have hc:=hm.cell (I.inv hA1) hi';rw [show Em.next I.num (.look most i v) σ'=if Q8 most (σ'.getD i.toNat 0) v then (σ',.inr ({ n:=σ'.getD i.toNat 0 },false)) else (σ',.inl (.cas most i v (σ'.getD i.toNat 0))) by simp only [Em];rw [hlen,if_neg (by simp [hi])]] at hT;generalize σ'.getD i.toNat 0=x at *;have hl:=run_call_load (P:=Try.prog) Try.func44 zKR zKR zKR .i64 zKR hc;have hk1:=hO2.kept N hN;have Acd:W₁.cell? ⟨N,0,none⟩=some (.int .i64 v):=by rw [cell_of (a:=⟨N,0,none⟩) hk1.2];exact hNv
    have HH:=Lib.hid (zAI hJ (zAI ih (zAI hT hB)));clear hJ ih hS hT hB;gi_wp2;obtain ⟨hJ,ih,hT,hB⟩:=HH.out;clear HH;show JL S.L (I.γ s') _ W₁;refine Ei ?_;refine Ei ?_;refine EH fun _ hkk=>?_;iterate 2 (refine Eo ?_;walk_nrm)
    obtain ⟨⟨bfn,b1,b2,b3⟩,hB'⟩:=hB;refine JL.ZL rfl rfl nE rfl rfl b1 b2 b3 ?_;walk_nrm;refine hB' _ _ _ _ _ Acd ?_;rw [Frame.finish_at];walk_nrm;refine EB ?_;cases hkk;by_cases XG:Q8 most x v=true
    . rw [if_pos XG] at hT;refine JL.Fz (by simp [Act.eval,XG]) ?_;have hend:=hJ s' σ' W₁ _ hA1 hO2 (I.done hT) ⟨rfl,rfl,rfl⟩;clear hT hJ ih;refine Ei ?_;refine EH fun _ hkk=>?_;iterate 3 (refine Eo ?_;walk_nrm)
      refine EB ?_;cases hkk;refine Er stepG_ret' ?_;exact JL.back rfl Try.func41 (v:=.tuple #[.int .i64 x,.int .i64 0]) (fun w=>by kernel_rfl) hend
    . rw [if_neg XG] at hT;refine JL.Ey (by simp [Act.eval,XG]) ?_;refine Er stepG_skip ?_;refine Ei ?_;refine EH fun _ hkk=>?_
      (refine Eo ?_;walk_nrm)
      refine JL.enter rfl rfl nE rfl Try.func36 zKR zKR ?_;walk_nrm;rw [← hw];refine I.line hA1 (I.more hT) (I.pop Try.func41 hL) fun s'' QZ W'' hA2 hO3 hf2 _ bQ=>?_;rw [Frame.finish_at];rw [hw];show JL S.L (I.γ s'') _ W'';walk_nrm;refine EB ?_;cases hkk;refine Ei ?_;have hO4:=hO2.trans hO3;have yw:=(hm.get _ _ (I.inv hA2)).1;rw [show Em.next I.num (.cas most i v x) QZ=if QZ.getD i.toNat 0=x then (QZ.set i.toNat v,.inr ({ n:=v },false)) else (QZ,.inl (.look most i v)) from rfl] at bQ;refine EL.EJ (S:=S) (b:=base 41) [40,72] jo zKR nE zKR fun W₃ LA=>?_;obtain ⟨hA3,dI⟩:=I.alike hA2 LA;have qx:=hO4.trans dI;have hc3:=hm.cell (I.inv hA3) hi';have hz3:=hm.frozen (I.inv hA3) i.toNat;by_cases hx:QZ.getD i.toNat 0=x
      . rw [if_pos hx] at bQ;rw [hx] at hc3;obtain ⟨VT,sK⟩:=I.turn hA3 (hm.set _ _ _ v (I.inv hA3) hi') (fun b hb=>by simp [World.setCell,Array.getElem?_modify];intro h;exact absurd (h ▸ hm.sh) hb) (by simp [World.setCell]);have hend:=hJ s'' _ _ _ VT (qx.trans sK) (I.done bQ) ⟨rfl,rfl,rfl⟩;have HH:=Lib.hid hend;clear hJ ih bQ hT hend VT sK hB';have hl:=run_call_cas_hit (P:=Try.prog) Try.func72 zKR zKR zKR .i64 zKR (y:=v) hc3 hz3;gi_wp2;show JL S.L (I.γ s'') _ _;refine JL.Fz rfl ?_;refine Ei ?_;refine EH fun _ hkk=>?_;iterate 3 (refine Eo ?_;walk_nrm)
        refine EB ?_;cases hkk;refine Er stepG_ret' ?_;exact JL.back rfl Try.func41 (v:=.tuple #[.int .i64 v,.int .i64 0]) (fun w=>by kernel_rfl) HH.out
      . rw [if_neg hx] at bQ;have HH:=Lib.hid (zAI ih (zAI bQ hx));have hl:=run_call_cas_miss (P:=Try.prog) Try.func72 zKR zKR zKR .i64 zKR (y:=v) hc3 hz3 hx;clear hJ ih bQ hT hB' hx;gi_wp2;obtain ⟨ih,bQ,hx⟩:=HH.out;clear HH;show JL S.L (I.γ s'') _ _;refine JL.Ey rfl ?_;refine Er stepG_skip ?_;refine Er stepG_inBlock ?_;rw [← hlp];refine Er stepG_inLoop ?_;exact ih (I.fuel s'') zOM s'' QZ W₃ rfl hA3 qx (I.more bQ) wv hw _ _ _ _ _ _ _ _ _ _ _ _ _ _ _ _ _ _ _ _ _ _ _ _ _ _ _ _
end
end
end Go.Proofs.Yticecinjcajmcaa
namespace Go.Proofs.Yticecinjcajmcaa
open Go Go.Conc Go.LT Go.LC Go.LK Go.RowKit
section
section
variable {main:Bool}{Γ:Type}{S:EL Try.prog main Γ}{m:Mem (List Int)}{cb ct n:Nat}{cf:Frame}{fs:List Frame}{W:World}{σ:List Int}
theorem OG (w:World)(v:Value)(t:TypeId):(w.alloc (.cells #[v] t)).cell? ⟨w.heap.size,0,none⟩=some v:=by unfold World.cell?;rw [show (w.alloc (.cells #[v] t)).heap[(⟨w.heap.size,0,none⟩:Addr).block]?=some (.cells #[v] t) from heap_alloc_new _ _];rfl
theorem WW {v:Int}{N:Nat}:XH S true 42 v N:=⟨⟨_,Try.func42,by kernel_rfl,by kernel_rfl⟩,fun γ x cf fs W hc h=>Yd hc h⟩
theorem Vq {v:Int}{N:Nat}:XH S false 43 v N:=⟨⟨_,Try.func43,by kernel_rfl,by kernel_rfl⟩,fun γ x cf fs W hc h=>Vy hc h⟩
theorem Ub (I:Gn S Em m 36)(hm:Fg m ct cb n){most:Bool}{i v:Int}{bf:FuncId}{N:Nat}(hB:XH S most bf v N){s:I.St}(hN:I.kept s N)(hNv:W.cell? ⟨N,0,none⟩=some (.int .i64 v))(hA:I.At s σ W)(hS:I.Step s σ (.look most i v))(hL:I.Leaves cf fs)(hJ:∀ s' σ' W' e,I.At s' σ' W'->I.On s W s' W'->I.End s' σ' (e,false)->(e.ok=false/\e.m=0/\e.ints=[])->JW S.base (I.γ s') (G (cf.finish (.tuple #[.int .i64 e.n,.int .i64 e.err])) fs) W') :
    JW S.base (I.γ s) (G (Frame.enter Try.prog 41 #[.pointer (some ⟨ct,0,none⟩),I.wv,.int .i64 i,.int .i64 v,.func (.func bf) #[] #[.pointer (some ⟨N,0,none⟩)]] .normal) (cf :: fs)) W:=by
  have ht:#[.pointer (some ⟨ct,0,none⟩),I.wv,.int .i64 i,.int .i64 v,.func (.func bf) #[] #[.pointer (some ⟨N,0,none⟩)]] ++ Array.replicate (Try.f41.ntmps - (#[.pointer (some ⟨ct,0,none⟩),I.wv,.int .i64 i,.int .i64 v,.func (.func bf) #[] #[.pointer (some ⟨N,0,none⟩)]]:Array Value).size) undef=#[.pointer (some ⟨ct,0,none⟩),I.wv,.int .i64 i,.int .i64 v,.func (.func bf) #[] #[.pointer (some ⟨N,0,none⟩)],undef,undef,undef,undef,undef,undef,undef,undef,undef,undef,undef,undef,undef,undef,undef,undef,undef,undef,undef,undef,undef,undef,undef,undef,undef,undef,undef,undef,undef,undef,undef,undef,undef]:=by
    have:Try.f41.ntmps=38:=by kernel_rfl
    rw [this];walk_nrm
  rw [enter_at _ Try.func41 gZ,ht];generalize hw:I.wv=wv;show JL S.L (I.γ s) _ W;dsimp only;refine Ei ?_;simp only [tw0,Try.f41];refine EH fun _ hkk=>?_;iterate 2 (refine Eo ?_;walk_nrm)
  refine EB ?_;cases hkk;refine Er stepG_block ?_;refine Er stepG_loop ?_;exact Z6 I hm hB hN hNv hL hJ _ s σ W rfl hA (Gn.On.refl I s W) hS wv hw _ _ _ _ _ _ _ _ _ _ _ _ _ _ _ _ _ _ _ _ _ _ _ _ _ _ _ _
def mo0:Code:=match Try.f25.body with | some (.seq c _)=>c | _=>.skip
def mo1:Code:=match Try.f25.body with | some (.seq _ c)=>c | _=>.skip
theorem jL:Try.f25.body=some (.seq mo0 mo1):=rfl
theorem fZ (I:Gn S Em m 36)(hm:Fg m ct cb n){s:I.St}{i v:Int}(hA:I.At s σ W)(hS:I.Step s σ (.look true i v))(hL:I.Leaves cf fs)(hJ:∀ s' σ' W' e,I.At s' σ' W'->I.On s W s' W'->I.End s' σ' (e,false)->(e.ok=false/\e.m=0/\e.ints=[])->JW S.base (I.γ s') (G (cf.finish (.tuple #[.int .i64 e.n,.int .i64 e.err])) fs) W') :
    JW S.base (I.γ s) (G (Frame.enter Try.prog 25 #[.pointer (some ⟨ct,0,none⟩),I.wv,.int .i64 i,.int .i64 v] .normal) (cf :: fs)) W:=by
  have ht:#[.pointer (some ⟨ct,0,none⟩),I.wv,.int .i64 i,.int .i64 v] ++ Array.replicate (Try.f25.ntmps - (#[.pointer (some ⟨ct,0,none⟩),I.wv,.int .i64 i,.int .i64 v]:Array Value).size) undef=#[.pointer (some ⟨ct,0,none⟩),I.wv,.int .i64 i,.int .i64 v,undef,undef,undef,undef,undef,undef,undef,undef,undef,undef,undef,undef,undef,undef]:=by
    have:Try.f25.ntmps=18:=by kernel_rfl
    rw [this];walk_nrm
  rw [enter_at _ Try.func25 jL,ht];generalize hw:I.wv=wv;show JL S.L (I.γ s) _ W;refine Ei ?_;refine EL.EJ (S:=S) (b:=base 25) [] (by simp) zKR nE zKR fun W₁ ha=>?_;obtain ⟨hA1,Ig⟩:=I.alike hA ha;have HH:=Lib.hid (zAI hJ (zAI hS (zAI hA1 Ig)));clear hJ hS hA hA1 Ig;simp only [mo0,Try.f25];gi_wp2;obtain ⟨hJ,hS,hA1,Ig⟩:=HH.out;clear HH;obtain ⟨s',hA2,hO2,e1,e2,e3,_,e4,_⟩:=I.lay (W':=W₁.alloc (.cells #[.int .i64 v] 3)) (N:=W₁.heap.size) hA1 rfl ⟨_,_,_,heap_alloc_new _ _⟩ (fun b hb=>Below.heap_alloc _ _ _ hb) (by simp);have hS2:=e4 _ hS;have hO3:=Ig.trans hO2;have hN:I.kept s' W₁.heap.size:=(e3 _).2 (.inr rfl);have hc:(W₁.alloc (.cells #[.int .i64 v] 3)).cell? ⟨W₁.heap.size,0,none⟩=some (.int .i64 v):=OG _ _ _;rw [← e1];generalize W₁.alloc (.cells #[.int .i64 v] 3)=W2 at *;generalize W₁.heap.size=N at *
  show JL S.L (I.γ s') _ W2;simp only [mo1,Try.f25];refine Ei ?_;refine EH fun _ hkk=>?_;iterate 3 (refine Eo ?_;walk_nrm)
  refine EL.read (S:=S) (.int .i64 v) rfl rfl nE hc (fun w h=>by go_simp) (fun w h e he=>by simp [go_sem,h] at he;exact he) ?_;walk_nrm;refine JL.Ii (.func (.func 42) #[] #[.pointer (some ⟨N,0,none⟩)]) rfl rfl nE (fun _=>by kernel_rfl) ?_;walk_nrm;refine JL.enter rfl rfl nE rfl Try.func41 zKR zKR ?_;walk_nrm;rw [← hw];refine Ub I hm WW hN hc hA2 hS2 (I.pop Try.func25 hL) fun s'' QZ W'' e hA3 hO4 hE he=>?_;rw [Frame.finish_at];have hend:=hJ s'' QZ W'' e hA3 (hO3.trans hO4) hE he;obtain ⟨TR,en,em,J4,Ny⟩:=e;simp only at hend;rw [hw];show JL S.L (I.γ s'') _ W'';walk_nrm;iterate 4 (refine Eo ?_;walk_nrm)
  refine EB ?_;cases hkk;refine Er stepG_ret' ?_;exact JL.back rfl Try.func25 (v:=.tuple #[.int .i64 en,.int .i64 J4]) (fun w=>by kernel_rfl) hend
def le0:Code:=match Try.f26.body with | some (.seq c _)=>c | _=>.skip
def le1:Code:=match Try.f26.body with | some (.seq _ c)=>c | _=>.skip
theorem iE:Try.f26.body=some (.seq le0 le1):=rfl
theorem fE (I:Gn S Em m 36)(hm:Fg m ct cb n){s:I.St}{i v:Int}(hA:I.At s σ W)(hS:I.Step s σ (.look false i v))(hL:I.Leaves cf fs)(hJ:∀ s' σ' W' e,I.At s' σ' W'->I.On s W s' W'->I.End s' σ' (e,false)->(e.ok=false/\e.m=0/\e.ints=[])->JW S.base (I.γ s') (G (cf.finish (.tuple #[.int .i64 e.n,.int .i64 e.err])) fs) W') :
    JW S.base (I.γ s) (G (Frame.enter Try.prog 26 #[.pointer (some ⟨ct,0,none⟩),I.wv,.int .i64 i,.int .i64 v] .normal) (cf :: fs)) W:=by
  have ht:#[.pointer (some ⟨ct,0,none⟩),I.wv,.int .i64 i,.int .i64 v] ++ Array.replicate (Try.f26.ntmps - (#[.pointer (some ⟨ct,0,none⟩),I.wv,.int .i64 i,.int .i64 v]:Array Value).size) undef=#[.pointer (some ⟨ct,0,none⟩),I.wv,.int .i64 i,.int .i64 v,undef,undef,undef,undef,undef,undef,undef,undef,undef,undef,undef,undef,undef,undef]:=by
    have:Try.f26.ntmps=18:=by kernel_rfl
    rw [this];walk_nrm
  rw [enter_at _ Try.func26 iE,ht];generalize hw:I.wv=wv;show JL S.L (I.γ s) _ W;refine Ei ?_;refine EL.EJ (S:=S) (b:=base 26) [] (by simp) zKR nE zKR fun W₁ ha=>?_;obtain ⟨hA1,Ig⟩:=I.alike hA ha;have HH:=Lib.hid (zAI hJ (zAI hS (zAI hA1 Ig)));clear hJ hS hA hA1 Ig;simp only [le0,Try.f26];gi_wp2;obtain ⟨hJ,hS,hA1,Ig⟩:=HH.out;clear HH;obtain ⟨s',hA2,hO2,e1,e2,e3,_,e4,_⟩:=I.lay (W':=W₁.alloc (.cells #[.int .i64 v] 3)) (N:=W₁.heap.size) hA1 rfl ⟨_,_,_,heap_alloc_new _ _⟩ (fun b hb=>Below.heap_alloc _ _ _ hb) (by simp);have hS2:=e4 _ hS;have hO3:=Ig.trans hO2;have hN:I.kept s' W₁.heap.size:=(e3 _).2 (.inr rfl);have hc:(W₁.alloc (.cells #[.int .i64 v] 3)).cell? ⟨W₁.heap.size,0,none⟩=some (.int .i64 v):=OG _ _ _;rw [← e1];generalize W₁.alloc (.cells #[.int .i64 v] 3)=W2 at *;generalize W₁.heap.size=N at *
  show JL S.L (I.γ s') _ W2;simp only [le1,Try.f26];refine Ei ?_;refine EH fun _ hkk=>?_;iterate 3 (refine Eo ?_;walk_nrm)
  refine EL.read (S:=S) (.int .i64 v) rfl rfl nE hc (fun w h=>by go_simp) (fun w h e he=>by simp [go_sem,h] at he;exact he) ?_;walk_nrm;refine JL.Ii (.func (.func 43) #[] #[.pointer (some ⟨N,0,none⟩)]) rfl rfl nE (fun _=>by kernel_rfl) ?_;walk_nrm;refine JL.enter rfl rfl nE rfl Try.func41 zKR zKR ?_;walk_nrm;rw [← hw];refine Ub I hm Vq hN hc hA2 hS2 (I.pop Try.func26 hL) fun s'' QZ W'' e hA3 hO4 hE he=>?_;rw [Frame.finish_at];have hend:=hJ s'' QZ W'' e hA3 (hO3.trans hO4) hE he;obtain ⟨TR,en,em,J4,Ny⟩:=e;simp only at hend;rw [hw];show JL S.L (I.γ s'') _ W'';walk_nrm;iterate 4 (refine Eo ?_;walk_nrm)
  refine EB ?_;cases hkk;refine Er stepG_ret' ?_;exact JL.back rfl Try.func26 (v:=.tuple #[.int .i64 en,.int .i64 J4]) (fun w=>by kernel_rfl) hend
end
end
end Go.Proofs.Yticecinjcajmcaa
end
