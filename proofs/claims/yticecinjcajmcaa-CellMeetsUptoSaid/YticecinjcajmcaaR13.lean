/-
  Part 13 of the proof that CellMeets returns true, and leaves its arguments as they were, for every input whose reading is of bulk at most 1048576. No further condition.
-/
import Derived.Test.YticecinjcajmcaaR00
import Derived.Test.YticecinjcajmcaaR12
import Derived.Test.YticecinjcajmcaaProg
import Derived.OwnWalkIn
import Derived.LoopIn
import Derived.TacticsInMore
import Derived.Sort.BigQuietIn
import Derived.Lib.Hide
import Derived.BigRegionIn
set_option linter.unusedVariables false
set_option linter.unusedSectionVars false
set_option linter.unusedSimpArgs false
set_option maxHeartbeats 4000000
set_option maxRecDepth 100000
noncomputable section
namespace Go.Proofs.Yticecinjcajmcaa
open Go.LK
def hit (p:Int)(lo hi:Nat)(q:Ef × Gq):Bool:=decide (q.1.a=p/\2<=q.1.kind/\q.1.kind<=7/\lo < q.2.st/\q.2.st < hi)
def cnt (p:Int)(lo hi:Nat)(pl:List Ef)(out:List Gq):Nat:=(pl.zip out).countP (hit p lo hi)
def OD (plans:List (List Ef))(outs:List (List Gq))(k:Nat)(p:Int)(lo hi:Nat):Nat->Nat
  | 0=>0
  | j+1=>OD plans outs k p lo hi j+if j=k then 0 else cnt p lo hi (plans.getD j []) (outs.getD j [])
theorem dA {p:Int}{lo hi hi':Nat}(h:hi<=hi')(pl:List Ef)(out:List Gq):cnt p lo hi pl out<=cnt p lo hi' pl out:=by unfold cnt;refine List.countP_mono_left fun q _ hq=>?_;simp only [hit,decide_eq_true_eq] at hq ⊢;exact ⟨hq.1,hq.2.1,hq.2.2.1,hq.2.2.2.1,by omega⟩
theorem Si {p:Int}{lo hi:Nat}{dn td:List Ef}{c:Ef}{out:List Gq}{a:Gq}(h:dn.length=out.length):cnt p lo hi (dn ++ c :: td) (out ++ [a])=cnt p lo hi (dn ++ c :: td) out+if hit p lo hi (c,a) then 1 else 0:=by
  unfold cnt;rw [List.zip_append h,List.countP_append];have e:(dn ++ c :: td).zip out=dn.zip out:=by
    have:=List.zip_append (l₁:=dn) (r₁:=c :: td) (l₂:=out) (r₂:=[]) h
    simpa using this
  rw [e];by_cases hh:hit p lo hi (c,a)=true
  . simp [hh]
  . simp [hh]
theorem Nl {plans:List (List Ef)}{outs RH:List (List Gq)}{k:Nat}{p:Int}{lo hi hi':Nat}(h:∀ j,j≠k->cnt p lo hi (plans.getD j []) (outs.getD j [])<=cnt p lo hi' (plans.getD j []) (RH.getD j []))(n:Nat) :
    OD plans outs k p lo hi n<=OD plans RH k p lo hi' n:=by
  induction n with
  | zero=>exact Nat.le_refl _
  | succ j ih=>
    rw [OD,OD];by_cases e:j=k
    . rw [if_pos e,if_pos e];omega
    . rw [if_neg e,if_neg e];have:=h j e;omega
theorem bV {plans:List (List Ef)}{outs RH:List (List Gq)}{k:Nat}{p:Int}{lo hi hi':Nat}(h:∀ j,j≠k->cnt p lo hi (plans.getD j []) (outs.getD j [])<=cnt p lo hi' (plans.getD j []) (RH.getD j [])){n j:Nat}(hj:j < n)(hk:j≠k)(h1:cnt p lo hi (plans.getD j []) (outs.getD j [])+1<=cnt p lo hi' (plans.getD j []) (RH.getD j [])) :
    OD plans outs k p lo hi n+1<=OD plans RH k p lo hi' n:=by
  induction n with
  | zero=>omega
  | succ m ih=>
    rw [OD,OD];by_cases e:j=m
    . subst e;rw [if_neg hk,if_neg hk];have:=Nl h j;omega
    . have:=ih zOM;by_cases e2:m=k
      . rw [if_pos e2,if_pos e2];omega
      . rw [if_neg e2,if_neg e2];have:=h m e2;omega
def Tq (N:Int->Nat->Nat)(c:Ef)(a:Gq):Prop:=2 < a.ow->(c.kind=6\/c.kind=7)/\a.ow / 2<=N c.a a.bg+1/\1<=N c.a a.bg
def FZ (z:Rs Ef Ec (List Int)):List (List Gq):=z.xs.map (·.out)
def Met (plans:List (List Ef))(z:Rs Ef Ec (List Int))(k:Nat)(c:Ef)(a:Gq):Prop:=Tq (fun p lo=>OD plans (FZ z) k p lo a.st plans.length) c a
def U0 (σ:List Int)(N:Int->Nat->Nat)(x:Wk Ef Ec)(c:Ef):Ec->Prop
  | .one _=>False
  | .look most i v=>c.kind=(if most then 6 else 7)/\c.a=i/\inn σ.length i=true/\∃ m,x.ow=2 * m/\1<=m/\m<=N i x.bg
  | .cas most i v y=>c.kind=(if most then 6 else 7)/\c.a=i/\inn σ.length i=true/\∃ m,x.ow=2 * m+1/\m+(if σ.getD i.toNat 0=y then 0 else 1)<=N i x.bg
def eH (plans:List (List Ef))(z:Rs Ef Ec (List Int))(k:Nat)(p:Int)(lo:Nat):Nat:=OD plans (FZ z) k p lo (z.s+1) plans.length
structure WI (plans:List (List Ef))(z:Rs Ef Ec (List Int))(k:Nat)(x:Wk Ef Ec):Prop where
  rest:x.cur=none->∃ dn,dn.length=x.out.length/\plans.getD k []=dn ++ x.todo
  cur:∀ cs,x.cur=some cs->∃ dn c,dn.length=x.out.length/\plans.getD k []=dn ++ c :: x.todo/\(x.bg<=z.s/\x.ow<=z.s)/\U0 z.σ (eH plans z k) x c cs
  ans:∀ (i:Nat) a,x.out[i]?=some a->(a.st<=z.s/\a.bg<=z.s/\a.ow<=z.s)/\∃ c,(plans.getD k [])[i]?=some c/\Met plans z k c a
structure MI (plans:List (List Ef))(z:Rs Ef Ec (List Int)):Prop where
  len:z.xs.length=plans.length
  each:∀ (k:Nat) x,z.xs[k]?=some x->WI plans z k x
theorem Py {z:Rs Ef Ec (List Int)}{k:Nat}{x:Wk Ef Ec}(h:z.xs[k]?=some x):(FZ z).getD k []=x.out:=by unfold FZ;rw [List.getD_eq_getElem?_getD,List.getElem?_map,h];rfl
theorem MI.uj {plans:List (List Ef)}{z:Rs Ef Ec (List Int)}(h:MI plans z){k:Nat}{x:Wk Ef Ec}(hx:z.xs[k]?=some x):x.out.length<=(plans.getD k []).length:=by
  have hw:=h.each k x hx;cases hc:x.cur with
  | none=>obtain ⟨dn,h1,h2⟩:=hw.rest hc;rw [h2,List.length_append];omega
  | some cs=>obtain ⟨dn,c,h1,h2,_⟩:=hw.cur cs hc;rw [h2,List.length_append];omega
theorem Tf (c:Ef)(σ:List Int)(h:1<=c.kind)(h5:c.kind<=5):(Fu c σ).1=σ\/2<=c.kind/\c.kind<=7/\∃ v,(Fu c σ).1=σ.set c.a.toNat v:=by
  unfold Fu;dsimp only;by_cases h1:c.kind=1
  . rw [if_pos h1];exact .inl rfl
  . rw [if_neg h1];by_cases h2:c.kind=2
    . rw [if_pos h2];exact .inr ⟨by omega,by omega,_,rfl⟩
    rw [if_neg h2];by_cases h3:c.kind=3
    . rw [if_pos h3];exact .inr ⟨by omega,by omega,_,rfl⟩
    rw [if_neg h3];by_cases h4:c.kind=4
    . rw [if_pos h4];exact .inr ⟨by omega,by omega,_,rfl⟩
    rw [if_neg h4];split
    . exact .inr ⟨by omega,by omega,_,rfl⟩
    . exact .inl rfl
inductive Tn (pl:List Ef)(N:Int->Nat->Nat)(s:Nat)(x x':Wk Ef Ec)(σ σ':List Int):Prop
  | same (h:x'=x) (hs:σ'=σ)
  | no (dn:List Ef) (c:Ef) (cs:Ec) (h:dn.length=x.out.length) (hp:pl=dn ++ c :: x'.todo) (ho:x'.out=x.out) (hc:x'.cur=some cs) (hs:σ'=σ) (hb:x'.bg<=s/\x'.ow<=s) (hk:U0 σ N x' c cs)
  | ends (dn:List Ef) (c:Ef) (a:Gq) (h:dn.length=x.out.length) (hp:pl=dn ++ c :: x'.todo) (ho:x'.out=x.out ++ [a]) (hc:x'.cur=none) (hst:a.st=s/\a.bg<=s/\a.ow<=s) (hm:Tq N c a)
      (hs:σ'=σ\/(2<=c.kind/\c.kind<=7)/\inn σ.length c.a=true/\∃ v,σ'=σ.set c.a.toNat v)
theorem fD {plans:List (List Ef)}{z:Rs Ef Ec (List Int)}{k:Nat}{x:Wk Ef Ec}(hw:WI plans z k x) :
    Tn (plans.getD k []) (eH plans z k) (z.s+1) x (Em.hold x (z.s+1) z.σ).1 z.σ (Em.hold x (z.s+1) z.σ).2.1:=by
  cases hc:x.cur with
  | none=>
    obtain ⟨dn,h1,h2⟩:=hw.rest hc;cases ht:x.todo with
    | nil=>
      have e:Em.hold x (z.s+1) z.σ=(x,z.σ,true):=by simp only [Dr.hold,hc,ht]
      rw [e];exact .same rfl rfl
    | cons c l=>
      rw [ht] at h2;have small:∀ {e:An × Bool} {σ':List Int},(σ'=z.σ\/(2<=c.kind/\c.kind<=7)/\inn z.σ.length c.a=true/\∃ v,σ'=z.σ.set c.a.toNat v)->Tn (plans.getD k []) (eH plans z k) (z.s+1) x (({ x with todo:=l,st:=z.s+1,bg:=z.s+1,ow:=1 }:Wk Ef Ec).land (σ',.inr e)).1 z.σ (({ x with todo:=l,st:=z.s+1,bg:=z.s+1,ow:=1 }:Wk Ef Ec).land (σ',.inr e)).2.1:=fun {e σ'} hs=>by rw [Wk.Mr];exact .ends dn c _ h1 h2 rfl rfl ⟨rfl,Nat.le_refl _,by show 1<=_;omega⟩ (fun h=>absurd (show 2 < 1 from h) zOM) hs
      unfold Dr.hold;simp only [hc,ht];by_cases hk:1<=c.kind/\c.kind<=5
      . have hi:Em.init x.k c z.σ=.inl (.one c):=by simp only [Em];rw [if_pos hk]
        rw [hi];dsimp only;by_cases hin:inn z.σ.length c.a=false
        . have hn:Em.next x.k (.one c) z.σ=(z.σ,.inr ({ err:=41 },false)):=by simp only [Em];rw [if_pos hin]
          rw [hn];exact small (.inl rfl)
        . have hn:Em.next x.k (.one c) z.σ=((Fu c z.σ).1,.inr ((Fu c z.σ).2,false)):=by simp only [Em];rw [if_neg hin]
          rw [hn];exact small ((Tf c z.σ hk.1 hk.2).imp id fun ⟨a1,a2,a3⟩=>⟨⟨a1,a2⟩,by simpa using hin,a3⟩)
      . have goes:∀ most:Bool,c.kind=(if most then 6 else 7)->Tn (plans.getD k []) (eH plans z k) (z.s+1) x (({ x with todo:=l,st:=z.s+1,bg:=z.s+1,ow:=1 }:Wk Ef Ec).land (Em.next x.k (.look most c.a c.b) z.σ)).1 z.σ (({ x with todo:=l,st:=z.s+1,bg:=z.s+1,ow:=1 }:Wk Ef Ec).land (Em.next x.k (.look most c.a c.b) z.σ)).2.1:=fun most hm=>by
          by_cases hin:inn z.σ.length c.a=false
          . have hn:Em.next x.k (.look most c.a c.b) z.σ=(z.σ,.inr ({ err:=41 },false)):=by simp only [Em];rw [if_pos hin]
            rw [hn];exact small (.inl rfl)
          . by_cases hb:Q8 most (z.σ.getD c.a.toNat 0) c.b=true
            . have hn:Em.next x.k (.look most c.a c.b) z.σ=(z.σ,.inr ({ n:=z.σ.getD c.a.toNat 0 },false)):=by simp only [Em];rw [if_neg hin,if_pos hb]
              rw [hn];exact small (.inl rfl)
            . have hn:Em.next x.k (.look most c.a c.b) z.σ=(z.σ,.inl (.cas most c.a c.b (z.σ.getD c.a.toNat 0))):=by simp only [Em];rw [if_neg hin,if_neg hb]
              rw [hn,Wk.Ml];exact .no dn c _ h1 h2 rfl rfl rfl ⟨Nat.le_refl _,by show 1<=_;omega⟩ ⟨hm,rfl,by simpa using hin,0,rfl,by simp⟩
        by_cases h6:c.kind=6
        . have hi:Em.init x.k c z.σ=.inl (.look true c.a c.b):=by simp only [Em];rw [if_neg hk,if_pos h6]
          rw [hi];exact goes true (by simpa using h6)
        . by_cases h7:c.kind=7
          . have hi:Em.init x.k c z.σ=.inl (.look false c.a c.b):=by simp only [Em];rw [if_neg hk,if_neg h6,if_pos h7]
            rw [hi];exact goes false (by simpa using h7)
          . have hi:Em.init x.k c z.σ=.inr ({ err:=40 },false):=by simp only [Em];rw [if_neg hk,if_neg h6,if_neg h7]
            rw [hi];exact small (.inl rfl)
  | some cs=>
    obtain ⟨dn,c,h1,h2,h3,h4⟩:=hw.cur cs hc;have eq:Em.hold x (z.s+1) z.σ=({ x with st:=z.s+1,ow:=x.ow+1 }:Wk Ef Ec).land (Em.next x.k cs z.σ):=by simp only [Dr.hold,hc]
    rw [eq];cases cs with
    | one _=>exact h4.elim
    | look most i v=>
      obtain ⟨h5,h6,h7,m,h8,h9,h10⟩:=h4;have hin:¬ inn z.σ.length i=false:=by simp [h7]
      by_cases hb:Q8 most (z.σ.getD i.toNat 0) v=true
      . have hn:Em.next x.k (.look most i v) z.σ=(z.σ,.inr ({ n:=z.σ.getD i.toNat 0 },false)):=by simp only [Em];rw [if_neg hin,if_pos hb]
        rw [hn,Wk.Mr];refine .ends dn c _ h1 h2 rfl rfl ⟨rfl,by show x.bg<=_;omega,by show x.ow+1<=_;omega⟩ (fun h=>⟨by cases most <;> simp_all,?_,?_⟩) (.inl rfl)
        . show (x.ow+1) / 2<=eH plans z k c.a x.bg+1;rw [h6];omega
        . show 1<=eH plans z k c.a x.bg;rw [h6];omega
      . have hn:Em.next x.k (.look most i v) z.σ=(z.σ,.inl (.cas most i v (z.σ.getD i.toNat 0))):=by simp only [Em];rw [if_neg hin,if_neg hb]
        rw [hn,Wk.Ml];exact .no dn c _ h1 h2 rfl rfl rfl ⟨by show x.bg<=_;omega,by show x.ow+1<=_;omega⟩ ⟨h5,h6,h7,m,by show x.ow+1=_;omega,by rw [if_pos rfl];exact h10⟩
    | cas most i v y=>
      obtain ⟨h5,h6,h7,m,h8,h9⟩:=h4;by_cases hy:z.σ.getD i.toNat 0=y
      . have hn:Em.next x.k (.cas most i v y) z.σ=(z.σ.set i.toNat v,.inr ({ n:=v },false)):=by simp only [Em];rw [if_pos hy]
        rw [if_pos hy] at h9;rw [hn,Wk.Mr];refine .ends dn c _ h1 h2 rfl rfl ⟨rfl,by show x.bg<=_;omega,by show x.ow+1<=_;omega⟩ (fun h=>⟨by cases most <;> simp_all,?_,?_⟩) (.inr ⟨by cases most <;> simp_all,by rw [h6];exact h7,v,by rw [h6]⟩)
        . show (x.ow+1) / 2<=eH plans z k c.a x.bg+1;rw [h6];omega
        . have h:2 < x.ow+1:=h;show 1<=eH plans z k c.a x.bg;rw [h6];omega
      . have hn:Em.next x.k (.cas most i v y) z.σ=(z.σ,.inl (.look most i v)):=by simp only [Em];rw [if_neg hy]
        rw [if_neg hy] at h9;rw [hn,Wk.Ml];exact .no dn c _ h1 h2 rfl rfl rfl ⟨by show x.bg<=_;omega,by show x.ow+1<=_;omega⟩ ⟨h5,h6,h7,m+1,by show x.ow+1=_;omega,by omega,h9⟩
theorem U0.later {σ σ':List Int}{N N':Int->Nat->Nat}{x:Wk Ef Ec}{c:Ef}{cs:Ec}(h:U0 σ N x c cs)(hl:σ'.length=σ.length)(h1:∀ i,N i x.bg<=N' i x.bg)(h2:∀ i,inn σ.length i=true->σ'.getD i.toNat 0≠σ.getD i.toNat 0->N i x.bg+1<=N' i x.bg):U0 σ' N' x c cs:=by
  cases cs with
  | one _=>exact h.elim
  | look most i v=>
    obtain ⟨h5,h6,h7,m,h8,h9,h10⟩:=h;exact ⟨h5,h6,by rw [hl];exact h7,m,h8,h9,Nat.le_trans h10 (h1 i)⟩
  | cas most i v y=>
    obtain ⟨h5,h6,h7,m,h8,h9⟩:=h;refine ⟨h5,h6,by rw [hl];exact h7,m,h8,?_⟩;have a1:=h1 i;by_cases e:σ'.getD i.toNat 0=y
    . rw [if_pos e];have:=Nat.le_trans (Nat.le_add_right _ _) h9;omega
    . rw [if_neg e];by_cases e':σ.getD i.toNat 0=y
      . rw [if_pos e'] at h9;have:=h2 i h7 (by rw [e'];exact e);omega
      . rw [if_neg e'] at h9;omega
theorem Tq.later {N N':Int->Nat->Nat}{c:Ef}{a:Gq}(h:Tq N c a)(h1:∀ i,N i a.bg<=N' i a.bg):Tq N' c a:=fun h2=>by obtain ⟨h3,h4,h5⟩:=h h2;have:=h1 c.a;exact ⟨h3,by omega,by omega⟩
theorem MI.turn {plans:List (List Ef)}{z:Rs Ef Ec (List Int)}(h:MI plans z){k:Nat}{x:Wk Ef Ec}(hx:z.xs[k]?=some x):MI plans (z.turn Em k x):=by
  have hk:k < z.xs.length:=(List.getElem?_eq_some_iff.1 hx).1;have ht:=fD (h.each k x hx);generalize hx':(Em.hold x (z.s+1) z.σ).1=x' at ht;generalize hs':(Em.hold x (z.s+1) z.σ).2.1=σ' at ht;have z1:(z.turn Em k x).xs=z.xs.set k x':=by rw [← hx'];rfl
  have z2:(z.turn Em k x).σ=σ':=by rw [← hs'];rfl
  have z3:(z.turn Em k x).s=z.s+1:=rfl;generalize z.turn Em k x=z' at z1 z2 z3;have ok:(FZ z').getD k []=x'.out:=Py (x:=x') (by rw [z1];simp [hk]);have okz:(FZ z).getD k []=x.out:=Py hx;have oj:∀ j,j≠k->(FZ z').getD j []=(FZ z).getD j []:=fun j hj=>by unfold FZ;rw [z1,List.getD_eq_getElem?_getD,List.getD_eq_getElem?_getD,List.getElem?_map,List.getElem?_map,List.getElem?_set_ne (Ne.symm hj)]
  have grow:∀ (p:Int) (lo hi hi':Nat),hi<=hi'->∀ j,cnt p lo hi (plans.getD j []) ((FZ z).getD j [])<=cnt p lo hi' (plans.getD j []) ((FZ z').getD j []):=fun p lo hi hi' hh j=>by
    refine Nat.le_trans (dA hh _ _) ?_;by_cases e:j=k
    . subst e;rw [ok,okz];cases ht with
      | same h1 _=>rw [h1];exact Nat.le_refl _
      | no dn c cs h1 h2 h3=>rw [h3];exact Nat.le_refl _
      | ends dn c a h1 h2 h3=>rw [h3,h2,Si h1];omega
    . rw [oj j e];exact Nat.le_refl _
  have gN:∀ j i lo,eH plans z j i lo<=eH plans z' j i lo:=fun j i lo=>Nl (fun q _=>grow i lo (z.s+1) (z'.s+1) zOM q) _;have gM:∀ {j c a},Met plans z j c a->Met plans z' j c a:=fun {j c a} hm=>Tq.later hm fun i=>Nl (fun q _=>grow i a.bg a.st a.st (Nat.le_refl _) q) _;refine ⟨by rw [z1,List.length_set];exact h.len,fun j y hy=>?_⟩;rw [z1] at hy;by_cases e:k=j
  . subst e;rw [List.getElem?_set_self hk] at hy;obtain rfl:=Option.some.inj hy;have hw:=h.each k x hx;cases ht with
    | same h1 h2=>
      subst h1;refine ⟨hw.rest,fun cs hc=>?_,fun i a ha=>?_⟩
      . obtain ⟨dn,c,a1,a2,a3,a4⟩:=hw.cur cs hc;exact ⟨dn,c,a1,a2,by omega,a4.later (by rw [z2,h2]) (fun i=>gN k i _) (fun i _ hne=>absurd (by rw [z2,h2]) hne)⟩
      . obtain ⟨a1,c,a2,a3⟩:=hw.ans i a ha;exact ⟨by omega,c,a2,gM a3⟩
    | no dn c cs h1 h2 h3 h4 h5 h6 h7=>
      refine ⟨fun hn=>(by rw [h4] at hn;cases hn),fun cs' hc=>?_,fun i a ha=>?_⟩
      . rw [h4] at hc;obtain rfl:=Option.some.inj hc;exact ⟨dn,c,by rw [h3];exact h1,h2,by omega,h7.later (by rw [z2,h5]) (fun i=>gN k i _) (fun i _ hne=>absurd (by rw [z2,h5]) hne)⟩
      . rw [h3] at ha;obtain ⟨a1,c,a2,a3⟩:=hw.ans i a ha;exact ⟨by omega,c,a2,gM a3⟩
    | ends dn c a h1 h2 h3 h4 h5 h6 h7=>
      refine ⟨fun _=>⟨dn ++ [c],by rw [h3];simp [h1],by rw [h2];simp⟩,fun cs hc=>(by rw [h4] at hc;cases hc),fun i b hb=>?_⟩;rw [h3] at hb;by_cases hi:i < x.out.length
      . rw [List.getElem?_append_left hi] at hb;obtain ⟨a1,c,a2,a3⟩:=hw.ans i b hb;exact ⟨by omega,c,a2,gM a3⟩
      . rw [List.getElem?_append_right zOM] at hb;obtain ⟨e0,rfl⟩:i=x.out.length/\a=b:=by
          cases hd:i - x.out.length with
          | zero=>rw [hd] at hb;exact ⟨by omega,Option.some.inj hb⟩
          | succ q=>rw [hd] at hb;cases hb
        subst e0;refine ⟨by omega,c,by rw [h2,← h1];simp,Tq.later h6 fun i=>?_⟩;rw [h5.1];exact Nl (fun q _=>grow i a.bg (z.s+1) (z.s+1) (Nat.le_refl _) q) _
  . rw [List.getElem?_set_ne e] at hy;have hw:=h.each j y hy;refine ⟨hw.rest,fun cs hc=>?_,fun i a ha=>?_⟩
    . obtain ⟨dn,c,a1,a2,a3,a4⟩:=hw.cur cs hc;have hl:σ'.length=z.σ.length:=by
        cases ht with
        | same _ h2=>rw [h2]
        | no _ _ _ _ _ _ _ h5=>rw [h5]
        | ends _ _ _ _ _ _ _ _ _ h7=>
          rcases h7 with h7|⟨_,_,v,h7⟩
          . rw [h7]
          . rw [h7,List.length_set]
      refine ⟨dn,c,a1,a2,by omega,a4.later (by rw [z2];exact hl) (fun i=>gN j i _) (fun i hi hne=>?_)⟩;rw [z2] at hne;cases ht with
      | same _ h2=>exact absurd (by rw [h2]) hne
      | no _ _ _ _ _ _ _ h5=>exact absurd (by rw [h5]) hne
      | ends dn2 c2 a2 b1 b2 b3 b4 b5 b6 b7=>
        rcases b7 with b7|⟨b8,b9,v,b7⟩
        . exact absurd (by rw [b7]) hne
        have ei:i.toNat=c2.a.toNat:=by refine Classical.byContradiction fun hn=>hne ?_;rw [b7,List.getD_eq_getElem?_getD,List.getD_eq_getElem?_getD,List.getElem?_set_ne (Ne.symm hn)]
        have ei2:c2.a=i:=by simp only [inn,Bool.and_eq_true,decide_eq_true_eq] at hi b9;omega
        refine bV (fun q _=>grow i y.bg (z.s+1) (z'.s+1) zOM q) (j:=k) (by rw [← h.len];exact hk) e ?_;rw [ok,okz,b3,b2,Si b1];have hh:hit i y.bg (z'.s+1) (c2,a2)=true:=by simp only [hit,decide_eq_true_eq];exact ⟨ei2,b8.1,b8.2,by omega,by omega⟩
        rw [if_pos hh];have:=dA (p:=i) (lo:=y.bg) (show z.s+1<=z'.s+1 by omega) (dn2 ++ c2 :: x'.todo) x.out;omega
    . obtain ⟨a1,c,a2,a3⟩:=hw.ans i a ha;exact ⟨by omega,c,a2,gM a3⟩
theorem MI.next {plans:List (List Ef)}{z:Rs Ef Ec (List Int)}(h:MI plans z):MI plans (z.next Em):=by
  unfold Rs.next;cases hx:z.xs[z.pick]? with
  | none=>exact h
  | some x=>exact h.turn hx
theorem MI.go {plans:List (List Ef)}(most:Nat):∀ (f:Nat) {z:Rs Ef Ec (List Int)},MI plans z->MI plans (Rs.go Em most f z)
  | 0,z,h=>h
  | f+1,z,h=>by
    unfold Rs.go;split
    . exact MI.go most f h.next
    . exact h
theorem MI.new (plans:List (List Ef))(σ:List Int)(turns hl:List Int):MI plans (Rs.new plans σ turns hl):=by
  refine ⟨by simp [Rs.new],fun k x hx=>?_⟩;simp only [Rs.new,List.getElem?_map,List.getElem?_zipIdx,Option.map_map] at hx;cases hp:plans[k]? with
  | none=>rw [hp] at hx;cases hx
  | some pl=>
    rw [hp] at hx;obtain rfl:=Option.some.inj hx;refine ⟨fun _=>⟨[],rfl,?_⟩,fun cs hc=>(by cases hc),fun i a ha=>(by cases ha)⟩;rw [List.getD_eq_getElem?_getD,hp];rfl
theorem Rs.tC {Cl Cs Sg:Type}(D:Dr Cl Cs Sg)(most:Nat):∀ (f:Nat) (z:Rs Cl Cs Sg),z.s<=most->(Rs.go D most f z).s<=most
  | 0,z,h=>h
  | f+1,z,h=>by
    unfold Rs.go;split
    . rename_i h1
      refine Rs.tC D most f _ ?_;unfold Rs.next;split
      . exact h1.2
      . exact h
    . exact h
end Go.Proofs.Yticecinjcajmcaa
namespace Go.Proofs.Yticecinjcajmcaa
open Go Go.RowKit BA
theorem YR:(Try.prog.info? 4).map (fun i=>(i.zero,i.size,i.bytes))=some (some (.bool false),1,1):=by kernel_rfl
theorem mG (w:World)(a b:Obj):((w.alloc a).alloc b).heap[w.heap.size+1]?=some b:=by
  have:=heap_alloc_new (w.alloc a) b
  simpa using this
theorem I8 (w:World)(c:Array Value)(e:TypeId)(f:Nat × Nat)(j:Nat):(w.alloc (.cells c e f)).cell? ⟨w.heap.size,j,none⟩=c[j]?:=by
  have:=heap_alloc_new w (.cells c e f);simp only [World.cell?];rw [this]
  simp
theorem bM {lg lo lc:Nat}{bs:List Nat}{dn:List Bool}{wa xa ya:Option Addr}{wn wc xn xc yc sg sc:Nat}{u:Int}{hl:List Int}{st:List Nat}(w:World)(hdl:dn.length=bs.length)(hsl:st.length=bs.length)(hn:bs.length<=1000)(hhn:hl.length<=1000000)(hsb:∀ (i c:Nat),st[i]?=some c->c<=1000000)(YT:∀ i x,hl[i]?=some x->-9223372036854775808<=x/\x<=9223372036854775807/\∃ hg ho,ya=some ⟨hg,ho,none⟩/\w.cell? ⟨hg,ho+i,none⟩=some (.int .i64 x))(hst:∀ (i c:Nat),st[i]?=some c->w.cell? ⟨sg,i,none⟩=some (.int .i64 c))(hcell:∀ i b,bs[i]?=some b->w.cell? ⟨lg,lo+i,none⟩=some (.pointer (some ⟨b,0,none⟩))/\w.cell? ⟨b,10,none⟩=some (.bool (dn.getD i false))) :
    CallsIn (Fence.list [34,63] none) 0 Try.prog 63 #[.agg #[.slice wa wn wc,.slice xa xn xc,.slice ya hl.length yc,.int .i64 u],.slice (some ⟨lg,lo,none⟩) bs.length lc,.slice (some ⟨sg,0,none⟩) bs.length sc] w fun e w'=>∃ ob,w.heap.size<=ob/\e=.returned (.tuple #[.slice (some ⟨ob,0,none⟩) bs.length bs.length,.bool ((List.range bs.length).any (M5 hl st dn))])/\Below w.heap.size w w'/\(∀ i,i < bs.length->w'.cell? ⟨ob,i,none⟩=some (.bool (M5 hl st dn i))):=by
  obtain ⟨i0,hi,hz0,hz1,hz2⟩:=info_parts YR;have hmk:∀ wx:World,(Instr.makeSlice 126 (.int .i64 bs.length) (.int .i64 bs.length)).run Try.prog wx=.ok (.slice (some ⟨wx.heap.size,0,none⟩) bs.length bs.length) (wx.alloc (.cells (madeCells #[.bool false] bs.length) 4)):=fun wx=>by
    have:=run_makeSlice (P:=Try.prog) (w:=wx) 126 4 i0 (.bool false) Try.underlying126 hi hz0 .i64 .i64 bs.length bs.length zOM (Int.le_refl _) (by rw [hz1];simp;omega) (by rw [hz2];omega) zOM;rw [hz1,show (Value.bool false).cells=#[.bool false] from rfl] at this
    simpa using this
  have HC:=Lib.hid hcell;have HL:=Lib.hid (zAI YT hst);clear hcell YT hst;gi_enter Try.func63,Try.ntmps63
  gi_wp2;generalize hW:World.alloc (World.alloc w _) _=W1;have z1:W1.heap.size=w.heap.size+2:=by rw [← hW];simp
  have q1:W1.heap[w.heap.size+1]?=some (.cells (madeCells #[.bool false] bs.length) 4 (0,0)):=by rw [← hW];exact mG _ _ _
  have q0:W1.cell? ⟨w.heap.size,2,none⟩=some (.slice ya hl.length yc):=by rw [← hW];exact Lib.cell?_alloc_some _ (I8 _ _ _ _ 2)
  have Y8:∀ i b,bs[i]?=some b->W1.cell? ⟨lg,lo+i,none⟩=some (.pointer (some ⟨b,0,none⟩))/\W1.cell? ⟨b,10,none⟩=some (.bool (dn.getD i false))/\lg < w.heap.size/\b < w.heap.size:=fun i b hb=>by
    obtain ⟨h1,h2⟩:=HC.out i b hb;have lt:∀ a v,w.cell? a=some v->a.block < w.heap.size:=fun a v h=>by
      simp only [World.cell?] at h;cases ho:w.heap[a.block]? with
      | none=>rw [ho] at h;cases h
      | some o=>exact (zGE ho).1
    exact ⟨by rw [← hW];exact Lib.cell?_alloc_some _ (Lib.cell?_alloc_some _ h1),by rw [← hW];exact Lib.cell?_alloc_some _ (Lib.cell?_alloc_some _ h2),lt _ _ h1,lt _ _ h2⟩
  have ny:(∀ i x,hl[i]?=some x->-9223372036854775808<=x/\x<=9223372036854775807/\∃ hg ho,ya=some ⟨hg,ho,none⟩/\W1.cell? ⟨hg,ho+i,none⟩=some (.int .i64 x)/\hg < w.heap.size)/\(∀ (i c:Nat),st[i]?=some c->W1.cell? ⟨sg,i,none⟩=some (.int .i64 c)/\sg < w.heap.size):=by
    obtain ⟨YT,hst⟩:=HL.out;have lt:∀ a v,w.cell? a=some v->a.block < w.heap.size:=fun a v h=>by
      simp only [World.cell?] at h;cases ho:w.heap[a.block]? with
      | none=>rw [ho] at h;cases h
      | some o=>exact (zGE ho).1
    refine ⟨fun i x hx=>?_,fun i c hc=>?_⟩
    . obtain ⟨h1,h2,hg,ho,e,hcx⟩:=YT i x hx;exact ⟨h1,h2,hg,ho,e,by rw [← hW];exact Lib.cell?_alloc_some _ (Lib.cell?_alloc_some _ hcx),lt _ _ hcx⟩
    . have hcx:=hst i c hc;exact ⟨by rw [← hW];exact Lib.cell?_alloc_some _ (Lib.cell?_alloc_some _ hcx),lt _ _ hcx⟩
  have HB:Below w.heap.size w W1:=by rw [← hW];exact ((Below.refl _ w).alloc (Nat.le_refl _) _).alloc (by simp) _
  have HH:=Lib.hid (zAI Y8 (zAI HB (zAI q1 (zAI q0 (zAI ny z1)))));clear Y8 HB HC hW q1 q0 z1 HL ny;have hsz:(madeCells #[Value.bool false] bs.length).size=bs.length:=size_madeCells _ _;have HZ:=Lib.hid hsz;clear hsz;gi_loopw [9,18] (fun a i wr=>∃ k:Nat,k<=bs.length/\i=.int .i64 k/\a=.bool ((List.range k).any (M5 hl st dn))/\RowKit.Hid (∃ cur:Array Value,wr.heap[w.heap.size+1]?=some (.cells cur 4 (0,0))/\cur.size=bs.length/\(∀ j,j < k->cur[j]?=some (.bool (M5 hl st dn j)))/\(∀ g,g < w.heap.size+1->wr.heap[g]?=W1.heap[g]?)/\Below w.heap.size w wr)) (fun a i _=>bs.length - (intOf i).toNat)
  case atStart=>
    obtain ⟨Y8,HB,q1,q0,ny,z1⟩:=HH.out;exact ⟨0,Nat.zero_le _,rfl,by simp,Lib.hid ⟨_,q1,HZ.out,fun j hj=>by omega,fun g _=>rfl,HB⟩⟩
  case round=>
    obtain ⟨k,hk,rfl,rfl,hinv⟩:=hrel;by_cases hlt:k < bs.length
    . obtain ⟨cur,r1,r2,r3,r4,r5⟩:=hinv.out;obtain ⟨Y8,HB,q1,q0,ny,z1⟩:=HH.out;obtain ⟨b,hb⟩:∃ b,bs[k]?=some b:=⟨_,List.getElem?_eq_getElem hlt⟩
      obtain ⟨p1,p2,p3,p4⟩:=Y8 k b hb;have s1:wr.cell? ⟨lg,lo+k,none⟩=some (.pointer (some ⟨b,0,none⟩)):=by simp only [World.cell?,r4 lg zOM] at p1 ⊢;exact p1
      have s2:wr.cell? ⟨b,10,none⟩=some (.bool (dn.getD k false)):=by simp only [World.cell?,r4 b zOM] at p2 ⊢;exact p2
      have s3:wr.cell? ⟨w.heap.size,2,none⟩=some (.slice ya hl.length yc):=by simp only [World.cell?,r4 w.heap.size zOM] at q0 ⊢;exact q0
      obtain ⟨ov,hov⟩:∃ ov,cur[k]?=some ov:=⟨_,Array.getElem?_eq_getElem zOM⟩
      have s4:wr.cell? ⟨w.heap.size+1,k,none⟩=some ov:=by simp [World.cell?,r1,hov]
      have s5:wr.frozen? ⟨w.heap.size+1,k,none⟩=false:=by simp [World.frozen?,r1]
      have hstep:∀ (nq:Nat) (v:Value),v=.bool (M5 hl st dn k)->RowKit.Hid (∃ cur:Array Value,((wr.drewN nq).setCell ⟨w.heap.size+1,k,none⟩ v).heap[w.heap.size+1]?=some (.cells cur 4 (0,0))/\cur.size=bs.length/\(∀ j,j < k+1->cur[j]?=some (.bool (M5 hl st dn j)))/\(∀ g,g < w.heap.size+1->((wr.drewN nq).setCell ⟨w.heap.size+1,k,none⟩ v).heap[g]?=W1.heap[g]?)/\Below w.heap.size w ((wr.drewN nq).setCell ⟨w.heap.size+1,k,none⟩ v)):=fun nq v hv=>Lib.hid (by
        refine ⟨cur.setIfInBounds k v,?_,by simpa using r2,fun j hj=>?_,fun g hg=>?_,?_⟩
        . have r1':(wr.drewN nq).heap[w.heap.size+1]?=some (.cells cur 4 (0,0)):=r1;simp only [World.setCell,Array.getElem?_modify,if_true,r1',Option.map_some];first | rfl | simp | skip
        . by_cases e:k=j
          . subst e;rw [Array.getElem?_setIfInBounds_self_of_lt zOM,hv]
          . rw [Array.getElem?_setIfInBounds_ne e];exact r3 j zOM
        . rw [← r4 g hg];have:(wr.drewN nq).heap[g]?=wr.heap[g]?:=rfl;simp only [World.setCell,Array.getElem?_modify];rw [if_neg zOM,this]
        . exact ⟨r5.os,r5.tape,r5.output,by have:=r5.size;simpa [World.setCell] using this,fun g hg=>by rw [← r5.block g hg];have:(wr.drewN nq).heap[g]?=wr.heap[g]?:=rfl;simp only [World.setCell,Array.getElem?_modify];rw [if_neg zOM,this]⟩)
      have hany:(List.range (k+1)).any (M5 hl st dn)=((List.range k).any (M5 hl st dn) || M5 hl st dn k):=by rw [List.range_succ];simp
      obtain ⟨c,hc⟩:∃ c,st[k]?=some c:=⟨_,List.getElem?_eq_getElem zOM⟩
      have s6:wr.cell? ⟨sg,k,none⟩=some (.int .i64 c):=by have:=ny.2 k c hc;simp only [World.cell?,r4 sg zOM] at this ⊢;exact this.1
      have hcd:st.getD k 0=c:=by simp [List.getD,hc]
      have hcb:=hsb k c hc;have HS:=Lib.hid (zAI hstep hany);clear hstep hany;have HQ:=Lib.hid (zAI r1 (zAI r2 (zAI r3 (zAI r4 (zAI r5 (zAI hb hc))))));have HL2:=ny.1;have rX:=Lib.hid (zAI HL2 r4);clear r1 r2 r3 r4 r5 hb p1 p2 Y8 HB q1 q0 z1 hinv ny HL2;have hk0:¬ ((k:Int) < 0):=by omega
      by_cases hkl:k < hl.length
      . obtain ⟨x,hx⟩:∃ x,hl[k]?=some x:=⟨_,List.getElem?_eq_getElem hkl⟩
        have hxd:hl.getD k 0=x:=by simp [List.getD,hx]
        obtain ⟨hx1,hx2,hg,ho,rfl,s7,hgl⟩:=rX.out.1 k x hx;replace s7:wr.cell? ⟨hg,ho+k,none⟩=some (.int .i64 x):=by have r4:=rX.out.2;simp only [World.cell?,r4 hg zOM] at s7 ⊢;exact s7
        have hk1:decide ((k:Int) < (hl.length:Int))=true:=by simp;omega
        have hk2:(k:Int) < (hl.length:Int):=by omega
        by_cases hx0:0 < x
        . have hx3:decide (0 < x)=true:=by simp [hx0]
          by_cases hxc:x<=(c:Int)
          . have hx4:decide (x<=(c:Int))=true:=by simp [hxc]
            have HV:RowKit.Hid (M5 hl st dn k=false):=Lib.hid (by unfold M5 Ud;rw [hxd,hcd];simp [hkl,hx0,hxc]);clear hxd hcd hx rX;generalize hd:dn.getD k false=d at s2;gi_wp2;gi_big_quiet_th (fail)
            gi_wp2;all_goals (refine ⟨⟨k+1,by omega,by go_num,?_,(HS.out.1 _ _ (by rw [HV.out];first | done | simp_all))⟩,by simp [intOf];omega⟩;rw [HS.out.2,HV.out];first | done | rfl | simp_all)
          . have hx4:decide (x<=(c:Int))=false:=by simp;omega
            have HV:RowKit.Hid (M5 hl st dn k=!(dn.getD k false)):=Lib.hid (by unfold M5 Ud;rw [hxd,hcd];simp [hkl,hx0,hxc]);clear hxd hcd hx rX;generalize hd:dn.getD k false=d at s2;gi_wp2;gi_big_quiet_th (fail)
            gi_wp2;all_goals (refine ⟨⟨k+1,by omega,by go_num,?_,(HS.out.1 _ _ (by rw [HV.out,hd];first | done | simp_all))⟩,by simp [intOf];omega⟩;rw [HS.out.2,HV.out,hd];first | done | rfl | simp_all)
        . have hx3:decide (0 < x)=false:=by simp;omega
          have HV:RowKit.Hid (M5 hl st dn k=!(dn.getD k false)):=Lib.hid (by unfold M5 Ud;rw [hxd,hcd];simp [hkl,hx0]);clear hxd hcd hx rX;generalize hd:dn.getD k false=d at s2;gi_wp2;gi_big_quiet_th (fail)
          gi_wp2;all_goals (refine ⟨⟨k+1,by omega,by go_num,?_,(HS.out.1 _ _ (by rw [HV.out,hd];first | done | simp_all))⟩,by simp [intOf];omega⟩;rw [HS.out.2,HV.out,hd];first | done | rfl | simp_all)
      . have hk1:decide ((k:Int) < (hl.length:Int))=false:=by simp;omega
        have HV:RowKit.Hid (M5 hl st dn k=!(dn.getD k false)):=Lib.hid (by unfold M5 Ud;simp [hkl]);clear hcd rX;generalize hd:dn.getD k false=d at s2;gi_wp2;gi_big_quiet_th (fail)
        gi_wp2;all_goals (refine ⟨⟨k+1,by omega,by go_num,?_,(HS.out.1 _ _ (by rw [HV.out,hd];first | done | simp_all))⟩,by simp [intOf];omega⟩;rw [HS.out.2,HV.out,hd];first | done | rfl | simp_all)
    . obtain rfl:k=bs.length:=by omega
      gi_wp2;go_ret2
      obtain ⟨cur,r1,r2,r3,r4,r5⟩:=hinv.out;exact ⟨w.heap.size+1,by omega,rfl,r5,fun i hi=>by simp [World.cell?,r1,r3 i hi]⟩
end Go.Proofs.Yticecinjcajmcaa
namespace Go.Proofs.Yticecinjcajmcaa
open Go Go.Conc Go.LT Go.LC Go.LK Go.RowKit
open BA
def Kl (W:World)(g o:Nat)(c:Ef)(pa:Option Addr)(pn pc:Nat):Prop:=
  W.cell? ⟨g,o,none⟩=some (.int .i64 c.kind)/\W.cell? ⟨g,o+1,none⟩=some (.int .i64 c.a)/\W.cell? ⟨g,o+2,none⟩=some (.int .i64 c.b)/\W.cell? ⟨g,o+3,none⟩=some (.int .i64 c.c)/\W.cell? ⟨g,o+4,none⟩=some (.slice pa pn pc)
structure FX (Fx:Nat->Prop)(wa ta ya:Option Addr)(plans:List (List Ef))(turns hl:List Int)(W:World):Prop where
  work:∀ (k:Nat) pl,plans[k]?=some pl->∃ b o ca cc,wa=some ⟨b,o,none⟩/\Fx b/\pl.length<=maxLen/\W.cell? ⟨b,o+k,none⟩=some (.slice ca pl.length cc)/\∀ (i:Nat) c,pl[i]?=some c->∃ g o' pa pn pc,ca=some ⟨g,o',none⟩/\Fx g/\Kl W g (o'+i * 5) c pa pn pc
  turns:∀ (i:Nat) x,turns[i]?=some x->∃ b o,ta=some ⟨b,o,none⟩/\Fx b/\W.cell? ⟨b,o+i,none⟩=some (.int .i64 x)
  U8:∀ (i:Nat) x,hl[i]?=some x->-9223372036854775808<=x/\x<=9223372036854775807/\∃ b o,ya=some ⟨b,o,none⟩/\Fx b/\W.cell? ⟨b,o+i,none⟩=some (.int .i64 x)
theorem EN {W:World}{a:Addr}{v:Value}(h:W.cell? a=some v):a.block < W.heap.size:=World.block_lt_of_cell? W _ h
theorem Kl.same {W W':World}{g o:Nat}{c:Ef}{pa:Option Addr}{pn pc:Nat}(h:Kl W g o c pa pn pc)(hg:W'.heap[g]?=W.heap[g]?):Kl W' g o c pa pn pc:=by
  have e:∀ o,W'.cell? ⟨g,o,none⟩=W.cell? ⟨g,o,none⟩:=fun o=>by simp only [World.cell?,hg]
  obtain ⟨h1,h2,h3,h4,h5⟩:=h;exact ⟨(e _).trans h1,(e _).trans h2,(e _).trans h3,(e _).trans h4,(e _).trans h5⟩
theorem Kl.lt {W:World}{g o:Nat}{c:Ef}{pa:Option Addr}{pn pc:Nat}(h:Kl W g o c pa pn pc):g < W.heap.size:=EN h.1
theorem FX.same {Fx:Nat->Prop}{wa ta ya:Option Addr}{plans:List (List Ef)}{turns hl:List Int}{W W':World}(h:FX Fx wa ta ya plans turns hl W)(hg:∀ g,Fx g->W'.heap[g]?=W.heap[g]?):FX Fx wa ta ya plans turns hl W':=by
  have e:∀ g o,Fx g->W'.cell? ⟨g,o,none⟩=W.cell? ⟨g,o,none⟩:=fun g o hx=>by simp only [World.cell?,hg g hx]
  refine ⟨fun k pl hp=>?_,fun i x hi=>?_,fun i x hi=>?_⟩
  . obtain ⟨b,o,ca,cc,a1,a2,a5,a3,a4⟩:=h.work k pl hp;refine ⟨b,o,ca,cc,a1,a2,a5,(e _ _ a2).trans a3,fun i c hc=>?_⟩;obtain ⟨g,o',pa,pn,pc,b1,b2,b3⟩:=a4 i c hc;exact ⟨g,o',pa,pn,pc,b1,b2,b3.same (hg g b2)⟩
  . obtain ⟨b,o,a1,a2,a3⟩:=h.turns i x hi;exact ⟨b,o,a1,a2,(e _ _ a2).trans a3⟩
  . obtain ⟨a0,a5,b,o,a1,a2,a3⟩:=h.U8 i x hi;exact ⟨a0,a5,b,o,a1,a2,(e _ _ a2).trans a3⟩
theorem FX.old {Fx:Nat->Prop}{wa ta ya:Option Addr}{plans:List (List Ef)}{turns hl:List Int}{W W':World}(h:FX Fx wa ta ya plans turns hl W)(hg:∀ g,g < W.heap.size->W'.heap[g]?=W.heap[g]?):FX Fx wa ta ya plans turns hl W':=by
  have e:∀ {g o v},W.cell? ⟨g,o,none⟩=some v->W'.cell? ⟨g,o,none⟩=some v:=fun {g o v} hx=>by rw [← hx];simp only [World.cell?,hg g (EN hx)]
  refine ⟨fun k pl hp=>?_,fun i x hi=>?_,fun i x hi=>?_⟩
  . obtain ⟨b,o,ca,cc,a1,a2,a5,a3,a4⟩:=h.work k pl hp;refine ⟨b,o,ca,cc,a1,a2,a5,e a3,fun i c hc=>?_⟩;obtain ⟨g,o',pa,pn,pc,b1,b2,b3⟩:=a4 i c hc;exact ⟨g,o',pa,pn,pc,b1,b2,b3.same (hg g b3.lt)⟩
  . obtain ⟨b,o,a1,a2,a3⟩:=h.turns i x hi;exact ⟨b,o,a1,a2,e a3⟩
  . obtain ⟨a0,a5,b,o,a1,a2,a3⟩:=h.U8 i x hi;exact ⟨a0,a5,b,o,a1,a2,e a3⟩
theorem NH {w:World}{o:Obj}:Below w.heap.size w (w.alloc o):=(Below.refl _ _).alloc (Nat.le_refl _) o
def eU (plans:List (List Ef))(turns hl:List Int)(w:World)(e:Ending)(w':World):Prop:=∃ b,e=.returned (.bool b)/\(b=true->plans.length<=16/\turns.length<=20000/\hl.length<=1000)/\Below w.heap.size w w'
def zX (v:Value):Prop:=∃ x:Int,v=.int .i64 x
theorem dL (h:FuncId){Fx:Nat->Prop}{wa ta ya:Option Addr}{plans:List (List Ef)}{turns hl:List Int}{w:World}(hC:FX Fx wa ta ya plans turns hl w)(wc tc yc:Nat)(u:Int) :
    CallsIn (Fence.list [h,6] none) 0 Try.prog 6 #[.agg #[.slice wa plans.length wc,.slice ta turns.length tc,.slice ya hl.length yc,.int .i64 u]] w (eU plans turns hl w):=by
  have HC:=Lib.hid hC;clear hC;gi_enter Try.func6,Try.ntmps6
  by_cases h1:(16:Int) < (plans.length:Int)
  . gi_wp2;go_ret
    exact ⟨false,rfl,fun h=>(by cases h),NH⟩
  by_cases h2:(20000:Int) < (turns.length:Int)
  . gi_wp2;go_ret
    exact ⟨false,rfl,fun h=>(by cases h),NH⟩
  by_cases h3:(1000:Int) < (hl.length:Int)
  . gi_wp2;go_ret
    exact ⟨false,rfl,fun h=>(by cases h),NH⟩
  gi_wp2;generalize hW:World.alloc w _=W1;have hC1:W1.cell? ⟨w.heap.size,0,none⟩=some (.slice wa plans.length wc):=by rw [← hW];exact I8 _ _ _ _ 0
  have HB:RowKit.Hid (Below w.heap.size w W1/\FX Fx wa ta ya plans turns hl W1):=Lib.hid (by refine ⟨by rw [← hW];exact NH,HC.out.old fun g hg=>by rw [← hW];exact heap_alloc_old _ _ hg⟩)
  clear hW;gi_loopw [3,4,5] (fun cv pv iv wr=>∃ k:Nat,k<=plans.length/\iv=.int .i64 k/\zX cv/\zX pv/\wr=W1) (fun _ _ iv _=>plans.length - (intOf iv).toNat)
  case atStart=>exact ⟨0,by omega,rfl,⟨_,rfl⟩,⟨_,rfl⟩,rfl⟩
  case round=>
    obtain ⟨k,hk,rfl,⟨cx,rfl⟩,⟨px,rfl⟩,rfl⟩:=hrel;by_cases hlt:k < plans.length
    . have hki:(k:Int) < (plans.length:Int):=by omega
      obtain ⟨b,o,ca,cc,rfl,_,hml,p1,p2⟩:=HB.out.2.work k plans[k] (List.getElem?_eq_getElem hlt);have HP:=Lib.hid p2;have hml:plans[k].length<=9223372036854775807:=hml;clear p2;gi_wp2;gi_loopw [4,6] (fun pv iv wq=>∃ i:Nat,i<=plans[k].length/\iv=.int .i64 i/\zX pv/\wq=wr) (fun _ iv _=>plans[k].length - (intOf iv).toNat)
      case atStart=>exact ⟨0,by omega,rfl,⟨_,rfl⟩,rfl⟩
      case round=>
        obtain ⟨i,hi,rfl,⟨py,rfl⟩,rfl⟩:=hrel;by_cases hl:i < plans[k].length
        . have hli:(i:Int) < (plans[k].length:Int):=by omega
          by_cases h4:wrap64 (cx+(plans[k].length:Int))<=600
          . by_cases h5:py<=4000
            . obtain ⟨g,o',pa,pn,pc,rfl,_,q0,q1,q2,q3,q4⟩:=HP.out i plans[k][i] (List.getElem?_eq_getElem hl);gi_wp2;go_roundw
              case rel=>exact ⟨i+1,by omega,by go_num,⟨_,rfl⟩,trivial⟩
              case measure=>simp [intOf];omega
            . gi_wp2;go_roundw
              case rel=>exact ⟨k+1,by omega,by go_num,⟨_,rfl⟩,⟨_,rfl⟩,trivial⟩
              case measure=>simp [intOf];omega
          . gi_wp2;go_roundw
            case rel=>exact ⟨k+1,by omega,by go_num,⟨_,rfl⟩,⟨_,rfl⟩,trivial⟩
            case measure=>simp [intOf];omega
        . obtain rfl:i=plans[k].length:=by omega
          gi_wp2;go_roundw
          case rel=>exact ⟨k+1,by omega,by go_num,⟨_,rfl⟩,⟨_,rfl⟩,trivial⟩
          case measure=>simp [intOf];omega
    . obtain rfl:k=plans.length:=by omega
      by_cases h4:cx<=600
      . by_cases h5:px<=4000
        . gi_wp2;go_ret
          exact ⟨true,rfl,fun _=>by omega,HB.out.1⟩
        . gi_wp2;go_ret
          exact ⟨false,rfl,fun h=>(by cases h),HB.out.1⟩
      . gi_wp2;go_ret
        exact ⟨false,rfl,fun h=>(by cases h),HB.out.1⟩
end Go.Proofs.Yticecinjcajmcaa
namespace Go.Proofs.Yticecinjcajmcaa
open Go Go.Conc Go.LT Go.LC Go.LK
section
instance hosts:Host:=⟨fun f=>[19,31,33,58,59,60,61,77,36,34].contains f⟩
theorem ah:∀ f∈[59],Lets Try.prog f:=by intro f hf;simp only [List.mem_singleton] at hf;subst hf;exact ⟨by kernel_rfl,.inr (.inr (by decide))⟩
def Fq (W:World)(b k t co go:Nat)(gr:Bool)(st bg ow:Int)(ans:Value)(dn fl:Bool):Prop:=
  W.heap[b]?=some (.cells #[.int .i64 k,.bool true,.chan (some t),.chan (some co),.chan (some go),.bool gr,.int .i64 st,.int .i64 bg,.int .i64 ow,ans,.bool dn,.bool fl] 94 (0,0))
def SH:Code:=match Try.f59.body with | some (.seq c _)=>c | _=>.skip
theorem jS {W:World}{b k t co go:Nat}{gr:Bool}{st bg ow:Int}{ans:Value}{dn fl:Bool}(h:Fq W b k t co go gr st bg ow ans dn fl){Q:Exit->Act->World->Prop}(hQ:Q .normal ⟨#[.pointer (some ⟨b,0,none⟩),undef,.pointer (some ⟨b,0,none⟩),.pointer (some ⟨b,0,none⟩),.pointer (some ⟨b,3,none⟩),.chan (some co),.pointer (some ⟨b,0,none⟩),.pointer (some ⟨b,0,none⟩),.pointer (some ⟨b,0,none⟩),.int .i64 k,.pointer (some ⟨b,0,none⟩),.pointer (some ⟨b,0,none⟩),.pointer (some ⟨b,4,none⟩),.chan (some go),undef,undef,undef,undef,undef,undef],[]⟩ W) :
    SH.wpIn (Fence.list [59] none) 0 Try.prog Q ⟨#[.pointer (some ⟨b,0,none⟩),undef,undef,undef,undef,undef,undef,undef,undef,undef,undef,undef,undef,undef,undef,undef,undef,undef,undef,undef],[]⟩ W:=by
  unfold Fq at h;simp only [SH,Try.f59];have c0:W.cell? ⟨b,0,none⟩=some (.int .i64 k):=by simp [World.cell?,h]
  have c3:W.cell? ⟨b,3,none⟩=some (.chan (some co)):=by simp [World.cell?,h]
  have c4:W.cell? ⟨b,4,none⟩=some (.chan (some go)):=by simp [World.cell?,h]
  gi_wp2;exact hQ
def Je:Code:=match Try.f59.body with | some (.seq _ c)=>c | _=>.skip
def Mj (b k co go:Nat):Array Value:=#[.pointer (some ⟨b,0,none⟩),undef,.pointer (some ⟨b,0,none⟩),.pointer (some ⟨b,0,none⟩),.pointer (some ⟨b,3,none⟩),.chan (some co),.pointer (some ⟨b,0,none⟩),.pointer (some ⟨b,0,none⟩),.pointer (some ⟨b,0,none⟩),.int .i64 k,.pointer (some ⟨b,0,none⟩),.pointer (some ⟨b,0,none⟩),.pointer (some ⟨b,4,none⟩),.chan (some go),undef,undef,undef,undef,undef,undef]
theorem ZH:Try.f59.body=some (.seq SH Je):=rfl
section
variable {X Sg:Type}{M:Md X Sg}{ρ:Rn}{W:World}{c:Frame}{cs:List Frame}
theorem Fq.alike {W W₁:World}{b k t co go:Nat}{gr:Bool}{st bg ow:Int}{ans:Value}{dn fl:Bool}(h:Fq W b k t co go gr st bg ow ans dn fl)(ha:LT.Alike W W₁):Fq W₁ b k t co go gr st bg ow ans dn fl:=by obtain ⟨τ,d,rfl⟩:=ha;exact h
theorem PZ {x:Wx X Sg ρ}{b k t co go:Nat}{gr:Bool}{st bg ow:Int}{ans:Value}{dn fl:Bool}(h:Fq W b k t co go gr st bg ow ans dn fl)(hJ:∀ W₁,LT.Alike W W₁->JW (SW M ρ Try.prog).base x (G (FT 59 (Mj b k co go) [.code Je] [] .run .normal) (c :: cs)) W₁) :
    JW (SW M ρ Try.prog).base x (G (Frame.enter Try.prog 59 #[.pointer (some ⟨b,0,none⟩)] .normal) (c :: cs)) W:=by
  have ht:#[.pointer (some ⟨b,0,none⟩)] ++ Array.replicate (Try.f59.ntmps - #[Value.pointer (some ⟨b,0,none⟩)].size) undef=#[.pointer (some ⟨b,0,none⟩),undef,undef,undef,undef,undef,undef,undef,undef,undef,undef,undef,undef,undef,undef,undef,undef,undef,undef,undef]:=by
    have:Try.f59.ntmps=20:=by kernel_rfl
    rw [this];walk_nrm
  rw [enter_at _ Try.func59 ZH,ht];refine JW.silent rfl (fun w=>stepG_seq) ?_;refine Runs.lone (S:=SW M ρ Try.prog) ah (c:=SH) zKR (Q:=fun e a γ W'=>e=.normal/\a.tmps=Mj b k co go/\a.defers=[]/\γ=x/\LT.Alike W W') (a:=⟨_,[]⟩) (fun W₁ ha=>?_) 59 .normal [.code Je] (c :: cs) (by simp) (by simp) fun e a' γ' W' q=>?_
  . exact jS (h.alike ha) ⟨rfl,rfl,rfl,rfl,ha⟩
  . obtain ⟨rfl,h1,h2,rfl,ha⟩:=q;show JW _ _ (G (FT _ a'.tmps _ a'.defers .run .normal) _) _;rw [h1,h2];exact hJ _ ha
def aH (M:Md X Sg)(ρ:Rn)(P:Program):Ou P false (Wx X Sg ρ) where
  B:=(SW M ρ P).B
  J:=(SW M ρ P).J
  live:=fun _ _=>True
  idle:=fun γ g g' W hs h hJ=>(SW M ρ P).base.silent γ g g' W hs (fun w=>h w trivial) hJ
def Kr:Code:=match Je with | .seq _ c=>c | _=>.skip
def JN:Array Oper:=match Je with | .seq (.region _ ops _) _=>ops | _=>#[]
theorem aX:∃ id,Je=.seq (.region id JN false) Kr:=⟨_,rfl⟩
theorem Qf {x:Wx X Sg ρ}{tm:Array Value}(hJ:JW (SW M ρ Try.prog).base x (G ((base 59).at ⟨tm,[]⟩ [.inRegion JN [0,1,2,3],.code Kr]) (c :: cs)) W) :
    JW (SW M ρ Try.prog).base x (G (FT 59 tm [.code Je] [] .run .normal) (c :: cs)) W:=by
  show JL (aH M ρ Try.prog) x (G ((base 59).at ⟨tm,[]⟩ [.code Je]) (c :: cs)) W;obtain ⟨id,e⟩:=aX;rw [e];refine Ei ?_;refine JL.region (l:=[0,1,2,3]) rfl fun _ hk=>?_;cases hk
  exact hJ
theorem Xu {b k co go:Nat}(w:World):stepG Try.prog false (G ((base 59).at ⟨Mj b k co go,[]⟩ [.inRegion JN [0,1,2,3],.code Kr]) (c :: cs)) w =
    .comm (G ((base 59).at ⟨Mj b k co go,[]⟩ [.inRegion JN [0,1,2,3],.code Kr]) (c :: cs)) #[scase co (.int .i64 k) (.int .i64 0),rcase go (.agg #[])] true .select w #[]:=by
  simp only [JN,Je,Mj,Try.f59];rw [stepG_comm (cases:=#[scase co (.int .i64 k) (.int .i64 0),rcase go (.agg #[])]) (blocking:=true) (shape:=.select) (w':=w) rfl rfl (by decide) ?_,listed_none ?_]
  . simp [go_sem]
  . go_simp
    exact ⟨rfl,rfl⟩
theorem Gc (P:Program)(b:Frame)(a:Act)(ops:Array Oper)(i:Nat)(rest:List Nat)(k:List Item)(cs:List Frame)(cases:Array CommCase)(sh:CommShape)(j:Int)(v:Value)(ok:Bool) :
    (G (b.at a (.inRegion ops (i :: rest) :: k)) cs).finishComm P cases sh j v ok=G (b.at (a.put ((ops[i]?).bind (·.dst)) (commResult cases sh j v ok)) (.inRegion ops rest :: k)) cs:=by
  unfold Goroutine.finishComm;have:=Frame.finish_at b a ops i rest k (commResult cases sh j v ok);simp only [G];rw [this]
theorem JL.Xf {P:Program}{main:Bool}{Γ:Type}{S:Ou P main Γ}{γ:Γ}{fn:Func}{b:Frame}{a:Act}{todo:List Item}(hn:b.kind=.normal)(hd:a.defers=[])(hf:P.funcs[b.fn]?=some fn)(hr:fn.results=#[])(h:JL S γ (G (c.finish (.tuple #[])) cs) W) :
    JL S γ (G { b.at a todo with mode:=.returning } (c :: cs)) W:=
  .ctl rfl (fun w=>stepG_leave hn hd hf (results_none hr _ P w) (events_results_none hr _ _)) h
theorem OO {K:World->Prop}{Still:Loc->Prop}{Bd:Nat}{st:Seat}{b k co go:Nat}{zi zg:Value}(h:JL (SQ Try.prog false K Still Bd st) () (G (c.finish (.tuple #[])) cs) W) :
    JL (SQ Try.prog false K Still Bd st) () ((G ((base 59).at ⟨Mj b k co go,[]⟩ [.inRegion JN [0,1,2,3],.code Kr]) (c :: cs)).finishComm Try.prog #[scase co (.int .i64 k) zi,rcase go zg] .select (0:Nat) undef false) W:=by
  rw [Gc];simp only [JN,Je,Kr,Mj,Try.f59];have hc:commResult #[scase co (.int .i64 k) zi,rcase go zg] .select ((0:Nat):Int) undef false=.tuple #[.int .i64 0,.bool false,zg]:=by simp [commResult,scase,rcase,goInt]
  rw [hc];walk_nrm;iterate 3 (refine Eo ?_;walk_nrm)
  refine Er stepG_region_end ?_;refine Er stepG_block ?_;refine JL.Fz rfl ?_;refine Er stepG_skip ?_;refine Er stepG_inBlock ?_;refine Er stepG_end ?_;exact JL.Xf rfl rfl Try.func59 rfl h
end
end
section
def SC:Code:=match Try.f60.body with | some (.seq c _)=>c | _=>.skip
def Jv:Code:=match Try.f60.body with | some (.seq _ c)=>c | _=>.skip
def LG:Code:=match Jv with | .seq _ c=>c | _=>.skip
def Ol:Array Oper:=match Jv with | .seq (.region _ ops _) _=>ops | _=>#[]
theorem PK:Try.f60.body=some (.seq SC Jv):=rfl
def UJ (b t go:Nat):Array Value:=#[.pointer (some ⟨b,0,none⟩),undef,.pointer (some ⟨b,0,none⟩),.pointer (some ⟨b,0,none⟩),.pointer (some ⟨b,2,none⟩),.chan (some t),.pointer (some ⟨b,0,none⟩),.pointer (some ⟨b,0,none⟩),.pointer (some ⟨b,4,none⟩),.chan (some go),undef,undef,undef,undef,undef,undef,undef,undef,undef,undef,undef,undef,undef]
section
variable {X Sg:Type}{M:Md X Sg}{ρ:Rn}{W:World}{c:Frame}{cs:List Frame}
theorem Ur {v:EK X}{home:Goroutine->Prop}(hzi:ρ.zi=.int .i64 0)(hzg:ρ.zg=.agg #[])(hh:home (G ((base 60).at ⟨UJ v.b v.t ρ.gone,[]⟩ [.inRegion Ol [0,1,2,3],.code LG]) (c :: cs))) :
    JL (SQ Try.prog false (Kv ρ v) (vH v) (Za v) { cases:=Gb ρ v.t,shape:=.select,home:=home }) () (G ((base 60).at ⟨#[.pointer (some ⟨v.b,0,none⟩),undef,undef,undef,undef,undef,undef,undef,undef,undef,undef,undef,undef,undef,undef,undef,undef,undef,undef,undef,undef,undef,undef],[]⟩ [.code (.seq SC Jv)]) (c :: cs)) W:=by
  have hb:v.b < Za v:=by unfold Za;omega
  refine Ei ?_;simp only [SC,Try.f60];refine Ei ?_;refine EH fun _ hkk=>?_;iterate 3 (refine Eo ?_;walk_nrm)
  refine JQ.load (.chan (some v.t)) rfl rfl nE (fun w hK=>by have h2:=hK.1;go_simp) (fun w hK e he=>by have h2:=hK.1;simp [go_sem,h2] at he;subst he;exact ⟨_,rfl,.inl rfl,hb⟩) ?_
  walk_nrm;refine EB ?_;cases hkk;refine EH fun _ hkk=>?_;iterate 3 (refine Eo ?_;walk_nrm)
  refine JQ.load (.chan (some ρ.gone)) rfl rfl nE (fun w hK=>by have h2:=hK.2.1;go_simp) (fun w hK e he=>by have h2:=hK.2.1;simp [go_sem,h2] at he;subst he;exact ⟨_,rfl,.inr (.inl rfl),hb⟩) ?_
  walk_nrm;refine EB ?_;cases hkk;have e:∃ id,Jv=.seq (.region id Ol false) LG:=⟨_,rfl⟩
  obtain ⟨id,e⟩:=e;rw [e];refine Ei ?_;refine JL.region (l:=[0,1,2,3]) rfl fun _ hk=>?_;cases hk
  refine JQ.sit (o := ⟨some 10, .select #[⟨.tmp 5, none, 3⟩, ⟨.tmp 9, none, 74⟩] true, 0, "crew.go:67", #[], none⟩) rfl rfl nE (fun w => ?_) (fun w => ?_) hh
  . simp only [Gb,hzi,hzg];go_simp
    exact ⟨rfl,rfl⟩
  . simp [go_sem]
theorem ZG:∀ f∈[60],Lets Try.prog f:=by intro f hf;simp only [List.mem_singleton] at hf;subst hf;exact ⟨by kernel_rfl,.inr (.inr (by decide))⟩
def Tx:Code:=match LG with | .block _ (.cond _ c _)=>c | _=>.skip
def VK (b t go:Nat)(s:Int)(zg:Value):Array Value:=#[.pointer (some ⟨b,0,none⟩),undef,.pointer (some ⟨b,0,none⟩),.pointer (some ⟨b,0,none⟩),.pointer (some ⟨b,2,none⟩),.chan (some t),.pointer (some ⟨b,0,none⟩),.pointer (some ⟨b,0,none⟩),.pointer (some ⟨b,4,none⟩),.chan (some go),.tuple #[.int .i64 0,.bool true,.int .i64 s,zg],.int .i64 0,.bool true,.bool false,undef,undef,undef,undef,undef,undef,undef,undef,undef]
theorem Fq.frozen {W:World}{b k t co go o:Nat}{gr:Bool}{st bg ow:Int}{ans:Value}{dn fl:Bool}(h:Fq W b k t co go gr st bg ow ans dn fl):W.frozen? ⟨b,o,none⟩=false:=by unfold Fq at h;simp [World.frozen?,h]
theorem iC {W:World}{b k t t' co go go':Nat}{gr:Bool}{s st bg ow:Int}{ans zg:Value}{dn fl:Bool}(h:Fq W b k t' co go' gr st bg ow ans dn fl){Q:Exit->Act->World->Prop}(hQ:∀ tm W',Fq W' b k t' co go' true s bg ow ans dn fl->(∀ b',b'≠b->W'.heap[b']?=W.heap[b']?)->W'.heap.size=W.heap.size->Q .normal ⟨tm,[]⟩ W') :
    Tx.wpIn (Fence.list [60] none) 0 Try.prog Q ⟨VK b t go s zg,[]⟩ W:=by
  have f5:W.frozen? ⟨b,5,none⟩=false:=h.frozen;have f6:W.frozen? ⟨b,6,none⟩=false:=h.frozen;unfold Fq at h;simp only [Tx,LG,Jv,VK,Try.f60];have c5:W.cell? ⟨b,5,none⟩=some (.bool gr):=by simp [World.cell?,h]
  have c6:W.cell? ⟨b,6,none⟩=some (.int .i64 st):=by simp [World.cell?,h]
  gi_wp2;refine hQ _ _ ?_ ?_ ?_
  . simp [Fq,World.setCell,Array.getElem?_modify,h]
  . intro b' hb;simp [World.setCell,Array.getElem?_modify,hb.symm]
  . simp [World.setCell]
theorem RQ {x:Wx X Sg ρ}{b k t t' co go go':Nat}{gr:Bool}{st bg ow:Int}{s:Nat}{ans:Value}{dn fl:Bool}(h:Fq W b k t' co go' gr st bg ow ans dn fl)(hJ:∀ W',Fq W' b k t' co go' true s bg ow ans dn fl->(∀ b',b'≠b->W'.heap[b']?=W.heap[b']?)->W'.heap.size=W.heap.size->JW (SW M ρ Try.prog).base x (G (c.finish (.tuple #[])) cs) W') :
    JW (SW M ρ Try.prog).base x ((G ((base 60).at ⟨UJ b t go,[]⟩ [.inRegion Ol [0,1,2,3],.code LG]) (c :: cs)).finishComm Try.prog (Gb ρ t) .select (0:Nat) (.int .i64 s) true) W:=by
  rw [Gc];have hc:commResult (Gb ρ t) .select ((0:Nat):Int) (.int .i64 s) true=.tuple #[.int .i64 0,.bool true,.int .i64 s,ρ.zg]:=by simp [commResult,Gb,rcase,goInt]
  rw [hc];have hb:∃ id cnd els,LG=.block id (.cond cnd Tx els)/\cnd=.tmp 12:=⟨_,_,_,rfl,rfl⟩
  obtain ⟨id,cnd,els,hb,hcnd⟩:=hb;subst hcnd;show JL (aH M ρ Try.prog) x _ W;rw [hb];simp only [Ol,Jv,UJ,Try.f60];walk_nrm;iterate 3 (refine Eo ?_;walk_nrm)
  refine Er stepG_region_end ?_;refine Er stepG_block ?_;refine JL.Fz rfl ?_;refine Runs.lone (S:=SW M ρ Try.prog) ZG (c:=Tx) zKR (Q:=fun e a γ W₂=>e=.normal/\a.defers=[]/\γ=x/\∃ W',LT.Alike W' W₂/\Fq W' b k t' co go' true s bg ow ans dn fl/\(∀ b',b'≠b->W'.heap[b']?=W.heap[b']?)/\W'.heap.size=W.heap.size) (a:=⟨VK b t go s ρ.zg,[]⟩) (fun W₁ ha=>?_) 60 .normal [.inBlock id] (c :: cs) (by simp) (by simp) fun e a' γ' W' q=>?_
  . refine iC (h.alike ha) fun tm W' h1 h2 h3=>⟨rfl,rfl,rfl,W',.refl _,h1,fun b' hb'=>?_,?_⟩
    . obtain ⟨τ,d,rfl⟩:=ha;exact h2 b' hb'
    . obtain ⟨τ,d,rfl⟩:=ha;exact h3
  . obtain ⟨rfl,h2,rfl,W₂,ha,h3,h4,h5⟩:=q;show JL (aH M ρ Try.prog) γ' (G ((base 60).at ⟨a'.tmps,a'.defers⟩ [.inBlock id]) (c :: cs)) W';rw [h2];refine Er stepG_inBlock ?_;refine Er stepG_end ?_;refine JL.Xf rfl rfl Try.func60 rfl ?_;exact JW.tape (hJ W₂ h3 h4 h5) ha
end
end
end Go.Proofs.Yticecinjcajmcaa
end
