/-
  Part 7 of the proof that CellOrders is true of every input of bulk at most 1048576.
-/
import Derived.Test.YtdkfdedgfilhbaaQ06
import Derived.OwnWalkIn
import Derived.LoopIn
import Derived.TacticsInMore
import Derived.Sort.BigQuietIn
import Derived.BigRegionIn
import Derived.Laws.Pointers
set_option linter.unusedVariables false
set_option linter.unusedSectionVars false
set_option linter.unusedSimpArgs false
set_option maxHeartbeats 4000000
set_option maxRecDepth 100000
noncomputable section
namespace Go.Proofs.Ytdkfdedgfilhbaa
open Go.LK
def hit(p:Int)(lo hi:Nat)(q:EP × Gg):Bool:=decide (q.1.a=p/\2<=q.1.kind/\q.1.kind<=7/\lo<q.2.st/\q.2.st<hi)
def cnt(p:Int)(lo hi:Nat)(pl:List EP)(out:List Gg):Nat:=(pl.zip out).countP (hit p lo hi)
def bX(plans:List (List EP))(outs:List (List Gg))(k:Nat)(p:Int)(lo hi:Nat):Nat->Nat
 | 0=>0
 | j+1=>bX plans outs k p lo hi j+if j=k then 0 else cnt p lo hi (plans.getD j []) (outs.getD j [])
theorem fC{p:Int}{lo hi hi':Nat}(h:hi<=hi')(pl:List EP)(out:List Gg):cnt p lo hi pl out<=cnt p lo hi' pl out:=by unfold cnt;refine List.countP_mono_left fun q _ hq=>?_;simp only[hit,decide_eq_true_eq]at hq ⊢;exact⟨hq.1,hq.2.1,hq.2.2.1,hq.2.2.2.1,by omega⟩
theorem YN{p:Int}{lo hi:Nat}{dn td:List EP}{c:EP}{out:List Gg}{a:Gg}(h:dn.length=out.length):cnt p lo hi (dn++c :: td) (out++[a])=cnt p lo hi (dn++c :: td) out+if hit p lo hi (c,a)then 1 else 0:=by
 unfold cnt;rw[List.zip_append h,List.countP_append];have e:(dn++c :: td).zip out=dn.zip out:=by
   have:=List.zip_append (l₁:=dn) (r₁:=c :: td) (l₂:=out) (r₂:=[]) h
   simpa using this
 rw[e];by_cases hh:hit p lo hi (c,a)=true
 . simp[hh]
 . simp[hh]
theorem OJ{plans:List (List EP)}{outs SF:List (List Gg)}{k:Nat}{p:Int}{lo hi hi':Nat}(h:∀j,j≠k->cnt p lo hi (plans.getD j []) (outs.getD j [])<=cnt p lo hi' (plans.getD j []) (SF.getD j []))(n:Nat) :
  bX plans outs k p lo hi n<=bX plans SF k p lo hi' n:=by
 induction n with
 | zero=>exact Nat.le_refl _
 | succ j ih=>
  rw[bX,bX];by_cases e:j=k
  . rw[if_pos e,if_pos e];omega
  . rw[if_neg e,if_neg e];have:=h j e;omega
theorem gJ{plans:List (List EP)}{outs SF:List (List Gg)}{k:Nat}{p:Int}{lo hi hi':Nat}(h:∀j,j≠k->cnt p lo hi (plans.getD j []) (outs.getD j [])<=cnt p lo hi' (plans.getD j []) (SF.getD j [])){n j:Nat}(hj:j<n)(hk:j≠k)(h1:cnt p lo hi (plans.getD j []) (outs.getD j [])+1<=cnt p lo hi' (plans.getD j []) (SF.getD j [])) :
  bX plans outs k p lo hi n+1<=bX plans SF k p lo hi' n:=by
 induction n with
 | zero=>omega
 | succ m ih=>
  rw[bX,bX];by_cases e:j=m
  . subst e;rw[if_neg hk,if_neg hk];have:=OJ h j;omega
  . have:=ih zOM;by_cases e2:m=k
    . rw[if_pos e2,if_pos e2];omega
    . rw[if_neg e2,if_neg e2];have:=h m e2;omega
def XG(N:Int->Nat->Nat)(c:EP)(a:Gg):Prop:=2<a.ow->(c.kind=6\/c.kind=7)/\a.ow / 2<=N c.a a.bg+1/\1<=N c.a a.bg
def Gq(z:Rs EP Fw (List Int)):List (List Gg):=z.xs.map (·.out)
def Met(plans:List (List EP))(z:Rs EP Fw (List Int))(k:Nat)(c:EP)(a:Gg):Prop:=XG (fun p lo=>bX plans (Gq z) k p lo a.st plans.length) c a
def Vr(σ:List Int)(N:Int->Nat->Nat)(x:Wk EP Fw)(c:EP):Fw->Prop
 | .one _=>False
 | .look most i v=>c.kind=(if most then 6 else 7)/\c.a=i/\inn σ.length i=true/\∃m,x.ow=2*m/\1<=m/\m<=N i x.bg
 | .cas most i v y=>c.kind=(if most then 6 else 7)/\c.a=i/\inn σ.length i=true/\∃m,x.ow=2*m+1/\m+(if σ.getD i.toNat 0=y then 0 else 1)<=N i x.bg
def jG(plans:List (List EP))(z:Rs EP Fw (List Int))(k:Nat)(p:Int)(lo:Nat):Nat:=bX plans (Gq z) k p lo (z.s+1) plans.length
structure WI(plans:List (List EP))(z:Rs EP Fw (List Int))(k:Nat)(x:Wk EP Fw):Prop where
 rest:x.cur=none->∃dn,dn.length=x.out.length/\plans.getD k []=dn++x.todo
 cur:∀cs,x.cur=some cs->∃dn c,dn.length=x.out.length/\plans.getD k []=dn++c :: x.todo/\(x.bg<=z.s/\x.ow<=z.s)/\Vr z.σ (jG plans z k) x c cs
 ans:∀(i:Nat) a,x.out[i]?=some a->(a.st<=z.s/\a.bg<=z.s/\a.ow<=z.s)/\∃c,(plans.getD k [])[i]?=some c/\Met plans z k c a
structure MI(plans:List (List EP))(z:Rs EP Fw (List Int)):Prop where
 len:z.xs.length=plans.length
 each:∀(k:Nat) x,z.xs[k]?=some x->WI plans z k x
theorem QS{z:Rs EP Fw (List Int)}{k:Nat}{x:Wk EP Fw}(h:z.xs[k]?=some x):(Gq z).getD k []=x.out:=by unfold Gq;rw[List.getD_eq_getElem?_getD,List.getElem?_map,h];rfl
theorem MI.Aad{plans:List (List EP)}{z:Rs EP Fw (List Int)}(h:MI plans z){k:Nat}{x:Wk EP Fw}(hx:z.xs[k]?=some x):x.out.length<=(plans.getD k []).length:=by
 have hw:=h.each k x hx;cases hc:x.cur with
 | none=>obtain⟨dn,h1,h2⟩:=hw.rest hc;rw[h2,List.length_append];omega
 | some cs=>obtain⟨dn,c,h1,h2,_⟩:=hw.cur cs hc;rw[h2,List.length_append];omega
theorem Uq(c:EP)(σ:List Int)(h:1<=c.kind)(h5:c.kind<=5):(FW c σ).1=σ\/2<=c.kind/\c.kind<=7/\∃v,(FW c σ).1=σ.set c.a.toNat v:=by
 unfold FW;dsimp only;by_cases h1:c.kind=1
 . rw[if_pos h1];exact .inl rfl
 . rw[if_neg h1];by_cases h2:c.kind=2
   . rw[if_pos h2];exact .inr ⟨by omega,by omega,_,rfl⟩
   rw[if_neg h2];by_cases h3:c.kind=3
   . rw[if_pos h3];exact .inr ⟨by omega,by omega,_,rfl⟩
   rw[if_neg h3];by_cases h4:c.kind=4
   . rw[if_pos h4];exact .inr ⟨by omega,by omega,_,rfl⟩
   rw[if_neg h4];split
   . exact .inr ⟨by omega,by omega,_,rfl⟩
   . exact .inl rfl
inductive Tn(pl:List EP)(N:Int->Nat->Nat)(s:Nat)(x x':Wk EP Fw)(σ σ':List Int):Prop
 | same (h:x'=x) (hs:σ'=σ)
 | no (dn:List EP) (c:EP) (cs:Fw) (h:dn.length=x.out.length) (hp:pl=dn++c :: x'.todo) (ho:x'.out=x.out) (hc:x'.cur=some cs) (hs:σ'=σ) (hb:x'.bg<=s/\x'.ow<=s) (hk:Vr σ N x' c cs)
 | ends (dn:List EP) (c:EP) (a:Gg) (h:dn.length=x.out.length) (hp:pl=dn++c :: x'.todo) (ho:x'.out=x.out++[a]) (hc:x'.cur=none) (hst:a.st=s/\a.bg<=s/\a.ow<=s) (hm:XG N c a)
   (hs:σ'=σ\/(2<=c.kind/\c.kind<=7)/\inn σ.length c.a=true/\∃v,σ'=σ.set c.a.toNat v)
theorem kI{plans:List (List EP)}{z:Rs EP Fw (List Int)}{k:Nat}{x:Wk EP Fw}(hw:WI plans z k x) :
  Tn (plans.getD k []) (jG plans z k) (z.s+1) x (EK.hold x (z.s+1) z.σ).1 z.σ (EK.hold x (z.s+1) z.σ).2.1:=by
 cases hc:x.cur with
 | none=>
  obtain⟨dn,h1,h2⟩:=hw.rest hc;cases ht:x.todo with
  | nil=>
   have e:EK.hold x (z.s+1) z.σ=(x,z.σ,true):=by simp only[Dr.hold,hc,ht]
   rw[e];exact .same rfl rfl
  | cons c l=>
   rw[ht]at h2;have small:∀{e:An × Bool} {σ':List Int},(σ'=z.σ\/(2<=c.kind/\c.kind<=7)/\inn z.σ.length c.a=true/\∃v,σ'=z.σ.set c.a.toNat v)->Tn (plans.getD k []) (jG plans z k) (z.s+1) x (({ x with todo:=l,st:=z.s+1,bg:=z.s+1,ow:=1 }:Wk EP Fw).land (σ',.inr e)).1 z.σ (({ x with todo:=l,st:=z.s+1,bg:=z.s+1,ow:=1 }:Wk EP Fw).land (σ',.inr e)).2.1:=fun{e σ'} hs=>by rw[Wk.KU];exact .ends dn c _ h1 h2 rfl rfl ⟨rfl,Nat.le_refl _,by show 1<=_;omega⟩ (fun h=>absurd (show 2<1 from h) zOM) hs
   unfold Dr.hold;simp only[hc,ht];by_cases hk:1<=c.kind/\c.kind<=5
   . have hi:EK.init x.k c z.σ=.inl (.one c):=by simp only[EK];rw[if_pos hk]
     rw[hi];dsimp only;by_cases hin:inn z.σ.length c.a=false
     . have hn:EK.next x.k (.one c) z.σ=(z.σ,.inr ({ err:=41 },false)):=by simp only[EK];rw[if_pos hin]
       rw[hn];exact small (.inl rfl)
     . have hn:EK.next x.k (.one c) z.σ=((FW c z.σ).1,.inr ((FW c z.σ).2,false)):=by simp only[EK];rw[if_neg hin]
       rw[hn];exact small ((Uq c z.σ hk.1 hk.2).imp id fun⟨a1,a2,a3⟩=>⟨⟨a1,a2⟩,by simpa using hin,a3⟩)
   . have goes:∀most:Bool,c.kind=(if most then 6 else 7)->Tn (plans.getD k []) (jG plans z k) (z.s+1) x (({ x with todo:=l,st:=z.s+1,bg:=z.s+1,ow:=1 }:Wk EP Fw).land (EK.next x.k (.look most c.a c.b) z.σ)).1 z.σ (({ x with todo:=l,st:=z.s+1,bg:=z.s+1,ow:=1 }:Wk EP Fw).land (EK.next x.k (.look most c.a c.b) z.σ)).2.1:=fun most hm=>by
       by_cases hin:inn z.σ.length c.a=false
       . have hn:EK.next x.k (.look most c.a c.b) z.σ=(z.σ,.inr ({ err:=41 },false)):=by simp only[EK];rw[if_pos hin]
         rw[hn];exact small (.inl rfl)
       . by_cases hb:MF most (z.σ.getD c.a.toNat 0) c.b=true
         . have hn:EK.next x.k (.look most c.a c.b) z.σ=(z.σ,.inr ({ n:=z.σ.getD c.a.toNat 0 },false)):=by simp only[EK];rw[if_neg hin,if_pos hb]
           rw[hn];exact small (.inl rfl)
         . have hn:EK.next x.k (.look most c.a c.b) z.σ=(z.σ,.inl (.cas most c.a c.b (z.σ.getD c.a.toNat 0))):=by simp only[EK];rw[if_neg hin,if_neg hb]
           rw[hn,Wk.J8];exact .no dn c _ h1 h2 rfl rfl rfl ⟨Nat.le_refl _,by show 1<=_;omega⟩ ⟨hm,rfl,by simpa using hin,0,rfl,by simp⟩
     by_cases h6:c.kind=6
     . have hi:EK.init x.k c z.σ=.inl (.look true c.a c.b):=by simp only[EK];rw[if_neg hk,if_pos h6]
       rw[hi];exact goes true (by simpa using h6)
     . by_cases h7:c.kind=7
       . have hi:EK.init x.k c z.σ=.inl (.look false c.a c.b):=by simp only[EK];rw[if_neg hk,if_neg h6,if_pos h7]
         rw[hi];exact goes false (by simpa using h7)
       . have hi:EK.init x.k c z.σ=.inr ({ err:=40 },false):=by simp only[EK];rw[if_neg hk,if_neg h6,if_neg h7]
         rw[hi];exact small (.inl rfl)
 | some cs=>
  obtain⟨dn,c,h1,h2,h3,h4⟩:=hw.cur cs hc;have eq:EK.hold x (z.s+1) z.σ=({ x with st:=z.s+1,ow:=x.ow+1 }:Wk EP Fw).land (EK.next x.k cs z.σ):=by simp only[Dr.hold,hc]
  rw[eq];cases cs with
  | one _=>exact h4.elim
  | look most i v=>
   obtain⟨h5,h6,h7,m,h8,h9,h10⟩:=h4;have hin:¬ inn z.σ.length i=false:=by simp[h7]
   by_cases hb:MF most (z.σ.getD i.toNat 0) v=true
   . have hn:EK.next x.k (.look most i v) z.σ=(z.σ,.inr ({ n:=z.σ.getD i.toNat 0 },false)):=by simp only[EK];rw[if_neg hin,if_pos hb]
     rw[hn,Wk.KU];refine .ends dn c _ h1 h2 rfl rfl ⟨rfl,by show x.bg<=_;omega,by show x.ow+1<=_;omega⟩ (fun h=>⟨by cases most<;>simp_all,?_,?_⟩) (.inl rfl)
     . show(x.ow+1) / 2<=jG plans z k c.a x.bg+1;rw[h6];omega
     . show 1<=jG plans z k c.a x.bg;rw[h6];omega
   . have hn:EK.next x.k (.look most i v) z.σ=(z.σ,.inl (.cas most i v (z.σ.getD i.toNat 0))):=by simp only[EK];rw[if_neg hin,if_neg hb]
     rw[hn,Wk.J8];exact .no dn c _ h1 h2 rfl rfl rfl ⟨by show x.bg<=_;omega,by show x.ow+1<=_;omega⟩ ⟨h5,h6,h7,m,by show x.ow+1=_;omega,by rw[if_pos rfl];exact h10⟩
  | cas most i v y=>
   obtain⟨h5,h6,h7,m,h8,h9⟩:=h4;by_cases hy:z.σ.getD i.toNat 0=y
   . have hn:EK.next x.k (.cas most i v y) z.σ=(z.σ.set i.toNat v,.inr ({ n:=v },false)):=by simp only[EK];rw[if_pos hy]
     rw[if_pos hy]at h9;rw[hn,Wk.KU];refine .ends dn c _ h1 h2 rfl rfl ⟨rfl,by show x.bg<=_;omega,by show x.ow+1<=_;omega⟩ (fun h=>⟨by cases most<;>simp_all,?_,?_⟩) (.inr ⟨by cases most<;>simp_all,by rw[h6];exact h7,v,by rw[h6]⟩)
     . show(x.ow+1) / 2<=jG plans z k c.a x.bg+1;rw[h6];omega
     . have h:2<x.ow+1:=h;show 1<=jG plans z k c.a x.bg;rw[h6];omega
   . have hn:EK.next x.k (.cas most i v y) z.σ=(z.σ,.inl (.look most i v)):=by simp only[EK];rw[if_neg hy]
     rw[if_neg hy]at h9;rw[hn,Wk.J8];exact .no dn c _ h1 h2 rfl rfl rfl ⟨by show x.bg<=_;omega,by show x.ow+1<=_;omega⟩ ⟨h5,h6,h7,m+1,by show x.ow+1=_;omega,by omega,h9⟩
theorem Vr.later{σ σ':List Int}{N N':Int->Nat->Nat}{x:Wk EP Fw}{c:EP}{cs:Fw}(h:Vr σ N x c cs)(hl:σ'.length=σ.length)(h1:∀i,N i x.bg<=N' i x.bg)(h2:∀i,inn σ.length i=true->σ'.getD i.toNat 0≠σ.getD i.toNat 0->N i x.bg+1<=N' i x.bg):Vr σ' N' x c cs:=by
 cases cs with
 | one _=>exact h.elim
 | look most i v=>
  obtain⟨h5,h6,h7,m,h8,h9,h10⟩:=h;exact⟨h5,h6,by rw[hl];exact h7,m,h8,h9,Nat.le_trans h10 (h1 i)⟩
 | cas most i v y=>
  obtain⟨h5,h6,h7,m,h8,h9⟩:=h;refine⟨h5,h6,by rw[hl];exact h7,m,h8,?_⟩;have a1:=h1 i;by_cases e:σ'.getD i.toNat 0=y
  . rw[if_pos e];have:=Nat.le_trans (Nat.le_add_right _ _) h9;omega
  . rw[if_neg e];by_cases e':σ.getD i.toNat 0=y
    . rw[if_pos e']at h9;have:=h2 i h7 (by rw[e'];exact e);omega
    . rw[if_neg e']at h9;omega
theorem XG.later{N N':Int->Nat->Nat}{c:EP}{a:Gg}(h:XG N c a)(h1:∀i,N i a.bg<=N' i a.bg):XG N' c a:=fun h2=>by obtain⟨h3,h4,h5⟩:=h h2;have:=h1 c.a;exact⟨h3,by omega,by omega⟩
theorem MI.turn{plans:List (List EP)}{z:Rs EP Fw (List Int)}(h:MI plans z){k:Nat}{x:Wk EP Fw}(hx:z.xs[k]?=some x):MI plans (z.turn EK k x):=by
 have hk:k<z.xs.length:=(List.getElem?_eq_some_iff.1 hx).1;have ht:=kI (h.each k x hx);generalize hx':(EK.hold x (z.s+1) z.σ).1=x' at ht;generalize hs':(EK.hold x (z.s+1) z.σ).2.1=σ' at ht;have z1:(z.turn EK k x).xs=z.xs.set k x':=by rw[← hx'];rfl
 have z2:(z.turn EK k x).σ=σ':=by rw[← hs'];rfl
 have z3:(z.turn EK k x).s=z.s+1:=rfl;generalize z.turn EK k x=z' at z1 z2 z3;have ok:(Gq z').getD k []=x'.out:=QS (x:=x') (by rw[z1];simp[hk]);have okz:(Gq z).getD k []=x.out:=QS hx;have oj:∀j,j≠k->(Gq z').getD j []=(Gq z).getD j []:=fun j hj=>by unfold Gq;rw[z1,List.getD_eq_getElem?_getD,List.getD_eq_getElem?_getD,List.getElem?_map,List.getElem?_map,List.getElem?_set_ne (Ne.symm hj)]
 have grow:∀(p:Int) (lo hi hi':Nat),hi<=hi'->∀j,cnt p lo hi (plans.getD j []) ((Gq z).getD j [])<=cnt p lo hi' (plans.getD j []) ((Gq z').getD j []):=fun p lo hi hi' hh j=>by
   refine Nat.le_trans (fC hh _ _) ?_;by_cases e:j=k
   . subst e;rw[ok,okz];cases ht with
     | same h1 _=>rw[h1];exact Nat.le_refl _
     | no dn c cs h1 h2 h3=>rw[h3];exact Nat.le_refl _
     | ends dn c a h1 h2 h3=>rw[h3,h2,YN h1];omega
   . rw[oj j e];exact Nat.le_refl _
 have gN:∀j i lo,jG plans z j i lo<=jG plans z' j i lo:=fun j i lo=>OJ (fun q _=>grow i lo (z.s+1) (z'.s+1) zOM q) _;have gM:∀{j c a},Met plans z j c a->Met plans z' j c a:=fun{j c a} hm=>XG.later hm fun i=>OJ (fun q _=>grow i a.bg a.st a.st (Nat.le_refl _) q) _;refine⟨by rw[z1,List.length_set];exact h.len,fun j y hy=>?_⟩;rw[z1]at hy;by_cases e:k=j
 . subst e;rw[List.getElem?_set_self hk]at hy;obtain rfl:=Option.some.inj hy;have hw:=h.each k x hx;cases ht with
   | same h1 h2=>
     subst h1;refine⟨hw.rest,fun cs hc=>?_,fun i a ha=>?_⟩
     . obtain⟨dn,c,a1,a2,a3,a4⟩:=hw.cur cs hc;exact⟨dn,c,a1,a2,by omega,a4.later (by rw[z2,h2]) (fun i=>gN k i _) (fun i _ hne=>absurd (by rw[z2,h2]) hne)⟩
     . obtain⟨a1,c,a2,a3⟩:=hw.ans i a ha;exact⟨by omega,c,a2,gM a3⟩
   | no dn c cs h1 h2 h3 h4 h5 h6 h7=>
     refine⟨fun hn=>(by rw[h4]at hn;cases hn),fun cs' hc=>?_,fun i a ha=>?_⟩
     . rw[h4]at hc;obtain rfl:=Option.some.inj hc;exact⟨dn,c,by rw[h3];exact h1,h2,by omega,h7.later (by rw[z2,h5]) (fun i=>gN k i _) (fun i _ hne=>absurd (by rw[z2,h5]) hne)⟩
     . rw[h3]at ha;obtain⟨a1,c,a2,a3⟩:=hw.ans i a ha;exact⟨by omega,c,a2,gM a3⟩
   | ends dn c a h1 h2 h3 h4 h5 h6 h7=>
     refine⟨fun _=>⟨dn++[c],by rw[h3];simp[h1],by rw[h2];simp⟩,fun cs hc=>(by rw[h4]at hc;cases hc),fun i b hb=>?_⟩;rw[h3]at hb;by_cases hi:i<x.out.length
     . rw[List.getElem?_append_left hi]at hb;obtain⟨a1,c,a2,a3⟩:=hw.ans i b hb;exact⟨by omega,c,a2,gM a3⟩
     . rw[List.getElem?_append_right zOM]at hb;obtain⟨e0,rfl⟩:i=x.out.length/\a=b:=by
         cases hd:i-x.out.length with
         | zero=>rw[hd]at hb;exact⟨by omega,Option.some.inj hb⟩
         | succ q=>rw[hd]at hb;cases hb
       subst e0;refine⟨by omega,c,by rw[h2,← h1];simp,XG.later h6 fun i=>?_⟩;rw[h5.1];exact OJ (fun q _=>grow i a.bg (z.s+1) (z.s+1) (Nat.le_refl _) q) _
 . rw[List.getElem?_set_ne e]at hy;have hw:=h.each j y hy;refine⟨hw.rest,fun cs hc=>?_,fun i a ha=>?_⟩
   . obtain⟨dn,c,a1,a2,a3,a4⟩:=hw.cur cs hc;have hl:σ'.length=z.σ.length:=by
       cases ht with
       | same _ h2=>rw[h2]
       | no _ _ _ _ _ _ _ h5=>rw[h5]
       | ends _ _ _ _ _ _ _ _ _ h7=>
         rcases h7 with h7|⟨_,_,v,h7⟩
         . rw[h7]
         . rw[h7,List.length_set]
     refine⟨dn,c,a1,a2,by omega,a4.later (by rw[z2];exact hl) (fun i=>gN j i _) (fun i hi hne=>?_)⟩;rw[z2]at hne;cases ht with
     | same _ h2=>exact absurd (by rw[h2]) hne
     | no _ _ _ _ _ _ _ h5=>exact absurd (by rw[h5]) hne
     | ends dn2 c2 a2 b1 b2 b3 b4 b5 b6 b7=>
       rcases b7 with b7|⟨b8,b9,v,b7⟩
       . exact absurd (by rw[b7]) hne
       have ei:i.toNat=c2.a.toNat:=by refine Classical.byContradiction fun hn=>hne ?_;rw[b7,List.getD_eq_getElem?_getD,List.getD_eq_getElem?_getD,List.getElem?_set_ne (Ne.symm hn)]
       have ei2:c2.a=i:=by simp only[inn,Bool.and_eq_true,decide_eq_true_eq]at hi b9;omega
       refine gJ (fun q _=>grow i y.bg (z.s+1) (z'.s+1) zOM q) (j:=k) (by rw[← h.len];exact hk) e ?_;rw[ok,okz,b3,b2,YN b1];have hh:hit i y.bg (z'.s+1) (c2,a2)=true:=by simp only[hit,decide_eq_true_eq];exact⟨ei2,b8.1,b8.2,by omega,by omega⟩
       rw[if_pos hh];have:=fC (p:=i) (lo:=y.bg) (show z.s+1<=z'.s+1 by omega) (dn2++c2 :: x'.todo) x.out;omega
   . obtain⟨a1,c,a2,a3⟩:=hw.ans i a ha;exact⟨by omega,c,a2,gM a3⟩
theorem MI.next{plans:List (List EP)}{z:Rs EP Fw (List Int)}(h:MI plans z):MI plans (z.next EK):=by
 unfold Rs.next;cases hx:z.xs[z.pick]? with
 | none=>exact h
 | some x=>exact h.turn hx
theorem MI.go{plans:List (List EP)}(most:Nat):∀(f:Nat) {z:Rs EP Fw (List Int)},MI plans z->MI plans (Rs.go EK most f z)
 | 0,z,h=>h
 | f+1,z,h=>by
  unfold Rs.go;split
  . exact MI.go most f h.next
  . exact h
theorem MI.new(plans:List (List EP))(σ:List Int)(turns hl:List Int):MI plans (Rs.new plans σ turns hl):=by
 refine⟨by simp[Rs.new],fun k x hx=>?_⟩;simp only[Rs.new,List.getElem?_map,List.getElem?_zipIdx,Option.map_map]at hx;cases hp:plans[k]? with
 | none=>rw[hp]at hx;cases hx
 | some pl=>
  rw[hp]at hx;obtain rfl:=Option.some.inj hx;refine⟨fun _=>⟨[],rfl,?_⟩,fun cs hc=>(by cases hc),fun i a ha=>(by cases ha)⟩;rw[List.getD_eq_getElem?_getD,hp];rfl
theorem Rs.Aco{Cl Cs Sg:Type}(D:Dr Cl Cs Sg)(most:Nat):∀(f:Nat) (z:Rs Cl Cs Sg),z.s<=most->(Rs.go D most f z).s<=most
 | 0,z,h=>h
 | f+1,z,h=>by
  unfold Rs.go;split
  . rename_i h1
    refine Rs.Aco D most f _ ?_;unfold Rs.next;split
    . exact h1.2
    . exact h
  . exact h
end Go.Proofs.Ytdkfdedgfilhbaa
namespace Go.Proofs.Ytdkfdedgfilhbaa
open Go Go.RowKit BA
theorem ah:(Try.prog.info? 4).map (fun i=>(i.zero,i.size,i.bytes))=some (some (.bool false),1,1):=by kernel_rfl
theorem vH(w:World)(a b:Obj):((w.alloc a).alloc b).heap[w.heap.size+1]?=some b:=by
 have:=heap_alloc_new (w.alloc a) b
 simpa using this
theorem Ua(w:World)(c:Array Value)(e:TypeId)(f:Nat × Nat)(j:Nat):(w.alloc (.cells c e f)).cell? ⟨w.heap.size,j,none⟩=c[j]?:=by
 have:=heap_alloc_new w (.cells c e f);simp only[World.cell?];rw[this]
 simp
theorem dN{lg lo lc:Nat}{bs:List Nat}{dn:List Bool}{wa xa ya:Option Addr}{wn wc xn xc yc sg sc:Nat}{u:Int}{hl:List Int}{st:List Nat}(w:World)(hdl:dn.length=bs.length)(hsl:st.length=bs.length)(hn:bs.length<=1000)(hhn:hl.length<=1000000)(hsb:∀(i c:Nat),st[i]?=some c->c<=1000000)(ZB:∀i x,hl[i]?=some x->-9223372036854775808<=x/\x<=9223372036854775807/\∃hg ho,ya=some ⟨hg,ho,none⟩/\w.cell? ⟨hg,ho+i,none⟩=some (.int .i64 x))(hst:∀(i c:Nat),st[i]?=some c->w.cell? ⟨sg,i,none⟩=some (.int .i64 c))(hcell:∀i b,bs[i]?=some b->w.cell? ⟨lg,lo+i,none⟩=some (.pointer (some ⟨b,0,none⟩))/\w.cell? ⟨b,10,none⟩=some (.bool (dn.getD i false))) :
  CallsIn (Fence.list [31,60] none) 0 Try.prog 60 #[.agg #[.slice wa wn wc,.slice xa xn xc,.slice ya hl.length yc,.int .i64 u],.slice (some ⟨lg,lo,none⟩) bs.length lc,.slice (some ⟨sg,0,none⟩) bs.length sc] w fun e w'=>∃ob,w.heap.size<=ob/\e=.returned (.tuple #[.slice (some ⟨ob,0,none⟩) bs.length bs.length,.bool ((List.range bs.length).any (NZ hl st dn))])/\Below w.heap.size w w'/\(∀i,i<bs.length->w'.cell? ⟨ob,i,none⟩=some (.bool (NZ hl st dn i))):=by
 obtain⟨i0,hi,hz0,hz1,hz2⟩:=info_parts ah;have hmk:∀wx:World,(Instr.makeSlice 124 (.int .i64 bs.length) (.int .i64 bs.length)).run Try.prog wx=.ok (.slice (some ⟨wx.heap.size,0,none⟩) bs.length bs.length) (wx.alloc (.cells (madeCells #[.bool false] bs.length) 4)):=fun wx=>by
  have:=run_makeSlice (P:=Try.prog) (w:=wx) 124 4 i0 (.bool false) Try.underlying124 hi hz0 .i64 .i64 bs.length bs.length zOM (Int.le_refl _) (by rw[hz1];simp;omega) (by rw[hz2];omega) zOM;rw[hz1,show(Value.bool false).cells=#[.bool false]from rfl]at this
  simpa using this
 have HC:=Lib.hid hcell;have HL:=Lib.hid (zAI ZB hst);clear hcell ZB hst;gi_enter Try.func60,Try.ntmps60
 gi_wp2;generalize hW:World.alloc (World.alloc w _) _=W1;have z1:W1.heap.size=w.heap.size+2:=by rw[← hW];simp
 have q1:W1.heap[w.heap.size+1]?=some (.cells (madeCells #[.bool false] bs.length) 4 (0,0)):=by rw[← hW];exact vH _ _ _
 have q0:W1.cell? ⟨w.heap.size,2,none⟩=some (.slice ya hl.length yc):=by rw[← hW];exact Lib.cell?_alloc_some _ (Ua _ _ _ _ 2)
 have aR:∀i b,bs[i]?=some b->W1.cell? ⟨lg,lo+i,none⟩=some (.pointer (some ⟨b,0,none⟩))/\W1.cell? ⟨b,10,none⟩=some (.bool (dn.getD i false))/\lg<w.heap.size/\b<w.heap.size:=fun i b hb=>by
  obtain⟨h1,h2⟩:=HC.out i b hb;have lt:∀a v,w.cell? a=some v->a.block<w.heap.size:=fun a v h=>by
    simp only[World.cell?]at h;cases ho:w.heap[a.block]? with
    | none=>rw[ho]at h;cases h
    | some o=>exact(zGE ho).1
  exact⟨by rw[← hW];exact Lib.cell?_alloc_some _ (Lib.cell?_alloc_some _ h1),by rw[← hW];exact Lib.cell?_alloc_some _ (Lib.cell?_alloc_some _ h2),lt _ _ h1,lt _ _ h2⟩
 have qY:(∀i x,hl[i]?=some x->-9223372036854775808<=x/\x<=9223372036854775807/\∃hg ho,ya=some ⟨hg,ho,none⟩/\W1.cell? ⟨hg,ho+i,none⟩=some (.int .i64 x)/\hg<w.heap.size)/\(∀(i c:Nat),st[i]?=some c->W1.cell? ⟨sg,i,none⟩=some (.int .i64 c)/\sg<w.heap.size):=by
  obtain⟨ZB,hst⟩:=HL.out;have lt:∀a v,w.cell? a=some v->a.block<w.heap.size:=fun a v h=>by
    simp only[World.cell?]at h;cases ho:w.heap[a.block]? with
    | none=>rw[ho]at h;cases h
    | some o=>exact(zGE ho).1
  refine⟨fun i x hx=>?_,fun i c hc=>?_⟩
  . obtain⟨h1,h2,hg,ho,e,hcx⟩:=ZB i x hx;exact⟨h1,h2,hg,ho,e,by rw[← hW];exact Lib.cell?_alloc_some _ (Lib.cell?_alloc_some _ hcx),lt _ _ hcx⟩
  . have hcx:=hst i c hc;exact⟨by rw[← hW];exact Lib.cell?_alloc_some _ (Lib.cell?_alloc_some _ hcx),lt _ _ hcx⟩
 have HB:Below w.heap.size w W1:=by rw[← hW];exact((Below.refl _ w).alloc (Nat.le_refl _) _).alloc (by simp) _
 have HH:=Lib.hid (zAI aR (zAI HB (zAI q1 (zAI q0 (zAI qY z1)))));clear aR HB HC hW q1 q0 z1 HL qY;have hsz:(madeCells #[Value.bool false] bs.length).size=bs.length:=size_madeCells _ _;have HZ:=Lib.hid hsz;clear hsz;gi_loopw [9,18] (fun a i wr=>∃k:Nat,k<=bs.length/\i=.int .i64 k/\a=.bool ((List.range k).any (NZ hl st dn))/\RowKit.Hid (∃cur:Array Value,wr.heap[w.heap.size+1]?=some (.cells cur 4 (0,0))/\cur.size=bs.length/\(∀j,j<k->cur[j]?=some (.bool (NZ hl st dn j)))/\(∀g,g<w.heap.size+1->wr.heap[g]?=W1.heap[g]?)/\Below w.heap.size w wr)) (fun a i _=>bs.length-(intOf i).toNat)
 case atStart=>
  obtain⟨aR,HB,q1,q0,qY,z1⟩:=HH.out;exact⟨0,Nat.zero_le _,rfl,by simp,Lib.hid ⟨_,q1,HZ.out,fun j hj=>by omega,fun g _=>rfl,HB⟩⟩
 case round=>
  obtain⟨k,hk,rfl,rfl,hinv⟩:=hrel;by_cases hlt:k<bs.length
  . obtain⟨cur,r1,r2,r3,r4,r5⟩:=hinv.out;obtain⟨aR,HB,q1,q0,qY,z1⟩:=HH.out;obtain⟨b,hb⟩:∃b,bs[k]?=some b:=⟨_,List.getElem?_eq_getElem hlt⟩
    obtain⟨p1,p2,p3,p4⟩:=aR k b hb;have s1:wr.cell? ⟨lg,lo+k,none⟩=some (.pointer (some ⟨b,0,none⟩)):=by simp only[World.cell?,r4 lg zOM]at p1 ⊢;exact p1
    have s2:wr.cell? ⟨b,10,none⟩=some (.bool (dn.getD k false)):=by simp only[World.cell?,r4 b zOM]at p2 ⊢;exact p2
    have s3:wr.cell? ⟨w.heap.size,2,none⟩=some (.slice ya hl.length yc):=by simp only[World.cell?,r4 w.heap.size zOM]at q0 ⊢;exact q0
    obtain⟨ov,hov⟩:∃ov,cur[k]?=some ov:=⟨_,Array.getElem?_eq_getElem zOM⟩
    have s4:wr.cell? ⟨w.heap.size+1,k,none⟩=some ov:=by simp[World.cell?,r1,hov]
    have s5:wr.frozen? ⟨w.heap.size+1,k,none⟩=false:=by simp[World.frozen?,r1]
    have hstep:∀(nq:Nat) (v:Value),v=.bool (NZ hl st dn k)->RowKit.Hid (∃cur:Array Value,((wr.drewN nq).setCell ⟨w.heap.size+1,k,none⟩ v).heap[w.heap.size+1]?=some (.cells cur 4 (0,0))/\cur.size=bs.length/\(∀j,j<k+1->cur[j]?=some (.bool (NZ hl st dn j)))/\(∀g,g<w.heap.size+1->((wr.drewN nq).setCell ⟨w.heap.size+1,k,none⟩ v).heap[g]?=W1.heap[g]?)/\Below w.heap.size w ((wr.drewN nq).setCell ⟨w.heap.size+1,k,none⟩ v)):=fun nq v hv=>Lib.hid (by
      refine⟨cur.setIfInBounds k v,?_,by simpa using r2,fun j hj=>?_,fun g hg=>?_,?_⟩
      . have r1':(wr.drewN nq).heap[w.heap.size+1]?=some (.cells cur 4 (0,0)):=r1;simp only[World.setCell,Array.getElem?_modify,if_true,r1',Option.map_some];first | rfl | simp | skip
      . by_cases e:k=j
        . subst e;rw[Array.getElem?_setIfInBounds_self_of_lt zOM,hv]
        . rw[Array.getElem?_setIfInBounds_ne e];exact r3 j zOM
      . rw[← r4 g hg];have:(wr.drewN nq).heap[g]?=wr.heap[g]?:=rfl;simp only[World.setCell,Array.getElem?_modify];rw[if_neg zOM,this]
      . exact⟨r5.os,r5.tape,r5.output,by have:=r5.size;simpa [World.setCell]using this,fun g hg=>by rw[← r5.block g hg];have:(wr.drewN nq).heap[g]?=wr.heap[g]?:=rfl;simp only[World.setCell,Array.getElem?_modify];rw[if_neg zOM,this]⟩)
    have hany:(List.range (k+1)).any (NZ hl st dn)=((List.range k).any (NZ hl st dn)||NZ hl st dn k):=by rw[List.range_succ];simp
    obtain⟨c,hc⟩:∃c,st[k]?=some c:=⟨_,List.getElem?_eq_getElem zOM⟩
    have s6:wr.cell? ⟨sg,k,none⟩=some (.int .i64 c):=by have:=qY.2 k c hc;simp only[World.cell?,r4 sg zOM]at this ⊢;exact this.1
    have hcd:st.getD k 0=c:=by simp[List.getD,hc]
    have hcb:=hsb k c hc;have HS:=Lib.hid (zAI hstep hany);clear hstep hany;have HQ:=Lib.hid (zAI r1 (zAI r2 (zAI r3 (zAI r4 (zAI r5 (zAI hb hc))))));have HL2:=qY.1;have xw:=Lib.hid (zAI HL2 r4);clear r1 r2 r3 r4 r5 hb p1 p2 aR HB q1 q0 z1 hinv qY HL2;have hk0:¬ ((k:Int)<0):=by omega
    by_cases hkl:k<hl.length
    . obtain⟨x,hx⟩:∃x,hl[k]?=some x:=⟨_,List.getElem?_eq_getElem hkl⟩
      have hxd:hl.getD k 0=x:=by simp[List.getD,hx]
      obtain⟨hx1,hx2,hg,ho,rfl,s7,hgl⟩:=xw.out.1 k x hx;replace s7:wr.cell? ⟨hg,ho+k,none⟩=some (.int .i64 x):=by have r4:=xw.out.2;simp only[World.cell?,r4 hg zOM]at s7 ⊢;exact s7
      have hk1:decide ((k:Int)<(hl.length:Int))=true:=by simp;omega
      have hk2:(k:Int)<(hl.length:Int):=by omega
      by_cases hx0:0<x
      . have hx3:decide (0<x)=true:=by simp[hx0]
        by_cases hxc:x<=(c:Int)
        . have hx4:decide (x<=(c:Int))=true:=by simp[hxc]
          have HV:RowKit.Hid (NZ hl st dn k=false):=Lib.hid (by unfold NZ Vv;rw[hxd,hcd];simp[hkl,hx0,hxc]);clear hxd hcd hx xw;generalize hd:dn.getD k false=d at s2;gi_wp2;gi_big_quiet_th (fail)
          gi_wp2;all_goals(refine⟨⟨k+1,by omega,by go_num,?_,(HS.out.1 _ _ (by rw[HV.out];first | done | simp_all))⟩,by simp[intOf];omega⟩;rw[HS.out.2,HV.out];first | done | rfl | simp_all)
        . have hx4:decide (x<=(c:Int))=false:=by simp;omega
          have HV:RowKit.Hid (NZ hl st dn k=!(dn.getD k false)):=Lib.hid (by unfold NZ Vv;rw[hxd,hcd];simp[hkl,hx0,hxc]);clear hxd hcd hx xw;generalize hd:dn.getD k false=d at s2;gi_wp2;gi_big_quiet_th (fail)
          gi_wp2;all_goals(refine⟨⟨k+1,by omega,by go_num,?_,(HS.out.1 _ _ (by rw[HV.out,hd];first | done | simp_all))⟩,by simp[intOf];omega⟩;rw[HS.out.2,HV.out,hd];first | done | rfl | simp_all)
      . have hx3:decide (0<x)=false:=by simp;omega
        have HV:RowKit.Hid (NZ hl st dn k=!(dn.getD k false)):=Lib.hid (by unfold NZ Vv;rw[hxd,hcd];simp[hkl,hx0]);clear hxd hcd hx xw;generalize hd:dn.getD k false=d at s2;gi_wp2;gi_big_quiet_th (fail)
        gi_wp2;all_goals(refine⟨⟨k+1,by omega,by go_num,?_,(HS.out.1 _ _ (by rw[HV.out,hd];first | done | simp_all))⟩,by simp[intOf];omega⟩;rw[HS.out.2,HV.out,hd];first | done | rfl | simp_all)
    . have hk1:decide ((k:Int)<(hl.length:Int))=false:=by simp;omega
      have HV:RowKit.Hid (NZ hl st dn k=!(dn.getD k false)):=Lib.hid (by unfold NZ Vv;simp[hkl]);clear hcd xw;generalize hd:dn.getD k false=d at s2;gi_wp2;gi_big_quiet_th (fail)
      gi_wp2;all_goals(refine⟨⟨k+1,by omega,by go_num,?_,(HS.out.1 _ _ (by rw[HV.out,hd];first | done | simp_all))⟩,by simp[intOf];omega⟩;rw[HS.out.2,HV.out,hd];first | done | rfl | simp_all)
  . obtain rfl:k=bs.length:=by omega
    gi_wp2;go_ret2
    obtain⟨cur,r1,r2,r3,r4,r5⟩:=hinv.out;exact⟨w.heap.size+1,by omega,rfl,r5,fun i hi=>by simp[World.cell?,r1,r3 i hi]⟩
end Go.Proofs.Ytdkfdedgfilhbaa
namespace Go.Proofs.Ytdkfdedgfilhbaa
open Go Go.Conc Go.LT Go.LC Go.LK Go.RowKit
open BA
def Ll(W:World)(g o:Nat)(c:EP)(pa:Option Addr)(pn pc:Nat):Prop:=
 W.cell? ⟨g,o,none⟩=some (.int .i64 c.kind)/\W.cell? ⟨g,o+1,none⟩=some (.int .i64 c.a)/\W.cell? ⟨g,o+2,none⟩=some (.int .i64 c.b)/\W.cell? ⟨g,o+3,none⟩=some (.int .i64 c.c)/\W.cell? ⟨g,o+4,none⟩=some (.slice pa pn pc)
structure GL(Fx:Nat->Prop)(wa ta ya:Option Addr)(plans:List (List EP))(turns hl:List Int)(W:World):Prop where
 work:∀(k:Nat) pl,plans[k]?=some pl->∃b o ca cc,wa=some ⟨b,o,none⟩/\Fx b/\pl.length<=maxLen/\W.cell? ⟨b,o+k,none⟩=some (.slice ca pl.length cc)/\∀(i:Nat) c,pl[i]?=some c->∃g o' pa pn pc,ca=some ⟨g,o',none⟩/\Fx g/\Ll W g (o'+i*5) c pa pn pc
 turns:∀(i:Nat) x,turns[i]?=some x->∃b o,ta=some ⟨b,o,none⟩/\Fx b/\W.cell? ⟨b,o+i,none⟩=some (.int .i64 x)
 Vs:∀(i:Nat) x,hl[i]?=some x->-9223372036854775808<=x/\x<=9223372036854775807/\∃b o,ya=some ⟨b,o,none⟩/\Fx b/\W.cell? ⟨b,o+i,none⟩=some (.int .i64 x)
theorem Ip{W:World}{a:Addr}{v:Value}(h:W.cell? a=some v):a.block<W.heap.size:=World.block_lt_of_cell? W _ h
theorem Ll.same{W W':World}{g o:Nat}{c:EP}{pa:Option Addr}{pn pc:Nat}(h:Ll W g o c pa pn pc)(hg:W'.heap[g]?=W.heap[g]?):Ll W' g o c pa pn pc:=by
 have e:∀o,W'.cell? ⟨g,o,none⟩=W.cell? ⟨g,o,none⟩:=fun o=>by simp only[World.cell?,hg]
 obtain⟨h1,h2,h3,h4,h5⟩:=h;exact⟨(e _).trans h1,(e _).trans h2,(e _).trans h3,(e _).trans h4,(e _).trans h5⟩
theorem Ll.lt{W:World}{g o:Nat}{c:EP}{pa:Option Addr}{pn pc:Nat}(h:Ll W g o c pa pn pc):g<W.heap.size:=Ip h.1
theorem GL.same{Fx:Nat->Prop}{wa ta ya:Option Addr}{plans:List (List EP)}{turns hl:List Int}{W W':World}(h:GL Fx wa ta ya plans turns hl W)(hg:∀g,Fx g->W'.heap[g]?=W.heap[g]?):GL Fx wa ta ya plans turns hl W':=by
 have e:∀g o,Fx g->W'.cell? ⟨g,o,none⟩=W.cell? ⟨g,o,none⟩:=fun g o hx=>by simp only[World.cell?,hg g hx]
 refine⟨fun k pl hp=>?_,fun i x hi=>?_,fun i x hi=>?_⟩
 . obtain⟨b,o,ca,cc,a1,a2,a5,a3,a4⟩:=h.work k pl hp;refine⟨b,o,ca,cc,a1,a2,a5,(e _ _ a2).trans a3,fun i c hc=>?_⟩;obtain⟨g,o',pa,pn,pc,b1,b2,b3⟩:=a4 i c hc;exact⟨g,o',pa,pn,pc,b1,b2,b3.same (hg g b2)⟩
 . obtain⟨b,o,a1,a2,a3⟩:=h.turns i x hi;exact⟨b,o,a1,a2,(e _ _ a2).trans a3⟩
 . obtain⟨a0,a5,b,o,a1,a2,a3⟩:=h.Vs i x hi;exact⟨a0,a5,b,o,a1,a2,(e _ _ a2).trans a3⟩
theorem GL.old{Fx:Nat->Prop}{wa ta ya:Option Addr}{plans:List (List EP)}{turns hl:List Int}{W W':World}(h:GL Fx wa ta ya plans turns hl W)(hg:∀g,g<W.heap.size->W'.heap[g]?=W.heap[g]?):GL Fx wa ta ya plans turns hl W':=by
 have e:∀{g o v},W.cell? ⟨g,o,none⟩=some v->W'.cell? ⟨g,o,none⟩=some v:=fun{g o v} hx=>by rw[← hx];simp only[World.cell?,hg g (Ip hx)]
 refine⟨fun k pl hp=>?_,fun i x hi=>?_,fun i x hi=>?_⟩
 . obtain⟨b,o,ca,cc,a1,a2,a5,a3,a4⟩:=h.work k pl hp;refine⟨b,o,ca,cc,a1,a2,a5,e a3,fun i c hc=>?_⟩;obtain⟨g,o',pa,pn,pc,b1,b2,b3⟩:=a4 i c hc;exact⟨g,o',pa,pn,pc,b1,b2,b3.same (hg g b3.lt)⟩
 . obtain⟨b,o,a1,a2,a3⟩:=h.turns i x hi;exact⟨b,o,a1,a2,e a3⟩
 . obtain⟨a0,a5,b,o,a1,a2,a3⟩:=h.Vs i x hi;exact⟨a0,a5,b,o,a1,a2,e a3⟩
theorem OM{w:World}{o:Obj}:Below w.heap.size w (w.alloc o):=(Below.refl _ _).alloc (Nat.le_refl _) o
def lC(plans:List (List EP))(turns hl:List Int)(w:World)(e:Ending)(w':World):Prop:=∃b,e=.returned (.bool b)/\(b=true->plans.length<=16/\turns.length<=20000/\hl.length<=1000)/\Below w.heap.size w w'
def IsI(v:Value):Prop:=∃x:Int,v=.int .i64 x
theorem iq(h:FuncId){Fx:Nat->Prop}{wa ta ya:Option Addr}{plans:List (List EP)}{turns hl:List Int}{w:World}(hC:GL Fx wa ta ya plans turns hl w)(wc tc yc:Nat)(u:Int) :
   CallsIn (Fence.list [h,5] none) 0 Try.prog 5 #[.agg #[.slice wa plans.length wc,.slice ta turns.length tc,.slice ya hl.length yc,.int .i64 u]] w (lC plans turns hl w):=by
 have HC:=Lib.hid hC;clear hC;gi_enter Try.func5,Try.ntmps5
 by_cases h1:(16:Int)<(plans.length:Int)
 . gi_wp2;go_ret
   exact⟨false,rfl,fun h=>(by cases h),OM⟩
 by_cases h2:(20000:Int)<(turns.length:Int)
 . gi_wp2;go_ret
   exact⟨false,rfl,fun h=>(by cases h),OM⟩
 by_cases h3:(1000:Int)<(hl.length:Int)
 . gi_wp2;go_ret
   exact⟨false,rfl,fun h=>(by cases h),OM⟩
 gi_wp2;generalize hW:World.alloc w _=W1;have hC1:W1.cell? ⟨w.heap.size,0,none⟩=some (.slice wa plans.length wc):=by rw[← hW];exact Ua _ _ _ _ 0
 have HB:RowKit.Hid (Below w.heap.size w W1/\GL Fx wa ta ya plans turns hl W1):=Lib.hid (by refine⟨by rw[← hW];exact OM,HC.out.old fun g hg=>by rw[← hW];exact heap_alloc_old _ _ hg⟩)
 clear hW;gi_loopw [3,4,5] (fun cv pv iv wr=>∃k:Nat,k<=plans.length/\iv=.int .i64 k/\IsI cv/\IsI pv/\wr=W1) (fun _ _ iv _=>plans.length-(intOf iv).toNat)
 case atStart=>exact⟨0,by omega,rfl,⟨_,rfl⟩,⟨_,rfl⟩,rfl⟩
 case round=>
   obtain⟨k,hk,rfl,⟨cx,rfl⟩,⟨px,rfl⟩,rfl⟩:=hrel;by_cases hlt:k<plans.length
   . have hki:(k:Int)<(plans.length:Int):=by omega
     obtain⟨b,o,ca,cc,rfl,_,hml,p1,p2⟩:=HB.out.2.work k plans[k] (List.getElem?_eq_getElem hlt);have HP:=Lib.hid p2;have hml:plans[k].length<=9223372036854775807:=hml;clear p2;gi_wp2;gi_loopw [4,6] (fun pv iv wq=>∃i:Nat,i<=plans[k].length/\iv=.int .i64 i/\IsI pv/\wq=wr) (fun _ iv _=>plans[k].length-(intOf iv).toNat)
     case atStart=>exact⟨0,by omega,rfl,⟨_,rfl⟩,rfl⟩
     case round=>
       obtain⟨i,hi,rfl,⟨py,rfl⟩,rfl⟩:=hrel;by_cases hl:i<plans[k].length
       . have hli:(i:Int)<(plans[k].length:Int):=by omega
         by_cases h4:wrap64 (cx+(plans[k].length:Int))<=600
         . by_cases h5:py<=4000
           . obtain⟨g,o',pa,pn,pc,rfl,_,q0,q1,q2,q3,q4⟩:=HP.out i plans[k][i] (List.getElem?_eq_getElem hl);gi_wp2;go_roundw
             case rel=>exact⟨i+1,by omega,by go_num,⟨_,rfl⟩,trivial⟩
             case measure=>simp[intOf];omega
           . gi_wp2;go_roundw
             case rel=>exact⟨k+1,by omega,by go_num,⟨_,rfl⟩,⟨_,rfl⟩,trivial⟩
             case measure=>simp[intOf];omega
         . gi_wp2;go_roundw
           case rel=>exact⟨k+1,by omega,by go_num,⟨_,rfl⟩,⟨_,rfl⟩,trivial⟩
           case measure=>simp[intOf];omega
       . obtain rfl:i=plans[k].length:=by omega
         gi_wp2;go_roundw
         case rel=>exact⟨k+1,by omega,by go_num,⟨_,rfl⟩,⟨_,rfl⟩,trivial⟩
         case measure=>simp[intOf];omega
   . obtain rfl:k=plans.length:=by omega
     by_cases h4:cx<=600
     . by_cases h5:px<=4000
       . gi_wp2;go_ret
         exact⟨true,rfl,fun _=>by omega,HB.out.1⟩
       . gi_wp2;go_ret
         exact⟨false,rfl,fun h=>(by cases h),HB.out.1⟩
     . gi_wp2;go_ret
       exact⟨false,rfl,fun h=>(by cases h),HB.out.1⟩
end Go.Proofs.Ytdkfdedgfilhbaa
namespace Go.Proofs.Ytdkfdedgfilhbaa
open Go Go.Conc Go.LT Go.LC Go.LK
section
instance hosts:Host:=⟨fun f=>[16,28,30,55,56,57,58,74,33,31].contains f⟩
theorem fQ:∀f∈[56],Lets Try.prog f:=by intro f hf;simp only[List.mem_singleton]at hf;subst hf;exact⟨by kernel_rfl,.inr (.inr (by decide))⟩
def F9(W:World)(b k t co go:Nat)(gr:Bool)(st bg ow:Int)(ans:Value)(dn fl:Bool):Prop:=
 W.heap[b]?=some (.cells #[.int .i64 k,.bool true,.chan (some t),.chan (some co),.chan (some go),.bool gr,.int .i64 st,.int .i64 bg,.int .i64 ow,ans,.bool dn,.bool fl] 92 (0,0))
def Us:Code:=match Try.f56.body with | some (.seq c _)=>c | _=>.skip
theorem jI{W:World}{b k t co go:Nat}{gr:Bool}{st bg ow:Int}{ans:Value}{dn fl:Bool}(h:F9 W b k t co go gr st bg ow ans dn fl){Q:Exit->Act->World->Prop}(hQ:Q .normal ⟨#[.pointer (some ⟨b,0,none⟩),undef,.pointer (some ⟨b,0,none⟩),.pointer (some ⟨b,0,none⟩),.pointer (some ⟨b,3,none⟩),.chan (some co),.pointer (some ⟨b,0,none⟩),.pointer (some ⟨b,0,none⟩),.pointer (some ⟨b,0,none⟩),.int .i64 k,.pointer (some ⟨b,0,none⟩),.pointer (some ⟨b,0,none⟩),.pointer (some ⟨b,4,none⟩),.chan (some go),undef,undef,undef,undef,undef,undef],[]⟩ W) :
  Us.wpIn (Fence.list [56] none) 0 Try.prog Q ⟨#[.pointer (some ⟨b,0,none⟩),undef,undef,undef,undef,undef,undef,undef,undef,undef,undef,undef,undef,undef,undef,undef,undef,undef,undef,undef],[]⟩ W:=by
 unfold F9 at h;simp only[Us,Try.f56];have c0:W.cell? ⟨b,0,none⟩=some (.int .i64 k):=by simp[World.cell?,h]
 have c3:W.cell? ⟨b,3,none⟩=some (.chan (some co)):=by simp[World.cell?,h]
 have c4:W.cell? ⟨b,4,none⟩=some (.chan (some go)):=by simp[World.cell?,h]
 gi_wp2;exact hQ
def JU:Code:=match Try.f56.body with | some (.seq _ c)=>c | _=>.skip
def Nq(b k co go:Nat):Array Value:=#[.pointer (some ⟨b,0,none⟩),undef,.pointer (some ⟨b,0,none⟩),.pointer (some ⟨b,0,none⟩),.pointer (some ⟨b,3,none⟩),.chan (some co),.pointer (some ⟨b,0,none⟩),.pointer (some ⟨b,0,none⟩),.pointer (some ⟨b,0,none⟩),.int .i64 k,.pointer (some ⟨b,0,none⟩),.pointer (some ⟨b,0,none⟩),.pointer (some ⟨b,4,none⟩),.chan (some go),undef,undef,undef,undef,undef,undef]
theorem gq:Try.f56.body=some (.seq Us JU):=rfl
section
variable {X Sg:Type}{M:Md X Sg}{ρ:Rn}{W:World}{c:Frame}{cs:List Frame}
theorem F9.alike{W EG:World}{b k t co go:Nat}{gr:Bool}{st bg ow:Int}{ans:Value}{dn fl:Bool}(h:F9 W b k t co go gr st bg ow ans dn fl)(ha:LT.Alike W EG):F9 EG b k t co go gr st bg ow ans dn fl:=by obtain⟨τ,d,rfl⟩:=ha;exact h
theorem QC{x:Wx X Sg ρ}{b k t co go:Nat}{gr:Bool}{st bg ow:Int}{ans:Value}{dn fl:Bool}(h:F9 W b k t co go gr st bg ow ans dn fl)(hJ:∀EG,LT.Alike W EG->JW (SW M ρ Try.prog).base x (G (GH 56 (Nq b k co go) [.code JU] [] .run .normal) (c :: cs)) EG) :
   JW (SW M ρ Try.prog).base x (G (Frame.enter Try.prog 56 #[.pointer (some ⟨b,0,none⟩)] .normal) (c :: cs)) W:=by
 have ht:#[.pointer (some ⟨b,0,none⟩)]++Array.replicate (Try.f56.ntmps-#[Value.pointer (some ⟨b,0,none⟩)].size) undef=#[.pointer (some ⟨b,0,none⟩),undef,undef,undef,undef,undef,undef,undef,undef,undef,undef,undef,undef,undef,undef,undef,undef,undef,undef,undef]:=by
   have:Try.f56.ntmps=20:=by kernel_rfl
   rw[this];walk_nrm
 rw[enter_at _ Try.func56 gq,ht];refine JW.silent rfl (fun w=>stepG_seq) ?_;refine Runs.lone (S:=SW M ρ Try.prog) fQ (c:=Us) zKR (Q:=fun e a γ W'=>e=.normal/\a.tmps=Nq b k co go/\a.defers=[]/\γ=x/\LT.Alike W W') (a:=⟨_,[]⟩) (fun EG ha=>?_) 56 .normal [.code JU] (c :: cs) (by simp) (by simp) fun e a' γ' W' q=>?_
 . exact jI (h.alike ha) ⟨rfl,rfl,rfl,rfl,ha⟩
 . obtain⟨rfl,h1,h2,rfl,ha⟩:=q;show JW _ _ (G (GH _ a'.tmps _ a'.defers .run .normal) _) _;rw[h1,h2];exact hJ _ ha
def iH(M:Md X Sg)(ρ:Rn)(P:Program):O8 P false (Wx X Sg ρ) where
 B:=(SW M ρ P).B
 J:=(SW M ρ P).J
 live:=fun _ _=>True
 idle:=fun γ g g' W hs h hJ=>(SW M ρ P).base.silent γ g g' W hs (fun w=>h w trivial) hJ
def Li:Code:=match JU with | .seq _ c=>c | _=>.skip
def KP:Array Oper:=match JU with | .seq (.region _ ops _) _=>ops | _=>#[]
theorem fE:∃id,JU=.seq (.region id KP false) Li:=⟨_,rfl⟩
theorem QJ{x:Wx X Sg ρ}{tm:Array Value}(hJ:JW (SW M ρ Try.prog).base x (G ((base 56).at ⟨tm,[]⟩ [.inRegion KP [0,1,2,3],.code Li]) (c :: cs)) W) :
  JW (SW M ρ Try.prog).base x (G (GH 56 tm [.code JU] [] .run .normal) (c :: cs)) W:=by
 show JL (iH M ρ Try.prog) x (G ((base 56).at ⟨tm,[]⟩ [.code JU]) (c :: cs)) W;obtain⟨id,e⟩:=fE;rw[e];refine EO ?_;refine JL.region (l:=[0,1,2,3]) rfl fun _ hk=>?_;cases hk
 exact hJ
theorem Y6{b k co go:Nat}(w:World):stepG Try.prog false (G ((base 56).at ⟨Nq b k co go,[]⟩ [.inRegion KP [0,1,2,3],.code Li]) (c :: cs)) w =
   .comm (G ((base 56).at ⟨Nq b k co go,[]⟩ [.inRegion KP [0,1,2,3],.code Li]) (c :: cs)) #[scase co (.int .i64 k) (.int .i64 0),rcase go (.agg #[])] true .select w #[]:=by
 simp only[KP,JU,Nq,Try.f56];rw[stepG_comm (cases:=#[scase co (.int .i64 k) (.int .i64 0),rcase go (.agg #[])]) (blocking:=true) (shape:=.select) (w':=w) rfl rfl (by decide) ?_,listed_none ?_]
 . simp[go_sem]
 . go_simp
   exact⟨rfl,rfl⟩
theorem Hr(P:Program)(b:Frame)(a:Act)(ops:Array Oper)(i:Nat)(rest:List Nat)(k:List Item)(cs:List Frame)(cases:Array CommCase)(sh:CommShape)(j:Int)(v:Value)(ok:Bool) :
  (G (b.at a (.inRegion ops (i :: rest) :: k)) cs).finishComm P cases sh j v ok=G (b.at (a.put ((ops[i]?).bind (·.dst)) (commResult cases sh j v ok)) (.inRegion ops rest :: k)) cs:=by
 unfold Goroutine.finishComm;have:=Frame.finish_at b a ops i rest k (commResult cases sh j v ok);simp only[G];rw[this]
theorem JL.YI{P:Program}{main:Bool}{Γ:Type}{S:O8 P main Γ}{γ:Γ}{fn:Func}{b:Frame}{a:Act}{todo:List Item}(hn:b.kind=.normal)(hd:a.defers=[])(hf:P.funcs[b.fn]?=some fn)(hr:fn.results=#[])(h:JL S γ (G (c.finish (.tuple #[])) cs) W) :
  JL S γ (G { b.at a todo with mode:=.returning } (c :: cs)) W:=
 .ctl rfl (fun w=>stepG_leave hn hd hf (results_none hr _ P w) (events_results_none hr _ _)) h
theorem P5{K:World->Prop}{Still:Loc->Prop}{Bd:Nat}{st:Seat}{b k co go:Nat}{zi zg:Value}(h:JL (SQ Try.prog false K Still Bd st) () (G (c.finish (.tuple #[])) cs) W) :
  JL (SQ Try.prog false K Still Bd st) () ((G ((base 56).at ⟨Nq b k co go,[]⟩ [.inRegion KP [0,1,2,3],.code Li]) (c :: cs)).finishComm Try.prog #[scase co (.int .i64 k) zi,rcase go zg] .select (0:Nat) undef false) W:=by
 rw[Hr];simp only[KP,JU,Li,Nq,Try.f56];have hc:commResult #[scase co (.int .i64 k) zi,rcase go zg] .select ((0:Nat):Int) undef false=.tuple #[.int .i64 0,.bool false,zg]:=by simp[commResult,scase,rcase,goInt]
 rw[hc];walk_nrm;iterate 3(refine ET ?_;walk_nrm)
 refine EU stepG_region_end ?_;refine EU stepG_block ?_;refine JL.F3 rfl ?_;refine EU stepG_skip ?_;refine EU stepG_inBlock ?_;refine EU stepG_end ?_;exact JL.YI rfl rfl Try.func56 rfl h
end
end
section
def UA:Code:=match Try.f57.body with | some (.seq c _)=>c | _=>.skip
def Ko:Code:=match Try.f57.body with | some (.seq _ c)=>c | _=>.skip
def MW:Code:=match Ko with | .seq _ c=>c | _=>.skip
def O5:Array Oper:=match Ko with | .seq (.region _ ops _) _=>ops | _=>#[]
theorem QY:Try.f57.body=some (.seq UA Ko):=rfl
def Vi(b t go:Nat):Array Value:=#[.pointer (some ⟨b,0,none⟩),undef,.pointer (some ⟨b,0,none⟩),.pointer (some ⟨b,0,none⟩),.pointer (some ⟨b,2,none⟩),.chan (some t),.pointer (some ⟨b,0,none⟩),.pointer (some ⟨b,0,none⟩),.pointer (some ⟨b,4,none⟩),.chan (some go),undef,undef,undef,undef,undef,undef,undef,undef,undef,undef,undef,undef,undef]
section
variable {X Sg:Type}{M:Md X Sg}{ρ:Rn}{W:World}{c:Frame}{cs:List Frame}
theorem U7{v:FE X}{home:Goroutine->Prop}(hzi:ρ.zi=.int .i64 0)(hzg:ρ.zg=.agg #[])(hh:home (G ((base 57).at ⟨Vi v.b v.t ρ.gone,[]⟩ [.inRegion O5 [0,1,2,3],.code MW]) (c :: cs))) :
   JL (SQ Try.prog false (Kv ρ v) (Stv v) (aT v) { cases:=Ho ρ v.t,shape:=.select,home:=home }) () (G ((base 57).at ⟨#[.pointer (some ⟨v.b,0,none⟩),undef,undef,undef,undef,undef,undef,undef,undef,undef,undef,undef,undef,undef,undef,undef,undef,undef,undef,undef,undef,undef,undef],[]⟩ [.code (.seq UA Ko)]) (c :: cs)) W:=by
 have hb:v.b<aT v:=by unfold aT;omega
 refine EO ?_;simp only[UA,Try.f57];refine EO ?_;refine E9 fun _ hkk=>?_;iterate 3(refine ET ?_;walk_nrm)
 refine JQ.load (.chan (some v.t)) rfl rfl nE (fun w hK=>by have h2:=hK.1;go_simp) (fun w hK e he=>by have h2:=hK.1;simp[go_sem,h2]at he;subst he;exact⟨_,rfl,.inl rfl,hb⟩) ?_
 walk_nrm;refine E5 ?_;cases hkk;refine E9 fun _ hkk=>?_;iterate 3(refine ET ?_;walk_nrm)
 refine JQ.load (.chan (some ρ.gone)) rfl rfl nE (fun w hK=>by have h2:=hK.2.1;go_simp) (fun w hK e he=>by have h2:=hK.2.1;simp[go_sem,h2]at he;subst he;exact⟨_,rfl,.inr (.inl rfl),hb⟩) ?_
 walk_nrm;refine E5 ?_;cases hkk;have e:∃id,Ko=.seq (.region id O5 false) MW:=⟨_,rfl⟩
 obtain⟨id,e⟩:=e;rw[e];refine EO ?_;refine JL.region (l:=[0,1,2,3]) rfl fun _ hk=>?_;cases hk
 refine JQ.sit (o := ⟨some 10, .select #[⟨.tmp 5, none, 3⟩, ⟨.tmp 9, none, 72⟩] true, 0, "crew.go:67", #[], none⟩) rfl rfl nE (fun w => ?_) (fun w => ?_) hh
 . simp only[Ho,hzi,hzg];go_simp
   exact⟨rfl,rfl⟩
 . simp[go_sem]
theorem iJ:∀f∈[57],Lets Try.prog f:=by intro f hf;simp only[List.mem_singleton]at hf;subst hf;exact⟨by kernel_rfl,.inr (.inr (by decide))⟩
def Um:Code:=match MW with | .block _ (.cond _ c _)=>c | _=>.skip
def Ye(b t go:Nat)(s:Int)(zg:Value):Array Value:=#[.pointer (some ⟨b,0,none⟩),undef,.pointer (some ⟨b,0,none⟩),.pointer (some ⟨b,0,none⟩),.pointer (some ⟨b,2,none⟩),.chan (some t),.pointer (some ⟨b,0,none⟩),.pointer (some ⟨b,0,none⟩),.pointer (some ⟨b,4,none⟩),.chan (some go),.tuple #[.int .i64 0,.bool true,.int .i64 s,zg],.int .i64 0,.bool true,.bool false,undef,undef,undef,undef,undef,undef,undef,undef,undef]
theorem F9.frozen{W:World}{b k t co go o:Nat}{gr:Bool}{st bg ow:Int}{ans:Value}{dn fl:Bool}(h:F9 W b k t co go gr st bg ow ans dn fl):W.frozen? ⟨b,o,none⟩=false:=by unfold F9 at h;simp[World.frozen?,h]
theorem nV{W:World}{b k t t' co go go':Nat}{gr:Bool}{s st bg ow:Int}{ans zg:Value}{dn fl:Bool}(h:F9 W b k t' co go' gr st bg ow ans dn fl){Q:Exit->Act->World->Prop}(hQ:∀tm W',F9 W' b k t' co go' true s bg ow ans dn fl->(∀b',b'≠b->W'.heap[b']?=W.heap[b']?)->W'.heap.size=W.heap.size->Q .normal ⟨tm,[]⟩ W') :
   Um.wpIn (Fence.list [57] none) 0 Try.prog Q ⟨Ye b t go s zg,[]⟩ W:=by
 have f5:W.frozen? ⟨b,5,none⟩=false:=h.frozen;have f6:W.frozen? ⟨b,6,none⟩=false:=h.frozen;unfold F9 at h;simp only[Um,MW,Ko,Ye,Try.f57];have c5:W.cell? ⟨b,5,none⟩=some (.bool gr):=by simp[World.cell?,h]
 have c6:W.cell? ⟨b,6,none⟩=some (.int .i64 st):=by simp[World.cell?,h]
 gi_wp2;refine hQ _ _ ?_ ?_ ?_
 . simp[F9,World.setCell,Array.getElem?_modify,h]
 . intro b' hb;simp[World.setCell,Array.getElem?_modify,hb.symm]
 . simp[World.setCell]
theorem Tp{x:Wx X Sg ρ}{b k t t' co go go':Nat}{gr:Bool}{st bg ow:Int}{s:Nat}{ans:Value}{dn fl:Bool}(h:F9 W b k t' co go' gr st bg ow ans dn fl)(hJ:∀W',F9 W' b k t' co go' true s bg ow ans dn fl->(∀b',b'≠b->W'.heap[b']?=W.heap[b']?)->W'.heap.size=W.heap.size->JW (SW M ρ Try.prog).base x (G (c.finish (.tuple #[])) cs) W') :
   JW (SW M ρ Try.prog).base x ((G ((base 57).at ⟨Vi b t go,[]⟩ [.inRegion O5 [0,1,2,3],.code MW]) (c :: cs)).finishComm Try.prog (Ho ρ t) .select (0:Nat) (.int .i64 s) true) W:=by
 rw[Hr];have hc:commResult (Ho ρ t) .select ((0:Nat):Int) (.int .i64 s) true=.tuple #[.int .i64 0,.bool true,.int .i64 s,ρ.zg]:=by simp[commResult,Ho,rcase,goInt]
 rw[hc];have hb:∃id cnd els,MW=.block id (.cond cnd Um els)/\cnd=.tmp 12:=⟨_,_,_,rfl,rfl⟩
 obtain⟨id,cnd,els,hb,hcnd⟩:=hb;subst hcnd;show JL (iH M ρ Try.prog) x _ W;rw[hb];simp only[O5,Ko,Vi,Try.f57];walk_nrm;iterate 3(refine ET ?_;walk_nrm)
 refine EU stepG_region_end ?_;refine EU stepG_block ?_;refine JL.F3 rfl ?_;refine Runs.lone (S:=SW M ρ Try.prog) iJ (c:=Um) zKR (Q:=fun e a γ F8=>e=.normal/\a.defers=[]/\γ=x/\∃W',LT.Alike W' F8/\F9 W' b k t' co go' true s bg ow ans dn fl/\(∀b',b'≠b->W'.heap[b']?=W.heap[b']?)/\W'.heap.size=W.heap.size) (a:=⟨Ye b t go s ρ.zg,[]⟩) (fun EG ha=>?_) 57 .normal [.inBlock id] (c :: cs) (by simp) (by simp) fun e a' γ' W' q=>?_
 . refine nV (h.alike ha) fun tm W' h1 h2 h3=>⟨rfl,rfl,rfl,W',.refl _,h1,fun b' hb'=>?_,?_⟩
   . obtain⟨τ,d,rfl⟩:=ha;exact h2 b' hb'
   . obtain⟨τ,d,rfl⟩:=ha;exact h3
 . obtain⟨rfl,h2,rfl,F8,ha,h3,h4,h5⟩:=q;show JL (iH M ρ Try.prog) γ' (G ((base 57).at ⟨a'.tmps,a'.defers⟩ [.inBlock id]) (c :: cs)) W';rw[h2];refine EU stepG_inBlock ?_;refine EU stepG_end ?_;refine JL.YI rfl rfl Try.func57 rfl ?_;exact JW.tape (hJ F8 h3 h4 h5) ha
end
end
section
section
variable {X Sg:Type}{M:Md X Sg}{ρ:Rn}{W:World}{c:Frame}{cs:List Frame}
theorem Nw{B:Nat->Bool}{w W:World}(hs:Io { hol:=B } w W){a:Addr}(hB:B a.block=false):w.cell? a=W.cell? a:=by have:=Fy (B:={ hol:=B }) (w:=w) (a:=a) hB;rw[← this];simp[World.cell?,Gu hs]
theorem SW.load{P:Program}{x:Wx X Sg ρ}{b:Frame}{a:Act}{k:List Item}{ops:Array Oper}{i:Nat}{rest:List Nat}{o:Oper}(v:Value)(ho:ops[i]?=some o)(hw:Region.wanted o (yielded ops a.tmps)=true)(hk:b.kind≠.early)(hr:∀w,Io { hol:=x.1.1.B } w W->(execOp a.eval o).run P w=.ok (.value v) w)(he:∀w,Io { hol:=x.1.1.B } w W->∀e∈(execOp a.eval o).events P w #[],Jv { hol:=x.1.1.B } w.heap.size e)(hJ:JL (iH M ρ P) x (G (b.at (a.put o.dst v) (.inRegion ops rest :: k)) cs) W):JL (iH M ρ P) x (G (b.at a (.inRegion ops (i :: rest) :: k)) cs) W:=
 (SW M ρ P).step rfl fun w hs=>⟨_,w,_,stepG_value ho hw hk (hr w hs),Kept.refl _ _,fun e h=>he w hs e (mem_listed h),W,hs,hJ⟩
theorem SY{B:Nat->Bool}{w:World}{a:Addr}{v:Value}(hB:B a.block=false)(hc:w.cell? a=some v):Jv { hol:=B } w.heap.size ⟨.cell a,false,false⟩:=⟨hB,Ip hc,fun h=>by cases h⟩
theorem Oa{P:Program}(w:World)(es:Array Event)(d:Nat)(t:TypeId)(p:Option Addr)(h:P.underlying t=some (.pointer (P.pointee t))):(Op.equalIn (d+1) t (.pointer p) (.pointer none)).events P w es=es:=by
 have hu:∀es,(underlying t).events P w es=es:=fun es=>by simp[underlying,h]
 cases p<;>simp[Op.equalIn,run_underlying h,hu]
theorem Pp{P:Program}(w:World)(es:Array Event)(t:TypeId)(p:Option Addr)(h:P.underlying t=some (.pointer (P.pointee t))):(Op.equal t (.pointer p) (.pointer none)).events P w es=es:=Oa w es 9999 t p h
theorem Q6{P:Program}(w:World)(es:Array Event)(t:TypeId)(p:Option Addr)(h:P.underlying t=some (.pointer (P.pointee t))):(binOp .eql t (.pointer p) (.pointer none)).events P w es=es:=by simp only[binOp];simp[run_equal_pointer_nil w t p h,Pp w es t p h,go_sem]
def dF:Code:=match Try.f33.body with | some (.seq c _)=>c | _=>.skip
def Og:Code:=match Try.f33.body with | some (.seq _ (.seq c _))=>c | _=>.skip
def MX:Code:=match Try.f33.body with | some (.seq _ (.seq _ c))=>c | _=>.skip
theorem dJ:Try.f33.body=some (.seq dF (.seq Og MX)):=rfl
theorem iR{x:Wx X Sg ρ}{b k t co go:Nat}{gr:Bool}{st bg ow:Int}{ans:Value}{dn fl:Bool}(h:F9 W b k t co go gr st bg ow ans dn fl)(hB:x.1.1.B b=false)(hJ:JL (iH M ρ Try.prog) x (G ((base 33).at ⟨#[.pointer (some ⟨b,0,none⟩),undef,.pointer (some ⟨b,0,none⟩),.bool false,.bool false,.pointer (some ⟨b,0,none⟩),.pointer (some ⟨b,0,none⟩),.pointer (some ⟨b,1,none⟩),.bool true,.bool false,.bool false,undef,undef,undef,undef,undef,undef,undef,undef,undef,undef,undef,undef,undef,undef,undef,undef,undef,undef,undef],[]⟩ [.code (.seq Og MX)]) (c :: cs)) W) :
  JW (SW M ρ Try.prog).base x (G (Frame.enter Try.prog 33 #[.pointer (some ⟨b,0,none⟩)] .normal) (c :: cs)) W:=by
 have c1:W.cell? ⟨b,1,none⟩=some (.bool true):=by unfold F9 at h;simp[World.cell?,h]
 have ht:#[.pointer (some ⟨b,0,none⟩)]++Array.replicate (Try.f33.ntmps-#[Value.pointer (some ⟨b,0,none⟩)].size) undef=#[.pointer (some ⟨b,0,none⟩),undef,undef,undef,undef,undef,undef,undef,undef,undef,undef,undef,undef,undef,undef,undef,undef,undef,undef,undef,undef,undef,undef,undef,undef,undef,undef,undef,undef,undef]:=by
  have:Try.f33.ntmps=30:=by kernel_rfl
  rw[this];walk_nrm
 rw[enter_at _ Try.func33 dJ,ht];show JL (iH M ρ Try.prog) x _ W;refine EO ?_;simp only[dF,Try.f33];refine EO ?_;refine E9 fun _ hkk=>?_
 (refine ET ?_;walk_nrm)
 refine JL.value (.bool false) rfl rfl nE (fun _ _=>by go_simp) (fun w _ e he=>by simp[go_sem]at he;rw[Q6 _ _ _ _ zKR]at he;simp at he) ?_
 walk_nrm;iterate 4(refine ET ?_;walk_nrm)
 refine SW.load (.bool true) rfl rfl nE (fun w hs=>by
  have c2:=(Nw hs (a:=⟨b,1,none⟩) hB).trans c1;go_simp) (fun w hs e he=>by
  have c2:=(Nw hs (a:=⟨b,1,none⟩) hB).trans c1;simp[go_sem,c2]at he;subst he;exact SY hB c2) ?_
 walk_nrm;iterate 2(refine ET ?_;walk_nrm)
 refine E5 ?_;cases hkk;refine JL.EX rfl ?_;refine EU stepG_skip ?_;exact hJ
def oJ(b:Nat)(gr:Bool):Array Value:=#[.pointer (some ⟨b,0,none⟩),undef,.pointer (some ⟨b,0,none⟩),.bool false,.bool false,.pointer (some ⟨b,0,none⟩),.pointer (some ⟨b,0,none⟩),.pointer (some ⟨b,1,none⟩),.bool true,.bool false,.bool false,.pointer (some ⟨b,0,none⟩),.pointer (some ⟨b,0,none⟩),.pointer (some ⟨b,5,none⟩),.bool gr,.bool (!gr),undef,undef,undef,undef,undef,undef,undef,undef,undef,undef,undef,undef,undef,undef]
def XT:Code:=match Og with | .seq _ (.cond _ c _)=>c | _=>.skip
theorem VN{x:Wx X Sg ρ}{b k t co go:Nat}{gr:Bool}{st bg ow:Int}{ans:Value}{dn fl:Bool}(h:F9 W b k t co go gr st bg ow ans dn fl)(hB:x.1.1.B b=false)(hJ:JL (iH M ρ Try.prog) x (G ((base 33).at ⟨oJ b gr,[]⟩ [.code (if gr then .skip else XT),.code MX]) (c :: cs)) W) :
  JW (SW M ρ Try.prog).base x (G (Frame.enter Try.prog 33 #[.pointer (some ⟨b,0,none⟩)] .normal) (c :: cs)) W:=by
 refine iR h hB ?_;have c5:W.cell? ⟨b,5,none⟩=some (.bool gr):=by unfold F9 at h;simp[World.cell?,h]
 refine EO ?_;have e:∃r,Og=.seq r (.cond (.tmp 15) XT .skip)/\r=(match Og with | .seq r _=>r | _=>.skip):=⟨_,rfl,rfl⟩
 obtain⟨r,e,er⟩:=e;rw[e];subst er;simp only[Og,Try.f33];refine EO ?_;refine E9 fun _ hkk=>?_;iterate 3(refine ET ?_;walk_nrm)
 refine SW.load (.bool gr) rfl rfl nE (fun w hs=>by
  have c2:=(Nw hs (a:=⟨b,5,none⟩) hB).trans c5;go_simp) (fun w hs e he=>by
  have c2:=(Nw hs (a:=⟨b,5,none⟩) hB).trans c5;simp[go_sem,c2]at he;subst he;exact SY hB c2) ?_
 walk_nrm
 (refine ET ?_;walk_nrm)
 refine E5 ?_;cases hkk;cases gr with
 | true=>exact JL.EX rfl hJ
 | false=>exact JL.F3 rfl hJ
theorem dH:∀f∈[33],Lets Try.prog f:=by intro f hf;simp only[List.mem_singleton]at hf;subst hf;exact⟨by kernel_rfl,.inr (.inr (by decide))⟩
theorem mo{W:World}{b k t co go:Nat}{gr:Bool}{st bg ow:Int}{ans:Value}{dn fl:Bool}{v1 v2 v3 v4 v5 v6 v7 v8 v9 Aa Ab Ac Ae Af Ah Ai Aj Ak Al:Value}(h:F9 W b k t co go gr st bg ow ans dn fl){Q:Exit->Act->World->Prop}(hQ:∀tm W',F9 W' b k t co go false st bg (RowKit.wrap64 (ow+1)) ans dn fl->(∀b',b'≠b->W'.heap[b']?=W.heap[b']?)->W'.heap.size=W.heap.size->Q .normal ⟨tm,[]⟩ W') :
   MX.wpIn (Fence.list [33] none) 0 Try.prog Q ⟨#[.pointer (some ⟨b,0,none⟩),v1,v2,v3,v4,v5,v6,v7,v8,v9,Aa,Ab,Ac,Ae,Af,Ah,Ai,Aj,Ak,Al,undef,undef,undef,undef,undef,undef,undef,undef,undef,undef],[]⟩ W:=by
 have f5:W.frozen? ⟨b,5,none⟩=false:=h.frozen;have f8:W.frozen? ⟨b,8,none⟩=false:=h.frozen;unfold F9 at h;simp only[MX,Try.f33];have c5:W.cell? ⟨b,5,none⟩=some (.bool gr):=by simp[World.cell?,h]
 have c8:W.cell? ⟨b,8,none⟩=some (.int .i64 ow):=by simp[World.cell?,h]
 gi_wp2;refine hQ _ _ ?_ ?_ ?_
 . simp[F9,World.setCell,Array.getElem?_modify,h]
 . intro b' hb;simp[World.setCell,Array.getElem?_modify,hb.symm]
 . simp[World.setCell]
structure IU(b:Nat)(W W':World):Prop where
 other:∀b',b'≠b->W'.heap[b']?=W.heap[b']?
 size:W'.heap.size=W.heap.size
theorem step_end{x:Wx X Sg ρ}{b k t co go:Nat}{gr:Bool}{st bg ow:Int}{ans:Value}{dn fl:Bool}{v1 v2 v3 v4 v5 v6 v7 v8 v9 Aa Ab Ac Ae Af Ah Ai Aj Ak Al:Value}(h:F9 W b k t co go gr st bg ow ans dn fl)(hJ:∀W',F9 W' b k t co go false st bg (RowKit.wrap64 (ow+1)) ans dn fl->IU b W W'->JW (SW M ρ Try.prog).base x (G (c.finish (.tuple #[])) cs) W') :
   JL (iH M ρ Try.prog) x (G ((base 33).at ⟨#[.pointer (some ⟨b,0,none⟩),v1,v2,v3,v4,v5,v6,v7,v8,v9,Aa,Ab,Ac,Ae,Af,Ah,Ai,Aj,Ak,Al,undef,undef,undef,undef,undef,undef,undef,undef,undef,undef],[]⟩ [.code MX]) (c :: cs)) W:=by
 refine Runs.lone (S:=SW M ρ Try.prog) dH (c:=MX) zKR (Q:=fun e a γ F8=>e=.normal/\a.defers=[]/\γ=x/\∃W',LT.Alike W' F8/\F9 W' b k t co go false st bg (RowKit.wrap64 (ow+1)) ans dn fl/\IU b W W') (a:=⟨_,[]⟩) (fun EG ha=>?_) 33 .normal [] (c :: cs) (by simp) (by simp) fun e a' γ' W' q=>?_
 . refine mo (h.alike ha) fun tm W' h1 h2 h3=>⟨rfl,rfl,rfl,W',.refl _,h1,⟨fun b' hb'=>?_,?_⟩⟩
   . obtain⟨τ,d,rfl⟩:=ha;exact h2 b' hb'
   . obtain⟨τ,d,rfl⟩:=ha;exact h3
 . obtain⟨rfl,h2,rfl,F8,ha,h3,h4⟩:=q;show JL (iH M ρ Try.prog) γ' (G ((base 33).at ⟨a'.tmps,a'.defers⟩ []) (c :: cs)) W';rw[h2];refine EU stepG_end ?_;refine JL.YI rfl rfl Try.func33 rfl ?_;exact JW.tape (hJ F8 h3 h4) ha
theorem Zv{x:Wx X Sg ρ}{b k t co go:Nat}{st bg ow:Int}{ans:Value}{dn fl:Bool}(h:F9 W b k t co go true st bg ow ans dn fl)(hB:x.1.1.B b=false)(hJ:∀W',F9 W' b k t co go false st bg (RowKit.wrap64 (ow+1)) ans dn fl->IU b W W'->JW (SW M ρ Try.prog).base x (G (c.finish (.tuple #[])) cs) W') :
  JW (SW M ρ Try.prog).base x (G (Frame.enter Try.prog 33 #[.pointer (some ⟨b,0,none⟩)] .normal) (c :: cs)) W:=by
 refine VN h hB ?_;simp only[if_true];refine EU stepG_skip ?_;exact step_end h hJ
theorem JL.enter{P:Program}{main:Bool}{Γ:Type}{S:O8 P main Γ}{γ:Γ}{b:Frame}{a:Act}{k:List Item}{ops:Array Oper}{i:Nat}{rest:List Nat}{o:Oper}{f:FuncId}{fn:Func}{args:Array Operand}{ats:Array TypeId}(ho:ops[i]?=some o)(hw:Region.wanted o (yielded ops a.tmps)=true)(hk:b.kind≠.early)(hop:o.op=.call { callee:=.value (.func f),args,argTypes:=ats })(hf : P.funcs[f]? = some fn)(hname : (fn.name == "runtime.NumGoroutine") = false)(hb : fn.body.isNone = false)(h:JL S γ (G (Frame.enter P f (args.map a.eval) .normal) (b.at a (.inRegion ops (i :: rest) :: k) :: cs)) W) :
  JL S γ (G (b.at a (.inRegion ops (i :: rest) :: k)) cs) W:=
 .ctl rfl (fun w=>by
  rw[stepG_enter ho hw hk (run_call_body hop hf hname hb)];have:listed P b.fn a o w=#[]:=by unfold listed;rw[events_call_body hop hf hname hb];exact seen_none P _
  rw[this]) h
theorem QO{b t go t':Nat}(h:Wv ρ Try.prog 118 c cs):Yp ρ Try.prog t' (G ((base 57).at ⟨Vi b t go,[]⟩ [.inRegion O5 [0,1,2,3],.code MW]) (c :: cs)):=by
 unfold Yp;rw[Hr];have hc:commResult (Ho ρ t') .select ((1:Nat):Int) ρ.zg false=.tuple #[.int .i64 1,.bool false,ρ.zi,ρ.zg]:=by simp[commResult,Ho,rcase,goInt]
 rw[hc];simp only[O5,Ko,MW,Vi,Try.f57];walk_nrm;refine SA.of fun W=>?_;iterate 3(refine ET ?_;walk_nrm)
 refine EU stepG_region_end ?_;refine EU stepG_block ?_;refine JL.EX rfl ?_;refine JL.F3 rfl ?_;refine E9 fun _ hkk=>?_;refine JL.Jc (.agg #[]) rfl rfl nE (fun _=>by kernel_rfl) ?_;walk_nrm;refine JL.Jc (.iface 118 (.agg #[])) rfl rfl nE (fun _=>by kernel_rfl) ?_;walk_nrm;refine SA.to ?_;obtain⟨m,hm⟩:=(Wv.pop Try.func57 h) [⟨.iface 118 (.agg #[]),false,false⟩] ⟨[],by simp,rfl⟩
 refine⟨m+1,hm.ctl rfl fun w _=>?_⟩;rw[PV (v:=.iface 118 (.agg #[])) rfl rfl nE zKR,listed_none zKR]
theorem Zp {x:Wx X Sg ρ}{st bg ow:Int}{ans:Value}{dn fl:Bool}{own:Nat->Prop}{pb:Nat}(hzi:ρ.zi=.int .i64 0)(hzg:ρ.zg=.agg #[])(h:F9 W x.1.1.v.b x.1.1.v.k x.1.1.v.t ρ.come ρ.gone false st bg ow ans dn fl)(hInv:M.Inv x.1.1.tgt.2.1 W)(Zr:∀ b,M.Sh b->x.1.1.B b=false)(iP:M.Rec x.1.1.v.k x.1.1.tgt.1 x.1.1.v.b own W)(hpb:own pb)(ho1:∀ b,x.1.1.v.own b->own b)(ho2:∀ b,own b->x.1.1.v.own b\/x.1.1.n0<=b)(ho3:∀ b,own b->x.1.1.B b=false/\¬ M.Sh b/\∃ c e f,W.heap[b]?=some (.cells c e f))(hb:x.1.1.v.own x.1.1.v.b)(hov:x.1.1.tgt.2.2=false)(hlv:ρ.shut->Wv ρ Try.prog 118 c cs)(hpc:W.cell? ⟨pb,0,none⟩=some (.pointer (some ⟨x.1.1.v.b,0,none⟩)))(hJ:∀ r',x.1.2=r'+1->∀ v',YF x.1.1.v v' x.1.1.tgt.1 false x.1.2 own pb->∀ (s:Nat) (σ:Sg) (W':World) (y:Wx X Sg ρ),y.1.1.v=v'->y.1.1.tgt=M.hold x.1.1.tgt.1 s σ->y.1.2=r'->dX M ρ v' y.1.1.B y.1.1.n0->y.1.1.n0=W'.heap.size->oP M own W W'->M.Inv σ W'->
      ∀W'',F9 W'' x.1.1.v.b x.1.1.v.k x.1.1.v.t ρ.come ρ.gone false s bg (RowKit.wrap64 (ow+1)) ans dn fl->IU x.1.1.v.b W' W''->JW (SW M ρ Try.prog).base y (G (c.finish (.tuple #[])) cs) W'') :
    JW (SW M ρ Try.prog).base x (G (Frame.enter Try.prog 33 #[.pointer (some ⟨x.1.1.v.b,0,none⟩)] .normal) (c :: cs)) W:=by
  refine VN h (ho3 _ (ho1 _ hb)).1 ?_;simp only[Bool.false_eq_true,if_false];generalize hend:[Item.code MX]=KE;simp only[XT,Og,oJ,Try.f33];refine EO ?_;refine JL.region (l:=[0,1]) rfl fun _ hk2=>?_;cases hk2
  (refine ET ?_;walk_nrm)
  refine JL.enter rfl rfl nE rfl Try.func56 zKR zKR ?_;walk_nrm;refine QC h fun EG ha=>QJ ?_;obtain⟨τ,d,rfl⟩:=ha;have hsel:∀(c:Frame) (cs:List Frame) (w:World),stepG Try.prog false (G ((base 56).at ⟨Nq x.1.1.v.b x.1.1.v.k ρ.come ρ.gone,[]⟩ [.inRegion KP [0,1,2,3],.code Li]) (c :: cs)) w =
      .comm (G ((base 56).at ⟨Nq x.1.1.v.b x.1.1.v.k ρ.come ρ.gone,[]⟩ [.inRegion KP [0,1,2,3],.code Li]) (c :: cs)) (IG ρ x.1.1.v.k) true .select w #[]:=fun c cs w=>by
    rw[Y6];simp only[IG,hzi,hzg]
  have hcell:∀o v,W.cell? ⟨x.1.1.v.b,o,none⟩=some v->(sh W τ d).cell? ⟨x.1.1.v.b,o,none⟩=some v:=fun _ _ h=>h;have h':=h;unfold F9 at h';have hbody:Try.f57.body=some (.seq UA Ko):=QY;generalize hr3:(Item.code (Code.region _ _ false))=R3;refine SW.sit (own:=own) (pb:=pb) rfl (hsel _ _) (M.inv_eq _ _ _ (fun b _=>.refl W b) hInv) Zr (M.rec_eq _ _ _ _ _ _ (fun b _=>.refl W b) iP) hpb ho1 ho2 ho3 hb (fun e=>by rw[hov]at e;cases e) fun _=>⟨⟨hcell _ _ (by simp[World.cell?,h']),hcell _ _ (by simp[World.cell?,h']),hpc⟩,?_⟩
  have htw:#[.pointer (some ⟨x.1.1.v.b,0,none⟩)]++Array.replicate (Try.f57.ntmps-#[Value.pointer (some ⟨x.1.1.v.b,0,none⟩)].size) undef=#[.pointer (some ⟨x.1.1.v.b,0,none⟩),undef,undef,undef,undef,undef,undef,undef,undef,undef,undef,undef,undef,undef,undef,undef,undef,undef,undef,undef,undef,undef,undef]:=by
    have:Try.f57.ntmps=23:=by kernel_rfl
    rw[this];walk_nrm
  refine⟨?gs,fun v' hs home hh=>Qu fun Fh=>?sit,fun hsh=>?shut,?hold⟩
  case sit=>
    unfold IG;refine P5 ?_;rw[Frame.finish_at];walk_nrm;refine EU stepG_region_end ?_;rw[← hr3];refine JL.region (l:=[0,1]) rfl fun _ hk3=>?_;cases hk3
    (refine ET ?_;walk_nrm)
    refine JL.call rfl rfl nE rfl Try.func57 zKR QY ?_;rw[List.map_toArray];simp only[List.map_cons,List.map_nil,Act.eval,Array.getD_eq_getD_getElem?,List.getElem?_toArray,List.getElem?_cons_succ,List.getElem?_cons_zero,Option.getD_some];rw[htw,← hs.t,← hs.b];refine U7 hzi hzg ?_;rw[hs.t,hs.b];exact hh
  case shut=>exact QO (Wv.pop Try.func33 (hlv hsh))
  case hold=>
    intro r' hr v' hs s σ W' y e1 e2 e3 NJ hn0 hH hI;have h2:F9 W' x.1.1.v.b x.1.1.v.k x.1.1.v.t ρ.come ρ.gone false st bg ow ans dn fl:=by unfold F9;rw[hH.own _ (ho1 _ hb)];exact h
    refine Tp h2 fun W'' h3 h4 h5=>?_;rw[Frame.finish_at];show JL (iH M ρ Try.prog) y _ W'';walk_nrm;refine EU stepG_region_end ?_;rw[← hend];exact step_end h3 fun W3 h6 h7=>hJ r' hr v' hs s σ W' y e1 e2 e3 NJ hn0 ⟨hH.own,hH.size⟩ hI W3 h6 ⟨fun b' hb'=>(h7.other b' hb').trans (h4 b' hb'),h7.size.trans h5⟩
end
end
end Go.Proofs.Ytdkfdedgfilhbaa
namespace Go.LT
open Go
section
section
variable {P:Program}{Q:Value->Prop}
theorem Ut{t:Extern.Atomic.T}{a:Addr}(h:∀v,Q v):EL P Q (Extern.Atomic.read t a):=by unfold Extern.Atomic.read;refine EI (Px fun v=>?_);repeat' first | exact EJ (h _) | exact ES True.intro | split
theorem Ul{t:Extern.Atomic.T}(h:∀v,Q v)(args:Array Value):EL P Q (Extern.Atomic.loadT t args):=by
 obtain⟨l⟩:=args;rcases l with _|⟨x,_|⟨y,l⟩⟩
 . exact ER
 . exact(EI (II fun _=>Ut h):EL P Q (asAddr x >>= fun a=>Extern.Atomic.read t a))
 . exact ER
theorem bI(h:∀v,Q v)(args:Array Value):EL P Q (Extern.Atomic.storeT args):=by
 obtain⟨l⟩:=args;rcases l with _|⟨x,_|⟨y,_|⟨z,l⟩⟩⟩
 . exact ER
 . exact ER
 . exact(EI (II fun _=>EI (La fun _=>EJ (h _))):EL P Q (asAddr x >>= fun a=>store a y .atomic >>= fun _=>pure Extern.Atomic.none_))
 . exact ER
theorem lF{t:Extern.Atomic.T}(h:∀v,Q v)(args:Array Value):EL P Q (Extern.Atomic.swapT t args):=by
 obtain⟨l⟩:=args;rcases l with _|⟨x,_|⟨y,_|⟨z,l⟩⟩⟩
 . exact ER
 . exact ER
 . exact(EI (II fun _=>EI (Ut fun _=>EI (La fun _=>EJ (h _)))):EL P Q (asAddr x >>= fun a=>Extern.Atomic.read t a >>= fun old=>store a y .atomic >>= fun _=>pure old))
 . exact ER
theorem dO{op:IntKind->Int->Int->Sem Value}{k:IntKind}{r:Bool}(hop:∀(Q':Value->Prop),(∀v,Q' v)->∀k x y,EL P Q' (op k x y))(h:∀v,Q v)(args:Array Value):EL P Q (Extern.Atomic.update op k r args):=by
 obtain⟨l⟩:=args;rcases l with _|⟨x,_|⟨y,_|⟨z,l⟩⟩⟩
 . exact ER
 . exact ER
 . show EL P Q (asAddr x >>= fun a=>Extern.Atomic.read (.int k) a >>= fun old=>asInt old >>= fun u=>asInt y >>= fun v=>op k u v >>= fun new=>store a new .atomic >>= fun _=>pure (if r=true then new else old));refine EI (II fun _=>EI (Ut fun _=>EI (JZ fun _=>EI (JZ fun _=>EI (hop _ (fun _=>EI (La fun _=>?_)) _ _ _)))));exact EJ (h _)
 . exact ER
theorem PZ{α:Type}{Q:α->Prop}{f:Bool->Sem α}(hf:∀b,EL P Q (f b))(hd:Dead P (f true)){β:Type}(g:β->Addr):∀l:List β,EL P Q ((l.anyM fun i=>frozen (g i)) >>= f)
 | []=>hf false
 | a :: l=>by
  have ih:=PZ hf hd g l;refine⟨fun b=>?_,fun w es h=>absurd ?_ h⟩
  . cases b with
    | true=>exact hf true
    | false=>exact ih
  . rw[Sem.runT_fst];exact hd w
theorem Zz{α:Type}{Q:α->Prop}{f:Bool->Sem α}{a:Addr}(hf:∀b,EL P Q (f b))(hd:Dead P (f true)):EL P Q (Extern.Atomic.touchesFrozen a >>= f):=by
 unfold Extern.Atomic.touchesFrozen;rw[bind_assoc];refine EI (KQ fun v=>?_);cases v with
 | none=>exact⟨fun b=>hf b,fun w es h=>absurd (by rw[Sem.runT_fst];exact hd w) h⟩
 | some x=>
  obtain⟨at_,aSx⟩:=x;rw[bind_assoc];refine EI (F7 fun i=>?_);dsimp only;split
  . exact(ES (u := .unsafePointer "memory seen as another type") True.intro : EL P _ (unsupported _))
  . exact PZ hf hd _ _
theorem eG{k:IntKind}(h:∀v,Q v)(args:Array Value):EL P Q (Extern.Atomic.casT (.int k) args):=by
 obtain⟨l⟩:=args;rcases l with _|⟨x,_|⟨y,_|⟨z,_|⟨u,l⟩⟩⟩⟩
 . exact ER
 . exact ER
 . exact ER
 . change EL P Q (do
    let a' ← asAddr x
    if ← Extern.Atomic.touchesFrozen a' then unsupported (.unsafePointer "a write to bytes that a string shares")
    let eq ← match Extern.Atomic.T.int k,← Extern.Atomic.read (.int k) a',y with
      | _,.int _ x,.int _ y=>pure (x==y)
      | .ptr,.pointer x,.pointer y=>samePointer x y
      | .int _,.pointer (some _),.int _ 0 | .int _,.int _ 0,.pointer (some _)=>pure false
      | .int _,.pointer (some _),_ | .int _,_,.pointer (some _)=>unsupported .addressObserved
      | _, _, _ => stuck "atomic.CompareAndSwap: old is no T"
    if eq then store a' z .atomic
    pure (Value.bool eq))
   refine EI (II fun a=>?_);refine Zz (fun b=>?_) (fun w=>rfl);cases b with
   | true => exact(ES (u := .unsafePointer "a write to bytes that a string shares") True.intro : EL P _ (unsupported _))
   | false=>
    refine EI (Ut fun v=>?_);have hj:∀eq:Bool,EL P Q (if eq=true then(store a z .atomic >>= fun _=>pure (.bool eq))else pure (.bool eq)):=fun eq=>by
      split
      . exact EI (La fun _=>EJ (h _))
      . exact EJ (h _)
    dsimp only;split
    . exact hj _
    . rename_i e;cases e
    . exact hj false
    . exact hj false
    . exact(ES (u:=.addressObserved) True.intro:EL P _ (unsupported _))
    . exact(ES (u:=.addressObserved) True.intro:EL P _ (unsupported _))
    . exact(ER:EL P _ (stuck _))
 . exact ER
variable {f:FuncId}{fn:Func}
theorem H7{e : Array Value->Sem Value}(hf : P.funcs[f]? = some fn)(hn : (fn.name == "runtime.NumGoroutine") = false)(hb : fn.body.isNone = true)(h1 : Extern.findNext fn = none)(h2 : Extern.find fn = some e)(ht : ∀args, EL P (fun _ => True) (e args)) : Oq P f := ⟨fn, e, hf, hn, hb, h1, h2, ht⟩
theorem uQ{k:IntKind}{r:Bool}(h:∀v,Q v)(args:Array Value):EL P Q (Extern.Atomic.update (Op.intArith .add) k r args):=dO (fun Q' h' k x y=>Jb h') h args
end
end
end Go.LT
end
