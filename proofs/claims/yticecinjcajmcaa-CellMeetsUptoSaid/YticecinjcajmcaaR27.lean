/-
  Part 27 of the proof that CellMeets returns true, and leaves its arguments as they were, for every input whose reading is of bulk at most 1048576. No further condition.
-/
import Derived.Test.YticecinjcajmcaaR00
import Derived.Test.YticecinjcajmcaaR26
set_option linter.unusedVariables false
set_option linter.unusedSectionVars false
set_option linter.unusedSimpArgs false
set_option maxHeartbeats 4000000
noncomputable section
namespace Go.Proofs.Yticecinjcajmcaa
open Go Go.Conc Go.LT Go.LC Go.LK Go.RowKit
open Go.ConcN (WgLive)
open BA TU
section
section
variable {Cs Sg:Type}{D:Dr Ef Cs Sg}{m:Mem Sg}{ρ:Rn}{ws:List (EK (Wk Ef Cs))}
variable {Fin:FE}{Ea:E5 Try.prog Fin}
variable {q:OI}{Kp:Nat->Prop}{W0 W:World}{R s co n nn:Nat}{σ:Sg}{left:List Int}{last:Int}{steps:List Nat}{cut FU FC Gv Im IY Iu u68 u69:Value}{ds:List Deferred}{K:List Item}{cs:List Frame}
theorem XR {hl:List Int}{steps:List Nat}{dn:List Bool}{i n:Nat}(hi:i < n):((List.range n).map (M5 hl steps dn)).getD i false=M5 hl steps dn i:=by rw [List.getD_eq_getElem?_getD,List.getElem?_map,List.getElem?_range hi];rfl
theorem any_map {hl:List Int}{steps:List Nat}{dn:List Bool}{n:Nat}:(List.range n).any (M5 hl steps dn)=((List.range n).map (M5 hl steps dn)).any id:=by rw [List.any_map];rfl
theorem jI (hcl:¬ ρ.SN)(hzi:ρ.zi=.int .i64 0)(hco:co=ρ.come)(hm:q.most<=R)(hm2:q.most<=1000000)(hK:∀ ws' σ' left' last' s' NW cut' W' FU FC Gv Im IY Iu u68 u69 tm',Sd q co n FU FC Gv Im IY Iu u68 u69 tm'->Lr m ρ ws' q Kp W0 R σ' left' last' s' NW cut' W'->(∃ z0:Rs Ef Cs Sg,z0=Rs.go D q.most q.most ⟨ws.map (·.x),σ,left,last,s,steps,q.hl⟩/\ws'.map (·.x)=z0.xs/\σ'=z0.σ/\left'=z0.left/\last'=z0.last/\s'=z0.s/\cut'=.bool (z0.rd.any id))->ws'.map (·.b)=ws.map (·.b)->JL (S0 Try.prog Fin Ea).L (.Ev (Eu D m) ρ ws' 0 false nn) (G ((base 34).at ⟨tm',ds⟩ K) cs) W') :
    ∀ (f:Nat) (Gh:List (EK (Wk Ef Cs))) (σ₁:Sg) (Hr:List Int) (last₁:Int) (s₁:Nat) (Fe:List Nat) (cO:Value) (W₁:World) (FU FC Gv Im IY Iu u68 u69:Value) (tm:Array Value),q.most - s₁<=f->Gh.length=n->Gh.map (·.b)=ws.map (·.b)->Lr m ρ Gh q Kp W0 R σ₁ Hr last₁ s₁ Fe cO W₁->(∀ (i c:Nat),Fe[i]?=some c->c<=s₁)->s₁<=q.most->
      Rs.go D q.most f ⟨Gh.map (·.x),σ₁,Hr,last₁,s₁,Fe,q.hl⟩=Rs.go D q.most q.most ⟨ws.map (·.x),σ,left,last,s,steps,q.hl⟩->Sd q co n FU FC Gv Im IY Iu u68 u69 tm->
      JL (S0 Try.prog Fin Ea).L (.Ev (Eu D m) ρ Gh 0 false nn) (G ((base 34).at ⟨tm,ds⟩ (.code (.block 1 TF) :: .inLoop (.block 1 TF) :: .inBlock 0 :: K)) cs) W₁:=by
  intro f;induction f using Nat.strongRecOn with
  | _ f ih=>
  intro Gh σ₁ Hr last₁ s₁ Fe cO W₁ FU FC Gv Im IY Iu u68 u69 tm hf hl hb h hst hsm hgo hs;refine Er stepG_block ?_;rw [qy];refine Ei ?_;refine vo h hl.symm (fun i c hc=>by have:=hst i c hc;omega) hs fun W₂ tm₂ wb hs2 h2 hcells=>?_;refine Ei ?_;rw [any_map] at hs2;generalize hbv:((List.range n).map (M5 q.hl Fe (Gh.map fun u=>u.x.over))).any id=bv at hs2;refine xQ h2 hs2 fun W₃ tm₃ hs3 h3 hoth=>?_;refine Ei ?_;refine Ei ?_;refine sQ h3 zOM hm2 hs3 fun W₄ tX hs4 rZ hw4=>?_;have h4:=h3.alike hw4;have Zm:(⟨Gh.map (·.x),σ₁,Hr,last₁,s₁,Fe,q.hl⟩:Rs Ef Cs Sg).rd=(List.range n).map (M5 q.hl Fe (Gh.map fun u=>u.x.over)):=by unfold Rs.rd;rw [List.map_map,List.length_map,hl];rfl
  by_cases hstop:bv=false\/q.most<=s₁
  . have e42:(!bv || decide (q.most<=s₁))=true:=by
      rcases hstop with e|e
      . rw [e];rfl
      . rw [decide_eq_true e];simp
    rw [e42] at rZ;refine JL.Fz (Eh rZ) ?_;refine JL.exit rfl ?_;have hz:Rs.go D q.most f ⟨Gh.map (·.x),σ₁,Hr,last₁,s₁,Fe,q.hl⟩=⟨Gh.map (·.x),σ₁,Hr,last₁,s₁,Fe,q.hl⟩:=Rs.iD D (by rw [Zm,hbv];exact hstop)
    rw [hz] at hgo;refine hK Gh _ _ _ _ _ _ W₄ _ _ _ _ _ _ _ _ tX hs4 h4 ⟨_,hgo,rfl,rfl,rfl,rfl,rfl,?_⟩ hb;rw [Zm,hbv]
  . have hbt:bv=true:=by
      cases bv with
      | true=>rfl
      | false=>exact absurd (.inl rfl) hstop
    have hlt:s₁ < q.most:=Nat.lt_of_not_le fun e=>hstop (.inr e);subst hbt;have e42:(!true || decide (q.most<=s₁))=false:=by simp;omega
    rw [e42] at rZ;refine JL.Ey (Eh rZ) ?_;refine Er stepG_skip ?_;refine Ei ?_;have hne:LB ((List.range n).map (M5 q.hl Fe (Gh.map fun u=>u.x.over)))≠[]:=oU.2 hbv;obtain ⟨k,hk1,hk2,hk3⟩:=Z7 (left:=Hr) (last:=last₁) hne;have hkl:k < Gh.length:=by rw [hl];simpa using hk2
    obtain ⟨v,hv⟩:∃ v,Gh[k]?=some v:=⟨_,List.getElem?_eq_getElem hkl⟩
    have hvo:v.x.over=false:=by
      rw [XR zOM] at hk3;unfold M5 at hk3;rw [Bool.and_eq_true] at hk3
      simpa [List.getD,hv] using hk3.1
    have hov:v.over=false:=by rw [(h.ov k v hv).1];exact hvo
    have hwb:wb≠q.br:=fun e=>by
      have c1:=hcells 0 zOM;rw [e] at c1;have c2:W₂.cell? ⟨q.br,0,none⟩=some (.slice none 0 0):=by simp [World.cell?,h2.rows.run]
      rw [c2] at c1;cases c1
    refine pK (rd:=((List.range n).map (M5 q.hl Fe (Gh.map fun u=>u.x.over)))) (wb:=wb) h4 hl.symm (by simp) hne (fun i hi=>?_) hs4 fun W₅ tm₅ hs5 h5=>?_
    . have e:=cell_of (w:=W₂) (w':=W₄) (a:=⟨wb,i,none⟩) (by show W₄.heap[wb]?=W₂.heap[wb]?;rw [hw4];exact hoth wb hwb)
      rw [e,hcells i hi,XR hi]
    rw [hk1] at hs5;refine Ei ?_;refine nY h5 zOM hs5 fun W₆ tm₆ hs6 h6=>?_;refine Ei ?_;refine oW h6 hl.symm (k:=k) zOM (fun i c hc=>by have:=hst i c hc;omega) hs6 fun W₇ tm₇ hs7 h7=>?_;have hfu:=h.fuel k v hv;refine gJ h7 hcl hzi hco (k:=k) (r:=v.r - 1) zOM hv hov zOM zOM hs7 fun v' W₈ W₉ yI Iu u68 u69 xK hG h8=>?_;refine Er stepG_inBlock ?_;refine Er stepG_inLoop ?_;have hxs:(Gh.set k v').map (·.x)=(Gh.map (·.x)).set k (D.hold v.x (s₁+1) σ₁).1:=by rw [List.map_set,hG.x]
    have hbs:(Gh.set k v').map (·.b)=Gh.map (·.b):=by
      rw [List.map_set,hG.b];refine List.ext_getElem? fun j=>?_;by_cases e:k=j
      . subst e;rw [List.getElem?_set_self',List.getElem?_map,hv];rfl
      . rw [List.getElem?_set_ne e]
    obtain ⟨f',rfl⟩:∃ f',f=f'+1:=⟨f - 1,by omega⟩
    have hnext:(⟨Gh.map (·.x),σ₁,Hr,last₁,s₁,Fe,q.hl⟩:Rs Ef Cs Sg).next D=⟨(Gh.set k v').map (·.x),(D.hold v.x (s₁+1) σ₁).2.1,KH Hr (LB ((List.range n).map (M5 q.hl Fe (Gh.map fun u=>u.x.over)))),Kw Hr last₁ (LB ((List.range n).map (M5 q.hl Fe (Gh.map fun u=>u.x.over)))),s₁+1,Fe.set k (Fe.getD k 0+1),q.hl⟩:=by
      have hp:(⟨Gh.map (·.x),σ₁,Hr,last₁,s₁,Fe,q.hl⟩:Rs Ef Cs Sg).pick=k:=by unfold Rs.pick;rw [Zm];show (KC Hr last₁ _).toNat=k;rw [hk1];rfl
      unfold Rs.next;rw [hp];have:(⟨Gh.map (·.x),σ₁,Hr,last₁,s₁,Fe,q.hl⟩:Rs Ef Cs Sg).xs[k]?=some v.x:=by show (Gh.map (·.x))[k]?=_;rw [List.getElem?_map,hv];rfl
      rw [this];show Rs.turn D _ k v.x=_;unfold Rs.turn;rw [Zm,hxs]
    rw [Rs.go_step D (by rw [Zm];exact hbv) hlt,hnext] at hgo;refine ih f' zOM (Gh.set k v') _ _ _ (s₁+1) _ _ W₈ _ _ _ _ _ _ _ _ yI zOM (by rw [List.length_set];exact hl) (hbs.trans hb) h8 (fun i c hc=>?_) hlt hgo xK;rcases getElem?_set' hc with ⟨_,rfl⟩|⟨_,hc⟩
    . have hkk:Fe[k]?=some (Fe.getD k 0):=by
        have:k < Fe.length:=by rw [h.UO];exact hkl
        simp [List.getD,this]
      have:=hst k _ hkk;omega
    . have:=hst i c hc;omega
end
end
def Js:Array Oper:=match fP with | .region _ ops _=>ops | _=>#[]
theorem fK:fP=.region 18 Js true:=rfl
theorem uo:∃ (af:Array Edge) (p:String) (ty:TypeId),Js[0]?=some ⟨some 74,.fieldAddr 31 (.tmp 10) 0,ty,p,af,none⟩:=⟨_,_,_,rfl⟩
theorem yZ:∃ (af:Array Edge) (p:String) (ty:TypeId),Js[1]?=some ⟨some 75,.load 28 (.tmp 74),ty,p,af,none⟩:=⟨_,_,_,rfl⟩
theorem tq:∃ (af:Array Edge) (p:String) (ty:TypeId),Js[2]?=some ⟨some 76,.move (.tmp 15),ty,p,af,none⟩:=⟨_,_,_,rfl⟩
theorem vM:∃ (af:Array Edge) (p:String) (ty:TypeId),Js[3]?=some ⟨some 77,.nilCheck (.tmp 76),ty,p,af,none⟩:=⟨_,_,_,rfl⟩
theorem uG:∃ (af:Array Edge) (p:String) (ty:TypeId),Js[4]?=some ⟨some 78,.fieldAddr 94 (.tmp 77) 9,ty,p,af,none⟩:=⟨_,_,_,rfl⟩
theorem yY:∃ (af:Array Edge) (p:String) (ty:TypeId),Js[5]?=some ⟨some 79,.load 53 (.tmp 78),ty,p,af,none⟩:=⟨_,_,_,rfl⟩
theorem xM:∃ (af:Array Edge) (p:String) (ty:TypeId),Js[6]?=some ⟨some 80,.call { callee:=.builtin .append,args:=#[.const (.slice none 0 0),.tmp 79],argTypes:=#[53,53] },53,p,af,none⟩:=⟨_,_,53,rfl⟩
theorem wP:∃ (af:Array Edge) (p:String) (ty:TypeId),Js[7]?=some ⟨some 81,.buildSlice 28 1 #[(0,.tmp 80)],ty,p,af,none⟩:=⟨_,_,_,rfl⟩
theorem xA:∃ (af:Array Edge) (p:String) (ty:TypeId),Js[8]?=some ⟨some 82,.call { callee:=.builtin .append,args:=#[.tmp 75,.tmp 81],argTypes:=#[28,28] },28,p,af,none⟩:=⟨_,_,28,rfl⟩
theorem yx:∃ (af:Array Edge) (p:String) (ty:TypeId),Js[9]?=some ⟨some 83,.fieldAddr 31 (.tmp 10) 0,ty,p,af,none⟩:=⟨_,_,_,rfl⟩
theorem mQ:∃ (af:Array Edge) (p:String) (ty:TypeId),Js[10]?=some ⟨none,.store 28 (.tmp 83) (.tmp 82),ty,p,af,none⟩:=⟨_,_,_,rfl⟩
theorem lM:(Js[1]?).map EM=some [0]:=by kernel_rfl
theorem qQ:(Js[3]?).map EM=some [2]:=by kernel_rfl
theorem oO:(Js[4]?).map EM=some [3]:=by kernel_rfl
theorem qO:(Js[5]?).map EM=some [4]:=by kernel_rfl
theorem bC:(Js[6]?).map EM=some [5]:=by kernel_rfl
theorem TJ:(Js[7]?).map EM=some [6]:=by kernel_rfl
theorem NV:(Js[8]?).map EM=some [1,7,6]:=by kernel_rfl
theorem J8:(Js[10]?).map EM=some [9,8,8,0,1,2,3,4,5,6,7,8]:=by kernel_rfl
theorem Zr:Js.size=11:=by kernel_rfl
theorem j4 (i:Nat)(o:Oper)(ho:Js[i]?=some o):∀ e∈o.after,e.on < i:=by
  have h:(Js.toList.zipIdx.all fun x=>x.1.after.all fun e=>decide (e.on < x.2))=true:=by kernel_rfl
  rw [List.all_eq_true] at h;have h1:=h (o,i) (by rw [List.mem_zipIdx_iff_getElem?];simpa using ho);simp only [Array.all_eq_true'] at h1;exact fun e he=>of_decide_eq_true (h1 e he)
theorem wY (i:Nat)(o:Oper)(ho:Js[i]?=some o):o.guard=none/\o.dst=if i=10 then none else some (74+i):=by
  have h:(Js.toList.zipIdx.all fun x=>x.1.guard.isNone && x.1.dst == (if x.2=10 then none else some (74+x.2)))=true:=by kernel_rfl
  rw [List.all_eq_true] at h;have h1:=h (o,i) (by rw [List.mem_zipIdx_iff_getElem?];simpa using ho);simp only [Bool.and_eq_true,Option.isNone_iff_eq_none,beq_iff_eq] at h1;exact h1
def OA (w:World)(size:Nat)(v:Value)(n:Nat)(xs:List Value):Prop:=xs.length=n * size/\((v=.slice none 0 0/\n=0)\/∃ g cap,v=.slice (some ⟨g,0,none⟩) n cap/\∀ (j:Nat) (u:Value),xs[j]?=some u->w.cell? ((⟨g,0,none⟩:Addr).add j)=some u)
theorem OA.of {w w':World}{base size n:Nat}{v:Value}{xs:List Value}(h:Fa w base size v n xs)(hc:∀ (g o:Nat),v.ownBlock=some g->w'.cell? ⟨g,o,none⟩=w.cell? ⟨g,o,none⟩):OA w' size v n xs:=by
  obtain ⟨te,hl,⟨rfl,rfl⟩|⟨g,cap,cur,rfl,hr⟩⟩:=h
  . exact ⟨hl,.inl ⟨rfl,rfl⟩⟩
  . refine ⟨hl,.inr ⟨g,cap,rfl,fun j u hj=>?_⟩⟩;have:=World.ownsRow.cells (h:=(⟨hl,.inr ⟨g,cap,cur,rfl,hr⟩⟩:w.ownsRow base te size (.slice (some ⟨g,0,none⟩) n cap) n xs)) rfl j u hj;rw [Addr.add_lit] at this ⊢;rw [hc g _ rfl];exact this
theorem OA.cells {w w':World}{size n:Nat}{v:Value}{xs:List Value}(h:OA w size v n xs)(hc:∀ a,w'.cell? a=w.cell? a):OA w' size v n xs:=by
  obtain ⟨hl,h|⟨g,cap,h1,h2⟩⟩:=h
  . exact ⟨hl,.inl h⟩
  . exact ⟨hl,.inr ⟨g,cap,h1,fun j u hj=>by rw [hc];exact h2 j u hj⟩⟩
theorem Ui {P:Program}(w:World)(t ty e:TypeId)(i:TypeInfo)(z:Value)(size bytes:Nat)(ht:P.underlying t=some (.slice e))(hi:P.info? e=some i)(hz:i.zero=some z)(hsize:i.size=size)(hby:i.bytes=bytes)(hzs:z.cells.size=size)(hsz:0 < size)(v:Value)(n:Nat)(xs:List Value)(hown:OA w size v n xs)(h1:∀ u∈xs,u.oneCell'=true)(h63:n<=maxLen)(hbytes:n * bytes<=140737488355328) :
    ∃ v' w',(Builtin.append_ #[t,t] ty #[.slice none 0 0,v]).run P w=.ok v' w'/\Fa w' w.heap.size size v' n xs/\w.grownBy w' none:=by
  obtain ⟨hl,⟨rfl,rfl⟩|⟨g,cap,rfl,hcells⟩⟩:=hown
  . have hx:xs=[]:=List.eq_nil_of_length_eq_zero (by simpa using hl);subst hx;refine ⟨.slice none 0 0,w,?_,.nil _ _ _,World.grownBy.refl _ _⟩;simp [Builtin.append_,run_underlying ht,sizeOf,typeInfo,hi,Builtin.lenOf,Builtin.firstCells]
  . obtain ⟨v',w',r1,r2,r3,r4⟩:=Jo (P:=P) w w.heap.size t ty e i z size bytes ht hi hz hsize hby hzs hsz (.slice none 0 0) 0 [] (.nil _ _ _) ⟨g,0,none⟩ n cap xs hl hcells h1 zOM (by simpa using hbytes) (Nat.le_refl _);refine ⟨v',w',r1,by simpa using r2,?_⟩;rcases r4 with r4|⟨_,r4⟩
    . exact r3
    . exact r4
section
def Sj {Cs:Type}(W:World)(N1:Nat)(v:Value)(u:EK (Wk Ef Cs)):Prop:=∃ I4:List Value,I4.length=u.x.out.length/\Fa W N1 9 v u.x.out.length (List.zipWith E9 u.x.out I4).flatten/\∀ (i:Nat) (a:Gq) (iv:Value),u.x.out[i]?=some a->I4[i]?=some iv->FR W (fun g=>u.own g) iv a.a.ints
structure rU where
  v:Value
  os:List (Nat × Nat × Nat)
def Ki (p:Nat × Nat × Nat):List Value:=[.int .i64 p.1,.int .i64 p.2.1,.int .i64 p.2.2]
def OI.C (q:OI)(Kp:Nat->Prop)(g:Nat):Prop:=g=q.lg\/g=q.bz\/g=q.br\/Kp g
structure UW {Cs Sg:Type}(m:Mem Sg)(ρ:Rn)(ws:List (EK (Wk Ef Cs)))(q:OI)(Kp:Nat->Prop)(W0:World)(N1:Nat)(σ:Sg)(s:Nat)(cut:Value)(ov:rU)(i:Nat)(vs:List Value)(av:Value)(W:World):Prop where
  lay:q.Lay Kp
  row:∀ (i b:Nat),(ws.map (·.b))[i]?=some b->W.cell? ⟨q.lg,i,none⟩=some (.pointer (some ⟨b,0,none⟩))
  run:W.heap[q.br]?=some (.cells #[av,ov.v,.int .i64 s,cut] 31 (0,0))
  res:W.heap[q.bz]?=some (.cells #[.slice none 0 0,.slice none 0 0,.int .i64 0,.bool false] 31 (0,0))
  inv:m.Inv σ W
  free:∀ g,q.C Kp g->(∃ c e f,W.heap[g]?=some (.cells c e f))/\g≠ρ.Wg/\ρ.Bo g=false/\¬ m.Sh g/\∀ (j:Nat) (u:EK (Wk Ef Cs)),ws[j]?=some u->¬ u.own g
  kept:∀ g,Kp g->W.heap[g]?=W0.heap[g]?
  own:Fa W N1 1 av i vs
  cop:∀ (j:Nat) (v:Value) (u:EK (Wk Ef Cs)),vs[j]?=some v->ws[j]?=some u->Sj W N1 v u/\v.oneCell'=true/\∀ g,v.ownBlock=some g->av.ownBlock≠some g
  opn:Fa W N1 3 ov.v ov.os.length (ov.os.map Ki).flatten
  dZ:∀ g,ov.v.ownBlock=some g->av.ownBlock≠some g/\∀ (j:Nat) (v:Value),vs[j]?=some v->v.ownBlock≠some g
  few:ws.length<=1000
  low:q.br < N1/\N1<=W.heap.size/\(∀ g,m.Sh g->g < N1)/\∀ (j:Nat) (u:EK (Wk Ef Cs)),ws[j]?=some u->(∀ g,u.own g->g < N1)/\u.x.out.length<=1000000
theorem FD {w w':World}{base size n:Nat}{v:Value}{xs:List Value}(h:Fa w base size v n xs)(he:∀ g,v.ownBlock=some g->w'.heap[g]?=w.heap[g]?):Fa w' base size v n xs:=IK h fun g hg=>.of (he g hg)
theorem FM {w:World}{base size n:Nat}{v:Value}{xs:List Value}(h:Fa w base size v n xs){g:Nat}(hg:v.ownBlock=some g):base<=g/\g < w.heap.size:=h.blk g hg
section
variable {Cs Sg:Type}{D:Dr Ef Cs Sg}{m:Mem Sg}{ρ:Rn}{ws:List (EK (Wk Ef Cs))}
variable {Fin:FE}{Ea:E5 Try.prog Fin}
variable {q:OI}{Kp:Nat->Prop}{W0 W:World}{N1 s co n nn:Nat}{σ:Sg}{left:List Int}{last:Int}{steps:List Nat}{cut FU FC Gv Im IY Iu u68 u69:Value}{ds:List Deferred}{K:List Item}{cs:List Frame}
variable {ov:rU}{av:Value}{i:Nat}{vs:List Value}
theorem UW.lt (h:UW m ρ ws q Kp W0 N1 σ s cut ov i vs av W){g:Nat}(hg:q.C Kp g):g < W.heap.size:=by obtain ⟨⟨c,e,f,hc⟩,_⟩:=h.free g hg;exact (zGE hc).1
theorem UW.ltN (h:UW m ρ ws q Kp W0 N1 σ s cut ov i vs av W){g:Nat}(hg:q.C Kp g):g < N1:=by
  have h1:=h.lay.h1;have h2:=h.lay.h2;have h3:=h.lay.h3;have h4:=h.lay.h4;have h5:=h.lay.h5;have h7:=h.low.1;rcases hg with rfl|rfl|rfl|hg
  . omega
  . omega
  . exact h7
  . have:=h.lay.h7 g hg;omega
theorem UW.alike {W':World}(h:UW m ρ ws q Kp W0 N1 σ s cut ov i vs av W)(hh:W'.heap=W.heap):UW m ρ ws q Kp W0 N1 σ s cut ov i vs av W':=
  { lay:=h.lay,row:=fun i b hb=>(by rw [cell_of (w:=W) (a:=⟨q.lg,i,none⟩) (by rw [hh])];exact h.row i b hb),run:=(by rw [hh];exact h.run),res:=(by rw [hh];exact h.res),
     inv:=m.eq σ W W' (fun g _=>.of (by rw [hh])) h.inv,free:=fun g hg=>(by rw [hh];exact h.free g hg),kept:=fun g hg=>(by rw [hh];exact h.kept g hg),
     own:=FD h.own fun g _=>(by rw [hh]),
     cop:=fun j v u hv hu=>(by obtain ⟨⟨I4,c1,c2,c3⟩,c4⟩:=h.cop j v u hv hu;exact ⟨⟨I4,c1,FD c2 fun g _=>(by rw [hh]),fun i a iv ha hi=>(c3 i a iv ha hi).QD fun g _=>.of (by rw [hh])⟩,c4⟩),
     opn:=FD h.opn fun g _=>(by rw [hh]),dZ:=h.dZ,few:=h.few,low:=(by rw [hh];exact h.low) }
theorem Z4 {tm tm':Array Value}(h:Sd q co n FU FC Gv Im IY Iu u68 u69 tm)(hsz:tm'.size=106)(hlow:∀ s,s < 74->tm'[s]?=tm[s]?):Sd q co n FU FC Gv Im IY Iu u68 u69 tm':=by
  obtain ⟨v4,v5,Ai,Aj,Ak,Al,Am,Ao,Ap,Ar,Au,Av,Aw,Ay,Az,AA,AB,AJ,AL,AO,AP,AQ,AU,AV,AX,AY,AZ,A8,A9,Ba,Bb,Bc,Bf,Bh,Bj,Bl,Bp,Bq,Br,Bu,Bv,Bw,Bz,BD,BF,BG,BH,BI,BJ,BK,BL,BM,BN,BR,BS,BU,BX,BZ,Ca,Cb,Cc,Ce,Cg,Ci,Cj,Ck,Cm,Co,Cq,Cr,Ct,Cu,Cw,Cx,Cy,Cz,CB,CF,CG,CJ,CK,CO,CQ,CS,CU,CV,CW,CX,CY,rfl⟩:=h
  have e:tm'=#[tm'.getD 0 undef,tm'.getD 1 undef,tm'.getD 2 undef,tm'.getD 3 undef,tm'.getD 4 undef,tm'.getD 5 undef,tm'.getD 6 undef,tm'.getD 7 undef,tm'.getD 8 undef,tm'.getD 9 undef,tm'.getD 10 undef,tm'.getD 11 undef,tm'.getD 12 undef,tm'.getD 13 undef,tm'.getD 14 undef,tm'.getD 15 undef,tm'.getD 16 undef,tm'.getD 17 undef,tm'.getD 18 undef,tm'.getD 19 undef,tm'.getD 20 undef,tm'.getD 21 undef,tm'.getD 22 undef,tm'.getD 23 undef,tm'.getD 24 undef,tm'.getD 25 undef,tm'.getD 26 undef,tm'.getD 27 undef,tm'.getD 28 undef,tm'.getD 29 undef,tm'.getD 30 undef,tm'.getD 31 undef,tm'.getD 32 undef,tm'.getD 33 undef,tm'.getD 34 undef,tm'.getD 35 undef,tm'.getD 36 undef,tm'.getD 37 undef,tm'.getD 38 undef,tm'.getD 39 undef,tm'.getD 40 undef,tm'.getD 41 undef,tm'.getD 42 undef,tm'.getD 43 undef,tm'.getD 44 undef,tm'.getD 45 undef,tm'.getD 46 undef,tm'.getD 47 undef,tm'.getD 48 undef,tm'.getD 49 undef,tm'.getD 50 undef,tm'.getD 51 undef,tm'.getD 52 undef,tm'.getD 53 undef,tm'.getD 54 undef,tm'.getD 55 undef,tm'.getD 56 undef,tm'.getD 57 undef,tm'.getD 58 undef,tm'.getD 59 undef,tm'.getD 60 undef,tm'.getD 61 undef,tm'.getD 62 undef,tm'.getD 63 undef,tm'.getD 64 undef,tm'.getD 65 undef,tm'.getD 66 undef,tm'.getD 67 undef,tm'.getD 68 undef,tm'.getD 69 undef,tm'.getD 70 undef,tm'.getD 71 undef,tm'.getD 72 undef,tm'.getD 73 undef,tm'.getD 74 undef,tm'.getD 75 undef,tm'.getD 76 undef,tm'.getD 77 undef,tm'.getD 78 undef,tm'.getD 79 undef,tm'.getD 80 undef,tm'.getD 81 undef,tm'.getD 82 undef,tm'.getD 83 undef,tm'.getD 84 undef,tm'.getD 85 undef,tm'.getD 86 undef,tm'.getD 87 undef,tm'.getD 88 undef,tm'.getD 89 undef,tm'.getD 90 undef,tm'.getD 91 undef,tm'.getD 92 undef,tm'.getD 93 undef,tm'.getD 94 undef,tm'.getD 95 undef,tm'.getD 96 undef,tm'.getD 97 undef,tm'.getD 98 undef,tm'.getD 99 undef,tm'.getD 100 undef,tm'.getD 101 undef,tm'.getD 102 undef,tm'.getD 103 undef,tm'.getD 104 undef,tm'.getD 105 undef]:=kH hsz
  have e0:tm'.getD 0 undef=q.cv:=EU (hlow 0 (by decide));have e1:tm'.getD 1 undef=.slice (some ⟨q.lg,0,none⟩) n q.lc:=EU (hlow 1 (by decide));have e2:tm'.getD 2 undef=.chan (some co):=EU (hlow 2 (by decide));have e3:tm'.getD 3 undef=.pointer (some ⟨q.bc,0,none⟩):=EU (hlow 3 (by decide));have e6:tm'.getD 6 undef=.pointer (some ⟨q.bz,0,none⟩):=EU (hlow 6 (by decide));have e7:tm'.getD 7 undef=.int .i64 q.most:=EU (hlow 7 (by decide));have e8:tm'.getD 8 undef=.pointer (some ⟨q.ob,0,none⟩):=EU (hlow 8 (by decide));have e9:tm'.getD 9 undef=.slice (some ⟨q.sg,0,none⟩) n n:=EU (hlow 9 (by decide));have e10:tm'.getD 10 undef=.pointer (some ⟨q.br,0,none⟩):=EU (hlow 10 (by decide));have e11:tm'.getD 11 undef=FU:=EU (hlow 11 (by decide));have e12:tm'.getD 12 undef=FC:=EU (hlow 12 (by decide))
  have e13:tm'.getD 13 undef=Gv:=EU (hlow 13 (by decide));have e14:tm'.getD 14 undef=Im:=EU (hlow 14 (by decide));have e15:tm'.getD 15 undef=IY:=EU (hlow 15 (by decide));have e67:tm'.getD 67 undef=Iu:=EU (hlow 67 (by decide));have e68:tm'.getD 68 undef=u68:=EU (hlow 68 (by decide));have e69:tm'.getD 69 undef=u69:=EU (hlow 69 (by decide));rw [e0,e1,e2,e3,e6,e7,e8,e9,e10,e11,e12,e13,e14,e15,e67,e68,e69] at e;exact ⟨_,_,_,_,_,_,_,_,_,_,_,_,_,_,_,_,_,_,_,_,_,_,_,_,_,_,_,_,_,_,_,_,_,_,_,_,_,_,_,_,_,_,_,_,_,_,_,_,_,_,_,_,_,_,_,_,_,_,_,_,_,_,_,_,_,_,_,_,_,_,_,_,_,_,_,_,_,_,_,_,_,_,_,_,_,_,_,_,_,e⟩
theorem jF {out:List Gq}{I4:List Value}(h:∀ iv∈I4,iv.oneCell'=true):∀ u∈(List.zipWith E9 out I4).flatten,u.oneCell'=true:=by intro u hu;obtain ⟨l,hl,hu⟩:=List.mem_flatten.1 hu;obtain ⟨i,hi,rfl⟩:=List.getElem_of_mem hl;rw [List.getElem_zipWith] at hu;simp only [E9,List.mem_cons,List.not_mem_nil,or_false] at hu;rcases hu with rfl|rfl|rfl|rfl|rfl|rfl|rfl|rfl|rfl;all_goals first | rfl | exact h _ (List.getElem_mem _)
end
end
section
section
variable {Cs Sg:Type}{D:Dr Ef Cs Sg}{m:Mem Sg}{ρ:Rn}{ws:List (EK (Wk Ef Cs))}
variable {Fin:FE}{Ea:E5 Try.prog Fin}
variable {q:OI}{Kp:Nat->Prop}{W0 W:World}{N1 s co n nn:Nat}{σ:Sg}{left:List Int}{last:Int}{steps:List Nat}{cut FU FC Gv Im IY Iu u68 u69:Value}{ds:List Deferred}{K:List Item}{cs:List Frame}
variable {ov:rU}{av:Value}{i:Nat}{vs:List Value}
theorem lQ (h:UW m ρ ws q Kp W0 N1 σ s cut ov i vs av W){v:EK (Wk Ef Cs)}(hv:ws[i]?=some v)(hi8:i < 1000){tm:Array Value}(hs:Sd q co n FU FC Gv Im (.pointer (some ⟨v.b,0,none⟩)) Iu u68 u69 tm)(hK:∀ W' tm' v1 av',Sd q co n FU FC Gv Im (.pointer (some ⟨v.b,0,none⟩)) Iu u68 u69 tm'->UW m ρ ws q Kp W0 N1 σ s cut ov (i+1) (vs ++ [v1]) av' W'->JL (S0 Try.prog Fin Ea).L (.Ev (Eu D m) ρ ws 0 false nn) (G ((base 34).at ⟨tm',ds⟩ K) cs) W') :
    JL (S0 Try.prog Fin Ea).L (.Ev (Eu D m) ρ ws 0 false nn) (G ((base 34).at ⟨tm,ds⟩ (.code fP :: K)) cs) W:=by
  refine J0.know (Ea:=Ea) fun hKn=>?_;obtain ⟨_,hvb,t,co',go,gr,ans,hrow,⟨I4,U9,hown,hints⟩,hblk⟩:=hKn.record i v hv;have hin:=(hKn.inside i v hv).1;have hcl:∀ a:Addr,v.own a.block->W.cell? a=v.wy.cell? a:=hKn.cell i v hv;have kF:W.cell? ⟨v.b,9,none⟩=some ans:=by rw [hcl ⟨v.b,9,none⟩ hin];exact hrow.cells.2.2.2.2.1
  have hsrc:OA W 9 ans v.x.out.length (List.zipWith E9 v.x.out I4).flatten:=OA.of hown fun g o hg=>hcl ⟨g,o,none⟩ (hblk g hg).1;have bH:∀ (j:Nat) (a:Gq) (iv:Value),v.x.out[j]?=some a->I4[j]?=some iv->FR W (fun g=>v.own g) iv a.a.ints:=fun j a iv ha hi=>by
    have:=hints j a iv ha hi;rcases this with h1|⟨h0,g,c,h1,h2,h3,h4,h5⟩
    . exact .inl h1
    . exact .inr ⟨h0,g,c,h1,h2.1.1,h3,h4,fun k u hu=>by rw [hcl ⟨g,k,none⟩ h2.1.1];exact h5 k u hu⟩
  have hone:∀ iv∈I4,iv.oneCell'=true:=fun iv hiv=>by
    obtain ⟨j,hj,rfl⟩:=List.getElem_of_mem hiv;have hj2:j < v.x.out.length:=by omega
    rcases hints j _ _ (List.getElem?_eq_getElem hj2) (List.getElem?_eq_getElem hj) with ⟨_,e⟩|⟨_,g,c,e,_⟩ <;> rw [e] <;> rfl
  have hlow:=h.low;have hvl:=hlow.2.2.2 i v hv;have hvN:∀ g,v.own g->g < N1:=hvl.1;have hs0:=hs;obtain ⟨v4,v5,Ai,Aj,Ak,Al,Am,Ao,Ap,Ar,Au,Av,Aw,Ay,Az,AA,AB,AJ,AL,AO,AP,AQ,AU,AV,AX,AY,AZ,A8,A9,Ba,Bb,Bc,Bf,Bh,Bj,Bl,Bp,Bq,Br,Bu,Bv,Bw,Bz,BD,BF,BG,BH,BI,BJ,BK,BL,BM,BN,BR,BS,BU,BX,BZ,Ca,Cb,Cc,Ce,Cg,Ci,Cj,Ck,Cm,Co,Cq,Cr,Ct,Cu,Cw,Cx,Cy,Cz,CB,CF,CG,CJ,CK,CO,CQ,CS,CU,CV,CW,CX,CY,rfl⟩:=hs
  have bO:(#[q.cv,.slice (some ⟨q.lg,0,none⟩) n q.lc,.chan (some co),.pointer (some ⟨q.bc,0,none⟩),v4,v5,.pointer (some ⟨q.bz,0,none⟩),.int .i64 q.most,.pointer (some ⟨q.ob,0,none⟩),.slice (some ⟨q.sg,0,none⟩) n n,.pointer (some ⟨q.br,0,none⟩),FU,FC,Gv,Im,.pointer (some ⟨v.b,0,none⟩),Ai,Aj,Ak,Al,Am,Ao,Ap,Ar,Au,Av,Aw,Ay,Az,AA,AB,AJ,AL,AO,AP,AQ,AU,AV,AX,AY,AZ,A8,A9,Ba,Bb,Bc,Bf,Bh,Bj,Bl,Bp,Bq,Br,Bu,Bv,Bw,Bz,BD,BF,BG,BH,BI,BJ,BK,BL,BM,BN,Iu,u68,u69,BR,BS,BU,BX,BZ,Ca,Cb,Cc,Ce,Cg,Ci,Cj,Ck,Cm,Co,Cq,Cr,Ct,Cu,Cw,Cx,Cy,Cz,CB,CF,CG,CJ,CK,CO,CQ,CS,CU,CV,CW,CX,CY]:Array Value)[10]?=some (.pointer (some ⟨q.br,0,none⟩)):=rfl
  have fH:(#[q.cv,.slice (some ⟨q.lg,0,none⟩) n q.lc,.chan (some co),.pointer (some ⟨q.bc,0,none⟩),v4,v5,.pointer (some ⟨q.bz,0,none⟩),.int .i64 q.most,.pointer (some ⟨q.ob,0,none⟩),.slice (some ⟨q.sg,0,none⟩) n n,.pointer (some ⟨q.br,0,none⟩),FU,FC,Gv,Im,.pointer (some ⟨v.b,0,none⟩),Ai,Aj,Ak,Al,Am,Ao,Ap,Ar,Au,Av,Aw,Ay,Az,AA,AB,AJ,AL,AO,AP,AQ,AU,AV,AX,AY,AZ,A8,A9,Ba,Bb,Bc,Bf,Bh,Bj,Bl,Bp,Bq,Br,Bu,Bv,Bw,Bz,BD,BF,BG,BH,BI,BJ,BK,BL,BM,BN,Iu,u68,u69,BR,BS,BU,BX,BZ,Ca,Cb,Cc,Ce,Cg,Ci,Cj,Ck,Cm,Co,Cq,Cr,Ct,Cu,Cw,Cx,Cy,Cz,CB,CF,CG,CJ,CK,CO,CQ,CS,CU,CV,CW,CX,CY]:Array Value)[15]?=some (.pointer (some ⟨v.b,0,none⟩)):=rfl;refine EL.EJ (S:=S0 Try.prog Fin Ea) (b:=base 34) [] (by simp) zKR nE zKR fun W₁ ha=>?_;have hh:W₁.heap=W.heap:=by obtain ⟨τ,d,rfl⟩:=ha;rfl
  have hcell:∀ a,W₁.drew.cell? a=W.cell? a:=fun a=>by show W₁.cell? a=_;simp only [World.cell?,hh]
  have Abc:W₁.drew.cell? ⟨v.b,9,none⟩=some ans:=by rw [hcell];exact kF
  have hsz0:W₁.drew.heap.size=W.heap.size:=by show W₁.heap.size=_;rw [hh]
  have nD:(Try.prog.info? 42).map (fun i=>(i.zero,i.size,i.bytes))=some (some (.agg #[.int .i64 0,.int .i64 0,.int .i64 0,.bool false,.int .i64 0,.int .i64 0,.int .i64 0,.slice none 0 0,.slice none 0 0]),9,104):=by kernel_rfl
  have lT:(Try.prog.info? 53).map (fun i=>(i.zero,i.size,i.bytes))=some (some (.slice none 0 0),1,24):=by kernel_rfl
  obtain ⟨iA,hiA,Zl,hA1,hA2⟩:=info_parts nD;obtain ⟨iS,hiS,hS0,hS1,hS2⟩:=info_parts lT;obtain ⟨v1,w1,r6,g6,f6⟩:=Ui (P:=Try.prog) W₁.drew 53 53 42 iA _ 9 104 Try.underlying53 hiA Zl hA1 hA2 rfl (by decide) ans v.x.out.length _ (hsrc.cells hcell) (jF hone) (by unfold maxLen;omega) zOM;obtain ⟨p1,n1,c1,rfl⟩:=G9 g6;have hv1:(Value.slice p1 n1 c1).oneCell'=true:=rfl;have hb1:∀ g,g < W.heap.size->w1.heap[g]?=W.heap[g]?:=fun g hg=>by rw [f6.block g (by rw [hsz0];exact hg) (by simp)];show W₁.heap[g]?=_;rw [hh]
  have hz1:W.heap.size<=w1.heap.size:=by have:=f6.size;rw [hsz0] at this;exact this
  have hl1:∀ g,(Value.slice p1 n1 c1).ownBlock=some g->W.heap.size<=g/\g < w1.heap.size:=fun g hg=>by have:=FM g6 hg;rw [hsz0] at this;exact this
  obtain ⟨w2,gY⟩:∃ w2,w1.alloc (.cells #[.slice p1 n1 c1] 53)=w2:=⟨_,rfl⟩
  have hb2:∀ g,g < w1.heap.size->w2.heap[g]?=w1.heap[g]?:=fun g hg=>by rw [← gY];exact Below.heap_alloc _ _ _ hg
  have hz2:w2.heap.size=w1.heap.size+1:=by rw [← gY];simp
  have xV:Fa w2 N1 1 av i vs:=FD h.own fun g hg=>by have:=FM h.own hg;rw [hb2 g zOM,hb1 g this.2]
  obtain ⟨av2,w3,r8,g8,f8,k8⟩:=Jo (P:=Try.prog) w2 N1 28 28 53 iS (.slice none 0 0) 1 24 Try.underlying28 hiS hS0 hS1 hS2 rfl (by decide) av i vs xV ⟨w1.heap.size,0,none⟩ 1 1 [.slice p1 n1 c1] rfl (by rw [← gY];exact cell_one_new _ _ _) (by intro u hu;simp at hu;subst hu;exact hv1) (by unfold maxLen;omega) zOM zOM;obtain ⟨p2,n2,c2,rfl⟩:=G9 g8;obtain ⟨w4,bG⟩:∃ w4,w4=w3.setCell ⟨q.br,0,none⟩ (.slice p2 n2 c2):=⟨_,rfl⟩
  have kU:∀ g,(Value.slice p2 n2 c2).ownBlock=some g->av.ownBlock=some g\/w2.heap.size<=g:=fun g hg=>by
    rcases k8 with k|⟨k,_⟩
    . rw [k] at hg;exact .inl hg
    . exact .inr (k g hg)
  have hb3:∀ g,g < w2.heap.size->av.ownBlock≠some g->w3.heap[g]?=w2.heap[g]?:=fun g hg hne=>f8.block g hg (fun e=>hne e.symm);have hz3:w2.heap.size<=w3.heap.size:=f8.size;have jC:∀ g,av.ownBlock=some g->N1<=g/\g < W.heap.size:=fun g hg=>FM h.own hg;have hbr:q.br < N1:=hlow.1;have hN1:=hlow.2.1;have hold:∀ g,g < N1->w3.heap[g]?=W.heap[g]?:=fun g hg=>by rw [hb3 g zOM (fun e=>by have:=jC g e;omega),hb2 g zOM,hb1 g zOM]
  have hav:∀ (l:Array Bool),l[10]?≠some true->(ES W₁.drew [(6,w1),(7,w2),(8,w3),(10,w4)] l).cell? ⟨q.br,0,none⟩=some av:=fun l h10=>by
    have hc0:W.cell? ⟨q.br,0,none⟩=some av:=by simp [World.cell?,h.run]
    rcases Nw [(6,w1),(7,w2),(8,w3),(10,w4)] W₁.drew with e|⟨c,w',hm,hl,e⟩
    . rw [e,hcell];exact hc0
    . rw [e];simp only [List.mem_cons,Prod.mk.injEq,List.not_mem_nil,or_false] at hm;rcases hm with ⟨rfl,rfl⟩|⟨rfl,rfl⟩|⟨rfl,rfl⟩|⟨rfl,rfl⟩
      . rw [cell_of (a:=⟨q.br,0,none⟩) (hb1 q.br zOM)];exact hc0
      . rw [cell_of (a:=⟨q.br,0,none⟩) ((hb2 q.br zOM).trans (hb1 q.br zOM))];exact hc0
      . rw [cell_of (a:=⟨q.br,0,none⟩) (hold q.br hbr)];exact hc0
      . exact absurd hl h10
  have hcz:w3.frozen? ⟨q.br,0,none⟩=false:=by simp [World.frozen?,hold q.br hbr,h.run]
  have hcw:w3.cell? ⟨q.br,0,none⟩=some av:=by rw [cell_of (a:=⟨q.br,0,none⟩) (hold q.br hbr)];simp [World.cell?,h.run]
  have OX:∀ g,g≠q.br->w4.heap[g]?=w3.heap[g]?:=fun g hg=>by rw [bG];simp [World.setCell,Array.getElem?_modify,Ne.symm hg]
  have oN:w4.heap[q.br]?=some (.cells #[.slice p2 n2 c2,ov.v,.int .i64 s,cut] 31 (0,0)):=by rw [bG];have:=(hold q.br hbr).trans h.run;simp [World.setCell,Array.getElem?_modify,this]
  have Aj0:w4.heap.size=w3.heap.size:=by rw [bG];simp [World.setCell]
  have Aer:vs.length=i:=by
    obtain ⟨te,hl,_⟩:=h.own
    simpa using hl
  have hfin:UW m ρ ws q Kp W0 N1 σ s cut ov (i+1) (vs ++ [.slice p1 n1 c1]) (.slice p2 n2 c2) w4:=by
    have l1:=h.lay.h1;have l2:=h.lay.h2;have l3:=h.lay.h3;have l4:=h.lay.h4;have l5:=h.lay.h5;have VJ:=h.free q.br (.inr (.inr (.inl rfl)));have hcp:∀ (v:Value) (u:EK (Wk Ef Cs)),Sj W N1 v u->(∀ g,u.own g->g < N1/\g≠q.br)->(∀ g,v.ownBlock=some g->av.ownBlock≠some g)->Sj w4 N1 v u:=fun v u ⟨I4,c1,c2,c3⟩ hu hne=>by
      refine ⟨I4,c1,FD c2 fun g hg=>?_,fun i a iv ha hi=>(c3 i a iv ha hi).QD fun g hg=>.of ?_⟩
      . have:=FM c2 hg;rw [OX g zOM,hb3 g zOM (hne g hg),hb2 g zOM,hb1 g this.2]
      . rw [OX g (hu g hg).2,hold g (hu g hg).1]
    refine ⟨h.lay,fun j b hb=>?_,oN,?_,?_,fun g hg=>?_,fun g hg=>?_,FD g8 fun g hg=>?_,fun j v' u hj hu=>?_,FD h.opn fun g hg=>?_,fun g hg=>⟨fun e=>?_,fun j v' hj e=>?_⟩,h.few,hlow.1,by omega,hlow.2.2⟩
    . rw [cell_of (a:=⟨q.lg,j,none⟩) ((OX q.lg zOM).trans (hold q.lg zOM))];exact h.row j b hb
    . rw [OX _ zOM,hold _ zOM];exact h.res
    . exact m.eq σ W w4 (fun g hg=>.of (by rw [OX g (fun e=>VJ.2.2.2.1 (e ▸ hg)),hold g (hlow.2.2.1 g hg)])) h.inv
    . by_cases e:g=q.br
      . rw [e];exact ⟨⟨_,_,_,oN⟩,VJ.2⟩
      . rw [OX g e,hold g (h.ltN hg)];exact h.free g hg
    . have:=h.lay.h7 g hg;rw [OX g zOM,hold g zOM];exact h.kept g hg
    . have:=FM g8 hg;rw [OX g zOM]
    . have nu:∀ g,u.own g->g < N1/\g≠q.br:=fun g hg=>⟨(hlow.2.2.2 j u hu).1 g hg,fun e=>VJ.2.2.2.2 j u hu (e ▸ hg)⟩
      rw [List.getElem?_append] at hj;by_cases hlt:j < vs.length
      . rw [if_pos hlt] at hj;obtain ⟨c1,c2,c3⟩:=h.cop j v' u hj hu;refine ⟨hcp v' u c1 nu c3,c2,fun g hg e=>?_⟩;rcases kU g e with e|e
        . exact c3 g hg e
        . obtain ⟨Ai3,_,c4,_⟩:=c1;have:=FM c4 hg;omega
      . rw [if_neg hlt] at hj;have hj0:j - vs.length=0:=by
          rcases Nat.eq_zero_or_pos (j - vs.length) with h|h
          . exact h
          . rw [List.getElem?_eq_none (by simp;omega)] at hj;cases hj
        rw [hj0] at hj;cases hj
        obtain rfl:j=i:=by omega
        rw [hv] at hu;cases hu
        refine ⟨⟨I4,U9,?_,fun k a iv ha hi=>(bH k a iv ha hi).QD fun g hg=>.of (by rw [OX g (nu g hg).2,hold g (nu g hg).1])⟩,hv1,fun g hg e=>?_⟩
        . have hg6:Fa w4 W₁.drew.heap.size 9 (.slice p1 n1 c1) v.x.out.length (List.zipWith E9 v.x.out I4).flatten:=FD g6 fun g hg=>by have h1:=hl1 g hg;rw [OX g zOM,hb3 g zOM (fun e=>by have:=jC g e;omega),hb2 g h1.2]
          obtain ⟨te,q1,q2|⟨g,cap,cur,q3,q4,q5⟩⟩:=hg6
          . exact ⟨te,q1,.inl q2⟩
          . exact ⟨te,q1,.inr ⟨g,cap,cur,q3,by omega,q5⟩⟩
        . have h1:=hl1 g hg;rcases kU g e with e|e
          . have:=jC g e;omega
          . omega
    . have h1:=FM h.opn hg;rw [OX g zOM,hb3 g zOM (h.dZ g hg).1,hb2 g zOM,hb1 g h1.2]
    . have h1:=FM h.opn hg;rcases kU g e with e|e
      . exact (h.dZ g hg).1 e
      . omega
    . have h1:=FM h.opn hg;rw [List.getElem?_append] at hj;by_cases hlt:j < vs.length
      . rw [if_pos hlt] at hj;exact (h.dZ g hg).2 j v' hj e
      . rw [if_neg hlt] at hj;have hj0:j - vs.length=0:=by
          rcases Nat.eq_zero_or_pos (j - vs.length) with h|h
          . exact h
          . rw [List.getElem?_eq_none (by simp;omega)] at hj;cases hj
        rw [hj0] at hj;cases hj
        have:=hl1 g e;omega
  have HH:=Lib.hid (zAI hK (zAI hs0 hfin));have HW4:=Lib.hid bG;clear bG hcl hcell kF hv1 hl1;clear hK hs0 hfin h hKn hints bH hrow hblk hown hsrc hlow hvl hold hb1 hb2 hb3 kU jC g6 g8 f6 f8 k8 OX oN xV;rw [fK];refine P7 [(6,w1),(7,w2),(8,w3),(10,w4)] (Fence.list_round _ _) zKR j4 Zr (s0:=74) (vs:=[.pointer (some ⟨q.br,0,none⟩),av,.pointer (some ⟨v.b,0,none⟩),.pointer (some ⟨v.b,0,none⟩),.pointer (some ⟨v.b,9,none⟩),ans,.slice p1 n1 c1,.slice (some ⟨w1.heap.size,0,none⟩) 1 1,.slice p2 n2 c2,.pointer (some ⟨q.br,0,none⟩)]) rfl (by simp) wY ?_ ?_
  . intro l a i o hI hl hd hb ho hod;have hi:i < 11:=by have:=(zGE ho).1;rw [Zr] at this;exact this
    clear hv;obtain rfl|rfl|rfl|rfl|rfl|rfl|rfl|rfl|rfl|rfl|rfl:i=0\/i=1\/i=2\/i=3\/i=4\/i=5\/i=6\/i=7\/i=8\/i=9\/i=10:=by omega
    . obtain ⟨af,p,ty,ho'⟩:=uo;obtain rfl:=Option.some.inj (ho.symm.trans ho');have t:a.eval (.tmp 10)=.pointer (some ⟨q.br,0,none⟩):=Eh ((hI.low 10 (by decide)).trans bO);exact ⟨rfl,_,rfl,by rw [E8 _ _ (by simp)];unfold execOp;simp only [t];go_simp⟩
    . obtain ⟨af,p,ty,ho'⟩:=yZ;obtain rfl:=Option.some.inj (ho.symm.trans ho');have t:=Eh (hI.val 0 _ (Ep lM ho hod (by decide)) rfl);have hc:=hav l (fun h10=>absurd (EF (j:=1) J8 hd h10 (by decide)) (by rw [hb];decide));exact ⟨rfl,_,rfl,by rw [E8 _ _ (by simp)];unfold execOp;simp only [t];go_simp⟩
    . obtain ⟨af,p,ty,ho'⟩:=tq;obtain rfl:=Option.some.inj (ho.symm.trans ho');have t:a.eval (.tmp 15)=.pointer (some ⟨v.b,0,none⟩):=Eh ((hI.low 15 (by decide)).trans fH);exact ⟨rfl,_,rfl,by rw [E8 _ _ (by simp)];unfold execOp;simp only [t];go_simp⟩
    . obtain ⟨af,p,ty,ho'⟩:=vM;obtain rfl:=Option.some.inj (ho.symm.trans ho');have t:=Eh (hI.val 2 _ (Ep qQ ho hod (by decide)) rfl);exact ⟨rfl,_,rfl,by rw [E8 _ _ (by simp)];unfold execOp;simp only [t];go_simp⟩
    . obtain ⟨af,p,ty,ho'⟩:=uG;obtain rfl:=Option.some.inj (ho.symm.trans ho');have t:=Eh (hI.val 3 _ (Ep oO ho hod (by decide)) rfl);exact ⟨rfl,_,rfl,by rw [E8 _ _ (by simp)];unfold execOp;simp only [t];go_simp⟩
    . obtain ⟨af,p,ty,ho'⟩:=yY;obtain rfl:=Option.some.inj (ho.symm.trans ho');have t:=Eh (hI.val 4 _ (Ep qO ho hod (by decide)) rfl);have hw0:ES W₁.drew [(6,w1),(7,w2),(8,w3),(10,w4)] l=W₁.drew:=G8 _ _ (by have n6:l[6]?≠some true:=fun h=>absurd (EF (j:=5) bC hd h (by decide)) (by rw [hb];decide);have n7:l[7]?≠some true:=fun h=>n6 (EF (j:=6) TJ hd h (by decide));have n8:l[8]?≠some true:=fun h=>n7 (EF (j:=7) NV hd h (by decide));have n10:l[10]?≠some true:=fun h=>n8 (EF (j:=8) J8 hd h (by decide));intro c w hm;simp only [List.mem_cons,Prod.mk.injEq,List.not_mem_nil,or_false] at hm;rcases hm with ⟨rfl,_⟩|⟨rfl,_⟩|⟨rfl,_⟩|⟨rfl,_⟩ <;> assumption)
      have hc:W₁.drew.cell? ⟨v.b,9,none⟩=some ans:=Abc;refine ⟨rfl,_,rfl,?_⟩;rw [E8 _ _ (by simp),hw0];unfold execOp;simp only [t];go_simp
    . obtain ⟨af,p,ty,ho'⟩:=xM;obtain rfl:=Option.some.inj (ho.symm.trans ho');have t:=Eh (hI.val 5 _ (Ep bC ho hod (by decide)) rfl);have n7:l[7]?≠some true:=fun h=>absurd (EF (j:=6) TJ hd h (by decide)) (by rw [hb];decide);have n8:l[8]?≠some true:=fun h=>n7 (EF (j:=7) NV hd h (by decide));have n10:l[10]?≠some true:=fun h=>n8 (EF (j:=8) J8 hd h (by decide));have hw0:ES W₁.drew [(6,w1),(7,w2),(8,w3),(10,w4)] l=W₁.drew:=G8 _ _ (by
        intro c w hm;simp only [List.mem_cons,Prod.mk.injEq,List.not_mem_nil,or_false] at hm;rcases hm with ⟨rfl,_⟩|⟨rfl,_⟩|⟨rfl,_⟩|⟨rfl,_⟩
        . rw [hb];decide
        all_goals assumption)
      have hw1:ES W₁.drew [(6,w1),(7,w2),(8,w3),(10,w4)] (l.setIfInBounds 6 true)=w1:=FK (c:=6) (t:=[(7,w2),(8,w3),(10,w4)]) (Array.getElem?_setIfInBounds_self_of_lt zOM) (by intro c w hm;simp only [List.mem_cons,Prod.mk.injEq,List.not_mem_nil,or_false] at hm;rcases hm with ⟨rfl,_⟩|⟨rfl,_⟩|⟨rfl,_⟩ <;> (rw [Array.getElem?_setIfInBounds_ne (by decide)];assumption)) [] _
      rw [hw0,hw1];refine ⟨rfl,_,rfl,?_⟩;unfold execOp;have tc:a.eval (.const (.slice none 0 0))=.slice none 0 0:=rfl;simp only [resolve,invoke,builtin,Sem.run_bind,Sem.run_pure,Result.andThen_ok,List.map_toArray,List.map_cons,List.map_nil,t,tc,r6]
    . obtain ⟨af,p,ty,ho'⟩:=wP;obtain rfl:=Option.some.inj (ho.symm.trans ho');have t:=Eh (hI.val 6 _ (Ep TJ ho hod (by decide)) rfl);have n8:l[8]?≠some true:=fun h=>absurd (EF (j:=7) NV hd h (by decide)) (by rw [hb];decide);have n10:l[10]?≠some true:=fun h=>n8 (EF (j:=8) J8 hd h (by decide));have y6:l[6]?=some true:=Ep TJ ho hod (by decide);have hw0:ES W₁.drew [(6,w1),(7,w2),(8,w3),(10,w4)] l=w1:=FK (c:=6) (t:=[(7,w2),(8,w3),(10,w4)]) y6 (by
        intro c w hm;simp only [List.mem_cons,Prod.mk.injEq,List.not_mem_nil,or_false] at hm;rcases hm with ⟨rfl,_⟩|⟨rfl,_⟩|⟨rfl,_⟩
        . rw [hb];decide
        all_goals assumption) [] _
      have hw1:ES W₁.drew [(6,w1),(7,w2),(8,w3),(10,w4)] (l.setIfInBounds 7 true)=w2:=FK (c:=7) (t:=[(8,w3),(10,w4)]) (Array.getElem?_setIfInBounds_self_of_lt zOM) (by intro c w hm;simp only [List.mem_cons,Prod.mk.injEq,List.not_mem_nil,or_false] at hm;rcases hm with ⟨rfl,_⟩|⟨rfl,_⟩ <;> (rw [Array.getElem?_setIfInBounds_ne (by decide)];assumption)) [(6,w1)] _
      rw [hw0,hw1];refine ⟨rfl,_,rfl,?_⟩;unfold execOp;simp only [List.map_toArray,List.map_cons,List.map_nil,t];rw [← gY];go_simp
    . obtain ⟨af,p,ty,ho'⟩:=xA;obtain rfl:=Option.some.inj (ho.symm.trans ho');have ta:=Eh (hI.val 1 _ (Ep NV ho hod (by decide)) rfl);have tb:=Eh (hI.val 7 _ (Ep NV ho hod (by decide)) rfl);have n10:l[10]?≠some true:=fun h=>absurd (EF (j:=8) J8 hd h (by decide)) (by rw [hb];decide);have y7:l[7]?=some true:=Ep NV ho hod (by decide);have hw0:ES W₁.drew [(6,w1),(7,w2),(8,w3),(10,w4)] l=w2:=FK (c:=7) (t:=[(8,w3),(10,w4)]) y7 (by
        intro c w hm;simp only [List.mem_cons,Prod.mk.injEq,List.not_mem_nil,or_false] at hm;rcases hm with ⟨rfl,_⟩|⟨rfl,_⟩
        . rw [hb];decide
        . assumption) [(6,w1)] _
      have hw1:ES W₁.drew [(6,w1),(7,w2),(8,w3),(10,w4)] (l.setIfInBounds 8 true)=w3:=FK (c:=8) (t:=[(10,w4)]) (Array.getElem?_setIfInBounds_self_of_lt zOM) (by intro c w hm;simp only [List.mem_cons,Prod.mk.injEq,List.not_mem_nil,or_false] at hm;obtain ⟨rfl,_⟩:=hm;rw [Array.getElem?_setIfInBounds_ne (by decide)];assumption) [(6,w1),(7,w2)] _
      rw [hw0,hw1];refine ⟨rfl,_,rfl,?_⟩;unfold execOp;simp only [resolve,invoke,builtin,Sem.run_bind,Sem.run_pure,Result.andThen_ok,List.map_toArray,List.map_cons,List.map_nil,ta,tb,r8]
    . obtain ⟨af,p,ty,ho'⟩:=yx;obtain rfl:=Option.some.inj (ho.symm.trans ho');have t:a.eval (.tmp 10)=.pointer (some ⟨q.br,0,none⟩):=Eh ((hI.low 10 (by decide)).trans bO);exact ⟨rfl,_,rfl,by rw [E8 _ _ (by simp)];unfold execOp;simp only [t];go_simp⟩
    . obtain ⟨af,p,ty,ho'⟩:=mQ;obtain rfl:=Option.some.inj (ho.symm.trans ho');have ta:=Eh (hI.val 9 _ (Ep J8 ho hod (by decide)) rfl);have tb:=Eh (hI.val 8 _ (Ep J8 ho hod (by decide)) rfl);have y8:l[8]?=some true:=Ep J8 ho hod (by decide);have hw0:ES W₁.drew [(6,w1),(7,w2),(8,w3),(10,w4)] l=w3:=FK (c:=8) (t:=[(10,w4)]) y8 (by intro c w hm;simp only [List.mem_cons,Prod.mk.injEq,List.not_mem_nil,or_false] at hm;obtain ⟨rfl,_⟩:=hm;rw [hb];decide) [(6,w1),(7,w2)] _
      have hw1:ES W₁.drew [(6,w1),(7,w2),(8,w3),(10,w4)] (l.setIfInBounds 10 true)=w4:=FK (c:=10) (t:=[]) (Array.getElem?_setIfInBounds_self_of_lt zOM) (by simp) [(6,w1),(7,w2),(8,w3)] _;rw [hw0,hw1];refine ⟨rfl,?_⟩;rw [if_pos rfl];unfold execOp;simp only [ta,tb];rw [HW4.out];go_simp
  . intro l a hI hall;obtain ⟨tm',eB⟩:=a;obtain rfl:eB=[]:=hI.ds;have hw:ES W₁.drew [(6,w1),(7,w2),(8,w3),(10,w4)] l=w4:=FK (c:=10) (t:=[]) (hall 10 (by decide)) (by simp) [(6,w1),(7,w2),(8,w3)] _;rw [hw];obtain ⟨hK,hs0,hfin⟩:=HH.out;exact hK w4 tm' _ _ (Z4 hs0 hI.size hI.low) hfin
end
end
section
section
variable {Cs Sg:Type}{D:Dr Ef Cs Sg}{m:Mem Sg}{ρ:Rn}{ws:List (EK (Wk Ef Cs))}
variable {Fin:FE}{Ea:E5 Try.prog Fin}
variable {q:OI}{Kp:Nat->Prop}{W0 W:World}{R N1 s co n nn:Nat}{σ:Sg}{left:List Int}{last:Int}{steps:List Nat}{cut FU FC Gv Im IY Iu u68 u69:Value}{ds:List Deferred}{K:List Item}{cs:List Frame}
variable {ov:rU}{av:Value}{i:Nat}{vs:List Value}
theorem nP {tm:Array Value}(hs:Sd q co n FU FC Gv Im IY Iu u68 u69 tm)(hK:∀ W' tm',Sd q co n FU FC Gv Im IY (.slice (some ⟨q.lg,0,none⟩) n q.lc) (.int .i64 n) (.int .i64 (0:Nat)) tm'->W'.heap=W.heap->JL (S0 Try.prog Fin Ea).L (.Ev (Eu D m) ρ ws 0 false nn) (G ((base 34).at ⟨tm',ds⟩ K) cs) W') :
    JL (S0 Try.prog Fin Ea).L (.Ev (Eu D m) ρ ws 0 false nn) (G ((base 34).at ⟨tm,ds⟩ (.code pW :: K)) cs) W:=by
  obtain ⟨v4,v5,Ai,Aj,Ak,Al,Am,Ao,Ap,Ar,Au,Av,Aw,Ay,Az,AA,AB,AJ,AL,AO,AP,AQ,AU,AV,AX,AY,AZ,A8,A9,Ba,Bb,Bc,Bf,Bh,Bj,Bl,Bp,Bq,Br,Bu,Bv,Bw,Bz,BD,BF,BG,BH,BI,BJ,BK,BL,BM,BN,BR,BS,BU,BX,BZ,Ca,Cb,Cc,Ce,Cg,Ci,Cj,Ck,Cm,Co,Cq,Cr,Ct,Cu,Cw,Cx,Cy,Cz,CB,CF,CG,CJ,CK,CO,CQ,CS,CU,CV,CW,CX,CY,rfl⟩:=hs;refine EL.EJ (S:=S0 Try.prog Fin Ea) (b:=base 34) [] (by simp) zKR nE zKR fun W₁ ha=>?_;have hh:W₁.heap=W.heap:=by obtain ⟨τ,d,rfl⟩:=ha;rfl
  have HH:=Lib.hid (zAI hK hh);clear hK hh;dsimp only;simp only [pW,Ws,dK,N9,Try.f34];gi_wp2;obtain ⟨hK,hh⟩:=HH.out;exact hK W₁ _ ⟨_,_,_,_,_,_,_,_,_,_,_,_,_,_,_,_,_,_,_,_,_,_,_,_,_,_,_,_,_,_,_,_,_,_,_,_,_,_,_,_,_,_,_,_,_,_,_,_,_,_,_,_,_,_,_,_,_,_,_,_,_,_,_,_,_,_,_,_,_,_,_,_,_,_,_,_,_,_,_,_,_,_,_,_,_,_,_,_,_,rfl⟩ hh
theorem ZT (hi:i<=1000000)(hn:n<=1000000){tm:Array Value}(hs:Sd q co n FU FC Gv Im IY Iu (.int .i64 n) (.int .i64 i) tm)(hK:∀ W' tm',Sd q co n FU FC Gv Im IY Iu (.int .i64 n) (.int .i64 i) tm'->tm'[70]?=some (.bool (decide (i < n)))->W'.heap=W.heap->JL (S0 Try.prog Fin Ea).L (.Ev (Eu D m) ρ ws 0 false nn) (G ((base 34).at ⟨tm',ds⟩ K) cs) W') :
    JL (S0 Try.prog Fin Ea).L (.Ev (Eu D m) ρ ws 0 false nn) (G ((base 34).at ⟨tm,ds⟩ (.code qD :: K)) cs) W:=by
  obtain ⟨v4,v5,Ai,Aj,Ak,Al,Am,Ao,Ap,Ar,Au,Av,Aw,Ay,Az,AA,AB,AJ,AL,AO,AP,AQ,AU,AV,AX,AY,AZ,A8,A9,Ba,Bb,Bc,Bf,Bh,Bj,Bl,Bp,Bq,Br,Bu,Bv,Bw,Bz,BD,BF,BG,BH,BI,BJ,BK,BL,BM,BN,BR,BS,BU,BX,BZ,Ca,Cb,Cc,Ce,Cg,Ci,Cj,Ck,Cm,Co,Cq,Cr,Ct,Cu,Cw,Cx,Cy,Cz,CB,CF,CG,CJ,CK,CO,CQ,CS,CU,CV,CW,CX,CY,rfl⟩:=hs;refine EL.EJ (S:=S0 Try.prog Fin Ea) (b:=base 34) [] (by simp) zKR nE zKR fun W₁ ha=>?_;have hh:W₁.heap=W.heap:=by obtain ⟨τ,d,rfl⟩:=ha;rfl
  have HH:=Lib.hid (zAI hK hh);clear hK hh;dsimp only;simp only [qD,Ws,dK,N9,Try.f34];gi_wp2;obtain ⟨hK,hh⟩:=HH.out;exact hK W₁ _ ⟨_,_,_,_,_,_,_,_,_,_,_,_,_,_,_,_,_,_,_,_,_,_,_,_,_,_,_,_,_,_,_,_,_,_,_,_,_,_,_,_,_,_,_,_,_,_,_,_,_,_,_,_,_,_,_,_,_,_,_,_,_,_,_,_,_,_,_,_,_,_,_,_,_,_,_,_,_,_,_,_,_,_,_,_,_,_,_,_,_,rfl⟩ (by simp) hh
theorem nI {b:Nat}(hi:i < n)(hc:W.cell? ⟨q.lg,i,none⟩=some (.pointer (some ⟨b,0,none⟩))){tm:Array Value}(hs:Sd q co n FU FC Gv Im IY (.slice (some ⟨q.lg,0,none⟩) n q.lc) (.int .i64 n) (.int .i64 i) tm)(hK:∀ W' tm',Sd q co n FU FC Gv (.int .i64 i) (.pointer (some ⟨b,0,none⟩)) (.slice (some ⟨q.lg,0,none⟩) n q.lc) (.int .i64 n) (.int .i64 i) tm'->W'.heap=W.heap->JL (S0 Try.prog Fin Ea).L (.Ev (Eu D m) ρ ws 0 false nn) (G ((base 34).at ⟨tm',ds⟩ K) cs) W') :
    JL (S0 Try.prog Fin Ea).L (.Ev (Eu D m) ρ ws 0 false nn) (G ((base 34).at ⟨tm,ds⟩ (.code qC :: K)) cs) W:=by
  obtain ⟨v4,v5,Ai,Aj,Ak,Al,Am,Ao,Ap,Ar,Au,Av,Aw,Ay,Az,AA,AB,AJ,AL,AO,AP,AQ,AU,AV,AX,AY,AZ,A8,A9,Ba,Bb,Bc,Bf,Bh,Bj,Bl,Bp,Bq,Br,Bu,Bv,Bw,Bz,BD,BF,BG,BH,BI,BJ,BK,BL,BM,BN,BR,BS,BU,BX,BZ,Ca,Cb,Cc,Ce,Cg,Ci,Cj,Ck,Cm,Co,Cq,Cr,Ct,Cu,Cw,Cx,Cy,Cz,CB,CF,CG,CJ,CK,CO,CQ,CS,CU,CV,CW,CX,CY,rfl⟩:=hs;refine EL.EJ (S:=S0 Try.prog Fin Ea) (b:=base 34) [] (by simp) zKR nE zKR fun W₁ ha=>?_;have hh:W₁.heap=W.heap:=by obtain ⟨τ,d,rfl⟩:=ha;rfl
  have hc1:W₁.cell? ⟨q.lg,i,none⟩=some (.pointer (some ⟨b,0,none⟩)):=by simp only [World.cell?,hh] at hc ⊢;exact hc
  clear hc;have HH:=Lib.hid (zAI hK hh);clear hK hh;dsimp only;simp only [qC,Ws,dK,N9,Try.f34];gi_wp2;obtain ⟨hK,hh⟩:=HH.out;exact hK W₁ _ ⟨_,_,_,_,_,_,_,_,_,_,_,_,_,_,_,_,_,_,_,_,_,_,_,_,_,_,_,_,_,_,_,_,_,_,_,_,_,_,_,_,_,_,_,_,_,_,_,_,_,_,_,_,_,_,_,_,_,_,_,_,_,_,_,_,_,_,_,_,_,_,_,_,_,_,_,_,_,_,_,_,_,_,_,_,_,_,_,_,_,rfl⟩ hh
theorem qP {b bg:Nat}(hc:W.cell? ⟨b,7,none⟩=some (.int .i64 bg)){tm:Array Value}(hs:Sd q co n FU FC Gv Im (.pointer (some ⟨b,0,none⟩)) Iu u68 u69 tm)(hK:∀ W' tm',Sd q co n FU FC Gv Im (.pointer (some ⟨b,0,none⟩)) Iu u68 u69 tm'->tm'[88]?=some (.bool (decide (0 < bg)))->W'.heap=W.heap->JL (S0 Try.prog Fin Ea).L (.Ev (Eu D m) ρ ws 0 false nn) (G ((base 34).at ⟨tm',ds⟩ K) cs) W') :
    JL (S0 Try.prog Fin Ea).L (.Ev (Eu D m) ρ ws 0 false nn) (G ((base 34).at ⟨tm,ds⟩ (.code pV :: K)) cs) W:=by
  obtain ⟨v4,v5,Ai,Aj,Ak,Al,Am,Ao,Ap,Ar,Au,Av,Aw,Ay,Az,AA,AB,AJ,AL,AO,AP,AQ,AU,AV,AX,AY,AZ,A8,A9,Ba,Bb,Bc,Bf,Bh,Bj,Bl,Bp,Bq,Br,Bu,Bv,Bw,Bz,BD,BF,BG,BH,BI,BJ,BK,BL,BM,BN,BR,BS,BU,BX,BZ,Ca,Cb,Cc,Ce,Cg,Ci,Cj,Ck,Cm,Co,Cq,Cr,Ct,Cu,Cw,Cx,Cy,Cz,CB,CF,CG,CJ,CK,CO,CQ,CS,CU,CV,CW,CX,CY,rfl⟩:=hs;refine EL.EJ (S:=S0 Try.prog Fin Ea) (b:=base 34) [] (by simp) zKR nE zKR fun W₁ ha=>?_;have hh:W₁.heap=W.heap:=by obtain ⟨τ,d,rfl⟩:=ha;rfl
  have hc1:W₁.cell? ⟨b,7,none⟩=some (.int .i64 bg):=by simp only [World.cell?,hh] at hc ⊢;exact hc
  clear hc;have HH:=Lib.hid (zAI hK hh);clear hK hh;dsimp only;simp only [pV,Ws,dK,N9,Try.f34];gi_wp2;obtain ⟨hK,hh⟩:=HH.out;exact hK W₁ _ ⟨_,_,_,_,_,_,_,_,_,_,_,_,_,_,_,_,_,_,_,_,_,_,_,_,_,_,_,_,_,_,_,_,_,_,_,_,_,_,_,_,_,_,_,_,_,_,_,_,_,_,_,_,_,_,_,_,_,_,_,_,_,_,_,_,_,_,_,_,_,_,_,_,_,_,_,_,_,_,_,_,_,_,_,_,_,_,_,_,_,rfl⟩ (by simp) hh
theorem ZI (hi:i < 1000000){tm:Array Value}(hs:Sd q co n FU FC Gv Im IY Iu u68 (.int .i64 i) tm)(hK:∀ W' tm',Sd q co n FU FC Gv Im IY Iu u68 (.int .i64 ((i+1:Nat):Int)) tm'->W'.heap=W.heap->JL (S0 Try.prog Fin Ea).L (.Ev (Eu D m) ρ ws 0 false nn) (G ((base 34).at ⟨tm',ds⟩ K) cs) W') :
    JL (S0 Try.prog Fin Ea).L (.Ev (Eu D m) ρ ws 0 false nn) (G ((base 34).at ⟨tm,ds⟩ (.code nZ :: K)) cs) W:=by
  have hl1:(-9223372036854775808:Int)<=(i:Int)+1:=by omega
  have hl2:(i:Int)+1<=9223372036854775807:=by omega
  obtain ⟨v4,v5,Ai,Aj,Ak,Al,Am,Ao,Ap,Ar,Au,Av,Aw,Ay,Az,AA,AB,AJ,AL,AO,AP,AQ,AU,AV,AX,AY,AZ,A8,A9,Ba,Bb,Bc,Bf,Bh,Bj,Bl,Bp,Bq,Br,Bu,Bv,Bw,Bz,BD,BF,BG,BH,BI,BJ,BK,BL,BM,BN,BR,BS,BU,BX,BZ,Ca,Cb,Cc,Ce,Cg,Ci,Cj,Ck,Cm,Co,Cq,Cr,Ct,Cu,Cw,Cx,Cy,Cz,CB,CF,CG,CJ,CK,CO,CQ,CS,CU,CV,CW,CX,CY,rfl⟩:=hs;refine EL.EJ (S:=S0 Try.prog Fin Ea) (b:=base 34) [] (by simp) zKR nE zKR fun W₁ ha=>?_;have hh:W₁.heap=W.heap:=by obtain ⟨τ,d,rfl⟩:=ha;rfl
  have HH:=Lib.hid (zAI hK hh);clear hK hh;dsimp only;simp only [nZ,Ws,dK,N9,Try.f34];gi_wp2;obtain ⟨hK,hh⟩:=HH.out;exact hK W₁ _ ⟨_,_,_,_,_,_,_,_,_,_,_,_,_,_,_,_,_,_,_,_,_,_,_,_,_,_,_,_,_,_,_,_,_,_,_,_,_,_,_,_,_,_,_,_,_,_,_,_,_,_,_,_,_,_,_,_,_,_,_,_,_,_,_,_,_,_,_,_,_,_,_,_,_,_,_,_,_,_,_,_,_,_,_,_,_,_,_,_,_,rfl⟩ hh
end
end
end Go.Proofs.Yticecinjcajmcaa
end
