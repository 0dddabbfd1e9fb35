/-
  Part 24 of the proof that CellMeets returns true, and leaves its arguments as they were, for every input whose reading is of bulk at most 1048576. No further condition.
-/
import Derived.Test.YticecinjcajmcaaR00
import Derived.Test.YticecinjcajmcaaR12
import Derived.Test.YticecinjcajmcaaR23
import Derived.Test.YticecinjcajmcaaProg
import Derived.OwnWalkIn
import Derived.LoopIn
import Derived.TacticsInMore
import Derived.LoopTactic
import Derived.RegionTactic
import Derived.ChangeAlike
import Derived.BigRegion
set_option linter.unusedVariables false
set_option linter.unusedSectionVars false
set_option linter.unusedSimpArgs false
set_option maxHeartbeats 4000000
set_option maxRecDepth 100000
noncomputable section
namespace Go.Proofs.Yticecinjcajmcaa
open Go Go.Conc Go.LT Go.LC Go.LK Go.RowKit
open Go.ConcN (WgLive)
section
section
variable {Cs Sg:Type}
structure HI (m:Mem Sg)(ρ:Rn)(plans:List (List Ef))(R:Nat)(ws:List (EK (Wk Ef Cs)))(σ:Sg)(lv:Value)(Kp:Nat->Prop)(W0 W:World):Prop where
  inv:m.Inv σ W
  xs:∀ (j:Nat) (u:EK (Wk Ef Cs)),ws[j]?=some u->∃ pl,plans[j]?=some pl/\u.x=Wk.new j pl/\u.over=pl.isEmpty/\u.r=R/\u.k=j
  R8:BA.Fa W 0 1 lv ws.length (ws.map fun u=>.pointer (some ⟨u.b,0,none⟩))
  ZQ:∀ g,lv.ownBlock=some g->g≠ρ.Wg/\ρ.Bo g=false/\¬ m.Sh g/\∀ (j:Nat) (u:EK (Wk Ef Cs)),ws[j]?=some u->¬ u.own g
  lt:∀ (j:Nat) (u:EK (Wk Ef Cs)),ws[j]?=some u->u.t < W.heap.size/\∀ g,u.own g->g < W.heap.size/\¬ m.Sh g
  wg:ρ.Wg < W.heap.size
  come:ρ.come < W.heap.size
  gone:ρ.gone < W.heap.size
  bo:∀ g,ρ.Bo g=true->g < W.heap.size
  sh:∀ g,m.Sh g->g≠ρ.Wg/\ρ.Bo g=false
  kp:∀ g,Kp g->W.heap[g]?=W0.heap[g]?/\(∃ c e f,W0.heap[g]?=some (.cells c e f))/\g≠ρ.Wg/\ρ.Bo g=false/\¬ m.Sh g/\lv.ownBlock≠some g/\∀ (j:Nat) (u:EK (Wk Ef Cs)),ws[j]?=some u->¬ u.own g
structure Kh (m:Mem Sg)(pg po:Nat)(Ju:List Value)(plans:List (List Ef)):Prop where
  len:Ju.length=plans.length
  few:plans.length<=1000
  cell:∀ σ W,m.Inv σ W->∀ (i:Nat) (cv:Value),Ju[i]?=some cv->W.cell? ⟨pg,po+i,none⟩=some cv
  calls:∀ (i:Nat) (cv:Value) (pl:List Ef),Ju[i]?=some cv->plans[i]?=some pl->∀ σ W,m.Inv σ W->Kj W cv pl
variable {D:Dr Ef Cs Sg}{m:Mem Sg}
variable {Fin:FE}{Ea:E5 Try.prog Fin}
variable {ρ:Rn}{ws:List (EK (Wk Ef Cs))}{W:World}{n bp bd br:Nat}{dv lv FC Gv wv u25 u26:Value}{ds:List Deferred}{K:List Item}{cs:List Frame}{σ:Sg}
theorem Ri {g:Nat}(h1:g≠ρ.Wg)(h2:ρ.Bo g=false)(h3:∀ (j:Nat) (u:EK (Wk Ef Cs)),ws[j]?=some u->¬ u.own g):(EX ρ ws) g=false/\(EX ρ ws).JJ g=false:=⟨Ij h1 h2,JK h3⟩
theorem Y0 {Kp:Nat->Prop}{W0:World}{plans:List (List Ef)}{R i pg po Fw:Nat}{Ju:List Value}{pl:List Ef}{OY:FuncId}{recv:Value}(hD:∀ b k,OV (J2 D m ρ b k) dv OY recv)(hdv:∃ t v,dv=.iface t v)(hcl:¬ ρ.SN)(hzi:ρ.zi=.int .i64 0)(hzg:ρ.zg=.agg #[])(hty:ρ.ty=link.tWg)(hbd:∀ σ W,m.Inv σ W->W.cell? ⟨bd,0,none⟩=some dv)(hR:R < 2 ^ 62)(hcap:n < 1000000)(hP:Kh m pg po Ju plans)(h:HI m ρ plans R ws σ lv Kp W0 W)(hi:ws.length=i)(hpl:plans[i]?=some pl){tm:Array Value}(hs:Sr bp bd br ρ.come ρ.gone ρ.Wg lv FC Gv (.slice (some ⟨pg,po,none⟩) plans.length Fw) u25 (.int .i64 i) tm)(hK:∀ ws' Jh W' a12 ZO tm',Sr bp bd br ρ.come ρ.gone ρ.Wg Jh a12 ZO (.slice (some ⟨pg,po,none⟩) plans.length Fw) u25 (.int .i64 i) tm'->HI m ρ plans R ws' σ Jh Kp W0 W'->ws'.length=i+1->JL (S0 Try.prog Fin Ea).L (.Ev (Eu D m) ρ ws' 0 false (n+1)) (G ((base 19).at ⟨tm',ds⟩ K) cs) W') :
    JL (S0 Try.prog Fin Ea).L (.Ev (Eu D m) ρ ws 0 false n) (G ((base 19).at ⟨tm,ds⟩ (.code (.seq zO (.seq jm (.seq iW (.seq gV (.seq ZJ WY))))) :: K)) cs) W:=by
  refine J0.low (Ea:=Ea) fun _ hlow=>?_;show JL (S0 Try.prog Fin Ea).L _ _ W;have hilt:i < plans.length:=(List.getElem?_eq_some_iff.1 hpl).1;obtain ⟨cv,hcv⟩:∃ cv,Ju[i]?=some cv:=⟨_,List.getElem?_eq_getElem (by rw [hP.len];exact hilt)⟩
  have O1:=hP.few;have hcA:=hP.calls i cv pl hcv hpl;obtain ⟨ca,cc,yR,_⟩:=hcA σ W h.inv;have hcell:=hP.cell σ W h.inv i cv hcv;have hlb:∀ g,lv.ownBlock=some g->g < W.heap.size:=fun g hg=>by obtain ⟨c,e,f,hc⟩:=Ma h.R8 hg;exact (zGE hc).1
  have MS:∀ g,m.Sh g->g < W.heap.size:=fun g hg=>by obtain ⟨c,e,f,hc⟩:=m.rows σ W g hg h.inv;exact (zGE hc).1
  rw [yR] at hcell;refine Ei ?_;refine xG hs hilt zOM hcell fun W1 U1 hs1 h11 hW1=>?_;have hz1:W1.heap.size=W.heap.size+1:=by rw [hW1];simp
  refine Ei ?_;refine pY hs1 h11 fun W2 sD hs2 hW2=>?_;have hz2:W2.heap.size=W.heap.size+4:=by rw [hW2];simp [hz1]
  have TY:∀ g,g < W.heap.size->W2.heap[g]?=W.heap[g]?:=fun g hg=>by rw [hW2,hW1];simp only [Array.getElem?_push,Array.size_push];rw [if_neg zOM,if_neg zOM,if_neg zOM,if_neg zOM]
  generalize hN:W.heap.size=N at *;rw [hz1] at hs2 hW2;have q0:W2.heap[N]?=some (.cells #[.slice ca pl.length cc] 54 (0,0)):=by rw [hW2,hW1];simp only [Array.getElem?_push,Array.size_push,hN];rw [if_neg zOM,if_neg zOM,if_neg zOM];rfl
  have q1:W2.heap[N+1]?=some (.chan 0 #[] false 0 0 false):=by
    rw [hW2];simp only [Array.getElem?_push,Array.size_push,hz1]
    simp
  have q2:W2.heap[N+1+1]?=some (.cells #[.int .i64 i,.bool true,.chan (some (N+1)),.chan (some ρ.come),.chan (some ρ.gone),.bool false,.int .i64 0,.int .i64 0,.int .i64 0,.slice none 0 0,.bool false,.bool false] 94 (0,0)):=by
    rw [hW2];simp only [Array.getElem?_push,Array.size_push,hz1]
    simp
  have q3:W2.heap[N+1+2]?=some (.cells #[.pointer (some ⟨N+1+1,0,none⟩)] 65 (0,0)):=by
    rw [hW2];simp only [Array.getElem?_push,Array.size_push,hz1]
    simp
  clear hW1 hW2;refine Ei ?_;refine qg hs2 (b:=N+1+1) (k:=i) (xs:=ws.map fun u=>.pointer (some ⟨u.b,0,none⟩)) (by simp [World.cell?,q3]) (by rw [← hi];exact IK h.R8 fun g hg=>.of (TY g (hlb g hg))) zOM fun Jh W3 tm3 hs3 hown3 Aam hlv3 hz3=>?_;refine Ei ?_;refine ni hty zOM hs3 fun tm4 hs4=>?_;have hk3:∀ g,g < N+4->lv.ownBlock≠some g->W3.heap[g]?=W2.heap[g]?:=fun g hg hne=>Aam g zOM hne;have hnew:∀ g,N<=g->lv.ownBlock≠some g:=fun g hg e=>by have:=hlb g e;omega
  have r0:=(hk3 N zOM (hnew N zOM)).trans q0;have r1:=(hk3 (N+1) zOM (hnew _ zOM)).trans q1;have r2:=(hk3 (N+1+1) zOM (hnew _ zOM)).trans q2;have r3:=(hk3 (N+1+2) zOM (hnew _ zOM)).trans q3;have hI3:m.Inv σ W3:=m.eq σ W W3 (fun g hg=>.of (by have h1:=MS g hg;rw [hk3 g zOM (fun e=>(h.ZQ g e).2.2.1 hg),TY g h1])) h.inv
  have hbo:∀ g,N<=g->ρ.Bo g=false:=fun g hg=>by
    cases e:ρ.Bo g with
    | false=>rfl
    | true=>have:=h.bo g e;omega
  have hwg:=h.wg;have hco:=h.come;have hgo:=h.gone;rw [hN] at hwg hco hgo;have Y2:∀ (j:Nat) (u:EK (Wk Ef Cs)),ws[j]?=some u->u.t < N/\∀ g,u.own g->g < N/\¬ m.Sh g:=fun j u hu=>by have:=h.lt j u hu;rw [hN] at this;exact this
  have QH:∀ g,g=N+1+1\/g=N+1+2\/g=N->(EX ρ ws) g=false/\(EX ρ ws).JJ g=false/\¬ m.Sh g:=fun g hg=>by
    have h1:=Ri (ρ:=ρ) (ws:=ws) (g:=g) zOM (hbo g zOM) fun j u hu ho=>by have:=((Y2 j u hu).2 g ho).1;omega
    exact ⟨h1.1,h1.2,fun hs=>by have:=MS g hs;omega⟩
  have rC:∀ g,m.Sh g->(EX ρ ws) g=false/\(EX ρ ws).JJ g=false:=fun g hg=>Ri (h.sh g hg).1 (h.sh g hg).2 fun j u hu ho=>((Y2 j u hu).2 g ho).2 hg;refine o9 hcl hzi (v:=⟨n,i,N+1+1,N+1,N+1+1,fun g=>g=N+1+1\/g=N+1+2\/g=N,{ k:=i,todo:=pl },W3,false,R⟩) (r:=R) (tgt:=({ k:=i,todo:=pl,over:=pl.isEmpty },σ,pl.isEmpty)) (bw:=N+1+2) (bc:=N) hs4 rfl hi.symm rfl (fun g hg=>⟨(QH g hg).2.2,by show g≠ρ.Wg;rcases hg with rfl | rfl | rfl <;> omega,hbo g (by rcases hg with rfl | rfl | rfl <;> omega),?_,fun j u hu ho=>?_⟩) ⟨.inl rfl,.inl rfl⟩ ⟨by show N+1≠_;omega,by show N+1≠_;omega,⟨0,r1⟩,fun j u hu=>by have:=(Y2 j u hu).1;show u.t≠N+1;omega⟩ (by show Fin.b0<=N+1;omega)
    (ZV (z:={ k:=i,todo:=pl }) (hD _ _) hdv hzi hzg hty hcA rfl hR r2 r3 (by rw [yR];exact r0) QH rC hI3 (hbd σ)) fun v' W' tm' hs' hG=>?_
  . rcases hg with rfl | rfl | rfl
    . exact ⟨_,_,_,r2⟩
    . exact ⟨_,_,_,r3⟩
    . exact ⟨_,_,_,r0⟩
  . have:=((Y2 j u hu).2 g ho).1;rcases hg with rfl|rfl|rfl <;> omega
  . refine J0.know (Ea:=Ea) fun hKn=>?_;have hsz:=hG.size;have lV:∀ g,Jh.ownBlock=some g->(lv.ownBlock=some g/\g < N)\/N+4<=g:=fun g hg=>by
      rcases hlv3 with e|⟨e,_⟩
      . rw [e] at hg;exact .inl ⟨hg,hlb g hg⟩
      . have:=e g hg;omega
    have yK:∀ g,Jh.ownBlock=some g->g < W3.heap.size:=fun g hg=>by obtain ⟨c,e,f,hc⟩:=Ma hown3 hg;exact (zGE hc).1
    have P9:∀ g,Jh.ownBlock=some g->g≠ρ.Wg/\ρ.Bo g=false/\¬ m.Sh g/\(∀ (j:Nat) (u:EK (Wk Ef Cs)),ws[j]?=some u->¬ u.own g):=fun g hg=>by
      rcases lV g hg with ⟨e,_⟩|e
      . exact h.ZQ g e
      . exact ⟨by omega,hbo g zOM,fun hs=>(by have:=MS g hs;omega),fun j u hu ho=>(by have:=((Y2 j u hu).2 g ho).1;omega)⟩
    have xW:∀ g,Jh.ownBlock=some g->¬ (g=N+1+1\/g=N+1+2\/g=N):=fun g hg hv=>by rcases lV g hg with ⟨_,e⟩|e <;> rcases hv with rfl|rfl|rfl <;> omega
    have happ:∀ (j:Nat) (u:EK (Wk Ef Cs)),(ws ++ [v'])[j]?=some u->ws[j]?=some u\/(j=i/\u=v'):=fun j u hu=>by
      rcases Po hu with ⟨_,hu⟩|⟨hj,rfl⟩
      . exact .inl hu
      . exact .inr ⟨hj.trans hi,rfl⟩
    refine hK (ws ++ [v']) Jh W' _ _ tm' hs' ?_ (by simp [hi]);exact {
            inv:=hG.inv
            xs:=fun j u hu=>by
              rcases happ j u hu with hu|⟨rfl,rfl⟩
              . exact h.xs j u hu
              . exact ⟨pl,hpl,hG.x,hG.over,hG.r,hG.k⟩
            R8:=by
              have e1:(ws ++ [v']).length=i+1:=by simp [hi]
              have e2:(ws ++ [v']).map (fun u=>Value.pointer (some ⟨u.b,0,none⟩))=ws.map (fun u=>Value.pointer (some ⟨u.b,0,none⟩)) ++ [.pointer (some ⟨N+1+1,0,none⟩)]:=by have:=hG.b;simp [this]
              rw [e1,e2];exact IK hown3 fun g hg=>.of (hG.block g (Ma hown3 hg) (Ij (P9 g hg).1 (P9 g hg).2.1) (xW g hg) (P9 g hg).2.2.1)
            ZQ:=fun g hg=>⟨(P9 g hg).1,(P9 g hg).2.1,(P9 g hg).2.2.1,fun j u hu ho=>by
              rcases happ j u hu with hu|⟨rfl,rfl⟩
              . exact (P9 g hg).2.2.2 j u hu ho
              . rcases hG.own g ho with ho | ho
                . exact xW g hg ho
                . have:=yK g hg;omega⟩
            lt:=fun j u hu=>by
              rcases happ j u hu with hu'|⟨rfl,rfl⟩
              . have h1:=Y2 j u hu';exact ⟨by omega,fun g hg=>⟨by have:=(h1.2 g hg).1;omega,(h1.2 g hg).2⟩⟩
              . refine ⟨by have:=hG.t;rw [this];show N+1 < _;omega,fun g hg=>?_⟩
                obtain ⟨a1,_,_,c,e,f,hc⟩:=hKn.own _ u hu g hg;exact ⟨(zGE hc).1,a1⟩
            wg:=by omega,come:=by omega,gone:=by omega
            bo:=fun g hg=>by have:=h.bo g hg;omega
            sh:=h.sh
            kp:=fun g hg=>by
              obtain ⟨k1,⟨c,e,f,k2⟩,k3,k4,k5,k6,k7⟩:=h.kp g hg;have hlt:g < N:=by rw [← hN];rw [← k1] at k2;exact (zGE k2).1
              have e3:W3.heap[g]?=W0.heap[g]?:=by rw [hk3 g zOM k6,TY g hlt,k1]
              refine ⟨?_,⟨c,e,f,k2⟩,k3,k4,k5,fun h2=>?_,fun j u hu ho=>?_⟩
              . rw [hG.block g ⟨c,e,f,by rw [e3];exact k2⟩ (Ij k3 k4) (by show ¬ (g=N+1+1\/g=N+1+2\/g=N);omega) k5,e3]
              . rcases lV g h2 with ⟨h3,_⟩ | h3
                . exact k6 h3
                . omega
              . rcases happ j u hu with hu | ⟨rfl,rfl⟩
                . exact k7 j u hu ho
                . rcases hG.own g ho with ho | ho
                  . have ho':g=N+1+1\/g=N+1+2\/g=N:=ho;omega
                  . omega }
end
end
section
section
variable {Cs Sg:Type}{D:Dr Ef Cs Sg}{m:Mem Sg}
variable {Fin:FE}{Ea:E5 Try.prog Fin}
variable {ρ:Rn}{ws:List (EK (Wk Ef Cs))}{W:World}{n bp bd br:Nat}{dv lv FC Gv wv u25 u26:Value}{ds:List Deferred}{K:List Item}{cs:List Frame}{σ:Sg}
theorem HI.alike {plans:List (List Ef)}{R:Nat}{W':World}{Kp:Nat->Prop}{W0:World}(h:HI m ρ plans R ws σ lv Kp W0 W)(hh:W'.heap=W.heap):HI m ρ plans R ws σ lv Kp W0 W':=
  { h with inv:=m.eq σ W W' (fun g _=>.of (by rw [hh])) h.inv
           R8:=IK h.R8 fun g _=>.of (by rw [hh])
           lt:=by rw [hh];exact h.lt
           wg:=by rw [hh];exact h.wg
           come:=by rw [hh];exact h.come
           gone:=by rw [hh];exact h.gone
           bo:=by rw [hh];exact h.bo
           kp:=by rw [hh];exact h.kp }
theorem X3 {Kp:Nat->Prop}{W0:World}{plans:List (List Ef)}{R pg po Fw n0:Nat}{Ju:List Value}{OY:FuncId}{recv:Value}(hD:∀ b k,OV (J2 D m ρ b k) dv OY recv)(hdv:∃ t v,dv=.iface t v)(hcl:¬ ρ.SN)(hzi:ρ.zi=.int .i64 0)(hzg:ρ.zg=.agg #[])(hty:ρ.ty=link.tWg)(hbd:∀ σ W,m.Inv σ W->W.cell? ⟨bd,0,none⟩=some dv)(hR:R < 2 ^ 62)(hcap:n0+plans.length < 1000000)(hP:Kh m pg po Ju plans)(hK:∀ ws' Jh W' a12 ZO a26 tm',Sr bp bd br ρ.come ρ.gone ρ.Wg Jh a12 ZO (.slice (some ⟨pg,po,none⟩) plans.length Fw) (.int .i64 plans.length) a26 tm'->HI m ρ plans R ws' σ Jh Kp W0 W'->ws'.length=plans.length->JL (S0 Try.prog Fin Ea).L (.Ev (Eu D m) ρ ws' 0 false (n0+plans.length)) (G ((base 19).at ⟨tm',ds⟩ K) cs) W') :
    ∀ (l:List (List Ef)) (ws:List (EK (Wk Ef Cs))) (lv FC Gv:Value) (W:World) (i:Nat) (tm:Array Value),plans.drop i=l->i<=plans.length->HI m ρ plans R ws σ lv Kp W0 W->ws.length=i->Sr bp bd br ρ.come ρ.gone ρ.Wg lv FC Gv (.slice (some ⟨pg,po,none⟩) plans.length Fw) (.int .i64 plans.length) (.int .i64 i) tm->
    JL (S0 Try.prog Fin Ea).L (.Ev (Eu D m) ρ ws 0 false (n0+i)) (G ((base 19).at ⟨tm,ds⟩ (.code QM :: .inLoop QM :: .inBlock 0 :: K)) cs) W:=by
  have O1:=hP.few;intro l;induction l with
  | nil=>
    intro ws lv FC Gv W i tm hl hil h hwl hs;have hge:plans.length<=i:=List.drop_eq_nil_iff.1 hl;obtain rfl:i=plans.length:=by omega
    rw [Ww];refine Ei ?_;refine kJ zOM zOM hs fun W1 U1 hs1 h27 hw1=>?_;rw [decide_eq_false zOM] at h27;refine Ei ?_;refine JL.Ey (Eh h27) ?_;refine JL.exit rfl ?_;exact hK ws lv W1 _ _ _ U1 hs1 (h.alike hw1) hwl
  | cons pl l ih=>
    intro ws lv FC Gv W i tm hl hil h hwl hs;have hlt:i < plans.length:=by
      rcases Nat.lt_or_ge i plans.length with h|h
      . exact h
      . rw [List.drop_eq_nil_of_le h] at hl;cases hl
    have hpl:plans[i]?=some pl:=by
      have:=congrArg (·[0]?) hl
      simpa using this
    have hl':plans.drop (i+1)=l:=by
      have:=congrArg List.tail hl
      simpa using this
    rw [Ww];refine Ei ?_;refine kJ zOM zOM hs fun W1 U1 hs1 h27 hw1=>?_;rw [decide_eq_true hlt] at h27;refine Ei ?_;refine JL.Fz (Eh h27) ?_;refine Er stepG_skip ?_;refine Ei ?_;refine Er stepG_block ?_;refine Y0 hD hdv hcl hzi hzg hty hbd hR zOM hP (h.alike hw1) hwl hpl hs1 fun ws' Jh W' a12 ZO tm' hs' h' pq=>?_;refine Er stepG_inBlock ?_;refine pF zOM hs' fun W2 sD hs2 hw2=>?_;refine Er stepG_inLoop ?_;rw [← Ww];exact ih ws' Jh a12 ZO W2 (i+1) sD hl' hlt (h'.alike hw2) pq hs2
end
end
end Go.Proofs.Yticecinjcajmcaa
namespace Go.Proofs.Yticecinjcajmcaa
open Go Go.RowKit BA
theorem aW {pg po Fw:Nat}{Ju:List Value}{ta ha:Option Addr}{tn tc hn hc:Nat}{u:Int}(w:World)(hcell:∀ i,i < Ju.length->∃ a n c,n<=64/\w.cell? ⟨pg,po+i,none⟩=some (.slice a n c))(h0:0 < Ju.length)(h8:Ju.length<=8)(hu:0<=u)(hu2:u<=20000) :
    CallsIn (Fence.list [19,29] none) 0 Try.prog 29 #[.agg #[.slice (some ⟨pg,po,none⟩) Ju.length Fw,.slice ta tn tc,.slice ha hn hc,.int .i64 u]] w fun e w'=>e=.returned (.int .i64 0)/\Below w.heap.size w w':=by
  have HC:=Lib.hid hcell;clear hcell;gi_enter Try.func29,Try.ntmps29
  obtain ⟨n,hn⟩:∃ n,Ju.length=n:=⟨_,rfl⟩
  rw [hn] at h0 h8 ⊢;have HN:=Lib.hid hn;clear hn;have g1:((n:Int) == 0)=false:=by simp;omega
  have g2:decide (8 < (n:Int))=false:=by simp;omega
  have g3:decide (u < 0)=false:=by simp;omega
  have g4:decide (20000 < u)=false:=by simp;omega
  gi_wp2;generalize hW:World.alloc w _=W1;have Y8:∀ i,i < Ju.length->∃ a n c,n<=64/\W1.cell? ⟨pg,po+i,none⟩=some (.slice a n c):=fun i hi=>by obtain ⟨a,q,c,hq,hcx⟩:=HC.out i hi;exact ⟨a,q,c,hq,by rw [← hW];exact Lib.cell?_alloc_some _ hcx⟩
  have HB:Below w.heap.size w W1:=by rw [← hW];exact (Below.refl _ w).alloc (Nat.le_refl _) _
  have zn:=Lib.hid Y8;have HB2:=Lib.hid HB;clear Y8 HB HC hW;gi_loop [28] (fun i=>∃ k:Nat,k<=n/\i=.int .i64 k) (fun i=>n - (intOf i).toNat)
  case atStart=>exact ⟨0,by omega,rfl⟩
  case round=>
    obtain ⟨k,hk,rfl⟩:=hrel;by_cases hlt:k < n
    . obtain ⟨a,q,c,hq,hcx⟩:=zn.out k (by rw [HN.out];exact hlt)
      gi_wp2;go_round
      case rel=>exact ⟨k+1,by omega,by go_num⟩
      case measure=>simp [intOf];omega
    . obtain rfl:k=n:=by omega
      gi_wp2;go_ret
      exact ⟨rfl,HB2.out⟩
end Go.Proofs.Yticecinjcajmcaa
namespace Go.Proofs.Yticecinjcajmcaa
open Go Go.Conc Go.LT Go.LC Go.LK Go.RowKit
open Go.ConcN (WgLive)
section
theorem Rv (w:World)(a b:Obj):((w.alloc a).alloc b).heap[w.heap.size+1]?=some b:=by
  have:=heap_alloc_new (w.alloc a) b
  simpa using this
theorem Rt (w:World)(a b c:Obj):(((w.alloc a).alloc b).alloc c).heap[w.heap.size+2]?=some c:=by
  have:=heap_alloc_new ((w.alloc a).alloc b) c
  simpa using this
theorem Uq:∀ g∈[29],@Lets (Host.only 19) Try.prog g:=fun g hg=>by obtain rfl:=List.mem_singleton.1 hg;exact ⟨by kernel_rfl,.inl ⟨_,_,Try.func29,by kernel_rfl,rfl,by kernel_rfl⟩⟩
section
variable {X Sg:Type}
variable {Fin:FE}{Ea:E5 Try.prog Fin}
variable {B:Nat->Bool}{W:World}{n:Nat}{c:Frame}{cs:List Frame}
theorem bP {pg po Fw:Nat}{Ju:List Value}{xa ya:Option Addr}{xn xc yn yc:Nat}{u:Int}{dt:TypeId}{dw:Value}(hcell:∀ i,i < Ju.length->∃ a n c,n<=64/\W.cell? ⟨pg,po+i,none⟩=some (.slice a n c))(h0:0 < Ju.length)(h8:Ju.length<=8)(hu:0<=u)(hu2:u<=20000)(hK:∀ W' tm',tm'=#[.agg #[.slice (some ⟨pg,po,none⟩) Ju.length Fw,.slice xa xn xc,.slice ya yn yc,.int .i64 u],.iface dt dw,.pointer (some ⟨W.heap.size,0,none⟩),.pointer (some ⟨W.heap.size+1,0,none⟩),.pointer (some ⟨W.heap.size+2,0,none⟩),.int .i64 0,.int .i64 0,undef,undef,undef,undef,undef,undef,undef,undef,.agg #[.slice (some ⟨pg,po,none⟩) Ju.length Fw,.slice xa xn xc,.slice ya yn yc,.int .i64 u],.int .i64 0,.int .i64 0,.bool false,undef,undef,undef,undef,undef,undef,undef,undef,undef,undef,undef,undef,undef,undef,undef,undef,undef,undef,undef,undef,undef,undef,undef,undef,undef,undef,undef,undef,undef,undef,undef,undef,undef,undef]->(∀ g,g < W.heap.size->W'.heap[g]?=W.heap[g]?)->W.heap.size+3<=W'.heap.size->
      W'.heap[W.heap.size]?=some (.cells #[.slice (some ⟨pg,po,none⟩) Ju.length Fw,.slice xa xn xc,.slice ya yn yc,.int .i64 u] 25 (0,0))->W'.heap[W.heap.size+1]?=some (.cells #[.iface dt dw] 59 (0,0))->
      W'.heap[W.heap.size+2]?=some (.cells #[.slice none 0 0,.slice none 0 0,.int .i64 0,.bool false] 31 (0,0))->
      JL (S0 (X:=X) (Sg:=Sg) Try.prog Fin Ea).L (.Gp B n) (G ((base 19).at ⟨tm',[]⟩ [.code (.seq wz (.seq wJ (.seq vZ (.seq (.seq wC (.block 0 (.loop QM))) Oi))))]) (c :: cs)) W') :
    JW (S0 (X:=X) (Sg:=Sg) Try.prog Fin Ea).base (.Gp B n) (G (Frame.enter Try.prog 19 #[.agg #[.slice (some ⟨pg,po,none⟩) Ju.length Fw,.slice xa xn xc,.slice ya yn yc,.int .i64 u],.iface dt dw] .normal) (c :: cs)) W:=by
  have ht:#[.agg #[.slice (some ⟨pg,po,none⟩) Ju.length Fw,.slice xa xn xc,.slice ya yn yc,.int .i64 u],.iface dt dw] ++ Array.replicate (Try.f19.ntmps - (#[.agg #[.slice (some ⟨pg,po,none⟩) Ju.length Fw,.slice xa xn xc,.slice ya yn yc,.int .i64 u],.iface dt dw]:Array Value).size) undef=#[.agg #[.slice (some ⟨pg,po,none⟩) Ju.length Fw,.slice xa xn xc,.slice ya yn yc,.int .i64 u],.iface dt dw,undef,undef,undef,undef,undef,undef,undef,undef,undef,undef,undef,undef,undef,undef,undef,undef,undef,undef,undef,undef,undef,undef,undef,undef,undef,undef,undef,undef,undef,undef,undef,undef,undef,undef,undef,undef,undef,undef,undef,undef,undef,undef,undef,undef,undef,undef,undef,undef,undef,undef,undef]:=by
    have:Try.f19.ntmps=53:=by kernel_rfl
    rw [this];walk_nrm
  rw [enter_at _ Try.func19 XP,ht];show JL (S0 (X:=X) (Sg:=Sg) Try.prog Fin Ea).L (.Gp B n) _ W;refine Ei ?_;refine EL.EJ (S:=S0 (X:=X) (Sg:=Sg) Try.prog Fin Ea) (b:=base 19) [] (by simp) zKR nE zKR fun W₁ ha=>?_;have hh:W₁.heap=W.heap:=by obtain ⟨τ,d,rfl⟩:=ha;rfl
  have HH:=Lib.hid (zAI hK (zAI hh hcell));clear hK hh hcell;simp only [rn0,Try.f19];gi_wp2;obtain ⟨hK,hh,hcell⟩:=HH.out;clear HH;generalize hW2:World.alloc _ _=W2;have q:∀ g,g < W.heap.size->W2.heap[g]?=W.heap[g]?:=fun g hg=>by rw [← hW2,← hh];rw [Below.heap_alloc _ _ _ (by simp;rw [hh];omega),Below.heap_alloc _ _ _ (by simp;rw [hh];omega),Below.heap_alloc _ _ _ (by rw [hh];omega)]
  have hz:W2.heap.size=W.heap.size+3:=by rw [← hW2];simp [hh]
  have q0:W2.heap[W.heap.size]?=some (.cells #[.slice (some ⟨pg,po,none⟩) Ju.length Fw,.slice xa xn xc,.slice ya yn yc,.int .i64 u] 25 (0,0)):=by rw [← hW2,← hh];rw [Below.heap_alloc _ _ _ (by simp;omega),Below.heap_alloc _ _ _ (by simp)];exact heap_alloc_new _ _
  have q1:W2.heap[W.heap.size+1]?=some (.cells #[.iface dt dw] 59 (0,0)):=by rw [← hW2,← hh];rw [Below.heap_alloc _ _ _ (by simp)];exact Rv _ _ _
  have q2:W2.heap[W.heap.size+2]?=some (.cells #[.slice none 0 0,.slice none 0 0,.int .i64 0,.bool false] 31 (0,0)):=by rw [← hW2,← hh];exact Rt _ _ _ _
  clear hW2;rw [hh];show JL (S0 (X:=X) (Sg:=Sg) Try.prog Fin Ea).L (.Gp B n) _ W2;try dsimp only
  refine Ei ?_;refine EL.EJ (S:=S0 (X:=X) (Sg:=Sg) Try.prog Fin Ea) (b:=base 19) [29] Uq zKR nE zKR fun W₃ LA=>?_;have hh3:W₃.heap=W2.heap:=by obtain ⟨τ,d,rfl⟩:=LA;rfl
  have Pw:∀ i,i < Ju.length->∃ a n c,n<=64/\W₃.cell? ⟨pg,po+i,none⟩=some (.slice a n c):=fun i hi=>by
    obtain ⟨a,q',c,hq,hx⟩:=hcell i hi;refine ⟨a,q',c,hq,?_⟩;have hlt:pg < W.heap.size:=by
      simp only [World.cell?] at hx;cases ho:W.heap[pg]? with
      | none=>rw [ho] at hx;cases hx
      | some o=>exact (zGE ho).1
    simp only [World.cell?,hh3,q pg hlt] at hx ⊢;exact hx
  have c0:W₃.cell? ⟨W.heap.size,0,none⟩=some (.slice (some ⟨pg,po,none⟩) Ju.length Fw):=by simp [World.cell?,hh3,q0]
  have c1:W₃.cell? ⟨W.heap.size,1,none⟩=some (.slice xa xn xc):=by simp [World.cell?,hh3,q0]
  have c2:W₃.cell? ⟨W.heap.size,2,none⟩=some (.slice ya yn yc):=by simp [World.cell?,hh3,q0]
  have c3:W₃.cell? ⟨W.heap.size,3,none⟩=some (.int .i64 u):=by simp [World.cell?,hh3,q0]
  have HH:=Lib.hid (zAI hK (zAI hh3 (zAI q (zAI hz (zAI q0 (zAI q1 q2))))));clear hK hh hh3 hcell q hz q0 q1 q2;have HC:=Lib.hid Pw;clear Pw;simp only [rn1,Try.f19];gi_wp2_with (gi_at_call 29;refine (aW _ HC.out h0 h8 hu hu2).mono ?_;rintro e w1 ⟨rfl,hB⟩)
  obtain ⟨hK,hh3,q,hz,q0,q1,q2⟩:=HH.out;clear HH;have hB':∀ g,g < W.heap.size+3->w1.heap[g]?=W2.heap[g]?:=fun g hg=>by rw [hB.block g (by rw [hh3,hz];exact hg),hh3]
  refine hK w1 _ rfl (fun g hg=>by rw [hB' g zOM,q g hg]) (by have:=hB.size;rw [hh3,hz] at this;exact this) (by rw [hB' _ zOM];exact q0) (by rw [hB' _ zOM];exact q1) (by rw [hB' _ zOM];exact q2)
end
end
section
theorem iJ:(Try.prog.info? 74).map (fun i=>(i.zero,i.size,i.bytes))=some (some (.agg #[]),0,0):=by kernel_rfl
theorem Uz (w:World):(Instr.makeChan 82 (.int .i64 0)).run Try.prog w=.ok (.chan (some w.heap.size)) (w.alloc (.chan 0 #[] false 0 0 false)):=by obtain ⟨i,hi,h0,h1,h2⟩:=info_parts iJ;exact run_makeChan (P:=Try.prog) (t:=82) (e:=74) (dir:=.both) (i:=i) (w:=w) zKR hi .i64 0 (by decide) (by simp)
section
variable {X Sg:Type}
variable {Fin:FE}{Ea:E5 Try.prog Fin}
variable {B:Nat->Bool}{W:World}{n:Nat}{K:List Item}{cs:List Frame}{ds:List Deferred}
variable {v0 v1 v2 v3 v4 v5 v6 v7 v8 v9 Aa Ab Ac Ae Af Ah Ai Aj Ak Al Am Ao Ap Ar Au Av Aw Ay Az AA AB AJ AL AO AP AQ AU AV AX AY AZ A8 A9 Ba Bb Bc Bf Bh Bj Bl Bp Bq Br:Value}
theorem uy (hK:∀ W' co go Dm Dn,(co=W.heap.size/\go=W.heap.size+1\/co=W.heap.size+1/\go=W.heap.size)->W'.heap=(W.heap.push (.chan 0 #[] false 0 0 false)).push (.chan 0 #[] false 0 0 false)->
      JL (S0 (X:=X) (Sg:=Sg) Try.prog Fin Ea).L (.Gp B n) (G ((base 19).at ⟨#[v0,v1,v2,v3,v4,v5,v6,.chan (some co),.chan (some go),v9,Aa,Ab,Ac,Ae,Af,Ah,Ai,Aj,Ak,Al,Am,Dm,Dn,Ar,Au,Av,Aw,Ay,Az,AA,AB,AJ,AL,AO,AP,AQ,AU,AV,AX,AY,AZ,A8,A9,Ba,Bb,Bc,Bf,Bh,Bj,Bl,Bp,Bq,Br],ds⟩ K) cs) W') :
    JL (S0 (X:=X) (Sg:=Sg) Try.prog Fin Ea).L (.Gp B n) (G ((base 19).at ⟨#[v0,v1,v2,v3,v4,v5,v6,v7,v8,v9,Aa,Ab,Ac,Ae,Af,Ah,Ai,Aj,Ak,Al,Am,Ao,Ap,Ar,Au,Av,Aw,Ay,Az,AA,AB,AJ,AL,AO,AP,AQ,AU,AV,AX,AY,AZ,A8,A9,Ba,Bb,Bc,Bf,Bh,Bj,Bl,Bp,Bq,Br],ds⟩ (.code wz :: K)) cs) W:=by
  refine EL.EJ (S:=S0 (X:=X) (Sg:=Sg) Try.prog Fin Ea) (b:=base 19) [] (by simp) zKR nE zKR fun W₁ ha=>?_;have hh:W₁.heap=W.heap:=by obtain ⟨τ,d,rfl⟩:=ha;rfl
  have hm1:=ND;have hm2:=Uz;have HH:=Lib.hid (zAI hK hh);clear hK hh;dsimp only;simp only [wz,Rq,Try.f19];gi_region
  . obtain ⟨hK,hh⟩:=HH.out;exact hK _ W₁.heap.size (W₁.heap.size+1) _ _ (.inl ⟨by rw [hh],by rw [hh]⟩) (by rw [← hh];rfl)
  . obtain ⟨hK,hh⟩:=HH.out;exact hK _ (W₁.heap.size+1) W₁.heap.size _ _ (.inr ⟨by rw [hh],by rw [hh]⟩) (by rw [← hh];rfl)
variable {M:Md X Sg}{ρ:Rn}
theorem um (VU:ρ.Bo=B)(V8:ρ.Wg=W.heap.size)(hty:ρ.ty=link.tWg)(hcg:ρ.come≠ρ.gone)(hco:∃ k,W.heap[ρ.come]?=some (.chan 0 #[] false k k false))(hgo:∃ k,W.heap[ρ.gone]?=some (.chan 0 #[] false k k false))(YO:∀ b,M.Sh b->b≠ρ.Wg/\ρ.Bo b=false)(hlow:Fin.b0<=ρ.come/\Fin.b0<=ρ.gone)(hK:∀ W',(∀ b,b < W.heap.size->W'.heap[b]?=W.heap[b]?)->W'.heap.size=W.heap.size+1->JL (S0 (X:=X) (Sg:=Sg) Try.prog Fin Ea).L (.Ev M ρ [] 0 false n) (G ((base 19).at ⟨#[v0,v1,v2,v3,v4,v5,v6,v7,v8,.pointer (some ⟨ρ.Wg,0,none⟩),Aa,Ab,Ac,Ae,Af,Ah,Ai,Aj,Ak,Al,Am,Ao,Ap,Ar,Au,Av,Aw,Ay,Az,AA,AB,AJ,AL,AO,AP,AQ,AU,AV,AX,AY,AZ,A8,A9,Ba,Bb,Bc,Bf,Bh,Bj,Bl,Bp,Bq,Br],ds⟩ K) cs) W') :
    JL (S0 (X:=X) (Sg:=Sg) Try.prog Fin Ea).L (.Gp B n) (G ((base 19).at ⟨#[v0,v1,v2,v3,v4,v5,v6,v7,v8,v9,Aa,Ab,Ac,Ae,Af,Ah,Ai,Aj,Ak,Al,Am,Ao,Ap,Ar,Au,Av,Aw,Ay,Az,AA,AB,AJ,AL,AO,AP,AQ,AU,AV,AX,AY,AZ,A8,A9,Ba,Bb,Bc,Bf,Bh,Bj,Bl,Bp,Bq,Br],ds⟩ (.code wJ :: K)) cs) W:=by
  have e5:∃ id ops,wJ=.region id ops false/\ops.size=1/\(∃ p af ty,ops[0]?=some ⟨some 9,.alloc 89,ty,p,af,none⟩):=⟨_,_,rfl,rfl,_,_,_,rfl⟩
  obtain ⟨id,ops,e5,hsz,p,af,ty,h0⟩:=e5;rw [e5];refine JL.region (l:=[0]) (by rw [hsz];rfl) fun _ hkk=>?_;cases hkk;refine J0.begin (Ea:=Ea) (g':=G ((base 19).at ⟨#[v0,v1,v2,v3,v4,v5,v6,v7,v8,.pointer (some ⟨ρ.Wg,0,none⟩),Aa,Ab,Ac,Ae,Af,Ah,Ai,Aj,Ak,Al,Am,Ao,Ap,Ar,Au,Av,Aw,Ay,Az,AA,AB,AJ,AL,AO,AP,AQ,AU,AV,AX,AY,AZ,A8,A9,Ba,Bb,Bc,Bf,Bh,Bj,Bl,Bp,Bq,Br],ds⟩ (.inRegion ops [] :: K)) cs) VU V8 rfl (fun w hw=>?_) hcg hco hgo YO hlow fun W' h1 h2=>?_
  . rw [stepG_value (v:=.pointer (some ⟨w.heap.size,0,none⟩)) (w':=w.alloc (.cells #[.int .u64 0,.int .u32 0] 89 (0,0))) h0 rfl nE (by unfold execOp;go_simp),listed_none (by unfold execOp;simp [go_sem])]
    rw [hw,hty];rfl
  . show JL (S0 (X:=X) (Sg:=Sg) Try.prog Fin Ea).L _ _ W';refine Er stepG_region_end ?_;exact hK W' h1 h2
end
end
section
def QI {Sg:Type}(m:Mem Sg)(bd:Nat)(dv:Value):Mem Sg where
  Sh g:=m.Sh g\/g=bd
  Inv σ W:=m.Inv σ W/\W.heap[bd]?=some (.cells #[dv] 59 (0,0))
  rows:=fun σ W g hg h=>by
    rcases hg with hg|rfl
    . exact m.rows σ W g hg h.1
    . exact ⟨_,_,_,h.2⟩
  eq:=fun σ W W' he h=>⟨m.eq σ W W' (fun g hg=>he g (.inl hg)) h.1,(he bd (.inr rfl)).cells h.2⟩
section
variable {Cs Sg:Type}{D:Dr Ef Cs Sg}{m:Mem Sg}
variable {Fin:FE}{Ea:E5 Try.prog Fin}
variable {B:Nat->Bool}{W:World}{n:Nat}{K:List Item}{cs:List Frame}{ds:List Deferred}{σ:Sg}{dv:Value}
variable {v0 v1 v2 v3 v4 v5 v6 v7 v8 v9 Aa Ab Ac Ae Af Ah Ai Aj Ak Al Am Ao Ap Ar Au Av Aw Ay Az AA AB AJ AL AO AP AQ AU AV AX AY AZ A8 A9 Ba Bb Bc Bf Bh Bj Bl Bp Bq Br:Value}{M:Md (Wk Ef Cs) Sg}{ρ:Rn}{ws:List (EK (Wk Ef Cs))}{bp bd br:Nat}
theorem YU {pg po:Nat}{Ju:List Value}{plans:List (List Ef)}(h:Kh m pg po Ju plans):Kh (QI m bd dv) pg po Ju plans:=
  ⟨h.len,h.few,fun σ W hI=>h.cell σ W hI.1,fun i cv pl h1 h2 σ W hI=>h.calls i cv pl h1 h2 σ W hI.1⟩
theorem aQ {W:World}(h:(QI m bd dv).Inv σ W):W.cell? ⟨bd,0,none⟩=some dv:=by have:=h.2;simp [World.cell?,this]
theorem yQ (hK:∀ W',W'.heap=W.heap->JL (S0 Try.prog Fin Ea).L (.Ev M ρ ws 0 false n) (G ((base 19).at ⟨#[v0,v1,v2,v3,v4,v5,v6,v7,v8,v9,.slice none 0 0,Ab,Ac,Ae,Af,Ah,Ai,Aj,Ak,Al,Am,Ao,Ap,Ar,Au,Av,Aw,Ay,Az,AA,AB,AJ,AL,AO,AP,AQ,AU,AV,AX,AY,AZ,A8,A9,Ba,Bb,Bc,Bf,Bh,Bj,Bl,Bp,Bq,Br],ds⟩ K) cs) W') :
    JL (S0 Try.prog Fin Ea).L (.Ev M ρ ws 0 false n) (G ((base 19).at ⟨#[v0,v1,v2,v3,v4,v5,v6,v7,v8,v9,Aa,Ab,Ac,Ae,Af,Ah,Ai,Aj,Ak,Al,Am,Ao,Ap,Ar,Au,Av,Aw,Ay,Az,AA,AB,AJ,AL,AO,AP,AQ,AU,AV,AX,AY,AZ,A8,A9,Ba,Bb,Bc,Bf,Bh,Bj,Bl,Bp,Bq,Br],ds⟩ (.code vZ :: K)) cs) W:=by
  refine EL.EJ (S:=S0 Try.prog Fin Ea) (b:=base 19) [] (by simp) zKR nE zKR fun W₁ ha=>?_;have hh:W₁.heap=W.heap:=by obtain ⟨τ,d,rfl⟩:=ha;rfl
  have HH:=Lib.hid (zAI hK hh);clear hK hh;dsimp only;simp only [vZ,Rq,Try.f19];gi_wp2;obtain ⟨hK,hh⟩:=HH.out;exact hK W₁ hh
theorem sS {pg po pn Fw:Nat}(h2:W.cell? ⟨bp,0,none⟩=some (.slice (some ⟨pg,po,none⟩) pn Fw))(hv2:v2=.pointer (some ⟨bp,0,none⟩))(hK:∀ W' Dp Dq Dt Du,W'.heap=W.heap->Dq=.slice (some ⟨pg,po,none⟩) pn Fw->Dt=.int .i64 pn->Du=.int .i64 0->
      JL (S0 Try.prog Fin Ea).L (.Ev M ρ ws 0 false n) (G ((base 19).at ⟨#[v0,v1,v2,v3,v4,v5,v6,v7,v8,v9,Aa,Ab,Ac,Ae,Af,Ah,Ai,Aj,Ak,Al,Am,Ao,Ap,Dp,Dq,Dt,Du,Ay,Az,AA,AB,AJ,AL,AO,AP,AQ,AU,AV,AX,AY,AZ,A8,A9,Ba,Bb,Bc,Bf,Bh,Bj,Bl,Bp,Bq,Br],ds⟩ K) cs) W') :
    JL (S0 Try.prog Fin Ea).L (.Ev M ρ ws 0 false n) (G ((base 19).at ⟨#[v0,v1,v2,v3,v4,v5,v6,v7,v8,v9,Aa,Ab,Ac,Ae,Af,Ah,Ai,Aj,Ak,Al,Am,Ao,Ap,Ar,Au,Av,Aw,Ay,Az,AA,AB,AJ,AL,AO,AP,AQ,AU,AV,AX,AY,AZ,A8,A9,Ba,Bb,Bc,Bf,Bh,Bj,Bl,Bp,Bq,Br],ds⟩ (.code wC :: K)) cs) W:=by
  subst hv2;refine EL.EJ (S:=S0 Try.prog Fin Ea) (b:=base 19) [] (by simp) zKR nE zKR fun W₃ LA=>?_;have hh3:W₃.heap=W.heap:=by obtain ⟨τ,d,rfl⟩:=LA;rfl
  have c0:W₃.cell? ⟨bp,0,none⟩=some (.slice (some ⟨pg,po,none⟩) pn Fw):=by simp only [World.cell?,hh3] at h2 ⊢;exact h2
  have HH:=Lib.hid (zAI hK hh3);clear hK h2 hh3;dsimp only;simp only [wC,Rq,Try.f19];gi_wp2;obtain ⟨hK,hh3⟩:=HH.out;exact hK W₃ _ _ _ _ hh3 rfl rfl rfl
theorem jX {plans:List (List Ef)}{R pg po Fw:Nat}{Ju:List Value}{OY:FuncId}{recv:Value}{Kp:Nat->Prop}(hD:∀ ρ b k,OV (J2 D m ρ b k) dv OY recv)(hdv:∃ t v,dv=.iface t v)(hbd:∀ σ W,m.Inv σ W->W.cell? ⟨bd,0,none⟩=some dv)(hR:R < 2 ^ 62)(hcap:n+plans.length < 1000000)(hP:Kh m pg po Ju plans)(hI:m.Inv σ W)(hB:∀ g,B g=true->g < W.heap.size)(zA:∀ g,m.Sh g->B g=false)(Gi:∀ g,Kp g->(∃ c e f,W.heap[g]?=some (.cells c e f))/\B g=false/\¬ m.Sh g)(h2:W.cell? ⟨bp,0,none⟩=some (.slice (some ⟨pg,po,none⟩) plans.length Fw))(hv2:v2=.pointer (some ⟨bp,0,none⟩))(hv3:v3=.pointer (some ⟨bd,0,none⟩))(hv4:v4=.pointer (some ⟨br,0,none⟩))(hK:∀ (ρ:Rn) ws' Jh W' a12 ZO a26 tm',ρ.ty=link.tWg->ρ.zi=.int .i64 0->ρ.zg=.agg #[]->ρ.shut->¬ ρ.SN->ρ.Bo=B->W.heap.size<=ρ.Wg->W.heap.size<=ρ.gone->Sr bp bd br ρ.come ρ.gone ρ.Wg Jh a12 ZO (.slice (some ⟨pg,po,none⟩) plans.length Fw) (.int .i64 plans.length) a26 tm'->HI m ρ plans R ws' σ Jh Kp W W'->ws'.length=plans.length->JL (S0 Try.prog Fin Ea).L (.Ev (Eu D m) ρ ws' 0 false (n+plans.length)) (G ((base 19).at ⟨tm',ds⟩ (.code Oi :: K)) cs) W') :
    JL (S0 (X:=Wk Ef Cs) (Sg:=Sg) Try.prog Fin Ea).L (.Gp B n) (G ((base 19).at ⟨#[v0,v1,v2,v3,v4,v5,v6,v7,v8,v9,Aa,Ab,Ac,Ae,Af,Ah,Ai,Aj,Ak,Al,Am,Ao,Ap,Ar,Au,Av,Aw,Ay,Az,AA,AB,AJ,AL,AO,AP,AQ,AU,AV,AX,AY,AZ,A8,A9,Ba,Bb,Bc,Bf,Bh,Bj,Bl,Bp,Bq,Br],ds⟩ (.code (.seq wz (.seq wJ (.seq vZ (.seq (.seq wC (.block 0 (.loop QM))) Oi)))) :: K)) cs) W:=by
  refine J0.Abx (Ea:=Ea) fun hlow=>?_;show JL (S0 (X:=Wk Ef Cs) (Sg:=Sg) Try.prog Fin Ea).L _ _ W;have MS:∀ g,m.Sh g->g < W.heap.size:=fun g hg=>by obtain ⟨c,e,f,hc⟩:=m.rows σ W g hg hI;exact (zGE hc).1
  have hbp:bp < W.heap.size:=by
    simp only [World.cell?] at h2;cases ho:W.heap[bp]? with
    | none=>rw [ho] at h2;cases h2
    | some o=>exact (zGE ho).1
  refine Ei ?_;refine uy fun W1 co go Dm Dn hcg hW1=>?_;have hz1:W1.heap.size=W.heap.size+2:=by rw [hW1];simp
  have vB:∀ g,g < W.heap.size->W1.heap[g]?=W.heap[g]?:=fun g hg=>by rw [hW1];simp only [Array.getElem?_push,Array.size_push];rw [if_neg zOM,if_neg zOM]
  have hch:∀ g,g=W.heap.size\/g=W.heap.size+1->∃ k,W1.heap[g]?=some (.chan 0 #[] false k k false):=fun g hg=>⟨0,by
    rw [hW1];rcases hg with rfl|rfl
    . simp only [Array.getElem?_push,Array.size_push];rw [if_neg zOM];simp
    . simp only [Array.getElem?_push,Array.size_push];simp⟩
  clear hW1;refine Ei ?_;refine um (M:=Eu D m) (ρ:={ ty:=link.tWg,Wg:=W1.heap.size,come:=co,gone:=go,zi:=.int .i64 0,zg:=.agg #[],Bo:=B,shut:=True,SN:=False }) rfl rfl rfl (by show co≠go;omega) (hch co zOM) (hch go zOM) (fun g hg=>⟨by show g≠W1.heap.size;have:=MS g hg;omega,zA g hg⟩) ⟨by show Fin.b0<=co;omega,by show Fin.b0<=go;omega⟩ fun W2 TY hz2=>?_;have hold:∀ g,g < W.heap.size->W2.heap[g]?=W.heap[g]?:=fun g hg=>by rw [TY g zOM,vB g hg]
  generalize hρ:({ ty:=link.tWg,Wg:=W1.heap.size,come:=co,gone:=go,zi:=.int .i64 0,zg:=.agg #[],Bo:=B,shut:=True,SN:=False }:Rn)=ρ;have q1:ρ.ty=link.tWg:=by rw [← hρ]
  have q2:ρ.zi=.int .i64 0:=by rw [← hρ]
  have q3:ρ.zg=.agg #[]:=by rw [← hρ]
  have q4:ρ.shut:=by rw [← hρ];exact trivial
  have q5:¬ ρ.SN:=by rw [← hρ];exact id
  have q6:ρ.Bo=B:=by rw [← hρ]
  have q7:ρ.Wg=W1.heap.size:=by rw [← hρ]
  have q8:ρ.come=co:=by rw [← hρ]
  have q9:ρ.gone=go:=by rw [← hρ]
  rw [← q8,← q9];refine Ei ?_;refine yQ fun W3 hW3=>?_;refine Ei ?_;refine Ei ?_;have hb2:W3.cell? ⟨bp,0,none⟩=some (.slice (some ⟨pg,po,none⟩) plans.length Fw):=by simp only [World.cell?,hW3,hold bp hbp] at h2 ⊢;exact h2
  refine sS hb2 hv2 fun W4 Dp Dq Dt Du XT e24 e25 e26=>?_;refine Er stepG_block ?_;refine Er stepG_loop ?_;have Ze:W4.heap=W2.heap:=XT.trans hW3;have HI0:HI (Cs:=Cs) m ρ plans R [] σ (.slice none 0 0) Kp W W4:=
    {
      inv:=m.eq σ W W4 (fun g hg=>.of (by rw [Ze];exact hold g (MS g hg))) hI
      xs:=fun j u hu=>by simp at hu
      R8:=⟨0,rfl,.inl ⟨rfl,rfl⟩⟩
      ZQ:=fun g hg=>by cases hg
      lt:=fun j u hu=>by simp at hu
      wg:=by rw [Ze,q7];omega
      come:=by rw [Ze,q8];omega
      gone:=by rw [Ze,q9];omega
      bo:=fun g hg=>by rw [q6] at hg;have:=hB g hg;rw [Ze];omega
      sh:=fun g hg=>⟨by rw [q7];have:=MS g hg;omega,by rw [q6];exact zA g hg⟩
      kp:=fun g hg=>by obtain ⟨⟨c,e,f,h⟩,h3,h4⟩:=Gi g hg;have hlt:=(zGE h).1;exact ⟨by rw [Ze];exact hold g hlt,⟨c,e,f,h⟩,by rw [q7];omega,by rw [q6];exact h3,h4,(by intro h;cases h),fun j u hu=>by simp at hu⟩ }
  subst hv2 hv3 hv4 e24 e25 e26;refine X3 (n0:=n) (hD ρ) hdv q5 q2 q3 q1 hbd hR hcap hP (fun ws' Jh W' a12 ZO a26 tm' hs' h' hl'=>hK ρ ws' Jh W' a12 ZO a26 tm' q1 q2 q3 q4 q5 q6 (by rw [q7];omega) (by rw [q9];omega) hs' h' hl') plans [] (.slice none 0 0) Ac Ae W4 0 _ rfl (Nat.zero_le _) HI0 rfl ⟨_,_,_,_,_,_,_,_,_,_,_,_,_,_,Dp,_,_,_,_,_,_,_,_,_,_,_,_,_,_,_,_,_,_,_,_,_,_,_,_,_,_,rfl⟩
end
end
section
def qp:Code:=match Oi with | .seq c _=>c | _=>.skip
def mM:Code:=match Oi with | .seq _ (.seq c _)=>c | _=>.skip
def qK:Code:=match Oi with | .seq _ (.seq _ (.seq c _))=>c | _=>.skip
def Zz:Code:=match Oi with | .seq _ (.seq _ (.seq _ c))=>c | _=>.skip
theorem jk:Oi=.seq qp (.seq mM (.seq qK Zz)):=rfl
section
variable {X Sg:Type}
variable {Fin:FE}{Ea:E5 Try.prog Fin}
variable {W:World}{n:Nat}{K:List Item}{cs:List Frame}{ds:List Deferred}{M:Md X Sg}{ρ:Rn}{ws:List (EK X)}
variable {v0 v1 v2 v3 v4 v5 v6 v7 Aa Ab Ac Ae Af Ah Ai Aj Ak Al Am Ao Ap Ar Au Av Aw Ay Az AA AB AJ AL AO AP AQ AU AV AX AY AZ A8 A9 Ba Bb Bc Bf Bh Bj Bl Bp Bq Br:Value}
theorem ZE (hsh:ρ.shut)(hcl:¬ ρ.SN)(hK:∀ W' DZ D5,Tw ρ ws W W'->JL (S0 (X:=X) (Sg:=Sg) Try.prog Fin Ea).L (.Gp (fun b=>ρ.Bo b || b == ρ.Wg) n) (G ((base 19).at ⟨#[v0,v1,v2,v3,v4,v5,v6,v7,.chan (some ρ.gone),.pointer (some ⟨ρ.Wg,0,none⟩),Aa,Ab,Ac,Ae,Af,Ah,Ai,Aj,Ak,Al,Am,Ao,Ap,Ar,Au,Av,Aw,Ay,Az,AA,AB,AJ,AL,AO,AP,AQ,AU,AV,AX,AY,AZ,A8,A9,Ba,Bb,Bc,Bf,Bh,Bj,Bl,DZ,D5,Br],ds⟩ (.code Zz :: K)) cs) W') :
    JL (S0 (X:=X) (Sg:=Sg) Try.prog Fin Ea).L (.Ev M ρ ws 0 false n) (G ((base 19).at ⟨#[v0,v1,v2,v3,v4,v5,v6,v7,.chan (some ρ.gone),.pointer (some ⟨ρ.Wg,0,none⟩),Aa,Ab,Ac,Ae,Af,Ah,Ai,Aj,Ak,Al,Am,Ao,Ap,Ar,Au,Av,Aw,Ay,Az,AA,AB,AJ,AL,AO,AP,AQ,AU,AV,AX,AY,AZ,A8,A9,Ba,Bb,Bc,Bf,Bh,Bj,Bl,Bp,Bq,Br],ds⟩ (.code (.seq mM (.seq qK Zz)) :: K)) cs) W:=by
  refine Ei ?_;dsimp only;simp only [mM,Oi,Rq,Try.f19];refine EH fun _ hkk=>?_
  (refine Eo ?_;walk_nrm)
  refine J0.shut (Ea:=Ea) hsh hcl rfl (by simp [mayWake,G,Frame.at]) rfl (fun w k hk=>stepG_close rfl rfl nE rfl rfl hk zKR) (Qi.of (Stop:=Qd (S0 (X:=X) (Sg:=Sg) Try.prog Fin Ea).L (.Gp (fun b=>ρ.Bo b || b == ρ.Wg) n) (Tw ρ ws W)) fun W1=>?_);walk_nrm;refine EB ?_;cases hkk;refine Ei ?_;simp only [qK,Oi,Rq,Try.f19];refine EH fun _ hkk=>?_;refine JT.Zw (L:=link) dF rfl rfl nE rfl rfl fun W2 hT=>?_;walk_nrm;refine EB ?_;cases hkk;exact hK W2 _ _ hT
end
end
end Go.Proofs.Yticecinjcajmcaa
namespace Go.Proofs.Yticecinjcajmcaa
open Go.RowKit BA TU

theorem QA:(Try.prog.info? 3).map (fun i=>(i.zero,i.size,i.bytes))=some (some (.int .i64 0),1,8):=by kernel_rfl
def SB (w:World)(T b:Nat)(lv:Value)(left:List Int)(last:Int):Prop:=
  w.heap[b]?=some (.cells #[lv,.int .i64 last] T (0,0))/\Reads w lv (left.map (Value.int .i64))/\lv.ownBlock≠some b
theorem SB.drew {w:World}{T b:Nat}{lv:Value}{left:List Int}{last:Int}(h:SB w T b lv left last):SB w.drew T b lv left last:=⟨h.1,h.2.1.drew,h.2.2⟩
theorem P5 {w:World}{l:List Bool}{b o k:Nat}(hb:∀ i u,(bools l)[i]?=some u->w.cell? ⟨b,o+i,none⟩=some u)(hk:k < l.length):w.cell? ⟨b,o+k,none⟩=some (.bool (l.getD k false)):=by apply hb;simp [bools,hk]
structure QW (w wr:World)(N ob:Nat)(l:List Bool)(v:Value)(k:Nat):Prop where
  own:Fa wr (N+1) 1 v (II l k).length ((II l k).map fun (j:Nat)=>Value.int .i64 (j:Int))
  below:Below N w wr
  big:N+1<=wr.heap.size
  box:wr.heap[N]?=some (.cells #[.pointer (some ⟨ob,0,none⟩)] 124 (0,0))
  blk:∀ g,v.ownBlock=some g->N+1<=g
theorem QW.hit {w wr w1:World}{N ob:Nat}{l:List Bool}{v v':Value}{k:Nat}{Ua:Obj}(h:QW w wr N ob l v k)(hk:l.getD k false=true)(h1:Fa w1 (N+1) 1 v' ((II l k).length+1) ((II l k).map (fun (j:Nat)=>Value.int .i64 (j:Int)) ++ [.int .i64 k]))(h2:(wr.alloc Ua).grownBy w1 v.ownBlock)(h3:v'.ownBlock=v.ownBlock\/v'.ownBlock=none\/∃ j,v'.ownBlock=some j/\wr.heap.size+1<=j):QW w w1 N ob l v' (k+1):=by
  have hb:=h.big;have hs:=h2.size;simp at hs;refine ⟨?_,?_,by omega,?_,?_⟩
  . rw [X4 l k hk];simpa using h1
  . exact (h.below.alloc zOM _).grown h2 (by simp;omega) (fun g hg=>by have:=h.blk g hg;omega)
  . rw [h2.block N (by simp;omega) (fun e=>by have:=h.blk N e.symm;omega),Below.heap_alloc _ _ _ zOM];exact h.box
  . intro g hg;rcases h3 with h3|h3|⟨j,h3,h4⟩
    . exact h.blk g (h3 ▸ hg)
    . rw [h3] at hg;cases hg
    . rw [h3] at hg;cases hg;omega
theorem QW.miss {w wr:World}{N ob:Nat}{l:List Bool}{v:Value}{k:Nat}(h:QW w wr N ob l v k)(hk:l.getD k false=false):QW w wr N ob l v (k+1):=
  ⟨by rw [Vv l k hk];exact h.own,h.below,h.big,h.box,h.blk⟩
theorem QW.done {w wr:World}{N ob:Nat}{l:List Bool}{v:Value}(h:QW w wr N ob l v l.length) :
    (LB l=[]/\∃ ao c,v=.slice ao 0 c)\/
    (∃ rb ro rc,v=.slice (some ⟨rb,ro,none⟩) (LB l).length rc/\0 < (LB l).length/\(LB l).length<=rc/\N+1<=rb/\∀ j,j < (LB l).length->wr.cell? ⟨rb,ro+j,none⟩=some (.int .i64 ((LB l).getD j 0:Nat))):=by
  have hR:=h.own.reads;rw [show II l l.length=LB l from rfl] at hR;rcases hR with ⟨hnil,ao,cc,hv,_,_⟩|⟨hne,rb,ro,rc,hv,hr1,hr2,hr3⟩
  . exact .inl ⟨by simpa using hnil,ao,cc,hv⟩
  . simp only [List.length_map] at hv hr1;refine .inr ⟨rb,ro,rc,hv,?_,hr1,h.blk rb (by rw [hv];rfl),fun j hj=>hr3 j _ (by simp [hj])⟩;have:LB l≠[]:=by simpa using hne
    exact List.length_pos_iff.2 this
theorem VX {w:World}{lb lo lc:Nat}{t:Int}{rest:List Int}(h1:rest.length+1<=lc)(h2:lc<=maxLen)(h:∀ i u,(List.map (Value.int .i64) (t :: rest))[i]?=some u->w.cell? ⟨lb,lo+i,none⟩=some u) :
    Reads w (.slice (if lc=1 then some ⟨lb,lo,none⟩ else some ⟨lb,lo+1,none⟩) rest.length (lc - 1)) (rest.map (Value.int .i64)):=by
  by_cases hr:rest=[]
  . subst hr;exact .inl ⟨rfl,_,_,rfl,by omega,fun h=>by split at h <;> cases h⟩
  . have hp:=List.length_pos_iff.2 hr;refine .inr ⟨by simpa using hr,lb,lo+1,lc - 1,by rw [if_neg zOM];simp,by simp;omega,by omega,fun i u hu=>?_⟩;have:=h (i+1) u (by simpa using hu);rw [show lo+1+i=lo+(i+1) by omega];exact this
end Go.Proofs.Yticecinjcajmcaa
end
