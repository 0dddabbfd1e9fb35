/-
  Part 10 of the proof that CellOrders is true of every input of bulk at most 1048576.
-/
import Derived.Test.YtdkfdedgfilhbaaQ09
set_option linter.unusedVariables false
set_option linter.unusedSectionVars false
set_option linter.unusedSimpArgs false
set_option maxHeartbeats 2000000
noncomputable section
namespace Go.Proofs.Ytdkfdedgfilhbaa
open Go Go.Conc Go.LT Go.LC Go.LK Go.RowKit
open Go.ConcN (WgLive)
section
def Gh:Array Oper:=match p13 with | .region _ ops _=>ops | _=>#[]
theorem uY:p13=.region 13 Gh true:=by simp only[Gh,p13,aP,UO,Uf,Try.f30]
def Ir(o:Oper):List Nat:=(o.after.toList.filter (Region.binds .any)).map (·.on)
theorem Tc{o:Oper}{l:Array Bool}{i:Nat}(h:i∈Ir o)(hl:∀e∈o.after,Region.binds .any e=true->l[e.on]?=some true):l[i]?=some true:=by obtain⟨e,he,rfl⟩:=List.mem_map.1 h;rw[List.mem_filter]at he;exact hl e (Array.mem_toList_iff.1 he.1) he.2
theorem xW:(Gh[4]?).map Ir=some [3]:=by kernel_rfl
theorem Wu:(Gh[7]?).map Ir=some [4,6]:=by kernel_rfl
theorem yu:(Gh[8]?).map Ir=some [0,0,1,2,3,4,5,6,7]:=by kernel_rfl
theorem pX:(Gh[9]?).map Ir=some [8,0,1,2,3,4,5,6,7]:=by kernel_rfl
theorem pG:(Gh[6]?).map Ir=some [5]:=by kernel_rfl
theorem oV:(Gh[10]?).map (fun o=>(Ir o).take 2)=some [9,7]:=by kernel_rfl
theorem Ac4(i:Nat)(o:Oper)(ho:Gh[i]?=some o):∀e∈o.after,e.on<i:=by
 have h:(Gh.toList.zipIdx.all fun x=>x.1.after.all fun e=>decide (e.on<x.2))=true:=by kernel_rfl
 rw[List.all_eq_true]at h;have h1:=h (o,i) (by rw[List.mem_zipIdx_iff_getElem?];simpa using ho);simp only[Array.all_eq_true']at h1;exact fun e he=>of_decide_eq_true (h1 e he)
def Dc(w0 w1 w2 w3:World)(l:Array Bool):World:=if l[10]?=some true then w3 else if l[7]?=some true then w2 else if l[6]?=some true then w1 else w0
structure R13(tm:Array Value)(vs:List Value)(w0 w1 w2 w3:World)(l:Array Bool)(a:Act)(w:World):Prop where
 ds:a.defers=[]
 size:a.tmps.size=81
 low:∀s,s<63->a.tmps[s]?=tm[s]?
 val:∀j v,l[j]?=some true->vs[j]?=some v->a.tmps[63+j]?=some v
 wo:w=Dc w0 w1 w2 w3 l
theorem R13.put{tm:Array Value}{vs:List Value}{w0 w1 w2 w3:World}{l:Array Bool}{a:Act}{w:World}(h:R13 tm vs w0 w1 w2 w3 l a w){i:Nat}{v:Value}{w':World}(hi:i<10)(hv:vs[i]?=some v)(hl:l.size=11)(hw:w'=Dc w0 w1 w2 w3 (l.setIfInBounds i true)):R13 tm vs w0 w1 w2 w3 (l.setIfInBounds i true) (a.put (some (63+i)) v) w':=by
 refine⟨h.ds,by simp[Act.put,h.size],fun s hs=>?_,fun j u hj hu=>?_,hw⟩
 . show(a.tmps.setIfInBounds (63+i) v)[s]?=_;rw[Array.getElem?_setIfInBounds_ne zOM];exact h.low s hs
 . show(a.tmps.setIfInBounds (63+i) v)[63+j]?=_;by_cases e:i=j
   . subst e;rw[Array.getElem?_setIfInBounds_self_of_lt (by rw[h.size];omega)];rw[hv]at hu;exact hu
   . rw[Array.getElem?_setIfInBounds_ne zOM];rw[Array.getElem?_setIfInBounds_ne e]at hj;exact h.val j u hj hu
theorem M5{w0 w1 w2 w3:World}{l:Array Bool}{i:Nat}(h1:i≠10)(h2:i≠7)(h3:i≠6):Dc w0 w1 w2 w3 (l.setIfInBounds i true)=Dc w0 w1 w2 w3 l:=by unfold Dc;rw[Array.getElem?_setIfInBounds_ne h1,Array.getElem?_setIfInBounds_ne h2,Array.getElem?_setIfInBounds_ne h3]
theorem EN{a:Act}{s:Nat}{v:Value}(h:a.tmps[s]?=some v):a.eval (.tmp s)=v:=by simp[Act.eval,Array.getD_eq_getD_getElem?,h]
theorem EM{α:Type}{l:List α}{n:Nat}(h:l.length=n+1):∃x t,l=x :: t/\t.length=n:=by
 cases l with
 | nil=>cases h
 | cons x t=>exact⟨x,t,rfl,by simpa using h⟩
theorem xY{tm:Array Value}(h:tm.size=81):∃v0 v1 v2 v3 v4 v5 v6 v7 v8 v9 Aa Ab Ac Ae Af Ah Ai Aj Ak Al Am Ao Ap Ar Au Av Aw Ay Az AA AB AJ AL AO AP AQ AU AV AX AY AZ A8 A9 Ba Bb Bc Bf Bh Bj Bl Bp Bq Br Bu Bv Bw Bz BD BF BG BH BI BJ BK BL BM BN BO BP BQ BR BS BU BX BZ Ca Cb Cc Ce Cg Ci,tm=#[v0,v1,v2,v3,v4,v5,v6,v7,v8,v9,Aa,Ab,Ac,Ae,Af,Ah,Ai,Aj,Ak,Al,Am,Ao,Ap,Ar,Au,Av,Aw,Ay,Az,AA,AB,AJ,AL,AO,AP,AQ,AU,AV,AX,AY,AZ,A8,A9,Ba,Bb,Bc,Bf,Bh,Bj,Bl,Bp,Bq,Br,Bu,Bv,Bw,Bz,BD,BF,BG,BH,BI,BJ,BK,BL,BM,BN,BO,BP,BQ,BR,BS,BU,BX,BZ,Ca,Cb,Cc,Ce,Cg,Ci]:=by
 obtain⟨l⟩:=tm;replace h:l.length=81:=h;obtain⟨v0,l0,rfl,h0⟩:=EM h;obtain⟨v1,l1,rfl,h1⟩:=EM h0;obtain⟨v2,l2,rfl,h2⟩:=EM h1;obtain⟨v3,l3,rfl,h3⟩:=EM h2;obtain⟨v4,l4,rfl,h4⟩:=EM h3;obtain⟨v5,l5,rfl,h5⟩:=EM h4;obtain⟨v6,l6,rfl,h6⟩:=EM h5;obtain⟨v7,l7,rfl,h7⟩:=EM h6;obtain⟨v8,l8,rfl,h8⟩:=EM h7;obtain⟨v9,l9,rfl,h9⟩:=EM h8;obtain⟨Aa,l10,rfl,h10⟩:=EM h9;obtain⟨Ab,l11,rfl,h11⟩:=EM h10;obtain⟨Ac,l12,rfl,h12⟩:=EM h11;obtain⟨Ae,l13,rfl,iN⟩:=EM h12;obtain⟨Af,l14,rfl,qm⟩:=EM iN;obtain⟨Ah,l15,rfl,h15⟩:=EM qm;obtain⟨Ai,l16,rfl,h16⟩:=EM h15;obtain⟨Aj,l17,rfl,h17⟩:=EM h16;obtain⟨Ak,l18,rfl,h18⟩:=EM h17;obtain⟨Al,l19,rfl,h19⟩:=EM h18;obtain⟨Am,l20,rfl,h20⟩:=EM h19;obtain⟨Ao,l21,rfl,h21⟩:=EM h20;obtain⟨Ap,l22,rfl,h22⟩:=EM h21
 obtain⟨Ar,l23,rfl,h23⟩:=EM h22;obtain⟨Au,l24,rfl,h24⟩:=EM h23;obtain⟨Av,l25,rfl,h25⟩:=EM h24;obtain⟨Aw,l26,rfl,h26⟩:=EM h25;obtain⟨Ay,l27,rfl,h27⟩:=EM h26;obtain⟨Az,l28,rfl,h28⟩:=EM h27;obtain⟨AA,l29,rfl,h29⟩:=EM h28;obtain⟨AB,l30,rfl,h30⟩:=EM h29;obtain⟨AJ,l31,rfl,h31⟩:=EM h30;obtain⟨AL,l32,rfl,h32⟩:=EM h31;obtain⟨AO,l33,rfl,h33⟩:=EM h32;obtain⟨AP,l34,rfl,h34⟩:=EM h33;obtain⟨AQ,l35,rfl,h35⟩:=EM h34;obtain⟨AU,l36,rfl,h36⟩:=EM h35;obtain⟨AV,l37,rfl,h37⟩:=EM h36;obtain⟨AX,l38,rfl,h38⟩:=EM h37;obtain⟨AY,l39,rfl,h39⟩:=EM h38;obtain⟨AZ,l40,rfl,h40⟩:=EM h39;obtain⟨A8,l41,rfl,h41⟩:=EM h40;obtain⟨A9,l42,rfl,xE⟩:=EM h41;obtain⟨Ba,l43,rfl,h43⟩:=EM xE;obtain⟨Bb,l44,rfl,h44⟩:=EM h43;obtain⟨Bc,l45,rfl,h45⟩:=EM h44
 obtain⟨Bf,l46,rfl,h46⟩:=EM h45;obtain⟨Bh,l47,rfl,h47⟩:=EM h46;obtain⟨Bj,l48,rfl,h48⟩:=EM h47;obtain⟨Bl,l49,rfl,h49⟩:=EM h48;obtain⟨Bp,l50,rfl,h50⟩:=EM h49;obtain⟨Bq,l51,rfl,h51⟩:=EM h50;obtain⟨Br,l52,rfl,h52⟩:=EM h51;obtain⟨Bu,l53,rfl,h53⟩:=EM h52;obtain⟨Bv,l54,rfl,h54⟩:=EM h53;obtain⟨Bw,l55,rfl,h55⟩:=EM h54;obtain⟨Bz,l56,rfl,h56⟩:=EM h55;obtain⟨BD,l57,rfl,h57⟩:=EM h56;obtain⟨BF,l58,rfl,h58⟩:=EM h57;obtain⟨BG,l59,rfl,h59⟩:=EM h58;obtain⟨BH,l60,rfl,h60⟩:=EM h59;obtain⟨BI,l61,rfl,h61⟩:=EM h60;obtain⟨BJ,l62,rfl,h62⟩:=EM h61;obtain⟨BK,l63,rfl,h63⟩:=EM h62;obtain⟨BL,l64,rfl,h64⟩:=EM h63;obtain⟨BM,l65,rfl,h65⟩:=EM h64;obtain⟨BN,l66,rfl,h66⟩:=EM h65;obtain⟨BO,l67,rfl,h67⟩:=EM h66;obtain⟨BP,l68,rfl,h68⟩:=EM h67
 obtain⟨BQ,l69,rfl,h69⟩:=EM h68;obtain⟨BR,l70,rfl,uM⟩:=EM h69;obtain⟨BS,l71,rfl,h71⟩:=EM uM;obtain⟨BU,l72,rfl,h72⟩:=EM h71;obtain⟨BX,l73,rfl,h73⟩:=EM h72;obtain⟨BZ,l74,rfl,h74⟩:=EM h73;obtain⟨Ca,l75,rfl,h75⟩:=EM h74;obtain⟨Cb,l76,rfl,h76⟩:=EM h75;obtain⟨Cc,l77,rfl,h77⟩:=EM h76;obtain⟨Ce,l78,rfl,h78⟩:=EM h77;obtain⟨Cg,l79,rfl,h79⟩:=EM h78;obtain⟨Ci,l80,rfl,h80⟩:=EM h79;cases List.length_eq_zero_iff.1 h80
 exact⟨v0,v1,v2,v3,v4,v5,v6,v7,v8,v9,Aa,Ab,Ac,Ae,Af,Ah,Ai,Aj,Ak,Al,Am,Ao,Ap,Ar,Au,Av,Aw,Ay,Az,AA,AB,AJ,AL,AO,AP,AQ,AU,AV,AX,AY,AZ,A8,A9,Ba,Bb,Bc,Bf,Bh,Bj,Bl,Bp,Bq,Br,Bu,Bv,Bw,Bz,BD,BF,BG,BH,BI,BJ,BK,BL,BM,BN,BO,BP,BQ,BR,BS,BU,BX,BZ,Ca,Cb,Cc,Ce,Cg,Ci,rfl⟩
end
section
section
variable {Cs Sg:Type}{D:Dr EP Cs Sg}{m:Mem Sg}{ρ:Rn}{b k:Nat}{cf:Frame}{fs:List Frame}{W:World}{σ:Sg}
variable {x:Wx (Wk EP Cs) Sg ρ}{own core:Nat->Prop}{pb:Nat}{z:Wk EP Cs}{ans:Value}{gr:Bool}{wv dv cv u7 u8 O7 GK Gi:Value}{ds:List Deferred}{K:List Item}
theorem j4(hA:Ki m b k ⟨x,own,core,pb,z,gr,ans⟩ σ W){tm:Array Value}(hs:Sl wv dv cv pb u7 u8 O7 GK Gi tm)(hJ:∀W' tm',Sl wv dv cv pb u7 u8 O7 GK Gi tm'->Ki m b k ⟨x,own,core,pb,{ z with bg:=0,cur:=none },gr,ans⟩ σ W'->IU b W W'->JL (SW (Fe D m) ρ Try.prog).L x (G ((base 30).at ⟨tm',ds⟩ K) (cf :: fs)) W') :
  JL (SW (Fe D m) ρ Try.prog).L x (G ((base 30).at ⟨tm,ds⟩ (.code p14 :: K)) (cf :: fs)) W:=by
 obtain⟨v9,Ae,Af,Ah,Ai,Aj,Ak,Al,Am,Ao,Ap,Ar,Au,Av,Aw,Ay,Az,AA,AB,AJ,AL,AO,AP,AQ,AU,AV,AX,AY,AZ,A8,A9,Ba,Bb,Bc,Bf,Bh,Bj,Bl,Bp,Bq,Br,Bu,Bv,Bw,Bz,BD,BF,BG,BH,BI,BJ,BK,BL,BM,BN,BO,BP,BQ,BR,BS,BU,BX,BZ,Ca,Cb,Cc,Ce,Cg,Ci,rfl⟩:=hs;refine Fp.Fz (S:=SW (Fe D m) ρ Try.prog) (b:=base 30) [] (by simp) zKR nE zKR fun EG ha=>?_;have hh:=FP ha;have hA1:=hA.alike hh;obtain⟨c5,c6,c7,c8,c9,c10,c11⟩:=hA1.row.cells;have f7:EG.frozen? ⟨b,7,none⟩=false:=hA1.row.frozen;have hpc:=hA1.pc;have hcap:=hA.cap;have HH:=Lib.hid (zAI hJ (zAI hA (zAI hA1 (zAI hh hcap))));clear hJ hA hA1 hh hcap;simp only at hpc c5 c6 c7 c8 c9 c10 c11;dsimp only;simp only[p14,aP,UO,Uf,Try.f30];gi_wp2;obtain⟨hJ,hA,hA1,hh,hcap⟩:=HH.out;clear HH;have hrow:=hA1.row;unfold F9 at hrow
 generalize hW':World.setCell _ _ _=W';have ht:IU b W W':=⟨fun g hg=>by rw[← hW',← hh];simp[World.setCell,Array.getElem?_modify,hg.symm],by rw[← hW',← hh];simp[World.setCell]⟩
 refine hJ W' _ ⟨_,_,_,_,_,_,_,_,_,_,_,_,_,_,_,_,_,_,_,_,_,_,_,_,_,_,_,_,_,_,_,_,_,_,_,_,_,_,_,_,_,_,_,_,_,_,_,_,_,_,_,_,_,_,_,_,_,_,_,_,_,_,_,_,_,_,_,_,_,rfl⟩ (hA.turn ?_ ht rfl rfl rfl rfl hcap) ht;show W'.heap[b]?=_;rw[← hW'];simp[World.setCell,Array.getElem?_modify,hrow]
theorem jT(hA:Ki m b k ⟨x,own,core,pb,z,gr,ans⟩ σ W){tm:Array Value}(hs:Sl wv dv cv pb u7 u8 O7 GK Gi tm)(hJ:∀W' tm',Sl wv dv cv pb u7 u8 O7 GK Gi tm'->Ki m b k ⟨x,own,core,pb,z,gr,ans⟩ σ W'->W'.heap=W.heap->JL (SW (Fe D m) ρ Try.prog).L x (G ((base 30).at ⟨tm',ds⟩ K) (cf :: fs)) W') :
  JL (SW (Fe D m) ρ Try.prog).L x (G ((base 30).at ⟨tm,ds⟩ (.code p15 :: K)) (cf :: fs)) W:=by
 obtain⟨v9,Ae,Af,Ah,Ai,Aj,Ak,Al,Am,Ao,Ap,Ar,Au,Av,Aw,Ay,Az,AA,AB,AJ,AL,AO,AP,AQ,AU,AV,AX,AY,AZ,A8,A9,Ba,Bb,Bc,Bf,Bh,Bj,Bl,Bp,Bq,Br,Bu,Bv,Bw,Bz,BD,BF,BG,BH,BI,BJ,BK,BL,BM,BN,BO,BP,BQ,BR,BS,BU,BX,BZ,Ca,Cb,Cc,Ce,Cg,Ci,rfl⟩:=hs;refine Fp.Fz (S:=SW (Fe D m) ρ Try.prog) (b:=base 30) [] (by simp) zKR nE zKR fun EG ha=>?_;have hh:=FP ha;have hA1:=hA.alike hh;obtain⟨c5,c6,c7,c8,c9,c10,c11⟩:=hA1.row.cells;have hpc:=hA1.pc;have HH:=Lib.hid (zAI hJ (zAI hA (zAI hA1 hh)));clear hJ hA hA1 hh;simp only at hpc c5 c6 c7 c8 c9 c10 c11;dsimp only;simp only[p15,aP,UO,Uf,Try.f30];gi_wp2;obtain⟨hJ,hA,hA1,hh⟩:=HH.out;exact hJ EG _ ⟨_,_,_,_,_,_,_,_,_,_,_,_,_,_,_,_,_,_,_,_,_,_,_,_,_,_,_,_,_,_,_,_,_,_,_,_,_,_,_,_,_,_,_,_,_,_,_,_,_,_,_,_,_,_,_,_,_,_,_,_,_,_,_,_,_,_,_,_,_,rfl⟩ hA1 hh
end
end
section
def Lg(W:World)(cv:Value)(cs:List EP):Prop:=∃p cap,cv=.slice p cs.length cap/\cs.length<=1000000/\∀(i:Nat) (c:EP),cs[i]?=some c->∃g o pa pn pc,p=some ⟨g,o,none⟩/\W.cell? ⟨g,o+i*5,none⟩=some (.int .i64 c.kind)/\W.cell? ⟨g,o+i*5+1,none⟩=some (.int .i64 c.a)/\W.cell? ⟨g,o+i*5+2,none⟩=some (.int .i64 c.b)/\W.cell? ⟨g,o+i*5+3,none⟩=some (.int .i64 c.c)/\W.cell? ⟨g,o+i*5+4,none⟩=some (.slice pa pn pc)
section
variable {Cs Sg:Type}{D:Dr EP Cs Sg}{m:Mem Sg}{ρ:Rn}{b k:Nat}{cf:Frame}{fs:List Frame}{W:World}{σ:Sg}
variable {x:Wx (Wk EP Cs) Sg ρ}{own core:Nat->Prop}{pb:Nat}{z:Wk EP Cs}{ans:Value}{gr:Bool}{wv dv cv u7 u8 O7 GK Gi:Value}{ds:List Deferred}{K:List Item}
theorem Ki.lay(D:Dr EP Cs Sg){s:Gr EP Cs Sg ρ}{W':World}{N:Nat}(hA:Ki m b k s σ W)(hN:N=W.heap.size)(hr:∃c e f,W'.heap[N]?=some (Obj.cells c e f))(ho:∀g,g<W.heap.size->W'.heap[g]?=W.heap[g]?)(hs:W.heap.size<=W'.heap.size):Ki m b k { s with own:=fun g=>s.own g\/g=N } σ W':=by have hA':Ki m b k s σ W':=hA.other (fun g hg=>ho g (hA.lt hg)) hs;exact((KO D m ρ b k).Yo hA' (by rw[hN];exact hA.size) (fun h=>by have:=hA.lt (.inr h);omega) hr).1
theorem sG{s:Gr EP Cs Sg ρ}(hA:Ki m b k s σ W){cs:List EP}{i:Nat}{c:EP}(hcs:∀W,m.Inv σ W->Lg W cv cs)(hi:cs[i]?=some c){tm:Array Value}(hs:Sl wv dv cv pb u7 u8 cv GK (.int .i64 i) tm)(hJ:∀s' N7 pa pn pc W' tm',Sl wv dv cv pb (.pointer (some ⟨N7,0,none⟩)) u8 cv GK (.int .i64 i) tm'->Ki m b k s' σ W'->s'.x=s.x->s'.pb=s.pb->s'.z=s.z->s'.gr=s.gr->s'.ans=s.ans->(s'.own N7/\N7≠b)->W'.heap[N7]?=some (.cells #[.int .i64 c.kind,.int .i64 c.a,.int .i64 c.b,.int .i64 c.c,.slice pa pn pc] 44 (0,0))->W.heap.size<=W'.heap.size->JL (SW (Fe D m) ρ Try.prog).L s'.x (G ((base 30).at ⟨tm',ds⟩ K) (cf :: fs)) W') :
  JL (SW (Fe D m) ρ Try.prog).L s.x (G ((base 30).at ⟨tm,ds⟩ (.code pb4 :: K)) (cf :: fs)) W:=by
 obtain⟨v9,Ae,Af,Ah,Ai,Aj,Ak,Al,Am,Ao,Ap,Ar,Au,Av,Aw,Ay,Az,AA,AB,AJ,AL,AO,AP,AQ,AU,AV,AX,AY,AZ,A8,A9,Ba,Bb,Bc,Bf,Bh,Bj,Bl,Bp,Bq,Br,Bu,Bv,Bw,Bz,BD,BF,BG,BH,BI,BJ,BK,BL,BM,BN,BO,BP,BQ,BR,BS,BU,BX,BZ,Ca,Cb,Cc,Ce,Cg,Ci,rfl⟩:=hs;refine Fp.Fz (S:=SW (Fe D m) ρ Try.prog) (b:=base 30) [] (by simp) zKR nE zKR fun EG ha=>?_;have hh:=FP ha;have hA1:=hA.alike hh;obtain⟨p,cap,rfl,hn,hc⟩:=hcs EG hA1.inv;obtain⟨g,o,pa,pn,pc,rfl,e0,e1,e2,e3,e4⟩:=hc i c hi;have hlt:i<cs.length:=(List.getElem?_eq_some_iff.1 hi).1;have HH:=Lib.hid (zAI hJ (zAI hA (zAI hA1 (zAI hh (zAI hcs hc)))));clear hJ hA hA1 hh hcs hc hi;dsimp only;simp only[pb4,UO,Uf,Try.f30];gi_wp2;obtain⟨hJ,hA,hA1,hh,hcs,hc⟩:=HH.out;clear HH
 generalize hO:Obj.cells #[Value.int IntKind.i64 c.kind,.int .i64 c.a,.int .i64 c.b,.int .i64 c.c,.slice pa pn pc] 44 (0,0)=O;have hA2:=hA1.lay D (W':=EG.alloc O) rfl ⟨_,_,_,by rw[heap_alloc_new,← hO]⟩ (fun g hg=>Below.heap_alloc EG O g hg) (by simp);refine hJ { s with own:=fun g=>s.own g\/g=EG.heap.size } EG.heap.size pa pn pc (EG.alloc O) _ ⟨_,_,_,_,_,_,_,_,_,_,_,_,_,_,_,_,_,_,_,_,_,_,_,_,_,_,_,_,_,_,_,_,_,_,_,_,_,_,_,_,_,_,_,_,_,_,_,_,_,_,_,_,_,_,_,_,_,_,_,_,_,_,_,_,_,_,_,_,_,rfl⟩ hA2 rfl rfl rfl rfl rfl ⟨.inr rfl,fun e=>?_⟩ (by rw[heap_alloc_new,← hO]) (by rw[← hh];simp);have:=hA1.lt (.inl (hA1.co b hA1.cb));omega
end
end
end Go.Proofs.Ytdkfdedgfilhbaa
namespace Go.Proofs.Ytdkfdedgfilhbaa
open Go Go.Conc Go.LT Go.LC Go.LK Go.RowKit
section
theorem MS{w:World}{base size n:Nat}{v:Value}{xs:List Value}(h:BA.FY w base size v n xs){g:Nat}(hg:v.ownBlock=some g):∃c e f,w.heap[g]?=some (.cells c e f):=by
 obtain⟨te,_,⟨rfl,_⟩|⟨g',cap,cur,rfl,_,h1,_⟩⟩:=h
 . cases hg
 . cases hg
   exact⟨_,_,_,h1⟩
section
variable {Cs Sg:Type}{D:Dr EP Cs Sg}{m:Mem Sg}{ρ:Rn}{b k:Nat}{W:World}{σ:Sg}
variable {x:Wx (Wk EP Cs) Sg ρ}{own core:Nat->Prop}{pb:Nat}{z:Wk EP Cs}{ans:Value}{gr:Bool}
theorem Ki.wrote(hA:Ki m b k ⟨x,own,core,pb,z,gr,ans⟩ σ W){iv:Value}{e:An}(hiv:GQ W (fun g=>own g/\g≠b/\g≠pb/\ans.ownBlock≠some g) iv e.ints){JH:List Value}(U9:JH.length=z.out.length)(hints:∀(i:Nat) (a:Gg) (iv:Value),z.out[i]?=some a->JH[i]?=some iv->GQ W (fun g=>(core g/\g≠b/\g≠pb)/\ans.ownBlock≠some g) iv a.a.ints)(hblk:∀g,ans.ownBlock=some g->core g/\g≠b/\g≠pb){w':World}{a':Value}(h1:BA.FY w' 0 9 a' (z.out.length+1) ((List.zipWith FZ z.out JH).flatten++FZ ⟨e,z.bg,z.st,z.ow⟩ iv))(hst:∀g,g<W.heap.size->a'.ownBlock≠some g->w'.heap[g]?=W.heap[g]?)(hbn:∀g,a'.ownBlock=some g->(own g/\ans.ownBlock=some g)\/W.heap.size<=g)(hsz:W.heap.size<=w'.heap.size) :
  Ki m b k ⟨x,fun g=>own g\/a'.ownBlock=some g,fun g=>own g\/a'.ownBlock=some g,pb,{ z with out:=z.out++[⟨e,z.bg,z.st,z.ow⟩] },gr,a'⟩ σ (w'.setCell ⟨b,9,none⟩ a'):=by
 have hbl:b<W.heap.size:=hA.lt (.inl (hA.co b hA.cb));have hpl:pb<W.heap.size:=hA.lt (.inl (hA.co pb hA.Qp));have hne:∀g,a'.ownBlock=some g->g≠b/\g≠pb:=fun g hg=>by
  rcases hbn g hg with⟨_,h⟩|h
  . exact(hblk g h).2
  . exact⟨by omega,by omega⟩
 have hset:∀g,g≠b->(w'.setCell ⟨b,9,none⟩ a').heap[g]?=w'.heap[g]?:=fun g hg=>by simp only[World.setCell,Array.getElem?_modify];rw[if_neg (fun e=>hg e.symm)]
 have lZ:∀g,g<W.heap.size->g≠b->a'.ownBlock≠some g->(w'.setCell ⟨b,9,none⟩ a').heap[g]?=W.heap[g]?:=fun g hg hb ha=>(hset g hb).trans (hst g hg ha);have hrow:=hA.row;unfold F9 at hrow;have hwb:w'.heap[b]?=W.heap[b]?:=hst b hbl fun e=>(hne b e).1 rfl;have hbr:F9 (w'.setCell ⟨b,9,none⟩ a') b k x.1.1.v.t ρ.come ρ.gone gr z.st z.bg z.ow a' false false:=by unfold F9;have:w'.heap[b]?=_:=hwb.trans hrow;simp[World.setCell,Array.getElem?_modify,this]
 have hown:∀g,own g->g<W.heap.size:=fun g hg=>hA.lt (.inl hg);have hsh:∀g,m.Sh g->(w'.setCell ⟨b,9,none⟩ a').heap[g]?=W.heap[g]?:=fun g hg=>by
  have hlt:=hA.lt (.inr hg);refine lZ g hlt (fun e=>(hA.o3 b (hA.co b hA.cb)).2.1 (e ▸ hg)) fun ha=>?_;rcases hbn g ha with⟨h,_⟩|h
  . exact(hA.o3 g h).2.1 hg
  . omega
 have hO:=Jp (w':=w'.setCell ⟨b,9,none⟩ a') h1 fun g hg=>.of (hset g (hne g hg).1);have hI:∀(P:Nat->Prop) iv l,GQ W P iv l->(∀g,P g->own g/\g≠b/\g≠pb/\ans.ownBlock≠some g)->GQ (w'.setCell ⟨b,9,none⟩ a') (fun g=>((own g\/a'.ownBlock=some g)/\g≠b/\g≠pb)/\a'.ownBlock≠some g) iv l:=fun P iv l h hP=>by
  have hna:∀g,P g->a'.ownBlock≠some g:=fun g hg ha=>by
    obtain⟨p1,p2,p3,p4⟩:=hP g hg;rcases hbn g ha with⟨_,q⟩|q
    . exact p4 q
    . have:=hown g p1;omega
  exact(h.RN fun g hg=>.of (lZ g (hown g (hP g hg).1) (hP g hg).2.1 (hna g hg))).mono fun g hg=>⟨⟨.inl (hP g hg).1,(hP g hg).2.1,(hP g hg).2.2.1⟩,hna g hg⟩
 exact{
       zi:=hA.zi,zg:=hA.zg,vb:=hA.vb,vk:=hA.vk
       row:=hbr
       zk:=hA.zk,zo:=hA.zo,zf:=hA.zf
       am:=⟨⟨JH++[iv],by simp[U9],by
          have e1:(List.zipWith FZ (z.out++[⟨e,z.bg,z.st,z.ow⟩]) (JH++[iv])).flatten=(List.zipWith FZ z.out JH).flatten++FZ ⟨e,z.bg,z.st,z.ow⟩ iv:=by
            rw[List.zipWith_append U9.symm]
            simp
          show BA.FY _ 0 9 a' (z.out++[_]).length _;rw[e1,List.length_append];exact hO,fun i a jv hi hj=>by
          rw[List.getElem?_append]at hi hj;by_cases hlt:i<z.out.length
          . rw[if_pos hlt]at hi;rw[if_pos zOM]at hj;exact hI _ _ _ (hints i a jv hi hj) fun g hg=>⟨hA.co g hg.1.1,hg.1.2.1,hg.1.2.2,hg.2⟩
          . rw[if_neg hlt]at hi;rw[if_neg zOM]at hj;have h0:i-z.out.length=0:=by
              rcases Nat.eq_zero_or_pos (i-z.out.length)with h|h
              . exact h
              . rw[List.getElem?_eq_none (by simp;omega)]at hi;cases hi
            rw[h0]at hi;rw[U9,h0]at hj;cases hi
            cases hj
            exact hI _ _ _ hiv fun g hg=>hg⟩,fun g hg=>⟨.inr hg,hne g hg⟩⟩
       inv:=m.eq σ W _ (fun g hg=>.of (hsh g hg)) hA.inv
       sh:=hA.sh,low:=hA.low,size:=Nat.le_trans hA.size (by simpa [World.setCell]using hsz),Xu:=hA.Xu
       cb:=.inl (hA.co b hA.cb),Qp:=.inl (hA.co pb hA.Qp),co:=fun g hg=>hg
       o1:=fun g hg=>.inl (hA.o1 g hg)
       o2:=fun g hg=>by
        rcases hg with hg|hg
        . exact hA.o2 g hg
        . rcases hbn g hg with⟨h,_⟩ | h
          . exact hA.o2 g h
          . exact .inr (Nat.le_trans hA.size h)
       o3:=fun g hg=>by
        have hcells:∀g,a'.ownBlock=some g->∃c e f,(w'.setCell ⟨b,9,none⟩ a').heap[g]?=some (.cells c e f):=fun g hg=>MS hO hg;rcases Abf:decide (a'.ownBlock=some g)with _|_
        . have hna:=of_decide_eq_false Abf;have hg':own g:=hg.resolve_right hna;refine⟨(hA.o3 g hg').1,(hA.o3 g hg').2.1,?_⟩;by_cases e:g=b
          . rw[e];exact⟨_,_,_,hbr⟩
          . rw[lZ g (hown g hg') e hna];exact(hA.o3 g hg').2.2
        . have ha:=of_decide_eq_true Abf;rcases hbn g ha with⟨h,_⟩|h
          . exact⟨(hA.o3 g h).1,(hA.o3 g h).2.1,hcells g ha⟩
          . refine⟨?_,fun hs=>?_,hcells g ha⟩
            . cases hB:x.1.1.B g with
              | false=>rfl
              | true=>
                have:g<x.1.1.n0:=hA.low g hB;have h2:x.1.1.n0<=W.heap.size:=hA.size;omega
            . have:=hA.lt (.inr hs);omega
       Mc:=hA.Mc
       UR:=hA.UR
       pc:=by show(w'.setCell ⟨b,9,none⟩ a').cell? ⟨pb,0,none⟩=_;rw[cell_of (a:=⟨pb,0,none⟩) (lZ pb hpl hA.UR fun e=>(hne pb e).2 rfl)];exact hA.pc
       cap:=hA.cap }
end
end
end Go.Proofs.Ytdkfdedgfilhbaa
namespace Go.Proofs.Ytdkfdedgfilhbaa
open Go Go.Conc Go.LT Go.LC Go.LK Go.RowKit
open Go.ConcN (WgLive)
section
theorem Acw:∃(af:Array Edge) (p:String) (ty:TypeId),Gh[0]?=some ⟨some 63,.load 63 (.tmp 3),ty,p,af,none⟩:=⟨_,_,_,rfl⟩
theorem Aa1:∃(af:Array Edge) (p:String) (ty:TypeId),Gh[1]?=some ⟨some 64,.load 63 (.tmp 3),ty,p,af,none⟩:=⟨_,_,_,rfl⟩
theorem yD:∃(af:Array Edge) (p:String) (ty:TypeId),Gh[2]?=some ⟨some 65,.nilCheck (.tmp 64),ty,p,af,none⟩:=⟨_,_,_,rfl⟩
theorem yQ:∃(af:Array Edge) (p:String) (ty:TypeId),Gh[3]?=some ⟨some 66,.fieldAddr 92 (.tmp 65) 9,ty,p,af,none⟩:=⟨_,_,_,rfl⟩
theorem Aaq:∃(af:Array Edge) (p:String) (ty:TypeId),Gh[4]?=some ⟨some 67,.load 53 (.tmp 66),ty,p,af,none⟩:=⟨_,_,_,rfl⟩
theorem Aca:∃(af:Array Edge) (p:String) (ty:TypeId),Gh[5]?=some ⟨some 68,.load 42 (.tmp 8),ty,p,af,none⟩:=⟨_,_,_,rfl⟩
theorem yE:∃(af:Array Edge) (p:String) (ty:TypeId),Gh[6]?=some ⟨some 69,.buildSlice 53 1 #[(0,.tmp 68)],ty,p,af,none⟩:=⟨_,_,_,rfl⟩
theorem yF:∃(af:Array Edge) (p:String) (ty:TypeId),Gh[7]?=some ⟨some 70,.call { callee:=.builtin .append,args:=#[.tmp 67,.tmp 69],argTypes:=#[53,53] },53,p,af,none⟩:=⟨_,_,53,rfl⟩
theorem Ab2:∃(af:Array Edge) (p:String) (ty:TypeId),Gh[8]?=some ⟨some 71,.nilCheck (.tmp 63),ty,p,af,none⟩:=⟨_,_,_,rfl⟩
theorem zT:∃(af:Array Edge) (p:String) (ty:TypeId),Gh[9]?=some ⟨some 72,.fieldAddr 92 (.tmp 71) 9,ty,p,af,none⟩:=⟨_,_,_,rfl⟩
theorem vV:∃(af:Array Edge) (p:String) (ty:TypeId),Gh[10]?=some ⟨none,.store 53 (.tmp 72) (.tmp 70),ty,p,af,none⟩:=⟨_,_,_,rfl⟩
theorem xL:(Gh[2]?).map Ir=some [1]:=by kernel_rfl
theorem yU:(Gh[3]?).map Ir=some [2]:=by kernel_rfl
theorem bF:Gh.size=11:=by kernel_rfl
theorem I8{l:Array Bool}{i j:Nat}{o:Oper}{ws:List Nat}(hw:(Gh[i]?).map Ir=some ws)(ho:Gh[i]?=some o)(hod:∀e∈o.after,Region.binds .any e=true->l[e.on]?=some true)(hj:j∈ws):l[j]?=some true:=by rw[ho]at hw;exact Tc (by rw[Option.some.inj hw];exact hj) hod
theorem SI{l:Array Bool}{i j:Nat}{o:Oper}{ws:List Nat}{n:Nat}(hw:(Gh[i]?).map (fun o=>(Ir o).take n)=some ws)(ho:Gh[i]?=some o)(hod:∀e∈o.after,Region.binds .any e=true->l[e.on]?=some true)(hj:j∈ws):l[j]?=some true:=by rw[ho]at hw;exact Tc (List.mem_of_mem_take (i:=n) (by rw[show(Ir o).take n=ws from Option.some.inj hw];exact hj)) hod
theorem Ql{l:Array Bool}{i j:Nat}{ws:List Nat}(hw:(Gh[i]?).map Ir=some ws)(hi:i<11)(hd:Down .any Gh l)(h:l[i]?=some true)(hj:j∈ws):l[j]?=some true:=by have ho:Gh[i]?=some (Gh[i]'(by rw[bF];exact hi)):=Array.getElem?_eq_getElem _;exact I8 hw ho (hd i _ ho h) hj
theorem gy{l:Array Bool}{i j:Nat}{ws:List Nat}{n:Nat}(hw:(Gh[i]?).map (fun o=>(Ir o).take n)=some ws)(hi:i<11)(hd:Down .any Gh l)(h:l[i]?=some true)(hj:j∈ws):l[j]?=some true:=by have ho:Gh[i]?=some (Gh[i]'(by rw[bF];exact hi)):=Array.getElem?_eq_getElem _;exact SI hw ho (hd i _ ho h) hj
theorem Zj{w0 w1 w2 w3 w:World}{l:Array Bool}(h:l[10]?≠some true)(hw:w=Dc w0 w1 w2 w3 l):(l[7]?=some true/\w=w2)\/(l[6]?=some true/\w=w1)\/(l[6]?≠some true/\w=w0):=by
 unfold Dc at hw;rw[if_neg h]at hw;by_cases h7:l[7]?=some true
 . exact .inl ⟨h7,by rw[hw,if_pos h7]⟩
 . rw[if_neg h7]at hw;by_cases h6:l[6]?=some true
   . exact .inr (.inl ⟨h6,by rw[hw,if_pos h6]⟩)
   . exact .inr (.inr ⟨h6,by rw[hw,if_neg h6]⟩)
theorem Iy{w:World}{base size n:Nat}{v:Value}{xs:List Value}(h:BA.FY w base size v n xs):∃p n c,v=.slice p n c:=by
 obtain⟨te,_,⟨rfl,_⟩|⟨g,cap,cur,rfl,_⟩⟩:=h
 . exact⟨_,_,_,rfl⟩
 . exact⟨_,_,_,rfl⟩
theorem Abv{wv dv cv:Value}{pb:Nat}{u7 u8 O7 GK Gi:Value}{tm tm':Array Value}(h:Sl wv dv cv pb u7 u8 O7 GK Gi tm)(hsz:tm'.size=81)(hlow:∀s,s<63->tm'[s]?=tm[s]?):Sl wv dv cv pb u7 u8 O7 GK Gi tm':=by
 obtain⟨v9,Ae,Af,Ah,Ai,Aj,Ak,Al,Am,Ao,Ap,Ar,Au,Av,Aw,Ay,Az,AA,AB,AJ,AL,AO,AP,AQ,AU,AV,AX,AY,AZ,A8,A9,Ba,Bb,Bc,Bf,Bh,Bj,Bl,Bp,Bq,Br,Bu,Bv,Bw,Bz,BD,BF,BG,BH,BI,BJ,BK,BL,BM,BN,BO,BP,BQ,BR,BS,BU,BX,BZ,Ca,Cb,Cc,Ce,Cg,Ci,rfl⟩:=h;obtain⟨y0,y1,y2,y3,y4,y5,y6,y7,y8,y9,y10,y11,y12,y13,jg,jF,jD,jf,y18,y19,y20,y21,y22,y23,y24,y25,y26,y27,y28,y29,y30,y31,y32,y33,y34,y35,y36,y37,y38,y39,y40,y41,y42,y43,y44,y45,y46,y47,y48,y49,y50,y51,y52,y53,y54,y55,y56,y57,y58,y59,y60,y61,y62,y63,y64,y65,y66,y67,y68,y69,y70,y71,y72,y73,jB,jh,jE,jl,ZP,ay,jr,rfl⟩:=xY hsz;have e0:some y0=some (wv):=hlow 0 (by decide);have e1:some y1=some (dv):=hlow 1 (by decide);have e2:some y2=some (cv):=hlow 2 (by decide);have e3:some y3=some (.pointer (some ⟨pb,0,none⟩)):=hlow 3 (by decide);have e4:some y4=some (undef):=hlow 4 (by decide)
 have e5:some y5=some (undef):=hlow 5 (by decide);have e6:some y6=some (undef):=hlow 6 (by decide);have e7:some y7=some (u7):=hlow 7 (by decide);have e8:some y8=some (u8):=hlow 8 (by decide);have e10:some y10=some (O7):=hlow 10 (by decide);have e11:some y11=some (GK):=hlow 11 (by decide);have e12:some y12=some (Gi):=hlow 12 (by decide);cases e0
 cases e1
 cases e2
 cases e3
 cases e4
 cases e5
 cases e6
 cases e7
 cases e8
 cases e10
 cases e11
 cases e12
 exact⟨_,_,_,_,_,_,_,_,_,_,_,_,_,_,_,_,_,_,_,_,_,_,_,_,_,_,_,_,_,_,_,_,_,_,_,_,_,_,_,_,_,_,_,_,_,_,_,_,_,_,_,_,_,_,_,_,_,_,_,_,_,_,_,_,_,_,_,_,_,rfl⟩
section
variable {Cs Sg:Type}{D:Dr EP Cs Sg}{m:Mem Sg}{ρ:Rn}{b k:Nat}{cf:Frame}{fs:List Frame}{W:World}{σ:Sg}
variable {x:Wx (Wk EP Cs) Sg ρ}{own core:Nat->Prop}{pb:Nat}{z:Wk EP Cs}{ans:Value}{gr:Bool}{wv dv cv u7 u8 O7 GK Gi:Value}{ds:List Deferred}{K:List Item}
theorem mZ(hA:Ki m b k ⟨x,own,core,pb,z,gr,ans⟩ σ W){N8:Nat}{iv:Value}{e:An}(h8:W.heap[N8]?=some (.cells #[.int .i64 z.bg,.int .i64 z.st,.int .i64 z.ow,.bool e.ok,.int .i64 e.n,.int .i64 e.m,.int .i64 e.err,iv,.slice none 0 0] 42 (0,0)))(hiv:GQ W (fun g=>own g/\g≠b/\g≠pb/\ans.ownBlock≠some g) iv e.ints){tm:Array Value}(hs:Sl wv dv cv pb u7 (.pointer (some ⟨N8,0,none⟩)) O7 GK Gi tm)(hlen:z.out.length<1000000)(hJ:∀vo W' tm',Sl wv dv cv pb u7 (.pointer (some ⟨N8,0,none⟩)) O7 GK Gi tm'->Ki m b k ⟨x,fun g=>own g\/vo.ownBlock=some g,fun g=>own g\/vo.ownBlock=some g,pb,{ z with out:=z.out++[⟨e,z.bg,z.st,z.ow⟩] },gr,vo⟩ σ W'->W.heap.size<=W'.heap.size->JL (SW (Fe D m) ρ Try.prog).L x (G ((base 30).at ⟨tm',ds⟩ K) (cf :: fs)) W') :
   JL (SW (Fe D m) ρ Try.prog).L x (G ((base 30).at ⟨tm,ds⟩ (.code p13 :: K)) (cf :: fs)) W:=by
 have hsz:tm.size=81:=by obtain⟨v9,Ae,Af,Ah,Ai,Aj,Ak,Al,Am,Ao,Ap,Ar,Au,Av,Aw,Ay,Az,AA,AB,AJ,AL,AO,AP,AQ,AU,AV,AX,AY,AZ,A8,A9,Ba,Bb,Bc,Bf,Bh,Bj,Bl,Bp,Bq,Br,Bu,Bv,Bw,Bz,BD,BF,BG,BH,BI,BJ,BK,BL,BM,BN,BO,BP,BQ,BR,BS,BU,BX,BZ,Ca,Cb,Cc,Ce,Cg,Ci,rfl⟩:=hs;rfl
 have ht3:tm[3]?=some (.pointer (some ⟨pb,0,none⟩)):=by obtain⟨v9,Ae,Af,Ah,Ai,Aj,Ak,Al,Am,Ao,Ap,Ar,Au,Av,Aw,Ay,Az,AA,AB,AJ,AL,AO,AP,AQ,AU,AV,AX,AY,AZ,A8,A9,Ba,Bb,Bc,Bf,Bh,Bj,Bl,Bp,Bq,Br,Bu,Bv,Bw,Bz,BD,BF,BG,BH,BI,BJ,BK,BL,BM,BN,BO,BP,BQ,BR,BS,BU,BX,BZ,Ca,Cb,Cc,Ce,Cg,Ci,rfl⟩:=hs;rfl
 have ht8:tm[8]?=some (.pointer (some ⟨N8,0,none⟩)):=by obtain⟨v9,Ae,Af,Ah,Ai,Aj,Ak,Al,Am,Ao,Ap,Ar,Au,Av,Aw,Ay,Az,AA,AB,AJ,AL,AO,AP,AQ,AU,AV,AX,AY,AZ,A8,A9,Ba,Bb,Bc,Bf,Bh,Bj,Bl,Bp,Bq,Br,Bu,Bv,Bw,Bz,BD,BF,BG,BH,BI,BJ,BK,BL,BM,BN,BO,BP,BQ,BR,BS,BU,BX,BZ,Ca,Cb,Cc,Ce,Cg,Ci,rfl⟩:=hs;rfl
 refine Fp.Fz (S:=SW (Fe D m) ρ Try.prog) (b:=base 30) [] (by simp) zKR nE zKR fun EG ha=>?_;have hh:=FP ha;have hA1:=hA.alike hh;rw[← hh]at h8;obtain⟨c5,c6,c7,c8,c9,c10,c11⟩:=hA1.row.cells;have hpc:=hA1.pc;have Afm:=hiv.RN (w':=EG) fun g _=>.of (by rw[hh]);have Ae3:iv.oneCell'=true:=by rcases hiv with⟨_,rfl⟩|⟨_,g,c,rfl,_⟩<;>rfl
 generalize hO:Obj.cells #[.int .i64 z.bg,.int .i64 z.st,.int .i64 z.ow,.bool e.ok,.int .i64 e.n,.int .i64 e.m,.int .i64 e.err,iv,.slice none 0 0] 42=O;have hq:∀w:World,w.heap=EG.heap->w.cell? ⟨N8,0,none⟩=some (.int .i64 z.bg)/\w.cell? ⟨N8,1,none⟩=some (.int .i64 z.st)/\w.cell? ⟨N8,2,none⟩=some (.int .i64 z.ow)/\w.cell? ⟨N8,3,none⟩=some (.bool e.ok)/\w.cell? ⟨N8,4,none⟩=some (.int .i64 e.n)/\w.cell? ⟨N8,5,none⟩=some (.int .i64 e.m)/\w.cell? ⟨N8,6,none⟩=some (.int .i64 e.err)/\w.cell? ⟨N8,7,none⟩=some iv/\w.cell? ⟨N8,8,none⟩=some (.slice none 0 0):=fun w hw=>by simp[World.cell?,hw,h8]
 have hinfo:(Try.prog.info? 42).map (fun i=>(i.zero,i.size,i.bytes))=some (some (.agg #[.int .i64 0,.int .i64 0,.int .i64 0,.bool false,.int .i64 0,.int .i64 0,.int .i64 0,.slice none 0 0,.slice none 0 0]),9,104):=by kernel_rfl
 obtain⟨i0,hi,hi0,hi1,hi2⟩:=info_parts hinfo;obtain⟨⟨JH,U9,hown,hints⟩,hblk⟩:=hA1.am;simp only at U9 hown hints hblk;have hcw:∀a,((EG.alloc O).drew).cell? a=(EG.alloc O).cell? a:=fun a=>rfl;have hown2:BA.FY (EG.alloc O).drew 0 9 ans z.out.length (List.zipWith FZ z.out JH).flatten:=Jp hown fun g hg=>.of (Below.heap_alloc EG O g (hA1.lt (.inl (hA1.co g (hblk g hg).1))));have hnews:∀j u,(FZ ⟨e,z.bg,z.st,z.ow⟩ iv)[j]?=some u->(EG.alloc O).drew.cell? ((⟨EG.heap.size,0,none⟩:Addr).add j)=some u:=fun j u hu=>by
   rw[Addr.add_lit,hcw];have:(EG.alloc O).heap[EG.heap.size]?=some O:=heap_alloc_new _ _;rw[← hO]at this ⊢;simp only[World.cell?,this,Nat.zero_add]
   simpa [FZ]using hu
 obtain⟨v',w',hr,g1,g2,g3⟩:=J7 (P:=Try.prog) (EG.alloc O).drew 0 53 53 42 i0 _ 9 104 Try.underlying53 hi hi0 hi1 hi2 rfl (by decide) ans z.out.length _ hown2 ⟨EG.heap.size,0,none⟩ 1 1 _ rfl hnews (by intro u hu;simp[FZ]at hu;rcases hu with rfl|rfl|rfl|rfl|rfl|rfl|rfl|rfl|rfl<;>first|rfl|exact Ae3) (by unfold maxLen;omega) zOM (Nat.zero_le _);have hgb:∀g,g<EG.heap.size->(ans.ownBlock=some g->False)->w'.heap[g]?=EG.heap[g]?:=fun g hg hne=>by rw[g2.block g (by show g<(EG.alloc O).heap.size;simp;omega) (fun e=>hne e.symm)];exact Below.heap_alloc EG O g hg
 have hbl:b<EG.heap.size:=hA1.lt (.inl (hA1.co b hA1.cb));have hpl:pb<EG.heap.size:=hA1.lt (.inl (hA1.co pb hA1.Qp));have hwb:w'.heap[b]?=EG.heap[b]?:=hgb b hbl fun e=>(hblk b e).2.1 rfl;have hwp:w'.heap[pb]?=EG.heap[pb]?:=hgb pb hpl fun e=>(hblk pb e).2.2 rfl;have k1:w'.cell? ⟨pb,0,none⟩=some (.pointer (some ⟨b,0,none⟩)):=by rw[cell_of (a:=⟨pb,0,none⟩) hwp];exact hpc
 have k2:w'.cell? ⟨b,9,none⟩=some ans:=by rw[cell_of (a:=⟨b,9,none⟩) hwb];exact c9
 have k3:w'.frozen? ⟨b,9,none⟩=false:=by have:=hA1.row;unfold F9 at this;simp only[World.frozen?,hwb,this];rfl
 have Agh:(EG.alloc O).drew.cell? ⟨pb,0,none⟩=some (.pointer (some ⟨b,0,none⟩)):=by rw[hcw,cell_of (a:=⟨pb,0,none⟩) (Below.heap_alloc EG O pb hpl)];exact hpc
 have c9':(EG.alloc O).drew.cell? ⟨b,9,none⟩=some ans:=by rw[hcw,cell_of (a:=⟨b,9,none⟩) (Below.heap_alloc EG O b hbl)];exact c9
 obtain⟨p',n',c',rfl⟩:=Iy g1;have Aff:Try.prog.follows .mixedOrders=true:=by kernel_rfl
 rw[uY];refine Wo (I:=R13 tm [.pointer (some ⟨b,0,none⟩),.pointer (some ⟨b,0,none⟩),.pointer (some ⟨b,0,none⟩),.pointer (some ⟨b,9,none⟩),ans,.agg #[.int .i64 z.bg,.int .i64 z.st,.int .i64 z.ow,.bool e.ok,.int .i64 e.n,.int .i64 e.m,.int .i64 e.err,iv,.slice none 0 0],.slice (some ⟨EG.heap.size,0,none⟩) 1 1,.slice p' n' c',.pointer (some ⟨b,0,none⟩),.pointer (some ⟨b,9,none⟩)] EG.drew (EG.alloc O).drew w' (w'.setCell ⟨b,9,none⟩ (.slice p' n' c'))) Aff Ac4 ⟨rfl,hsz,fun s _=>rfl,fun j v hj=>?_,?_⟩ ?_ ?_
 . rw[Array.getElem?_replicate]at hj;split at hj<;>cases hj
 . have hrep:∀j,(Array.replicate Gh.size false)[j]?≠some true:=fun j hj=>by rw[Array.getElem?_replicate]at hj;split at hj<;>cases hj
   unfold Dc;rw[if_neg (hrep 10),if_neg (hrep 7),if_neg (hrep 6)]
 . intro l a w i o hI hl hd hb ho hod;rw[bF]at hl;have hi:i<11:=by have:=(zGE ho).1;rw[bF]at this;exact this
   have D6:l[6]?=some true->l[5]?=some true:=fun h=>Ql pG (by decide) hd h (by decide);have D7a:l[7]?=some true->l[4]?=some true:=fun h=>Ql Wu (by decide) hd h (by decide);have D7b:l[7]?=some true->l[6]?=some true:=fun h=>Ql Wu (by decide) hd h (by decide);have n10:i≠10->l[10]?≠some true:=fun hne h10=>by
     have h9:l[9]?=some true:=gy oV (by decide) hd h10 (by decide);have hall:∀j∈[8,0,1,2,3,4,5,6,7],l[j]?=some true:=fun j hj=>Ql pX (by decide) hd h9 hj;have:l[i]?=some true:=by
       by_cases e9:i=9
       . rw[e9];exact h9
       . refine hall i ?_;simp only[List.mem_cons,List.not_mem_nil,or_false];omega
     rw[hb]at this;cases this
   have hw3:=fun(h:l[10]?≠some true) w hw=>Zj (w:=w) (w0:=EG.drew) (w1:=(EG.alloc O).drew) (w2:=w') (w3:=w'.setCell ⟨b,9,none⟩ (.slice p' n' c')) h hw;have hpb:∀w,w=Dc EG.drew (EG.alloc O).drew w' (w'.setCell ⟨b,9,none⟩ (.slice p' n' c')) l->l[10]?≠some true->w.cell? ⟨pb,0,none⟩=some (.pointer (some ⟨b,0,none⟩)):=fun w hw h=>by
     rcases hw3 h w hw with⟨_,rfl⟩|⟨_,rfl⟩|⟨_,rfl⟩
     . exact k1
     . exact Agh
     . exact hpc
   obtain rfl|rfl|rfl|rfl|rfl|rfl|rfl|rfl|rfl|rfl|rfl:i=0\/i=1\/i=2\/i=3\/i=4\/i=5\/i=6\/i=7\/i=8\/i=9\/i=10:=by omega
   ·
     obtain⟨af,p,ty,ho'⟩:=Acw;obtain rfl:=Option.some.inj (ho.symm.trans ho');have t3:a.eval (.tmp 3)=.pointer (some ⟨pb,0,none⟩):=EN ((hI.low 3 (by decide)).trans ht3);have hc:=hpb w hI.wo (n10 (by decide));exact Gv rfl ho rfl rfl (by unfold execOp;simp only[t3];go_simp) (hI.put (i:=0) (by decide) rfl hl (hI.wo.trans (M5 (i:=0) (by decide) (by decide) (by decide)).symm))
   ·
     obtain⟨af,p,ty,ho'⟩:=Aa1;obtain rfl:=Option.some.inj (ho.symm.trans ho');have t3:a.eval (.tmp 3)=.pointer (some ⟨pb,0,none⟩):=EN ((hI.low 3 (by decide)).trans ht3);have hc:=hpb w hI.wo (n10 (by decide));exact Gv rfl ho rfl rfl (by unfold execOp;simp only[t3];go_simp) (hI.put (i:=1) (by decide) rfl hl (hI.wo.trans (M5 (i:=1) (by decide) (by decide) (by decide)).symm))
   ·
     obtain⟨af,p,ty,ho'⟩:=yD;obtain rfl:=Option.some.inj (ho.symm.trans ho');have t:=EN (hI.val 1 _ (I8 xL ho hod (by decide)) rfl);exact Gv rfl ho rfl rfl (by unfold execOp;simp only[t];go_simp) (hI.put (i:=2) (by decide) rfl hl (hI.wo.trans (M5 (i:=2) (by decide) (by decide) (by decide)).symm))
   ·
     obtain⟨af,p,ty,ho'⟩:=yQ;obtain rfl:=Option.some.inj (ho.symm.trans ho');have t:=EN (hI.val 2 _ (I8 yU ho hod (by decide)) rfl);exact Gv rfl ho rfl rfl (by unfold execOp;simp only[t];go_simp) (hI.put (i:=3) (by decide) rfl hl (hI.wo.trans (M5 (i:=3) (by decide) (by decide) (by decide)).symm))
   ·
     obtain⟨af,p,ty,ho'⟩:=Aaq;obtain rfl:=Option.some.inj (ho.symm.trans ho');have t:=EN (hI.val 3 _ (I8 xW ho hod (by decide)) rfl);have hc:w.cell? ⟨b,9,none⟩=some ans:=by
       rcases hw3 (n10 (by decide)) w hI.wo with⟨h7,_⟩|⟨_,rfl⟩|⟨_,rfl⟩
       . exact absurd (D7a h7) (by rw[hb];decide)
       . exact c9'
       . exact c9
     exact Gv rfl ho rfl rfl (by unfold execOp;simp only[t];go_simp) (hI.put (i:=4) (by decide) rfl hl (hI.wo.trans (M5 (i:=4) (by decide) (by decide) (by decide)).symm))
   ·
     obtain⟨af,p,ty,ho'⟩:=Aca;obtain rfl:=Option.some.inj (ho.symm.trans ho');have t8:a.eval (.tmp 8)=.pointer (some ⟨N8,0,none⟩):=EN ((hI.low 8 (by decide)).trans ht8);have hw:w=EG.drew:=by
       rcases hw3 (n10 (by decide)) w hI.wo with⟨h7,_⟩|⟨h6,_⟩|⟨_,rfl⟩
       . exact absurd (D6 (D7b h7)) (by rw[hb];decide)
       . exact absurd (D6 h6) (by rw[hb];decide)
       . rfl
     obtain⟨q0,q1,q2,q3,q4,q5,q6,q7,q8⟩:=hq w (by rw[hw];rfl);exact Gv rfl ho rfl rfl (by unfold execOp;simp only[t8];go_simp) (hI.put (i:=5) (by decide) rfl hl (hI.wo.trans (M5 (i:=5) (by decide) (by decide) (by decide)).symm))
   ·
     obtain⟨af,p,ty,ho'⟩:=yE;obtain rfl:=Option.some.inj (ho.symm.trans ho');have t:=EN (hI.val 5 _ (I8 pG ho hod (by decide)) rfl);have hw:w=EG.drew:=by
       rcases hw3 (n10 (by decide)) w hI.wo with⟨h7,_⟩|⟨h6,_⟩|⟨_,rfl⟩
       . exact absurd (D7b h7) (by rw[hb];decide)
       . exact absurd h6 (by rw[hb];decide)
       . rfl
     subst hw;have h7:l[7]?≠some true:=fun h=>absurd (D7b h) (by rw[hb];decide);refine Gv (w':=(EG.alloc O).drew) rfl ho rfl rfl (by unfold execOp;simp only[List.map_toArray,List.map_cons,List.map_nil,t];rw[← hO];go_simp) (hI.put (i:=6) (by decide) rfl hl ?_);unfold Dc;rw[Array.getElem?_setIfInBounds_ne (by decide),Array.getElem?_setIfInBounds_ne (by decide),Array.getElem?_setIfInBounds_self_of_lt zOM,if_neg (n10 (by decide)),if_neg h7,if_pos rfl]
   ·
     obtain⟨af,p,ty,ho'⟩:=yF;obtain rfl:=Option.some.inj (ho.symm.trans ho');have ta:=EN (hI.val 4 _ (I8 Wu ho hod (by decide)) rfl);have tb:=EN (hI.val 6 _ (I8 Wu ho hod (by decide)) rfl);have hw:w=(EG.alloc O).drew:=by
       rcases hw3 (n10 (by decide)) w hI.wo with⟨h7,_⟩|⟨_,rfl⟩|⟨h6,_⟩
       . exact absurd h7 (by rw[hb];decide)
       . rfl
       . exact absurd (I8 Wu ho hod (by decide)) h6
     subst hw;refine Gv (w':=w') (v:=.slice p' n' c') rfl ho rfl rfl (by unfold execOp;simp only[resolve,invoke,builtin,Sem.run_bind,Sem.run_pure,Result.andThen_ok,List.map_toArray,List.map_cons,List.map_nil,ta,tb,hr]) (hI.put (i:=7) (by decide) rfl hl ?_);unfold Dc;rw[Array.getElem?_setIfInBounds_ne (by decide),Array.getElem?_setIfInBounds_self_of_lt zOM,if_neg (n10 (by decide)),if_pos rfl]
   ·
     obtain⟨af,p,ty,ho'⟩:=Ab2;obtain rfl:=Option.some.inj (ho.symm.trans ho');have t:=EN (hI.val 0 _ (I8 yu ho hod (by decide)) rfl);exact Gv rfl ho rfl rfl (by unfold execOp;simp only[t];go_simp) (hI.put (i:=8) (by decide) rfl hl (hI.wo.trans (M5 (i:=8) (by decide) (by decide) (by decide)).symm))
   ·
     obtain⟨af,p,ty,ho'⟩:=zT;obtain rfl:=Option.some.inj (ho.symm.trans ho');have t:=EN (hI.val 8 _ (I8 pX ho hod (by decide)) rfl);exact Gv rfl ho rfl rfl (by unfold execOp;simp only[t];go_simp) (hI.put (i:=9) (by decide) rfl hl (hI.wo.trans (M5 (i:=9) (by decide) (by decide) (by decide)).symm))
   ·
     obtain⟨af,p,ty,ho'⟩:=vV;obtain rfl:=Option.some.inj (ho.symm.trans ho');have h10:∀j,j∈[9,7]->l[j]?=some true:=fun j hj=>SI oV ho hod hj;have ta:=EN (hI.val 9 _ (h10 9 (by decide)) rfl);have tb:=EN (hI.val 7 _ (h10 7 (by decide)) rfl);have hw:w=w':=by rw[hI.wo];unfold Dc;rw[if_neg (by rw[hb];decide),if_pos (h10 7 (by decide))]
     subst hw;refine TH (w':=w.setCell ⟨b,9,none⟩ (.slice p' n' c')) rfl ho rfl rfl (by unfold execOp;simp only[ta,tb];go_simp) ⟨hI.ds,hI.size,hI.low,fun j u hj hu=>?_,?_⟩
     . have Aer:10≠j:=fun e=>by subst e;simp at hu
       rw[Array.getElem?_setIfInBounds_ne Aer]at hj;exact hI.val j u hj hu
     . unfold Dc;rw[Array.getElem?_setIfInBounds_self_of_lt zOM,if_pos rfl]
 . intro l a w hI hl hall;rw[bF]at hall;obtain⟨at',jk⟩:=a;obtain rfl:jk=[]:=hI.ds;have hw:w=w'.setCell ⟨b,9,none⟩ (.slice p' n' c'):=by rw[hI.wo];unfold Dc;rw[if_pos (hall 10 (by decide))]
   have hbn:∀g,((Value.slice p' n' c').ownBlock=some g->(own g/\ans.ownBlock=some g)\/EG.heap.size+1<=g):=fun g hg=>by
     rcases g3 with h3|⟨h3,_⟩
     . rw[h3]at hg;exact .inl ⟨hA.co g (hblk g hg).1,hg⟩
     . have:=h3 g hg;simp at this;exact .inr this
   subst hw;refine hJ (.slice p' n' c') _ at' (Abv hs hI.size hI.low) (hA1.wrote Afm U9 hints hblk g1 (fun g hg hga=>?_) (fun g hg=>(hbn g hg).imp id fun h=>by omega) ?_) ?_
   . rcases g3 with h3 | ⟨_,h3⟩
     . exact hgb g hg fun e=>hga (h3.trans e)
     . rw[h3.block g (by show g<(EG.alloc O).heap.size;simp;omega) (by simp)]
       exact Below.heap_alloc EG O g hg
   . have:=g2.size;have h2:((EG.alloc O).drew).heap.size=EG.heap.size+1:=by show(EG.alloc O).heap.size=_;simp
     rw[h2]at this;omega
   . have:=g2.size;have h2:((EG.alloc O).drew).heap.size=EG.heap.size+1:=by show(EG.alloc O).heap.size=_;simp
     rw[h2]at this;rw[← hh];simp[World.setCell];omega
end
end
section
section
variable {Cs Sg:Type}{D:Dr EP Cs Sg}{m:Mem Sg}{ρ:Rn}{b k:Nat}{cf:Frame}{fs:List Frame}{W:World}{σ:Sg}
variable {pb:Nat}{wv dv cv u7 u8 O7 GK Gi:Value}{ds:List Deferred}{K:List Item}
theorem Ki.re{x:Wx (Wk EP Cs) Sg ρ}{own core:Nat->Prop}{z:Wk EP Cs}{ans:Value}{gr:Bool}(hA:Ki m b k ⟨x,own,core,pb,z,gr,ans⟩ σ W)(l:List EP):Ki m b k ⟨x,own,core,pb,{ z with todo:=l },gr,ans⟩ σ W:=
 hA.turn hA.row ⟨fun _ _=>rfl,rfl⟩ rfl rfl rfl rfl hA.cap
theorem gW{s:Gr EP Cs Sg ρ}{recv:Value}{Qb:FuncId}(hD:P9 (KO D m ρ b k) dv Qb recv)(hdv:∃t v,dv=.iface t v)(pK:∀tm K,Wv ρ Try.prog 118 ((base 30).at ⟨tm,ds⟩ K) (cf :: fs))(hA:Ki m b k s σ W)(hT:wY s σ)(hpb:s.pb=pb){cs:List EP}{i:Nat}{c:EP}{l:List EP}(hcs:∀σ W,m.Inv σ W->Lg W cv cs)(hi:cs[i]?=some c)(htd:s.z.todo=c :: l)(hlen:s.z.out.length<1000000)(hwv:wv=.pointer (some ⟨b,0,none⟩)){tm:Array Value}(hs:Sl wv dv cv pb u7 u8 cv GK (.int .i64 i) tm)(hJ:∀s' σ' W' u7' u8' tm',Sl wv dv cv pb u7' u8' cv GK (.int .i64 i) tm'->Ki m b k s' σ' W'->wY s' σ'->s'.pb=pb->s'.z.todo=l->s'.z.out.length=s.z.out.length+1->s'.x.1.1.v.h=s.x.1.1.v.h->s'.x.1.2<s.x.1.2->JL (SW (Fe D m) ρ Try.prog).L s'.x (G ((base 30).at ⟨tm',ds⟩ K) (cf :: fs)) W') :
   JL (SW (Fe D m) ρ Try.prog).L s.x (G ((base 30).at ⟨tm,ds⟩ (.code UO :: K)) (cf :: fs)) W:=by
 rw[wm];refine EO ?_;refine sG hA (hcs σ) hi hs fun s1 N7 pa pn pc W1 VU hs1 hA1 hx1 hp1 hz1 hg1 ha1 hN7 h7 hW1=>?_;refine EO ?_;obtain⟨v9,Ae,Af,Ah,Ai,Aj,Ak,Al,Am,Ao,Ap,Ar,Au,Av,Aw,Ay,Az,AA,AB,AJ,AL,AO,AP,AQ,AU,AV,AX,AY,AZ,A8,A9,Ba,Bb,Bc,Bf,Bh,Bj,Bl,Bp,Bq,Br,Bu,Bv,Bw,Bz,BD,BF,BG,BH,BI,BJ,BK,BL,BM,BN,BO,BP,BQ,BR,BS,BU,BX,BZ,Ca,Cb,Cc,Ce,Cg,Ci,rfl⟩:=hs1;obtain⟨hgr,hcur,hbg,MC⟩:=hT;refine gP pK hA1 ⟨hg1.trans hgr,by rw[hz1];exact hcur,by rw[hz1];exact hbg,by rw[hx1,hz1];exact MC⟩ (hp1.trans hpb) (c:=c) (l:=l) (by rw[hz1];exact htd) fun s2 t σ2 W2 hA2 KX ht2 ho2 hc2 hp2 hr2 Ahq hk2 hW2=>?_;have hcap2:=hA2.cap;simp only[Bool.toNat_true]at hcap2;refine EO ?_
 have hs2:Sl wv dv cv pb (.pointer (some ⟨N7,0,none⟩)) u8 cv GK (.int .i64 i) #[wv,dv,cv,.pointer (some ⟨pb,0,none⟩),undef,undef,undef,.pointer (some ⟨N7,0,none⟩),u8,v9,cv,GK,.int .i64 i,Ae,Af,Ah,.pointer (some ⟨b,0,none⟩),.tuple #[],.pointer (some ⟨b,0,none⟩),.tuple #[],Am,Ao,Ap,Ar,Au,Av,Aw,Ay,Az,AA,AB,AJ,AL,AO,AP,AQ,AU,AV,AX,AY,AZ,A8,A9,Ba,Bb,Bc,Bf,Bh,Bj,Bl,Bp,Bq,Br,Bu,Bv,Bw,Bz,BD,BF,BG,BH,BI,BJ,BK,BL,BM,BN,BO,BP,BQ,BR,BS,BU,BX,BZ,Ca,Cb,Cc,Ce,Cg,Ci]:=⟨v9,Ae,Af,Ah,.pointer (some ⟨b,0,none⟩),.tuple #[],.pointer (some ⟨b,0,none⟩),.tuple #[],Am,Ao,Ap,Ar,Au,Av,Aw,Ay,Az,AA,AB,AJ,AL,AO,AP,AQ,AU,AV,AX,AY,AZ,A8,A9,Ba,Bb,Bc,Bf,Bh,Bj,Bl,Bp,Bq,Br,Bu,Bv,Bw,Bz,BD,BF,BG,BH,BI,BJ,BK,BL,BM,BN,BO,BP,BQ,BR,BS,BU,BX,BZ,Ca,Cb,Cc,Ce,Cg,Ci,rfl⟩
 have Aha:s2.pb=pb:=hp2.trans (hp1.trans hpb);rw[Aha]at hA2;refine wT hA2 zOM hs2 fun W3 tm3 hs3 hA3 ht3=>?_;have zn:=hA3.re l;refine EO ?_;have h7':W3.heap[N7]?=some (.cells #[.int .i64 c.kind,.int .i64 c.a,.int .i64 c.b,.int .i64 c.c,.slice pa pn pc] 44 (0,0)):=by rw[ht3.other N7 hN7.2,hk2 N7 hN7];exact h7
 refine rJ (s:=⟨s2.x,s2.own,s2.core,pb,{ s1.z with st:=t,bg:=t,ow:=0,todo:=l },true,s1.ans⟩) hD hdv pK zn rfl (c:=c) ⟨rfl,?_⟩ h7' hs3 hwv fun s4 σ4 W4 e iv N8 tm4 hs4 QL XQ hk4 hE4 zL hN8 h8 UY=>?_
 . show s2.x.1.1.tgt=_;rw[Ahq,hz1];have hzk:=zn.zk;simp only at hzk;unfold Dr.hold;rw[hcur,htd];simp only[Gr.up,if_true];rw[hz1]at hzk;rw[hzk,hcur];cases D.init k c σ2<;>rfl
 rw[vP];refine EO ?_;obtain⟨x4,ZX,Vn,ZL,z4,xG,ZY⟩:=s4;obtain rfl:ZL=pb:=XQ.pb;have Af4:Vn=s2.core:=XQ.core;have zJ:ZY=s1.ans:=XQ.ans;have hb4:ZX b:=QL.co b QL.cb;refine tu QL hs4 fun W5 tm5 hs5 X7 ht5=>?_;have Aeh:N8≠b:=fun e=>hN8 (.inl (e ▸ hb4));rw[← ht5.other N8 Aeh]at h8;refine EO ?_;refine mJ X7 h8 (fun h=>hN8 h) hs5 fun W6 tm6 hs6 hA6 h86 ht6=>?_;refine EO ?_;have hI6:GQ W6 (fun g=>ZX g/\g≠b/\g≠ZL/\ZY.ownBlock≠some g) iv e.ints:=by
   refine(zL.RN (w':=W6) fun g hg=>.of ?_).mono fun g hg=>⟨hg.1.1,hg.1.2,fun e=>hg.2 ⟨?_,hg.1.2⟩,fun ha=>hg.2 ⟨?_,hg.1.2⟩⟩
   . rw[ht6.other g fun e=>hN8 (.inl (e ▸ hg.1.1)),ht5.other g hg.1.2]
   . rw[e];exact hA3.co _ hA3.Qp
   . have:=hA3.am.blk g (by rw[← zJ];exact ha)
     exact hA3.co g this.1
 have Abe:z4.out=s.z.out:=by have:=XQ.out;rw[hz1]at this;exact this
 have Aev:z4.todo=l:=XQ.todo;have wS:(Gr.up ⟨x4,ZX,Vn,ZL,z4,xG,ZY⟩).out=z4.out:=by unfold Gr.up;cases xG<;>rfl
 have hut:(Gr.up ⟨x4,ZX,Vn,ZL,z4,xG,ZY⟩).todo=z4.todo:=by unfold Gr.up;cases xG<;>rfl
 have Abo:x4.1.1.tgt=(Gr.up ⟨x4,ZX,Vn,ZL,z4,xG,ZY⟩).land (σ4,.inr (e,false)):=hE4;generalize Gr.up ⟨x4,ZX,Vn,ZL,z4,xG,ZY⟩=u at X7 hA6 h86 wS hut Abo;refine mZ hA6 (e:=e) h86 hI6 hs6 (by rw[wS,Abe];exact hlen) fun a7 W7 tm7 hs7 hA7 wX=>?_;refine EO ?_;refine j4 hA7 hs7 fun W8 tm8 zR hA8 ht8=>?_;refine jT hA8 zR fun W9 tm9 jo hA9 ht9=>?_;refine hJ _ σ4 W9 _ _ tm9 jo hA9 ⟨rfl,rfl,rfl,?_⟩ rfl (hut.trans Aev) (by show(u.out++[_]).length=_;rw[wS,Abe];simp) ?_ ?_
 . show x4.1.1.tgt=_;rw[Abo,Wk.KU];simp[Wk.fin]
 . show x4.1.1.v.h=_;have:=XQ.h;rw[← hx1];exact this.trans KX
 . show x4.1.2<s.x.1.2;have h1:x4.1.2<=s2.x.1.2:=XQ.r;rw[← hx1];omega
end
end
section
section
variable {Cs Sg:Type}{D:Dr EP Cs Sg}{m:Mem Sg}{ρ:Rn}{b k:Nat}{cf:Frame}{fs:List Frame}{W:World}{σ:Sg}
variable {pb:Nat}{wv dv cv u7 u8 O7 GK Gi:Value}{ds:List Deferred}{K:List Item}
theorem WC{x:Wx (Wk EP Cs) Sg ρ}{cs:List EP}{i:Nat}(hi:i<=1000000)(hn:cs.length<=1000000){tm:Array Value}(hs:Sl wv dv cv pb u7 u8 cv (.int .i64 (cs.length:Nat)) (.int .i64 i) tm)(hJ:∀W' tm',Sl wv dv cv pb u7 u8 cv (.int .i64 (cs.length:Nat)) (.int .i64 i) tm'->tm'[13]?=some (.bool (decide (i<cs.length)))->W'.heap=W.heap->JL (SW (Fe D m) ρ Try.prog).L x (G ((base 30).at ⟨tm',ds⟩ K) (cf :: fs)) W') :
  JL (SW (Fe D m) ρ Try.prog).L x (G ((base 30).at ⟨tm,ds⟩ (.code pl3 :: K)) (cf :: fs)) W:=by
 obtain⟨v9,Ae,Af,Ah,Ai,Aj,Ak,Al,Am,Ao,Ap,Ar,Au,Av,Aw,Ay,Az,AA,AB,AJ,AL,AO,AP,AQ,AU,AV,AX,AY,AZ,A8,A9,Ba,Bb,Bc,Bf,Bh,Bj,Bl,Bp,Bq,Br,Bu,Bv,Bw,Bz,BD,BF,BG,BH,BI,BJ,BK,BL,BM,BN,BO,BP,BQ,BR,BS,BU,BX,BZ,Ca,Cb,Cc,Ce,Cg,Ci,rfl⟩:=hs;refine Fp.Fz (S:=SW (Fe D m) ρ Try.prog) (b:=base 30) [] (by simp) zKR nE zKR fun EG ha=>?_;have hh:=FP ha;have HH:=Lib.hid (zAI hJ hh);clear hJ hh;dsimp only;simp only[pl3,Uf,Try.f30];gi_wp2;obtain⟨hJ,hh⟩:=HH.out;refine hJ EG _ ⟨_,_,_,_,_,_,_,_,_,_,_,_,_,_,_,_,_,_,_,_,_,_,_,_,_,_,_,_,_,_,_,_,_,_,_,_,_,_,_,_,_,_,_,_,_,_,_,_,_,_,_,_,_,_,_,_,_,_,_,_,_,_,_,_,_,_,_,_,_,rfl⟩ (by simp) hh
theorem bN{x:Wx (Wk EP Cs) Sg ρ}{i:Nat}(hi:i<1000000){tm:Array Value}(hs:Sl wv dv cv pb u7 u8 cv GK (.int .i64 i) tm)(hJ:∀W' tm',Sl wv dv cv pb u7 u8 cv GK (.int .i64 ((i+1:Nat):Int)) tm'->W'.heap=W.heap->JL (SW (Fe D m) ρ Try.prog).L x (G ((base 30).at ⟨tm',ds⟩ K) (cf :: fs)) W') :
  JL (SW (Fe D m) ρ Try.prog).L x (G ((base 30).at ⟨tm,ds⟩ (.code vJ :: K)) (cf :: fs)) W:=by
 obtain⟨v9,Ae,Af,Ah,Ai,Aj,Ak,Al,Am,Ao,Ap,Ar,Au,Av,Aw,Ay,Az,AA,AB,AJ,AL,AO,AP,AQ,AU,AV,AX,AY,AZ,A8,A9,Ba,Bb,Bc,Bf,Bh,Bj,Bl,Bp,Bq,Br,Bu,Bv,Bw,Bz,BD,BF,BG,BH,BI,BJ,BK,BL,BM,BN,BO,BP,BQ,BR,BS,BU,BX,BZ,Ca,Cb,Cc,Ce,Cg,Ci,rfl⟩:=hs;refine Fp.Fz (S:=SW (Fe D m) ρ Try.prog) (b:=base 30) [] (by simp) zKR nE zKR fun EG ha=>?_;have hh:=FP ha;have hw:RowKit.wrap64 ((i:Int)+1)=((i+1:Nat):Int):=Lp zOM;have hl1:(-9223372036854775808:Int)<=(i:Int)+1:=by omega
 have hl2:(i:Int)+1<=9223372036854775807:=by omega
 have HH:=Lib.hid (zAI hJ (zAI hh hw));clear hJ hh hw;dsimp only;simp only[vJ,Uf,Try.f30];gi_wp2;obtain⟨hJ,hh,hw⟩:=HH.out;exact hJ EG _ ⟨_,_,_,_,_,_,_,_,_,_,_,_,_,_,_,_,_,_,_,_,_,_,_,_,_,_,_,_,_,_,_,_,_,_,_,_,_,_,_,_,_,_,_,_,_,_,_,_,_,_,_,_,_,_,_,_,_,_,_,_,_,_,_,_,_,_,_,_,_,rfl⟩ hh
theorem cO{recv:Value}{Qb:FuncId}(hD:P9 (KO D m ρ b k) dv Qb recv)(hdv:∃t v,dv=.iface t v)(pK:∀tm K,Wv ρ Try.prog 118 ((base 30).at ⟨tm,ds⟩ K) (cf :: fs)){cs:List EP}(hcs:∀σ W,m.Inv σ W->Lg W cv cs)(hcl:cs.length<=1000000)(hwv:wv=.pointer (some ⟨b,0,none⟩)){h:Nat}(hJ:∀s' σ' W' tm',Ki m b k s' σ' W'->wY s' σ'->s'.pb=pb->s'.z.todo=[]->s'.x.1.1.v.h=h->JL (SW (Fe D m) ρ Try.prog).L s'.x (G ((base 30).at ⟨tm',ds⟩ K) (cf :: fs)) W') :
  ∀(l:List EP) (s:Gr EP Cs Sg ρ) (σ:Sg) (W:World) (i:Nat) (u7 u8:Value) (tm:Array Value),cs.drop i=l->Ki m b k s σ W->wY s σ->s.pb=pb->s.z.todo=l->s.z.out.length=i->i<=1000000->s.x.1.1.v.h=h->Sl wv dv cv pb u7 u8 cv (.int .i64 (cs.length:Nat)) (.int .i64 i) tm->
  JL (SW (Fe D m) ρ Try.prog).L s.x (G ((base 30).at ⟨tm,ds⟩ (.code Uf :: .inLoop Uf :: .inBlock 0 :: K)) (cf :: fs)) W:=by
 intro l;induction l with
 | nil=>
  intro s σ W i u7 u8 tm hl hA hT hpb htd ho hi6 hh hs;have hge:cs.length<=i:=List.drop_eq_nil_iff.1 hl;rw[Xl];refine EO ?_;refine WC hi6 hcl hs fun W1 VU hs1 iN hw1=>?_;rw[decide_eq_false zOM]at iN;refine EO ?_;refine JL.EX (EN iN) ?_;refine JL.exit rfl ?_;exact hJ s σ W1 VU (hA.alike hw1) hT hpb htd hh
 | cons c l ih=>
  intro s σ W i u7 u8 tm hl hA hT hpb htd ho hi6 hh hs;have hlt:i<cs.length:=by
   rcases Nat.lt_or_ge i cs.length with h|h
   . exact h
   . rw[List.drop_eq_nil_of_le h]at hl;cases hl
  have hi:cs[i]?=some c:=by
   have:=congrArg (·[0]?) hl
   simpa using this
  have hl':cs.drop (i+1)=l:=by
   have:=congrArg List.tail hl
   simpa using this
  rw[Xl];refine EO ?_;refine WC zOM hcl hs fun W1 VU hs1 iN hw1=>?_;rw[decide_eq_true hlt]at iN;refine EO ?_;refine JL.F3 (EN iN) ?_;refine EU stepG_skip ?_;refine EO ?_;refine EU stepG_block ?_;refine gW hD hdv pK (hA.alike hw1) hT hpb hcs hi htd zOM hwv hs1 fun s' σ' W' u7' u8' tm' hs' hA' hT' r9 bV ho' hh' _=>?_;refine EU stepG_inBlock ?_;refine bN zOM hs' fun W2 xI hs2 hw2=>?_;refine EU stepG_inLoop ?_;rw[← Xl];exact ih s' σ' W2 (i+1) u7' u8' xI hl' (hA'.alike hw2) hT' r9 bV (by rw[ho',ho]) zOM (hh'.trans hh) hs2
end
end
section
def lp0:Code:=match Try.f55.body with | some (.seq (.seq c _) _)=>c | _=>.skip
def lp1:Code:=match Try.f55.body with | some (.seq (.seq _ c) _)=>c | _=>.skip
def lp2:Code:=match Try.f55.body with | some (.seq _ (.seq c _))=>c | _=>.skip
def lp3:Code:=match Try.f55.body with | some (.seq _ (.seq _ (.seq c _)))=>c | _=>.skip
def wZ:Code:=match Try.f55.body with | some (.seq _ (.seq _ (.seq _ c)))=>c | _=>.skip
theorem Ui:Try.f55.body=some (.seq (.seq lp0 lp1) (.seq lp2 (.seq lp3 wZ))):=rfl
def V4:Code:=match wZ with | .seq _ c=>c | _=>.skip
def TG:Array Oper:=match wZ with | .seq (.region _ ops _) _=>ops | _=>#[]
theorem mh:∃id,wZ=.seq (.region id TG false) V4:=⟨_,rfl⟩
section
variable {c:Frame}{cs:List Frame}
theorem tY{k co go:Nat}{v0 v1 v2 v3 v4 v5 v6 v7 v8 v9 Aa Ab Ac Ae Af Ai Aj Ak Am Ao Ap Au Av Aw Ay:Value}(w:World):stepG Try.prog false (G ((baseD 55).at ⟨#[v0,v1,v2,v3,v4,v5,v6,v7,v8,v9,Aa,Ab,Ac,Ae,Af,.chan (some co),Ai,Aj,Ak,.int .i64 k,Am,Ao,Ap,.chan (some go),Au,Av,Aw,Ay],[]⟩ [.inRegion TG [0,1,2,3],.code V4]) (c :: cs)) w =
   .comm (G ((baseD 55).at ⟨#[v0,v1,v2,v3,v4,v5,v6,v7,v8,v9,Aa,Ab,Ac,Ae,Af,.chan (some co),Ai,Aj,Ak,.int .i64 k,Am,Ao,Ap,.chan (some go),Au,Av,Aw,Ay],[]⟩ [.inRegion TG [0,1,2,3],.code V4]) (c :: cs)) #[scase co (.int .i64 k) (.int .i64 0),rcase go (.agg #[])] true .select w #[]:=by
 simp only[TG,wZ,Try.f55];rw[stepG_comm (cases:=#[scase co (.int .i64 k) (.int .i64 0),rcase go (.agg #[])]) (blocking:=true) (shape:=.select) (w':=w) rfl rfl (by decide) ?_,listed_none ?_]
 . simp[go_sem]
 . go_simp
   exact⟨rfl,rfl⟩
theorem qX{main:Bool}{Γ:Type}{S:O8 Try.prog main Γ}{γ:Γ}{W:World}{k co go:Nat}{zi zg:Value}{v0 v1 v2 v3 v4 v5 v6 v7 v8 v9 Aa Ab Ac Ae Af Ai Aj Ak Am Ao Ap Au Av Aw Ay:Value}{tm:Array Value}(h:JL S γ (G (c.finish (.tuple #[])) cs) W) :
  JL S γ ((G ((baseD 55).at ⟨#[v0,v1,v2,v3,v4,v5,v6,v7,v8,v9,Aa,Ab,Ac,Ae,Af,.chan (some co),Ai,Aj,Ak,.int .i64 k,Am,Ao,Ap,.chan (some go),Au,Av,Aw,Ay],[]⟩ [.inRegion TG [0,1,2,3],.code V4]) (GH 30 tm [] [] .returning .normal :: c :: cs)).finishComm Try.prog #[scase co (.int .i64 k) zi,rcase go zg] .select (0:Nat) undef false) W:=by
 rw[Hr];simp only[TG,wZ,V4,Try.f55];have hc:commResult #[scase co (.int .i64 k) zi,rcase go zg] .select ((0:Nat):Int) undef false=.tuple #[.int .i64 0,.bool false,zg]:=by simp[commResult,scase,rcase,goInt]
 rw[hc];walk_nrm;iterate 3(refine ET ?_;walk_nrm)
 refine EU stepG_region_end ?_;refine EU stepG_block ?_;refine JL.F3 rfl ?_;refine EU stepG_skip ?_;refine EU stepG_inBlock ?_;refine EU stepG_end ?_;refine JL.leaveD rfl rfl Try.func55 rfl rfl ?_;show JL S γ (G { (base 30).at ⟨tm,[]⟩ []with mode:=.returning } (c :: cs)) W;exact JL.YI rfl rfl Try.func30 rfl h
end
section
variable {Cs Sg:Type}{D:Dr EP Cs Sg}{m:Mem Sg}{ρ:Rn}{b k:Nat}{cf:Frame}{fs:List Frame}{W:World}{σ:Sg}
def RI(pb:Nat):Deferred:={ target:=.fn (.func 55) #[.pointer (some ⟨pb,0,none⟩)],args:=#[] }
theorem aZ{s:Gr EP Cs Sg ρ}{pb:Nat}{tm:Array Value}(hA:Ki m b k s σ W)(hT:wY s σ)(htd:s.z.todo=[])(hpb:s.pb=pb)(Lj:∀W,JL (SG Try.prog ρ.ty ρ.Wg (Lr Try.prog ρ.ty ρ.Wg)) () (G (cf.finish (.tuple #[])) fs) W) :
   JL (SW (Fe D m) ρ Try.prog).L s.x (G ((base 30).at ⟨tm,[RI pb]⟩ []) (cf :: fs)) W:=by
 obtain⟨x,own,core,pb',z,gr,ans⟩:=s;obtain rfl:pb'=pb:=hpb;obtain⟨hgr,hcur,hbg,MC⟩:=hT;simp only at hgr hcur hbg MC htd;subst hgr;have he:z.todo.isEmpty=true:=by rw[htd];rfl
 rw[he]at MC;obtain rfl:x.1.1.v.b=b:=hA.vb;obtain rfl:x.1.1.v.k=k:=hA.vk;refine EU stepG_end ?_;refine JW.defers (S:=(SW (Fe D m) ρ Try.prog).base) Try.func55 zKR rfl (by simp) ?_;rw[enter_atD _ Try.func55 Ui];have ht:#[]++#[.pointer (some ⟨pb',0,none⟩)]++Array.replicate (Try.f55.ntmps-(#[]++#[.pointer (some ⟨pb',0,none⟩)]:Array Value).size) undef=#[.pointer (some ⟨pb',0,none⟩),undef,undef,undef,undef,undef,undef,undef,undef,undef,undef,undef,undef,undef,undef,undef,undef,undef,undef,undef,undef,undef,undef,undef,undef,undef,undef,undef]:=by
   have:Try.f55.ntmps=28:=by kernel_rfl
   rw[this];walk_nrm
 rw[ht];show JL (SW (Fe D m) ρ Try.prog).L x _ W;generalize hcf:(GH _ _ _ _ _ _:Frame)=cd;have hcm:cd.mode=.returning:=by rw[← hcf]
 refine EO ?_;refine EO ?_;simp only[lp0,Try.f55];refine E9 fun _ hkk=>?_;refine JL.Vm rfl rfl rfl rfl hcm ?_;walk_nrm;refine JL.Jc (.tuple #[.agg #[],.bool false]) rfl rfl nE (fun _=>by kernel_rfl) ?_;walk_nrm
 (refine ET ?_;walk_nrm)
 refine JL.Jc (.agg #[]) rfl rfl nE (fun _=>by kernel_rfl) ?_;walk_nrm;refine JL.Jc (.bool false) rfl rfl nE (fun _=>by kernel_rfl) ?_;walk_nrm;have HH:=Lib.hid (zAI hA (zAI MC (zAI hcf Lj)));clear hA MC Lj;refine Fp.Gs (S:=SW (Fe D m) ρ Try.prog) (b:=baseD 55) 5 [] (by simp) zKR nE rfl zKR fun EG ha=>?_;dsimp only[List.drop];gi_wp2;refine⟨rfl,?_⟩;obtain⟨hA,MC,hcf,Lj⟩:=HH.out;clear HH;have hA1:=(hA.alike (FP ha)).lay D (N:=EG.heap.size) (W':=EG.alloc (.cells #[] 118)) rfl ⟨_,_,_,heap_alloc_new _ _⟩ (fun b hb=>Below.heap_alloc _ _ _ hb) (by simp);generalize EG.alloc (.cells #[] 118)=W2 at *;generalize hown:(fun g=>own g\/g=EG.heap.size)=gZ;have hA2:Ki m x.1.1.v.b x.1.1.v.k ⟨x,gZ,core,pb',z,false,ans⟩ σ W2:=by rw[← hown];exact hA1
 clear hA hA1;show JL (SW (Fe D m) ρ Try.prog).L x _ W2;dsimp only;refine E5 ?_;cases hkk;simp only[lp1,Try.f55];refine EO ?_;refine E9 fun _ hkk=>?_
 (refine ET ?_;walk_nrm)
 refine E5 ?_;cases hkk;refine JL.EX rfl ?_;refine EU stepG_skip ?_;refine EO ?_;refine Fp.Fz (S:=SW (Fe D m) ρ Try.prog) (b:=baseD 55) [] (by simp) zKR nE zKR fun Fh Lm=>?_;have hh3:=FP Lm;have hA3:=hA2.alike hh3;obtain⟨c5,c6,c7,c8,c9,c10,c11⟩:=hA3.row.cells;have f10:Fh.frozen? ⟨x.1.1.v.b,10,none⟩=false:=hA3.row.frozen;have hpc:=hA3.pc;have HH:=Lib.hid (zAI hA2 (zAI MC (zAI hcf (zAI Lj (zAI hA3 hh3)))));clear hA2 MC Lj hA3 hh3;simp only at hpc c5 c6 c7 c8 c9 c10 c11;simp only[lp2,Try.f55];gi_wp2;obtain⟨hA2,MC,hcf,Lj,hA3,hh3⟩:=HH.out;clear HH c5 c6 c7 c8 c9 c10 c11 f10;have hrow:=hA3.row;unfold F9 at hrow;generalize UY:World.setCell _ _ _=W4
 have hrow4:W4.heap[x.1.1.v.b]?=some (.cells #[.int .i64 x.1.1.v.k,.bool true,.chan (some x.1.1.v.t),.chan (some ρ.come),.chan (some ρ.gone),.bool false,.int .i64 z.st,.int .i64 z.bg,.int .i64 z.ow,ans,.bool true,.bool false] 92 (0,0)):=by rw[← UY];simp[World.setCell,Array.getElem?_modify,hrow]
 have WE:∀g,g≠x.1.1.v.b->W4.heap[g]?=Fh.heap[g]?:=fun g hg=>by rw[← UY];simp[World.setCell,Array.getElem?_modify,hg.symm]
 clear UY;show JL (SW (Fe D m) ρ Try.prog).L x _ W4;try dsimp only
 refine EO ?_;refine Fp.Fz (S:=SW (Fe D m) ρ Try.prog) (b:=baseD 55) [] (by simp) zKR nE zKR fun GZ RP=>?_;have NH:=FP RP;have d0:GZ.cell? ⟨x.1.1.v.b,0,none⟩=some (.int .i64 x.1.1.v.k):=by simp[World.cell?,NH,hrow4]
 have d3:GZ.cell? ⟨x.1.1.v.b,3,none⟩=some (.chan (some ρ.come)):=by simp[World.cell?,NH,hrow4]
 have d4:GZ.cell? ⟨x.1.1.v.b,4,none⟩=some (.chan (some ρ.gone)):=by simp[World.cell?,NH,hrow4]
 have epb:GZ.heap[pb']?=Fh.heap[pb']?:=by rw[NH];exact WE pb' hA3.UR
 have Ape:GZ.cell? ⟨pb',0,none⟩=some (.pointer (some ⟨x.1.1.v.b,0,none⟩)):=by rw[cell_of (a:=⟨pb',0,none⟩) epb];exact hA3.pc
 have HH:=Lib.hid (zAI hA2 (zAI MC (zAI hcf (zAI Lj (zAI hA3 (zAI hh3 (zAI NH (zAI hrow4 (zAI WE hrow)))))))));clear hA2 MC Lj hA3 hh3 NH hrow4 WE hrow hpc;simp only[lp3,Try.f55];gi_wp2;obtain⟨hA2,MC,hcf,Lj,hA3,hh3,NH,hrow4,WE,hrow⟩:=HH.out;clear HH;show JL (SW (Fe D m) ρ Try.prog).L x _ GZ;try dsimp only
 obtain⟨id,e⟩:=mh;rw[e];refine EO ?_;refine JL.region (l:=[0,1,2,3]) rfl fun _ hk=>?_;cases hk
 subst hcf;have h1:=hA3.zi;have h2:=hA3.zg;have NK:=hrow4;rw[← NH]at NK;have Q0:∀g,g≠x.1.1.v.b->GZ.heap[g]?=Fh.heap[g]?:=fun g hg=>by rw[NH];exact WE g hg
 have hbS:¬ m.Sh x.1.1.v.b:=(hA3.o3 _ (hA3.co _ hA3.cb)).2.1;obtain⟨mm,hm⟩:=SG.goes (P:=Try.prog) (ty:=ρ.ty) (Wg:=ρ.Wg) (Stop:=Lr Try.prog ρ.ty ρ.Wg) fun W=>qX (S:=SG Try.prog ρ.ty ρ.Wg (Lr Try.prog ρ.ty ρ.Wg)) (γ:=()) (zi:=ρ.zi) (zg:=ρ.zg) (k:=x.1.1.v.k) (co:=ρ.come) (go:=ρ.gone) (Lj W);refine SW.sit (M:=Fe D m) (own:=gZ) (pb:=pb') rfl (fun w=>?_) (by rw[MC];exact m.eq σ Fh GZ (fun g hg=>.of (Q0 g fun e=>hbS (e ▸ hg))) hA3.inv) hA3.sh (by rw[MC];exact⟨hA3.zk,hA3.co _ hA3.cb,_,_,_,_,_,by have e2:=hA3.zf;simp only at e2;simp only[e2];exact NK,hA3.am.RN (fun g hg=>.of (Q0 g hg.2.1)) |>.mono fun g hg=>⟨hA3.co g hg.1,hg.2.1⟩⟩) (hA3.co _ hA3.Qp) hA3.o1 hA3.o2 (fun g hg=>⟨(hA3.o3 g hg).1,(hA3.o3 g hg).2.1,?_⟩) hA3.Mc (fun _=>⟨mm,fun w hl=>.r0 (hm w hl)⟩) (fun e=>by rw[MC]at e;cases e)
 . rw[tY];simp only[IG,h1,h2];rfl
 . by_cases e:g=x.1.1.v.b
   . rw[e];exact⟨_,_,_,NK⟩
   . rw[Q0 g e];exact(hA3.o3 g hg).2.2
end
end
end Go.Proofs.Ytdkfdedgfilhbaa
namespace Go.LK
open Go Go.Conc Go.LT Go.LC
open Go.ConcN (WgLive)
section
theorem Tq{P:Program}{main:Bool}{R:World->World->Prop}{D D':World->World->Array Event->Prop}{Stop:Goroutine->World->Prop}(hD:∀a b e,D a b e->D' a b e):∀(n:Nat) (g:Goroutine) (w:World),Goes P main R D Stop n g w->Goes P main R D' Stop n g w
 | 0,_,_,h=>h
 | n+1,g,w,h=>by
  rcases h with h|⟨hs,h⟩
  . exact .inl h
  . refine .inr ⟨hs,fun w₁ h₁=>?_⟩;have h2:=h w₁ h₁;cases e:stepG P main g w₁ with
    | go g' w' es=>
     rw[e,goes_go]at h2;rw[goes_go];exact⟨hD _ _ _ h2.1,Tq hD n _ _ h2.2⟩
    | _=>rw[e]at h2;exact h2.elim
theorem GU.Aet{P:Program}{ρ:Rn}{g:Goroutine}(h:∀W,JL (SG P ρ.ty ρ.Wg (Lr P ρ.ty ρ.Wg)) () g W):∃m,GU ρ P m g:=by obtain⟨m,hm⟩:=SG.goes h;exact⟨m,fun w hl=>Tq (fun _ _ _ h=>⟨h.2,.inl h.1⟩) _ _ _ (hm w hl)⟩
theorem GU.Ya{P:Program}{ρ:Rn}{m:Nat}{f:FuncId}{fn:Func}{tm:Array Value}{Y:List Item}{c:Frame}{cs:List Frame}(hf:P.funcs[f]?=some fn)(hr:fn.results=#[])(h:GU ρ P m (G (behind c) cs)):GU ρ P (m+1) (G (GH f tm Y [] .returning .deferred) (c :: cs)):=
 .ctl rfl (fun w _=>by
  have h1:(results fn tm).runT P w #[]=(.ok (.tuple #[]) w,#[]):=by rw[Sem.runT_eq,results_none hr,events_results_none hr]
  simp only[G,GH,stepG,unwind,hf,h1];rfl) h
theorem GU.leave{P:Program}{ρ:Rn}{m:Nat}{f:FuncId}{fn:Func}{tm:Array Value}{Y:List Item}{c:Frame}{cs:List Frame}(hf:P.funcs[f]?=some fn)(hr:fn.results=#[])(h:GU ρ P m (G (c.finish (.tuple #[])) cs)):GU ρ P (m+1) (G (GH f tm Y [] .returning .normal) (c :: cs)):=
 .ctl rfl (fun w _=>by
  have h1:(results fn tm).runT P w #[]=(.ok (.tuple #[]) w,#[]):=by rw[Sem.runT_eq,results_none hr,events_results_none hr]
  simp only[G,GH,stepG,unwind,hf,h1];rfl) h
theorem Sb{c:Frame}{v:Value}{older:List PanicEntry}(hm:c.mode=.panicking (⟨v,true,false⟩ :: older))(h:∀e∈older,e.goexit=false):behind c={ c with mode:=.returning }:=by
 have e:older.dropWhile (!·.goexit)=[]:=by
  clear hm;induction older with
  | nil=>rfl
  | cons x l ih=>rw[List.dropWhile_cons_of_pos (by simp[h x (.head _)])];exact ih fun e he=>h e (.tail _ he)
 unfold behind;rw[hm];simp only[e]
end
end Go.LK
namespace Go.Proofs.Ytdkfdedgfilhbaa
open Go Go.Conc Go.LT Go.LC Go.LK Go.RowKit
section
variable {ρ:Rn}{cf:Frame}{fs:List Frame}
theorem Zo{pb:Nat}(Lj:∀W,JL (SG Try.prog ρ.ty ρ.Wg (Lr Try.prog ρ.ty ρ.Wg)) () (G (cf.finish (.tuple #[])) fs) W)(tm:Array Value)(k:List Item):Wv ρ Try.prog 118 ((base 30).at ⟨tm,[RI pb]⟩ k) (cf :: fs):=by
 intro ch hch;obtain⟨older,hge,rfl⟩:=hch;obtain⟨m0,h0⟩:=GU.Aet Lj;refine⟨m0+40,GU.ctl (g':=G (Frame.enter Try.prog 55 (#[]++#[.pointer (some ⟨pb,0,none⟩)]) .deferred) (GH 30 tm k [] (.panicking (⟨Xn,false,false⟩ :: older)) .normal :: cf :: fs)) rfl (fun w _=>?_) ?_⟩
 . have hc:(invoke (.fn (.func 55) #[.pointer (some ⟨pb,0,none⟩)]) #[]).runT Try.prog w #[]=(.ok (.enter 55 (#[]++#[.pointer (some ⟨pb,0,none⟩)])) w,#[]):=Kr Try.func55 zKR Ui _ _ _;show stepG Try.prog false (G (GH 30 tm k [RI pb] (.panicking (⟨Xn,false,false⟩ :: older)) .normal) (cf :: fs)) w=_;simp[G,GH,stepG,unwind,callDeferred,RI,hc,GStep.after,seen,-Sem.runT_eq]
 . rw[enter_atD _ Try.func55 Ui];have ht:#[]++#[.pointer (some ⟨pb,0,none⟩)]++Array.replicate (Try.f55.ntmps-(#[]++#[.pointer (some ⟨pb,0,none⟩)]:Array Value).size) undef=#[.pointer (some ⟨pb,0,none⟩),undef,undef,undef,undef,undef,undef,undef,undef,undef,undef,undef,undef,undef,undef,undef,undef,undef,undef,undef,undef,undef,undef,undef,undef,undef,undef,undef]:=by
    have:Try.f55.ntmps=28:=by kernel_rfl
    rw[this];walk_nrm
   rw[ht];clear ht;refine GU.c stepG_seq ?_;refine GU.c stepG_seq ?_;simp only[lp0,Try.f55];refine GU.reg (l:=[0,1,2,3,4,5,6,7]) rfl ?_;refine GU.recover (v:=Xn) (older:=older) rfl rfl rfl rfl rfl rfl ?_;walk_nrm;refine GU.op (.tuple #[.agg #[],.bool true]) rfl rfl nE (fun _=>by kernel_rfl) ?_;walk_nrm;refine GU.op (.tuple #[.agg #[],.bool true]) rfl rfl nE (fun _=>by kernel_rfl) ?_;walk_nrm;refine GU.op (.agg #[]) rfl rfl nE (fun _=>by kernel_rfl) ?_;walk_nrm;refine GU.op (.bool true) rfl rfl nE (fun _=>by kernel_rfl) ?_;walk_nrm;refine GU.lay (ob:=.cells #[] 118 (0,0)) trivial rfl rfl nE (fun _=>by kernel_rfl) fun N'=>?_;walk_nrm;refine GU.nop rfl rfl nE (fun _=>by kernel_rfl) ?_;walk_nrm;refine GU.op (.bool true) rfl rfl nE (fun _=>by kernel_rfl) ?_;walk_nrm;refine GU.c stepG_region_end ?_;simp only[lp1,Try.f55];refine GU.c stepG_seq ?_;refine GU.reg (l:=[0]) rfl ?_
   refine GU.op (.bool true) rfl rfl nE (fun _=>by kernel_rfl) ?_;walk_nrm;refine GU.c stepG_region_end ?_;refine GU.c (stepG_cond rfl) ?_;refine GU.c stepG_ret' ?_;refine GU.Ya (f:=55) Try.func55 rfl ?_;rw[Sb rfl hge];refine GU.leave (f:=30) Try.func30 rfl ?_;exact GU.up h0 19
end
end Go.Proofs.Ytdkfdedgfilhbaa
namespace Go.Proofs.Ytdkfdedgfilhbaa
open Go Go.Conc Go.LT Go.LC Go.LK Go.RowKit
open Go.ConcN (WgLive)
section
section
variable {Cs Sg:Type}{D:Dr EP Cs Sg}{m:Mem Sg}{ρ:Rn}{b k:Nat}{cf:Frame}{fs:List Frame}{W:World}{σ:Sg}
variable {wv dv cv:Value}
structure VG(D:Dr EP Cs Sg)(m:Mem Sg)(b k:Nat)(x:Wx (Wk EP Cs) Sg ρ)(own:Nat->Prop)(z:Wk EP Cs)(σ:Sg)(W:World):Prop where
 zi:ρ.zi=.int .i64 0
 zg:ρ.zg=.agg #[]
 vb:x.1.1.v.b=b
 vk:x.1.1.v.k=k
 row:F9 W b k x.1.1.v.t ρ.come ρ.gone false z.st z.bg z.ow (.slice none 0 0) false false
 zk:z.k=k
 zo:z.over=false
 zf:z.fell=false
 uy:z.out=[]
 inv:m.Inv σ W
 sh:∀b,m.Sh b->x.1.1.B b=false
 low:∀b,x.1.1.B b=true->b<x.1.1.n0
 size:x.1.1.n0<=W.heap.size
 Xu:∀b,x.1.1.v.own b->b<x.1.1.n0
 cb:own b
 o1:∀b,x.1.1.v.own b->own b
 o2:∀b,own b->x.1.1.v.own b\/x.1.1.n0<=b
 o3:∀b,own b->x.1.1.B b=false/\¬ m.Sh b/\∃c e f,W.heap[b]?=some (.cells c e f)
 Mc:x.1.1.v.own b
 cap:z.ow+x.1.2<2 ^ 62
theorem VG.at{x:Wx (Wk EP Cs) Sg ρ}{own:Nat->Prop}{z:Wk EP Cs}(h:VG D m b k x own z σ W){W':World}(ho:∀g,g<W.heap.size->W'.heap[g]?=W.heap[g]?)(hs:W.heap.size<=W'.heap.size)(hr:W'.heap[W.heap.size]?=some (.cells #[.pointer (some ⟨b,0,none⟩)] 63 (0,0))) :
    Ki m b k ⟨x,fun g=>own g\/g=W.heap.size,fun g=>own g\/g=W.heap.size,W.heap.size,z,false,.slice none 0 0⟩ σ W':=by
  have hlt:∀{g},own g->g<W.heap.size:=fun hg=>by obtain⟨_,_,c,e,f,hc⟩:=h.o3 _ hg;exact(zGE hc).1
  have NQ:∀{g},m.Sh g->g<W.heap.size:=fun hg=>by obtain⟨c,e,f,hc⟩:=m.rows σ W _ hg h.inv;exact(zGE hc).1
  have hb:=hlt h.cb;exact {
          zi:=h.zi,zg:=h.zg,vb:=h.vb,vk:=h.vk
          row:=by have:=h.row;unfold F9 at this ⊢;rw[ho b hb];exact this
          zk:=h.zk,zo:=h.zo,zf:=h.zf
          am:=by show Lh W' _ _ z.out;rw[h.uy];exact⟨⟨[],rfl,⟨0,rfl,.inl ⟨rfl,rfl⟩⟩,fun i a iv hi=>by simp at hi⟩,fun g hg=>by cases hg⟩
          inv:=m.eq σ W W' (fun g hg=>.of (ho g (NQ hg))) h.inv
          sh:=h.sh,low:=h.low,size:=Nat.le_trans h.size hs,Xu:=h.Xu
          cb:=.inl h.cb,Qp:=.inr rfl,co:=fun g hg=>hg
          o1:=fun g hg=>.inl (h.o1 g hg)
          o2:=fun g hg=>hg.elim (h.o2 g) fun e=>.inr (e ▸ h.size)
          o3:=fun g hg=>by
            rcases hg with hg|rfl
            . exact⟨(h.o3 g hg).1,(h.o3 g hg).2.1,by rw[ho g (hlt hg)];exact(h.o3 g hg).2.2⟩
            . refine⟨?_,fun hg=>by have:=NQ hg;omega,⟨_,_,_,hr⟩⟩
              cases hB:x.1.1.B W.heap.size with
              | false=>rfl
              | true=>
                have h1:W.heap.size<x.1.1.n0:=h.low _ hB;have:=h.size;omega
          Mc:=h.Mc,UR:=by show W.heap.size≠b;omega
          pc:=by show W'.cell? ⟨W.heap.size,0,none⟩=_;simp[World.cell?,hr]
          cap:=by simpa using h.cap }
theorem bq{x:Wx (Wk EP Cs) Sg ρ}{own:Nat->Prop}{z:Wk EP Cs}{Qb:FuncId}{recv:Value}(hD:P9 (KO D m ρ b k) dv Qb recv)(hdv:∃t v,dv=.iface t v)(h:VG D m b k x own z σ W)(hcur:z.cur=none)(hbg:z.bg=0)(MC:x.1.1.tgt=({ z with over:=z.todo.isEmpty },σ,z.todo.isEmpty))(hcs:∀σ W,m.Inv σ W->Lg W cv z.todo)(Lj:∀W,JL (SG Try.prog ρ.ty ρ.Wg (Lr Try.prog ρ.ty ρ.Wg)) () (G (cf.finish (.tuple #[])) fs) W) :
  JW (SW (Fe D m) ρ Try.prog).base x (G (Frame.enter Try.prog 30 #[.pointer (some ⟨b,0,none⟩),dv,cv] .normal) (cf :: fs)) W:=by
 have ht:#[.pointer (some ⟨b,0,none⟩),dv,cv]++Array.replicate (Try.f30.ntmps-(#[.pointer (some ⟨b,0,none⟩),dv,cv]:Array Value).size) undef=#[.pointer (some ⟨b,0,none⟩),dv,cv,undef,undef,undef,undef,undef,undef,undef,undef,undef,undef,undef,undef,undef,undef,undef,undef,undef,undef,undef,undef,undef,undef,undef,undef,undef,undef,undef,undef,undef,undef,undef,undef,undef,undef,undef,undef,undef,undef,undef,undef,undef,undef,undef,undef,undef,undef,undef,undef,undef,undef,undef,undef,undef,undef,undef,undef,undef,undef,undef,undef,undef,undef,undef,undef,undef,undef,undef,undef,undef,undef,undef,undef,undef,undef,undef,undef,undef,undef]:=by
  have:Try.f30.ntmps=81:=by kernel_rfl
  rw[this];walk_nrm
 obtain⟨p,cap,hcv,hcl,_⟩:=hcs σ W h.inv;obtain⟨dt,dw,rfl⟩:=hdv;rw[enter_at _ Try.func30 nD,ht];show JL (SW (Fe D m) ρ Try.prog).L x _ W;refine EO ?_;refine Fp.Fz (S:=SW (Fe D m) ρ Try.prog) (b:=base 30) [] (by simp) zKR nE zKR fun EG ha=>?_;have hh:=FP ha;have HH:=Lib.hid (zAI hD (zAI h (zAI MC (zAI hcs (zAI Lj hh)))));clear hD h MC hcs Lj hh;simp only[pc0,Try.f30];gi_wp2;obtain⟨hD,h,MC,hcs,Lj,hh⟩:=HH.out;clear HH;have h':=h.at (W':=EG.alloc (.cells #[.pointer (some ⟨b,0,none⟩)] 63 (0,0))) (fun g hg=>by rw[Below.heap_alloc EG _ g (by rw[hh];exact hg),hh]) (by simp[hh]) (by rw[← hh];exact heap_alloc_new _ _);rw[← hh]at h';generalize EG.alloc (.cells #[.pointer (some ⟨b,0,none⟩)] 63 (0,0))=W2 at *;generalize EG.heap.size=pb at *;generalize(fun g=>own g\/g=pb)=gZ at *
 show JL (SW (Fe D m) ρ Try.prog).L x _ W2;dsimp only;refine EO ?_;simp only[pc1,Try.f30];refine E9 fun _ hkk=>?_;refine JL.Jc (.func (.func 55) #[] #[.pointer (some ⟨pb,0,none⟩)]) rfl rfl nE (fun _=>by kernel_rfl) ?_;walk_nrm;refine JL.Xq rfl rfl nE rfl rfl ?_;walk_nrm;refine E5 ?_;cases hkk;refine EO ?_;have HH:=Lib.hid (zAI hD (zAI h' (zAI MC (zAI hcs (zAI Lj h)))));clear hD h MC hcs Lj h' hh;subst hcv;refine Fp.Fz (S:=SW (Fe D m) ρ Try.prog) (b:=base 30) [] (by simp) zKR nE zKR fun Fh ha=>?_;simp only[pc2,Try.f30];gi_wp2;obtain⟨hD,h',MC,hcs,Lj,h⟩:=HH.out;clear HH;show JL (SW (Fe D m) ρ Try.prog).L x _ Fh;try dsimp only
 refine EU stepG_block ?_;refine EU stepG_loop ?_;refine cO (K:=[]) (ds:=[RI pb]) hD ⟨dt,dw,rfl⟩ (Zo Lj) hcs hcl rfl (h:=x.1.1.v.h) (fun s' σ' W' tm' hA' hT' r9 bV hh'=>aZ hA' hT' bV r9 Lj) z.todo ⟨x,gZ,gZ,pb,z,false,.slice none 0 0⟩ σ Fh 0 undef undef _ rfl (h'.alike (FP ha)) ⟨rfl,hcur,hbg,MC⟩ rfl rfl (by rw[h.uy];rfl) (Nat.zero_le _) rfl (by refine⟨.func (.func 55) #[] #[.pointer (some ⟨pb,0,none⟩)],undef,undef,undef,undef,undef,undef,undef,undef,undef,undef,undef,undef,undef,undef,undef,undef,undef,undef,undef,undef,undef,undef,undef,undef,undef,undef,undef,undef,undef,undef,undef,undef,undef,undef,undef,undef,undef,undef,undef,undef,undef,undef,undef,undef,undef,undef,undef,undef,undef,undef,undef,undef,undef,undef,undef,undef,undef,undef,undef,undef,undef,undef,undef,undef,undef,undef,undef,undef,?_⟩;simp)
end
end
end Go.Proofs.Ytdkfdedgfilhbaa
namespace Go.LK
open Go Go.Conc Go.LT Go.LC
open Go.ConcN (WgLive sumTo upd sumTo_upd upd_ne upd_same)
open Go.ConcR (KK wgBlock WgAt stA smA rd wr mk)
section
section
variable {X Sg:Type}
variable {P:Program}{Fin:Gb}{EH:FM P Fin}
variable {M:Md X Sg}{ρ:Rn}{ws:List (FE X)}{role:Nat->Fv}{bd:Nat->Nat}{w W:World}{ex n:Nat}{df:Bool}{g g':Goroutine}
theorem Om.tF{B B':Nat->Bool}{q:Nat->Nat}{T:Trace}{gs:Array Goroutine}{w:World}(C:Om P (aL { hol:=B }) q T gs w){b:Nat}(hb:w.heap.size<=b)(h1:∀x,B x=true->B' x=true)(h2:∀x,B' x=true->B x=true\/x=b):Om P (aL { hol:=B' }) q T gs w:=by
 refine⟨C.old,C.above,C.past.shun (fun l ⟨a,e,h⟩=>⟨a,e,h1 _ h⟩) fun i a ha hs=>?_⟩;obtain⟨ad,ho,hB⟩:=hs;rcases h2 _ hB with hB|hB
 . exact .inl ⟨ad,ho,hB⟩
 . exfalso
   obtain⟨x,hx,hxa⟩:=touch_of ha;have hlow:=C.past.seen x (Array.mem_of_getElem? hx);have:(MemAct.low w.heap.size x.act)->b<w.heap.size:=by
    intro hl;cases hact:x.act with
    | access e=>
     rw[hact]at hl hxa;simp only[MemAct.touch?,Option.some.injEq]at hxa;subst hxa;simp only at ho;have h3:e.loc.low w.heap.size:=hl;rw[ho]at h3;rw[← hB];exact h3
    | mark m=>
     rw[hact]at hl hxa;cases m<;>simp only[MemAct.touch?,Option.some.injEq,reduceCtorEq]at hxa
     all_goals(subst hxa;simp only[Loc.cell.injEq]at ho;subst ho;rw[← hB];exact hl)
    | _=>rw[hact]at hxa;simp[MemAct.touch?]at hxa
   have:=this hlow;omega
theorem nY:Oj ([]:List (FE X))=Qy:=by
 funext i l
 apply propext;exact⟨fun⟨j,v,hv,_⟩=>(by cases hv),fun h=>h.elim⟩
theorem iK:Nl ([]:List (FE X)) 0=fun g=>g=0:=by
 funext i
 apply propext;exact⟨fun h=>h.elim id fun h=>h.elim id fun⟨j,v,hv,_⟩=>(by cases hv),fun h=>.inl h⟩
theorem XL:IW ([]:List (FE X)) 0=fun _=>False:=by
 funext i
 apply propext;exact⟨fun⟨h0,h⟩=>h.elim h0 fun⟨j,v,hv,_⟩=>(by cases hv),fun h=>h.elim⟩
theorem Td:Iq ρ=aL (FR ρ ws):=by
 funext l
 apply propext;unfold Iq aL FR;constructor
 . rintro⟨a,rfl,h⟩;exact⟨a,rfl,by simp;exact h.symm⟩
 . rintro⟨a,rfl,h⟩;exact⟨a,rfl,by simp at h;exact h.symm⟩
theorem J0.begin{B:Nat->Bool}{n:Nat}(WY:ρ.Bo=B)(XA:ρ.Wg=W.heap.size)(hrun:g.status=.running)(hstep:∀w,w.heap.size=ρ.Wg->stepG P true g w=.go g' { w with heap:=w.heap.push (wgBlock ρ.ty 0 0) } #[])(hcg:ρ.come≠ρ.gone)(hco:∃k,W.heap[ρ.come]?=some (.chan 0 #[] false k k false))(hgo:∃k,W.heap[ρ.gone]?=some (.chan 0 #[] false k k false))(Zr:∀b,M.Sh b->b≠ρ.Wg/\ρ.Bo b=false)(hlow:Fin.b0<=ρ.come/\Fin.b0<=ρ.gone)(hJ:∀W',(∀b,b<W.heap.size->W'.heap[b]?=W.heap[b]?)->W'.heap.size=W.heap.size+1->JW (S0 P Fin EH).base (.Fg M ρ [] 0 false n) g' W') :
   JW (S0 (X:=X) (Sg:=Sg) P Fin EH).base (.Gj B n) g W:=by
 intro w hw gs T sl q hg hn C Ai9;subst WY;have hsz:=IV hw;have hC':Om P (aL (FR ρ ([]:List (FE X)))) q T gs w:=Om.tF (B':=fun b=>ρ.Bo b||b==ρ.Wg) C (b:=ρ.Wg) zOM (fun x h=>by simp[h]) (fun x h=>by simpa using h);obtain⟨N,gs',a',w',sl',T',q',p1,p2,p3,p4,p5⟩:=Yx (sl:=sl) (D:=fun w w' es=>w.heap.size<=w'.heap.size/\es=#[]) (Stop:=fun a x=>a=g'/\x.heap=w.heap.push (wgBlock ρ.ty 0 0)/\x.os=w.os/\x.output=w.output) (fun w w' es ⟨h1,h2⟩=>⟨h1,by rw[h2];simp⟩)
   (.one hrun fun w₁ ⟨d,h₁⟩=>by subst h₁;exact⟨g',_,#[],hstep _ (by show w.heap.size=_;omega),⟨by simp,rfl⟩,.stop fun w₂ ⟨d',h₂⟩=>by subst h₂;exact⟨rfl,rfl,rfl,rfl⟩⟩) hg hC'
 obtain⟨rfl,hh,hos,hou⟩:=p4 w' ⟨w'.drawn,rfl⟩;have hget:∀b,b<w.heap.size->w'.heap[b]?=w.heap[b]?:=fun b hb=>by rw[hh,Array.getElem?_push];simp[Nat.ne_of_lt hb]
 have hwg:WgAt ρ.ty ρ.Wg w' 0 0:=by
   unfold WgAt;rw[hh,XA,hsz]
   simp
 have hlt:∀{b:Nat} {o:Obj},w.heap[b]?=some o->b<w.heap.size:=fun h=>(zGE h).1;have hcw:∀c:Nat,(∃k,W.heap[c]?=some (Obj.chan 0 #[] false k k false))->∃k,w'.heap[c]?=some (Obj.chan 0 #[] false k k false):=fun c ⟨k,h⟩=>by have:=TJ hw h;exact⟨k,by rw[hget _ (hlt this)];exact this⟩
 have hold:∀b:Nat,ρ.Bo b=true->b≠ρ.Wg/\∃c e f,w'.heap[b]?=some (Obj.cells c e f):=fun b hb=>by obtain⟨c,e,f,hc⟩:=hw.2 b hb;have:=hlt hc;exact⟨by omega,c,e,f,by rw[hget _ this];exact hc⟩
 have H:=Om.begin (ty:=ρ.ty) (K:=Kc ρ ([]:List (FE X))) (fun _=>0) (fun c=>c=ρ.gone) p5 hwg;rw[← nY (X:=X),← iK (X:=X),← XL (X:=X),← Td]at H;have hs':Io (FR ρ ([]:List (FE X))) w' (EF (FR ρ ([]:List (FE X))) w'):=⟨.refl _,⟨fun b hb=>?_,fun b hb=>?_⟩⟩
 . refine EH _ _ _ _ _ p1 ⟨hos,hou,by show w.heap.size<=w'.heap.size;rw[hh];simp,fun b o _ ho _=>by rw[show(crowd gs' w' sl').world=w' from rfl,hget b (hlt ho)];exact ho⟩ (hJ _ (fun b hb=>?_) (by simp[hh,hsz]) w' hs' gs' T' sl' _ _ _ p3 (p2.trans hn) ⟨?_,?_,?_,fun i st n c e=>(by cases e),?_,?_,?_,?_,⟨hcg,hcw _ hco⟩,fun _=>hcw _ hgo,Zr,hold,rfl⟩ H ⟨?_,rfl,?_⟩ (H.KS.past.hears 0 (.inl rfl)) ⟨by omega,hlow.1,hlow.2,fun i v hv=>(by cases hv)⟩)
   . rw[Gu hw,Fq,Fq,hget b zOM];have hb1:(b==ρ.Wg)=false:=by simp;omega
     have hb2:ownB ([]:List (FE X)) b=false:=KV fun i v hv=>(by cases hv)
     show Option.map (fun o=>if((ρ.Bo b||b==ρ.Wg)=true)then Mk o else dep (ownB ([]:List (FE X)) b) o) _=_;rw[hb1,hb2,Bool.or_false];rfl
   all_goals(intro i;intros;simp_all)
 . simp only[FR,Bool.or_eq_true,beq_iff_eq]at hb;rcases hb with hb|hb
   . exact(hold b hb).2
   . rw[hb];exact IB hwg
 . obtain⟨j,u,hu,_⟩:=Jw.1 hb;cases hu
theorem MP.mem(C:MP M ρ P ws 0 role bd w):∀g l,Oj ws g l->l.isMemory=true/\¬ Iq ρ l:=by
 rintro x l ⟨j,u,hu,Iu,ho,hs⟩;have key:∀b,u.own b->∀o,¬ Iq ρ (.cell ⟨b,o,none⟩):=fun b hb o=>by
   rintro⟨a,ha,h⟩;cases ha
   obtain⟨_,h1,h2,_⟩:=C.own j u hu b hb;rcases h with h|h
   . exact h1 h
   . rw[h2]at h;cases h
 have hi:=C.inside j u hu;rcases hs with rfl|rfl|rfl
 . exact⟨rfl,key _ hi.1 _⟩
 . exact⟨rfl,key _ hi.1 _⟩
 . exact⟨rfl,key _ hi.2 _⟩
theorem S0.Tx(hw:Io (FR ρ ws) w W){w₁:World}(h:G9 ρ.ty ρ.Wg w w₁):Io (FR ρ ws) w₁ W:=by obtain⟨⟨τ,d,rfl⟩,hR⟩:=hw;have ht:=h.turns (B:=FR ρ ws) LD;exact⟨⟨τ,d,by rw[ht.same];rfl⟩,ht.rows hR⟩
theorem MP.turns{FK:Nat->Fv}{w₁:World}(C:MP M ρ P ws 0 role bd w)(hS:Same role FK)(h:G9 ρ.ty ρ.Wg w w₁)(XA:∃c e f,w.heap[ρ.Wg]?=some (.cells c e f)):MP M ρ P ws 0 FK bd w₁:=
 C.walk (B:=fun _=>true) hS (fun _ _ _ _ _=>rfl) (fun _ _=>rfl) (.Yk h) XA
theorem J0.aU(hrun:g.status=.running)(hstep:∀w,stepG P true g w=.go g' w #[mk .disable])(hJ:JW (S0 P Fin EH).base (.Fg M ρ ws ex true n) g' W):JW (S0 P Fin EH).base (.Fg M ρ ws ex false n) g W:=by
 intro w hw gs T sl role bd live hg hn C H hL hdf Kl;obtain⟨N,gs₁,w₁,d,sl₁,sl₂,T₁,Fj,FQ,p1,p2,p3,p4,p5,p6,p7,p8,p9,uK⟩:=picked (h:=0) (sl:=sl) C.env hrun _ _ rfl rfl hg H;have hst:=hstep (w₁.at d);have hrt:=runT_crowd_go (P:=P) (sl:=sl₂) (i:=0) p4 hst;have H1:Held P ρ.ty ρ.Wg (Kc ρ ws) (Oj ws) bd (Iq ρ) (fun c=>c=ρ.gone) (mK (Nl ws 0) 0 true) (IW ws 0) 0 Fj FQ ex T₁ gs₁ (w₁.at d):=by obtain⟨C,hs,_⟩:=id p5;exact⟨⟨fun i g s m d hi hg e=>let⟨a1,a2,a3,a4,a5⟩:=C.Ie i g s m d hi hg e;⟨a1,a2,a3,fun z=>a4 z.1,a5⟩,C.seats,fun i st n e=>let⟨a1,a2,a3,a4⟩:=C.seat i st n e;⟨a1,a2,⟨a3,fun z=>by subst z;exact hs st n e⟩,a4⟩,C.own,C.above,C.past.fewer fun g hg=>hg.1,C.keep,C.wg,C.few,C.one⟩,hs,p5.tight⟩
 obtain⟨H',ha'⟩:=H1.mark C.env (fn:=g.frame.fn) (pos:=g.frame.place) (a':=g') (fun z=>z.2 rfl) p4 (m:=.disable) (.inl rfl);have R7:Deaf (T₁++MemOp.ofEvents 0 g.frame.fn g.frame.place #[mk .disable]) 0=true.toNat:=by rw[Deaf_own,p9,hdf];rfl
 exact EH (N+1) _ _ _ _ (runNT_then p1 (by simp only[runNT,p2,hrt];rfl)) (.Yk Kl.wg p6) (hJ (w₁.at d) (S0.Tx hw p6) _ _ _ Fj bd FQ ha' (by simp[p3,hn]) (C.turns p7 p6 (IB H.KS.wg)) H' (hL.keep C p8) R7 Kl)
theorem J0.en(hrun:g.status=.running)(hstep:∀w,stepG P true g w=.go g' w #[mk .enable])(hJ:JW (S0 P Fin EH).base (.Fg M ρ ws ex false n) g' W):JW (S0 P Fin EH).base (.Fg M ρ ws ex true n) g W:=by
 intro w hw gs T sl role bd live hg hn C H hL hdf Kl;obtain⟨N,gs₁,w₁,d,sl₁,sl₂,T₁,Fj,FQ,p1,p2,p3,p4,p5,p6,p7,p8,p9,uK⟩:=picked (h:=0) (sl:=sl) C.env hrun _ _ rfl rfl hg H;have hst:=hstep (w₁.at d);have hrt:=runT_crowd_go (P:=P) (sl:=sl₂) (i:=0) p4 hst;obtain⟨H',ha'⟩:=p5.mark C.env (fn:=g.frame.fn) (pos:=g.frame.place) (a':=g') (fun z=>z.2 rfl) p4 (m:=.enable) (.inr rfl);have R7:Deaf (T₁++MemOp.ofEvents 0 g.frame.fn g.frame.place #[mk .enable]) 0=false.toNat:=by rw[Deaf_own,p9,hdf];rfl
 have H2:Held P ρ.ty ρ.Wg (Kc ρ ws) (Oj ws) bd (Iq ρ) (fun c=>c=ρ.gone) (mK (Nl ws 0) 0 false) (IW ws 0) 0 Fj FQ ex (T₁++MemOp.ofEvents 0 g.frame.fn g.frame.place #[mk .enable]) ((gs₁.map (woken P g g' (w₁.at d))).setIfInBounds 0 g') (w₁.at d):=by
  obtain⟨C',hs,_⟩:=id H';have hM:∀x,Nl ws 0 x->mK (Nl ws 0) 0 true x\/x=0:=fun x hx=>by
   by_cases e:x=0
   . exact .inr e
   . exact .inl ⟨hx,e⟩
  exact⟨⟨fun i g s m d hi hg e=>let⟨a1,a2,a3,a4,a5⟩:=C'.Ie i g s m d hi hg e;⟨a1,a2,a3,fun z=>a4 ⟨z,hi⟩,a5⟩,C'.seats,fun i st n e=>let⟨a1,a2,a3,a4⟩:=C'.seat i st n e;⟨a1,a2,a3.1,a4⟩,C'.own,C'.above,(C'.past.join R7 C.mem).fewer hM,C'.keep,C'.wg,C'.few,C'.one⟩,hs,p5.tight⟩
 exact EH (N+1) _ _ _ _ (runNT_then p1 (by simp only[runNT,p2,hrt];rfl)) (.Yk Kl.wg p6) (hJ (w₁.at d) (S0.Tx hw p6) _ _ _ Fj bd FQ ha' (by simp[p3,hn]) (C.turns p7 p6 (IB H.KS.wg)) H2 (hL.keep C p8) R7 Kl)
theorem J0.add{g':Nat->Goroutine}(hrun:g.status=.running)(hcap:n+ex+1<2147483648)(hstep:∀(w:World) (v:Nat),v+1<2147483648->WgAt ρ.ty ρ.Wg w (v*KK) 0->stepG P true g w=.go (g' v) (w.setCell (stA ρ.Wg) (.int .u64 ((v+1:Nat)*KK))) #[rd (stA ρ.Wg),wr (stA ρ.Wg)])(hJ:∀v,v+1<2147483648->JW (S0 P Fin EH).base (.Fg M ρ ws (ex+1) true n) (g' v) W):JW (S0 P Fin EH).base (.Fg M ρ ws ex true n) g W:=by
 intro w hw gs T sl role bd live hg hn C H hL hdf Kl;obtain⟨N,gs₁,w₁,d,sl₁,sl₂,T₁,Fj,FQ,p1,p2,p3,p4,p5,p6,p7,p8,p9,uK⟩:=picked (h:=0) (sl:=sl) C.env hrun _ _ rfl rfl hg H;have hsum:sumTo gs₁.size FQ<=gs₁.size:=by have:=Go.ConcN.sumTo_le (f:=FQ) (c:=1) (j:=gs₁.size) fun i _=>p5.KS.one i;omega
 have hv:sumTo gs₁.size FQ+ex+1<2147483648:=by omega
 have hst:=hstep _ _ hv p5.KS.wg;have hrt:=runT_crowd_go (P:=P) (sl:=sl₂) (i:=0) p4 hst;obtain⟨H',ha'⟩:=p5.count (fn:=g.frame.fn) (pos:=g.frame.place) (a':=g' (sumTo gs₁.size FQ+ex)) C.env (fun z=>z.2 rfl) p4 hv;have R7:Deaf (T₁++MemOp.ofEvents 0 g.frame.fn g.frame.place #[rd (stA ρ.Wg),wr (stA ρ.Wg)]) 0=true.toNat:=by rw[Deaf_own,p9,hdf];rfl
 have hr2:G9 ρ.ty ρ.Wg w ((w₁.at d).setCell (stA ρ.Wg) (.int .u64 ((sumTo gs₁.size FQ+ex+1:Nat)*KK))):=p6.trans (G9.Uv (.inr ⟨_,rfl⟩) ⟨_,_,H'.KS.wg⟩ ⟨_,_,p5.KS.wg⟩);exact EH (N+1) _ _ _ _ (runNT_then p1 (by simp only[runNT,p2,hrt];rfl)) (.Yk Kl.wg hr2) (hJ _ hv _ (S0.Tx hw hr2) _ _ _ Fj bd FQ ha' (by simp[p3,hn]) (C.turns p7 hr2 (IB H.KS.wg)) H' (hL.keep C p8) R7 Kl)
end
end
section
section
variable {X Sg:Type}
variable {P:Program}{Fin:Gb}{EH:FM P Fin}
variable {M:Md X Sg}{ρ:Rn}{ws:List (FE X)}{role:Nat->Fv}{bd:Nat->Nat}{w W:World}{ex n:Nat}{df:Bool}{g g':Goroutine}
def G0.live:G0 X Sg->World->Prop
 | .Gj _ _=>fun _=>True
 | .Fg _ ρ _ _ _ _=>WgLive ρ.ty ρ.Wg
theorem J0.idle(hrun:g.status=.running)(hstep:∀w,WgLive ρ.ty ρ.Wg w->stepG P true g w=.go g' w #[])(hJ:JW (S0 P Fin EH).base (.Fg M ρ ws ex df n) g' W):JW (S0 P Fin EH).base (.Fg M ρ ws ex df n) g W:=by
 intro w hw gs T sl role bd live hg hn C H hL hdf Kl;obtain⟨N,gs₁,w₁,d,sl₁,sl₂,T₁,Fj,FQ,p1,p2,p3,p4,p5,p6,p7,p8,p9,uK⟩:=picked (h:=0) (sl:=sl) C.env hrun _ _ rfl rfl hg H;have hst:=hstep (w₁.at d) ⟨_,_,p5.KS.wg⟩;have hrt:=runT_crowd_go (P:=P) (sl:=sl₂) (i:=0) p4 hst;have hd:vO (Kc ρ ws) (Oj ws) (Iq ρ) (fun _=>True) ρ.Wg 0 (w₁.at d) (w₁.at d) #[]:=⟨fun _ _ h=>h,fun _ _ _ h=>h,rfl,Nat.le_refl _,by simp⟩
 obtain⟨H',ha'⟩:=p5.own (fn:=g.frame.fn) (pos:=g.frame.place) (a':=g') (fun _ _ _ _ _ _=>trivial) p4 hd;have R7:=((Lb (h:=0) (fn:=g.frame.fn) (pos:=g.frame.place) hd.evs).2.2.2 T₁).trans (p9.trans hdf);exact EH (N+1) _ _ _ _ (runNT_then p1 (by simp only[runNT,p2,hrt];rfl)) (.Yk Kl.wg p6) (hJ (w₁.at d) (S0.Tx hw p6) _ _ _ Fj bd FQ ha' (by simp[p3,hn]) (C.turns p7 p6 (IB H.KS.wg)) H' (hL.keep C p8) R7 Kl)
def jA(P:Program)(Fin:Gb)(EH:FM P Fin):O8 P true (G0 X Sg) where
 B:=G0.B
 J:=J0 P Fin
 live:=G0.live
 idle:=fun γ g g' W hs h hJ=>by
  cases γ with
  | Gj B=>exact JW.silent (S:=(S0 (X:=X) (Sg:=Sg) P Fin EH).base) hs (fun w=>h w trivial) hJ
  | Fg M ρ ws ex df n=>exact J0.idle (EH:=EH) hs h hJ
structure Says(Wg:Nat)(m:Mark):Prop where
 aU:m≠.disable
 en:m≠.enable
 low:∀n,Wg<n->(MemAct.ofEvent (mk m)).low n
 touch:∀b,(MemAct.ofEvent (mk m)).touch?=some b->(∃a:Addr,b.loc=.cell a/\a.block=Wg)/\b.kind≠.plain
theorem aG(Wg o:Nat):Says Wg (.read ⟨Wg,o,none⟩):=⟨by simp,by simp,fun n h=>h,fun b hb=>by simp only[mk,MemAct.ofEvent,MemAct.touch?,Option.some.injEq]at hb;subst hb;exact⟨⟨_,rfl,rfl⟩,by simp⟩⟩
theorem Xz(Wg o:Nat):Says Wg (.write ⟨Wg,o,none⟩):=⟨by simp,by simp,fun n h=>h,fun b hb=>by simp only[mk,MemAct.ofEvent,MemAct.touch?,Option.some.injEq]at hb;subst hb;exact⟨⟨_,rfl,rfl⟩,by simp⟩⟩
theorem MP.xK(C:MP M ρ P ws 0 role bd w){x:Nat}{l:Loc}(h:Oj ws x l){a:Addr}(e:l=.cell a):a.block≠ρ.Wg:=by obtain⟨_,h2⟩:=C.mem x l h;intro hb;exact h2 ⟨a,e,.inl hb⟩
theorem J0.said{m:Mark}(hm:Says ρ.Wg m)(hrun:g.status=.running)(hstep:∀w,WgLive ρ.ty ρ.Wg w->stepG P true g w=.go g' w #[mk m])(hJ:JW (S0 P Fin EH).base (.Fg M ρ ws ex df n) g' W):JW (S0 P Fin EH).base (.Fg M ρ ws ex df n) g W:=by
 intro w hw gs T sl role bd live hg hn C H hL hdf Kl;obtain⟨N,gs₁,w₁,d,sl₁,sl₂,T₁,Fj,FQ,p1,p2,p3,p4,p5,p6,p7,p8,p9,uK⟩:=picked (h:=0) (sl:=sl) C.env hrun _ _ rfl rfl hg H;have hst:=hstep (w₁.at d) ⟨_,_,p5.KS.wg⟩;have hrt:=runT_crowd_go (P:=P) (sl:=sl₂) (i:=0) p4 hst;have hlow:=p5.KS.mY;have hd:vO (Kc ρ ws) (Oj ws) (Iq ρ) (fun _=>True) ρ.Wg 0 (w₁.at d) (w₁.at d) #[mk m]:=⟨fun _ _ h=>h,fun _ _ _ h=>h,rfl,Nat.le_refl _,fun e he=>by
  simp only[List.mem_toArray,List.mem_cons,List.not_mem_nil,or_false]at he;subst he;refine⟨fun b hb=>?_,fun h=>?_,fun h=>?_,hm.low _ hlow⟩
  . obtain⟨⟨a,h1,h2⟩,h3⟩:=hm.touch b hb;exact⟨fun x _ hS=>absurd h2 (C.xK hS h1),fun _=>h3⟩
  . simp only[mk,Loc.mark.injEq]at h;exact hm.aU h
  . simp only[mk,Loc.mark.injEq]at h;exact hm.en h⟩
 obtain⟨H',ha'⟩:=p5.own (fn:=g.frame.fn) (pos:=g.frame.place) (a':=g') (fun _ _ _ _ _ _=>trivial) p4 hd;have R7:=((Lb (h:=0) (fn:=g.frame.fn) (pos:=g.frame.place) hd.evs).2.2.2 T₁).trans (p9.trans hdf);exact EH (N+1) _ _ _ _ (runNT_then p1 (by simp only[runNT,p2,hrt];rfl)) (.Yk Kl.wg p6) (hJ (w₁.at d) (S0.Tx hw p6) _ _ _ Fj bd FQ ha' (by simp[p3,hn]) (C.turns p7 p6 (IB H.KS.wg)) H' (hL.keep C p8) R7 Kl)
end
end
end Go.LK
end
