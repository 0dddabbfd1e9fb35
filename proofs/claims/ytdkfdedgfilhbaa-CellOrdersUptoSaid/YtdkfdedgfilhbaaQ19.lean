/-
  Part 19 of the proof that CellOrders is true of every input of bulk at most 1048576.
-/
import Derived.Test.YtdkfdedgfilhbaaQ18
import Derived.Test.YtdkfdedgfilhbaaRows
import Derived.Deep.Slices
import Derived.Lib.SmallJoins
import Derived.Conc.LeavingOf
import Derived.JoinedCond
import Derived.ProofKit
import Derived.OpenShut
import Derived.ChangeOld
import Derived.Below
import Derived.SizedLaws
set_option linter.unusedVariables false
set_option linter.unusedSectionVars false
set_option linter.unusedSimpArgs false
set_option maxRecDepth 100000
noncomputable section
namespace Go.Proofs.Ytdkfdedgfilhbaa
open Go Go.Conc Go.LT Go.LC Go.LK Go.RowKit Go.Deep Go.ChangeShapes Go.WideShapes
open BA TU
section
variable {H:Type}{enc:TypeId × Value->H}{w:World}{base:Nat}{spare:Nat->Bool}{held:Bool}
theorem QM:Try.prog.cellsOf 44=5:=by kernel_rfl
theorem Mj:Try.prog.cellsOf 3=1:=by kernel_rfl
theorem Vx:Try.prog.cellsOf 40=1:=by kernel_rfl
theorem P6:Try.prog.cellsOf 52=1:=by kernel_rfl
theorem XH:Try.prog.cellsOf 23=1:=by kernel_rfl
theorem Xd:Try.prog.cellsOf 22=1:=by kernel_rfl
theorem WZ:Try.prog.cellsOf 25=4:=by kernel_rfl
def Row(w:World)(g:Nat):Prop:=∃c e f,w.heap[g]?=some (Obj.cells c e f)
theorem Nc{w:World}{a:Addr}{v:Value}(h:w.cell? a=some v):Row w a.block:=by
 simp only[World.cell?]at h;cases ho:w.heap[a.block]? with
 | none=>rw[ho]at h;cases h
 | some o=>
  rw[ho]at h;cases o with
  | cells c e f=>exact⟨c,e,f,ho⟩
  | _=>simp at h
theorem V9(d:DataW H):1<=Rows.uptoBulk d:=by
 cases d with
 | lit l=>cases l<;>simp[Rows.uptoBulk]
 | _=>simp[Rows.uptoBulk]<;>omega
theorem Vt:∀l:List (DataW H),l.length<=Rows.uptoBulkAll l
 | []=>by simp[Rows.uptoBulkAll]
 | d :: r=>by have:=Vt r;have:=V9 d;simp only[Rows.uptoBulkAll,List.length_cons];omega
theorem SK{d:DataW H}:∀{l:List (DataW H)},d∈l->Rows.uptoBulk d<=Rows.uptoBulkAll l
 | x :: r,h=>by
  rcases List.mem_cons.1 h with rfl|h
  . simp only[Rows.uptoBulkAll];omega
  . have:=SK h;simp only[Rows.uptoBulkAll];omega
theorem UZ{v:Value}{d:DataW H}{pl:List MemPlace}{fuel:Nat}(h:DataW.trod enc Try.prog w base spare held fuel 52 [v]=some (d,pl)) :
   ∃(ca:Option Addr) (cs:List EP) (cc:Nat),v=.slice ca cs.length cc/\cs.length<=maxLen/\cs.length<=Rows.uptoBulk d/\∀(i:Nat) c,cs[i]?=some c->∃g o' pa pn pc,ca=some ⟨g,o',none⟩/\Row w g/\Ll w g (o'+i*5) c pa pn pc:=by
 rcases open_slice Try.underlying52 h with⟨hv,_⟩|⟨a,len,cap,m,n,D,Pl,hv,hb,hl,hm,hmm,hx,hcell⟩
 . obtain rfl:v=.slice none 0 0:=by simpa using hv
   exact⟨none,[],0,rfl,by simp,by simp,fun i c hc=>by simp at hc⟩
 . obtain rfl:v=.slice (some a) len cap:=by simpa using hv
   obtain⟨rfl,_⟩:=Prod.mk.inj hx;have hlm:len<=m:=by rw[hmm];split<;>omega
   have bM:∀j,j<len->j=0->a.spot=none:=fun j h0 hj=>by
     obtain⟨cs0,z1,_⟩:=hcell j zOM;rw[QM]at z1;obtain⟨_,zl,zc⟩:=World.cells?_some z1;have zz:=zc 0 zOM;rw[add_add,List.getElem?_eq_getElem zOM]at zz;subst hj
     simpa [Addr.add]using World.cell?_spot zz
   have hsp:0<len->a.spot=none:=fun h=>bM 0 h rfl;have each:∀i,∃c:EP,i<len->∃g o' pa pn pc,some a=some ⟨g,o',none⟩/\Row w g/\Ll w g (o'+i*5) c pa pn pc:=fun i=>by
     by_cases hi:i<len
     . obtain⟨cs',h1,h2⟩:=hcell i zOM;rw[QM]at h1;obtain⟨_,hcl,hc⟩:=World.cells?_some h1;obtain⟨xs,k,_,_,_,hlen,hf⟩:=DataW.trod_struct Try.underlying44 h2;obtain⟨u0,u1,u2,u3,u4,rfl⟩:∃u0 u1 u2 u3 u4,cs'=[u0,u1,u2,u3,u4]:=by
         clear hf hc h1 h2
         match cs',hcl with
         | [u0,u1,u2,u3,u4],_=>exact⟨u0,u1,u2,u3,u4,rfl⟩
       obtain⟨y0,y1,y2,y3,y4,rfl⟩:∃y0 y1 y2 y3 y4,xs=[y0,y1,y2,y3,y4]:=by
         clear hf hc h1 h2
         match xs,hlen with
         | [y0,y1,y2,y3,y4],_=>exact⟨y0,y1,y2,y3,y4,rfl⟩
       have g0:=hf 0 _ rfl;have g1:=hf 1 _ rfl;have g2:=hf 2 _ rfl;have g3:=hf 3 _ rfl;have g4:=hf 4 _ rfl;simp[Mj,Vx]at g0 g1 g2 g3 g4;obtain⟨n0,e0,_⟩:=DataW.trod_int Try.underlying3 g0;obtain⟨n1,e1,_⟩:=DataW.trod_int Try.underlying3 g1;obtain⟨n2,e2,_⟩:=DataW.trod_int Try.underlying3 g2;obtain⟨n3,e3,_⟩:=DataW.trod_int Try.underlying3 g3;obtain⟨pa,pn,pc,e4⟩:∃pa pn pc,u4=.slice pa pn pc:=by
         rcases open_slice Try.underlying40 g4 with⟨hv,_⟩|⟨a,len,cap,m,n,D,Pl,hv,_⟩
         . exact⟨_,_,_,by simpa using hv⟩
         . exact⟨_,_,_,by simpa using hv⟩
       simp only[List.cons.injEq,and_true]at e0 e1 e2 e3;subst e0 e1 e2 e3 e4;have c0:=hc 0 zOM;have c1:=hc 1 zOM;have c2:=hc 2 zOM;have c3:=hc 3 zOM;have c4:=hc 4 zOM;rw[add_add]at c0 c1 c2 c3 c4;obtain⟨b,o,spot⟩:=a;obtain rfl:spot=none:=hsp zOM;rw[Addr.add_lit]at c0 c1 c2 c3 c4;refine⟨⟨n0,n1,n2,n3⟩,fun _=>⟨b,o,pa,pn,pc,rfl,Nc c0,?_,?_,?_,?_,?_⟩⟩
       . simpa using c0
       . simpa [Nat.add_assoc]using c1
       . simpa [Nat.add_assoc]using c2
       . simpa [Nat.add_assoc]using c3
       . simpa [Nat.add_assoc]using c4
     . exact⟨⟨0,0,0,0⟩,fun h=>absurd h hi⟩
   obtain⟨q,hq⟩:=Classical.skolem.1 each;have tT:((List.range len).map q).length=len:=by simp
   refine⟨some a,(List.range len).map q,cap,by rw[tT],by rw[tT];omega,?_,fun i c hc=>?_⟩
   . rw[tT];have:=Vt ((List.range len).map D);simp only[List.length_map,List.length_range]at this;simp only[Rows.uptoBulk];omega
   . have hi:i<len:=by have:=(List.getElem?_eq_some_iff.1 hc).1;omega
     rw[List.getElem?_map,List.getElem?_range hi]at hc;obtain rfl:=Option.some.inj hc;exact hq i hi
theorem Oc{v:Value}{d:DataW H}{pl:List MemPlace}{fuel:Nat}(h:DataW.trod enc Try.prog w base spare held fuel 22 [v]=some (d,pl)) :
   ∃(ao:Option Addr) (xs:List Int) (mc:Nat),v=.slice ao xs.length mc/\Reads w v (xs.map (Value.int .i64))/\∀(i:Nat) x,xs[i]?=some x->-9223372036854775808<=x/\x<=9223372036854775807/\∃b o,ao=some ⟨b,o,none⟩/\Row w b/\w.cell? ⟨b,o+i,none⟩=some (.int .i64 x):=by
 rcases open_slice Try.underlying22 h with⟨hv,_⟩|⟨a,len,cap,m,n,D,Pl,hv,hb,hl,hm,hmm,hx,hcell⟩
 . obtain rfl:v=.slice none 0 0:=by simpa using hv
   exact⟨none,[],0,rfl,.inl ⟨rfl,none,0,rfl,Nat.zero_le _,fun _=>rfl⟩,fun i c hc=>by simp at hc⟩
 . obtain rfl:v=.slice (some a) len cap:=by simpa using hv
   have hlm:len<=m:=by rw[hmm];split<;>omega
   have bM:∀j,j<len->j=0->a.spot=none:=fun j h0 hj=>by
     obtain⟨cs0,z1,_⟩:=hcell j zOM;rw[Mj]at z1;obtain⟨_,zl,zc⟩:=World.cells?_some z1;have zz:=zc 0 zOM;rw[add_add,List.getElem?_eq_getElem zOM]at zz;subst hj
     simpa [Addr.add]using World.cell?_spot zz
   have hsp:0<len->a.spot=none:=fun h=>bM 0 h rfl;have each:∀i,∃x:Int,i<len->-9223372036854775808<=x/\x<=9223372036854775807/\∃b o,some a=some ⟨b,o,none⟩/\Row w b/\w.cell? ⟨b,o+i,none⟩=some (.int .i64 x):=fun i=>by
     by_cases hi:i<len
     . obtain⟨cs',h1,h2⟩:=hcell i zOM;rw[Mj]at h1;obtain⟨_,hcl,hc⟩:=World.cells?_some h1;obtain⟨x,e,_,hwf⟩:=DataW.trod_int Try.underlying3 h2;subst e;have c0:=hc 0 zOM;rw[add_add]at c0;obtain⟨b,o,spot⟩:=a;obtain rfl:spot=none:=hsp zOM;rw[Addr.add_lit]at c0;have hx:-9223372036854775808<=x/\x<=9223372036854775807:=by simpa [Lit.wf,IntKind.min,IntKind.max,IntKind.signed,IntKind.bits]using hwf
       exact⟨x,fun _=>⟨hx.1,hx.2,b,o,rfl,Nc c0,by simpa using c0⟩⟩
     . exact⟨0,fun h=>absurd h hi⟩
   obtain⟨q,hq⟩:=Classical.skolem.1 each;have tT:((List.range len).map q).length=len:=by simp
   have hget:∀i,i<len->((List.range len).map q)[i]?=some (q i):=fun i hi=>by rw[List.getElem?_map,List.getElem?_range hi];rfl
   refine⟨some a,(List.range len).map q,cap,by rw[tT],?_,fun i x hc=>?_⟩
   . by_cases h0:len=0
     . subst h0;exact .inl ⟨rfl,some a,cap,rfl,hm,fun h=>by cases h⟩
     . obtain⟨_,_,b,o,e,_⟩:=hq 0 zOM;cases e
       refine .inr ⟨by simp[h0],b,o,cap,by simp,by simpa using hl,hm,fun i u hu=>?_⟩;have hi:i<len:=by have:=(List.getElem?_eq_some_iff.1 hu).1;simpa using this
       rw[List.getElem?_map,hget i hi]at hu;obtain rfl:=Option.some.inj hu;obtain⟨_,_,b',o',e',_,hc⟩:=hq i hi;cases e'
       exact hc
   . have hi:i<len:=by have:=(List.getElem?_eq_some_iff.1 hc).1;omega
     rw[hget i hi]at hc;obtain rfl:=Option.some.inj hc;exact hq i hi
theorem ZQ{cs:Array Value}{d:DataW H}{ps:List MemPlace}(h:DataW.Trod enc Try.prog w base spare held 25 (.agg cs) d ps) :
   ∃(wa ta ya:Option Addr) (plans:List (List EP)) (turns hl:List Int) (wc tc yc:Nat) (u:Int),cs=#[.slice wa plans.length wc,.slice ta turns.length tc,.slice ya hl.length yc,.int .i64 u]/\GL (Row w) wa ta ya plans turns hl w/\
     Reads w (.slice ta turns.length tc) (turns.map (Value.int .i64))/\(∀pl∈plans,pl.length<=Rows.uptoBulk d)/\0<Rows.uptoBulk d:=by
 obtain⟨fuel,hf⟩:=h;obtain⟨xs,k,_,hx,hl,hlen,hf⟩:=DataW.trod_struct Try.underlying25 hf;rw[WZ]at hl;obtain⟨cl⟩:=cs;have hcl:cl.length=4:=hl;obtain⟨u0,u1,u2,u3,rfl⟩:∃u0 u1 u2 u3,cl=[u0,u1,u2,u3]:=by
   clear hf hl
   match cl,hcl with
   | [u0,u1,u2,u3],_=>exact⟨u0,u1,u2,u3,rfl⟩
 obtain⟨y0,y1,y2,y3,rfl⟩:∃y0 y1 y2 y3,xs=[y0,y1,y2,y3]:=by
   clear hf hx
   match xs,hlen with
   | [y0,y1,y2,y3],_=>exact⟨y0,y1,y2,y3,rfl⟩
 have g0:=hf 0 _ rfl;have g1:=hf 1 _ rfl;have g2:=hf 2 _ rfl;have g3:=hf 3 _ rfl;simp[Value.cells,Mj,Xd,XH]at g0 g1 g2 g3;obtain⟨n3,e3,_⟩:=DataW.trod_int Try.underlying3 g3;obtain rfl:u3=.int .i64 n3:=by simpa using e3
 obtain⟨d0,p0⟩:=y0;obtain⟨d1,p1⟩:=y1;obtain⟨d2,p2⟩:=y2;obtain⟨ta,turns,tc,rfl,hR,Jg⟩:=Oc g1;obtain⟨ya,hl2,yc,rfl,_,sw⟩:=Oc g2;obtain⟨rfl,_⟩:=Prod.mk.inj hx;obtain⟨wa,plans,wc,rfl,hw,eF⟩:∃(wa:Option Addr) (plans:List (List EP)) (wc:Nat),u0=.slice wa plans.length wc/\(∀(k:Nat) pl,plans[k]?=some pl->∃b o ca cc,wa=some ⟨b,o,none⟩/\Row w b/\pl.length<=maxLen/\w.cell? ⟨b,o+k,none⟩=some (.slice ca pl.length cc)/\∀(i:Nat) c,pl[i]?=some c->∃g o' pa pn pc,ca=some ⟨g,o',none⟩/\Row w g/\Ll w g (o'+i*5) c pa pn pc)/\∀pl∈plans,pl.length<=Rows.uptoBulk d0:=by
   rcases open_slice Try.underlying23 g0 with⟨hv,_⟩|⟨a,len,cap,m,n,D,Pl,hv,hb,hl,hm,hmm,hx,hcell⟩
   . obtain rfl:u0=.slice none 0 0:=by simpa using hv
     exact⟨none,[],0,rfl,fun k pl hp=>by simp at hp,fun pl hp=>by simp at hp⟩
   . obtain rfl:u0=.slice (some a) len cap:=by simpa using hv
     obtain⟨rfl,_⟩:=Prod.mk.inj hx;have hlm:len<=m:=by rw[hmm];split<;>omega
     have bM:∀j,j<len->j=0->a.spot=none:=fun j h0 hj=>by
       obtain⟨cs0,z1,_⟩:=hcell j zOM;rw[P6]at z1;obtain⟨_,zl,zc⟩:=World.cells?_some z1;have zz:=zc 0 zOM;rw[add_add,List.getElem?_eq_getElem zOM]at zz;subst hj
       simpa [Addr.add]using World.cell?_spot zz
     have hsp:0<len->a.spot=none:=fun h=>bM 0 h rfl;have each:∀i,∃pl:List EP,i<len->pl.length<=Rows.uptoBulk (D i)/\∃b o ca cc,some a=some ⟨b,o,none⟩/\Row w b/\pl.length<=maxLen/\w.cell? ⟨b,o+i,none⟩=some (.slice ca pl.length cc)/\∀(i:Nat) c,pl[i]?=some c->∃g o' pa pn pc,ca=some ⟨g,o',none⟩/\Row w g/\Ll w g (o'+i*5) c pa pn pc:=fun i=>by
       by_cases hi:i<len
       . obtain⟨cs',h1,h2⟩:=hcell i zOM;rw[P6]at h1;obtain⟨_,hcl,hc⟩:=World.cells?_some h1;obtain⟨v,rfl⟩:∃v,cs'=[v]:=by
          clear hc h1 h2
          match cs',hcl with
          | [v],_=>exact⟨v,rfl⟩
         obtain⟨ca,cl,cc,rfl,q1,q2,q3⟩:=UZ h2;have c0:=hc 0 zOM;rw[add_add]at c0;obtain⟨b,o,spot⟩:=a;obtain rfl:spot=none:=hsp zOM;rw[Addr.add_lit]at c0;exact⟨cl,fun _=>⟨q2,b,o,ca,cc,rfl,Nc c0,q1,by simpa using c0,q3⟩⟩
       . exact⟨[],fun h=>absurd h hi⟩
     obtain⟨q,hq⟩:=Classical.skolem.1 each;have tT:((List.range len).map q).length=len:=by simp
     refine⟨some a,(List.range len).map q,cap,by rw[tT],fun i pl hc=>?_,fun pl hp=>?_⟩
     . have hi:i<len:=by have:=(List.getElem?_eq_some_iff.1 hc).1;omega
       rw[List.getElem?_map,List.getElem?_range hi]at hc;obtain rfl:=Option.some.inj hc;exact(hq i hi).2
     . obtain⟨i,hi,rfl⟩:=List.mem_map.1 hp;have hi:=List.mem_range.1 hi;have h1:=(hq i hi).1;have h2:Rows.uptoBulk (D i)<=Rows.uptoBulkAll ((List.range len).map D):=SK (List.mem_map.2 ⟨i,List.mem_range.2 hi,rfl⟩);simp only[Rows.uptoBulk];omega
 refine⟨wa,ta,ya,plans,turns,hl2,wc,tc,yc,n3,rfl,⟨hw,fun i x hx=>?_,sw⟩,hR,fun pl hp=>?_,V9 _⟩
 . obtain⟨_,_,b,o,h1,h2,h3⟩:=Jg i x hx;exact⟨b,o,h1,h2,h3⟩
 . have:=eF pl hp;simp only[List.map_cons,List.map_nil,Rows.uptoBulk,Rows.uptoBulkAll];omega
end
end Go.Proofs.Ytdkfdedgfilhbaa
namespace Go.LT
open Go Go.Conc
section
section
variable {H:Type}{enc:TypeId × Value->H}
theorem Qg {a:Assume}{C:Checked}{os:Os}{f:FuncId}{fn:Func}{s:OpenSpec}{k:(H:Type)->List (DataW H)->Bool}(hk:s.cond=some k){F:Stop.Interp}{conds:List PathCond}{apart fresh handsOn again:Bool}(own:ownKnob C.prog.godebug=none)(started:os.Started)(hfn:C.prog.funcs[f]?=some fn)(witness:∃ (w:World) (tape:Tape) (i:Input),w.os=os/\(w.forCall tape i).Shaped C.prog/\i.vars=[]/\Input.okWide C.prog (w.forCall tape i) .any w.heap.size f i/\
      s.pre6 enc C.prog fn conds apart (w.forCall tape i).memory i.args/\a.holds C.prog (lone (Frame.enter C.prog f i.args .normal) [] (w.forCall tape i)))(runs:∀(W:World) (base:Nat) (args:Array Value) (ds gs:List (DataW H)) (before:List MemPlace),
      (∀(j:Nat) t v,fn.params[j]?=some t->args[j]?=some v->Value.okWide C.prog W .any base t v)->DataW.Whole enc C.prog fn.params.toList s.vars apart W args.toList ds gs before->k H (ds++gs)=true->
      (DataW.weightsEach C.prog (fn.params.toList++s.bare.plain.varTypes C.prog) (ds++gs)).all (·<=reachBytes)=true->
      ∃M last o w' t',runNT C.prog (M+1) (solo (G (Frame.enter C.prog f args .normal) []) W) #[]=(.ended o w',t')/\runN C.prog M (solo (G (Frame.enter C.prog f args .normal) []) W)=.next last/\
        step C.prog last=.ended o w'/\Conc.Good C.prog (fun v W'=>(s.at F).post enc C.prog fn apart fresh handsOn again W args v W') last o w' t') :
    ReturnsInLeavingWide a C os f .any (s.pre6 enc C.prog fn conds apart) ((s.at F).post enc C.prog fn apart fresh handsOn again):=
  returnsInLeavingWide_of_good own started witness fun w tape i _ _ _ hok hpre _=>by obtain⟨_,_,_,fn',hfn',_,_,_,_,hval⟩:=hok;obtain rfl:fn'=fn:=Option.some.inj (hfn'.symm.trans hfn);obtain⟨ds,gs,before,hw,_,hkk⟩:=(OpenSpec.pre_some hk conds apart _ _).1 hpre.1;obtain⟨M,last,o,w',t',h1,h2,h3,h4⟩:=runs (w.forCall tape i) w.heap.size i.args ds gs before hval (DataW.Whole.of_heap (w':=w.forCall tape i) (by rfl) hw) hkk (hpre.2.weights hw);exact⟨M,last,o,w',t',h1,h2,h3,h4.mono fun v hp=>ChangeSpec.post_blind hp⟩
end
theorem MK{p:Pinned}{s:OpenSpec}{c:OpenClaim}(f:FuncId)(fn:Func)(hn:c.program=p.name/\c.sum=p.sum/\c.spec=s.name)(hstart:c.start=.entering)(hout:c.outside=[])(hin:c.inits=[]/\c.under=none/\c.initsInPlace=[]/\c.initsUnfollowed=false/\c.initsRecurse=false/\c.initsNamed=[]/\c.initsPassed=[])(hnb:c.noBlocks=false)(hlv:c.leaving=true)(hfo:c.followed=none)(hnar:c.narrowed=s.cond.isSome)(hstill:c.still=false)(hfn:p.checked.prog.funcNamed c.func=some f)(hf:p.checked.prog.funcs[f]?=some fn)(closed:joinedFacts p.checked.prog f fn s.bare c=true)(hinst:fn.isInstance p.checked.prog c.origin c.targs)(hwrap:fn.isWrapper p.checked.prog c.wrapper c.mainSum)(h:∀os:Os,os.Started->∀(H:Type) (enc:TypeId × Value->H),∀F:Stop.Interp,ReturnsInLeavingWide c.assume p.checked os f .any (c.pre enc p.checked.prog fn s) ((s.at F).post enc p.checked.prog fn c.apart c.fresh c.handsOn c.again)):c.holds p s:=by
 simp only[joinedFacts,Bool.and_eq_true,beq_iff_eq,Array.all_eq_true_iff_forall_mem,List.all_eq_true,decide_eq_true_eq]at closed;obtain⟨⟨⟨⟨⟨⟨⟨⟨⟨⟨⟨⟨⟨⟨⟨⟨⟨⟨⟨⟨⟨⟨⟨⟨⟨⟨⟨⟨⟨⟨⟨a1,a2⟩,a3⟩,a4⟩,a5⟩,a6⟩,a7⟩,a8⟩,a9⟩,b0⟩,b1⟩,b2⟩,b3⟩,b4⟩,b5⟩,b6⟩,b7⟩,b8⟩,b9⟩,d0⟩,d1⟩,d2⟩,d3⟩,d4⟩,d5⟩,d6⟩,d7⟩,d8⟩,d9⟩,e0⟩,e1⟩,e2⟩:=closed;refine⟨a1,hn.1,hn.2.1,hn.2.2,a2,a3,by unfold OpenClaim.startFits;rw[hstart];exact d6,by unfold OpenClaim.startTold;rw[hstart];exact hin,f,fn,hfn,hf,⟨a4,d0⟩,(fun hb=>by rw[hnb]at hb;cases hb),by unfold OpenClaim.namedList;rw[hfo];exact a5,hinst,hwrap,
  a6.trans a7.symm,⟨a8.trans a9.symm,by unfold Program.envWorded;rw[a9];rfl,d5⟩,b0,b1,b2,b3,b4,⟨b5,e1,e2⟩,⟨b6,d1⟩,⟨b7,d2,d9,e0⟩,⟨d3,d7,d8,b8⟩,(by rw[hout,hnar];cases hsh:c.shortTexts with | none=>simp | some _=>rw[hsh]at d4;cases d4),fun n hn'=>varReadable_some (b9 n hn'),
  ⟨_,by unfold OpenClaim.world;rw[hout,hstart];exact WideRow.started_initial,fun k hk=>by rw[a9]at hk;cases hk⟩,[],by unfold OpenClaim.lists;rw[hfo],fun os st _ H enc inj=>?_⟩
 have st':os.Started:=by unfold OpenClaim.world at st;rw[hout,hstart]at st;exact st
 rw[OpenClaim.post_not_still hstill];unfold OpenClaim.form;rw[hstart,a6];intro F;rw[show c.okInput=Input.okWide by unfold OpenClaim.okInput;rw[hnb],show c.atReturn p.checked.prog=leavingAtReturn p.checked.prog by unfold OpenClaim.atReturn;rw[hlv],show c.always p.checked.prog []=nothingAlways by unfold OpenClaim.always;rw[hfo]];show ReturnsInOpen _ _ _ _ _ _ _ _ (s.post enc p.checked.prog fn F c.outside c.apart c.fresh c.handsOn c.again) _ _;rw[show s.post enc p.checked.prog fn F c.outside c.apart c.fresh c.handsOn c.again=(s.at F).post enc p.checked.prog fn c.apart c.fresh c.handsOn c.again by rw[hout];rfl];exact h os st' H enc F d6
end
end Go.LT
namespace Go.Proofs.Ytdkfdedgfilhbaa.cellOrders
open Go.ChangeShapes Go.WideShapes Go.ChangeAt Go.RowKit Go.Conc Go.LT Go.LC Go.LK
theorem Xe{P:Program}{b:Frame}{a:Act}{todo:List Item}{w:World}{fn:Func}{v:Value}(hn:b.kind=.normal)(hd:a.defers=[])(hf:P.funcs[b.fn]?=some fn)(hr:(results fn a.tmps).run P w=.ok v w)(he:(results fn a.tmps).events P w #[]=#[])(hi:P.inits.idxOf? b.fn=none) :
  stepG P true (G { b.at a todo with mode:=.returning } []) w=.ended (.done v) w #[]:=by
 simp[G,stepG,unwind,doReturn,Frame.at,hn,hd,hf,hr,he,hi,seen,GStep.after]
def Post(W:World)(v:Value)(w:World):Prop:=v=.bool true/\Below W.heap.size W { w with tape:=W.tape }
def fin(W:World):Gb where
 F:=fun m T=>Po W.heap.size W m.world->∃N last o w' t',runNT Try.prog (N+1) m T=(.ended o w',t')/\runN Try.prog N m=.next last/\step Try.prog last=.ended o w'/\Conc.Good Try.prog (Post W) last o w' t'
 b0:=W.heap.size
theorem vB(W:World):FM Try.prog (fin W):=by
 intro N m m' T T' h fr hF hm;obtain⟨N',last,o,w',t',r1,r2,r3,r4⟩:=hF (hm.trans fr);refine⟨N+N',last,o,w',t',?_,?_,r3,r4⟩
 . rw[Nat.add_assoc,runNT_add,h];exact r1
 . rw[← runNT_fst _ _ _ T,runNT_add,h];show(runNT Try.prog N' m' T').1=_;rw[runNT_fst];exact r2
def Bn:LT.Hid:={ hol:=fun _=>false }
theorem gK(W:World)(g:Nat):(EF Bn W).heap[g]?=(W.heap[g]?).map depend:=by rw[Fu (B:=Bn) rfl];show(W.heap[g]?).map (dep false)=_;rw[JN]
theorem Xa{W:World}{g:Nat}{c:Array Value}{e:TypeId}{f:Nat × Nat}(h:W.heap[g]?=some (.cells c e f)):(EF Bn W).heap[g]?=some (.cells c e f):=by rw[gK,h];rfl
theorem Zh{Fx Fx':Nat->Prop}{wa ta ya:Option Addr}{plans:List (List EP)}{turns hl:List Int}{W:World}(h:GL Fx wa ta ya plans turns hl W)(hf:∀g,Fx g->Fx' g):GL Fx' wa ta ya plans turns hl W:=by
 refine⟨fun k pl hp=>?_,fun i x hi=>?_,fun i x hi=>?_⟩
 . obtain⟨b,o,ca,cc,a1,a2,a5,a3,a4⟩:=h.work k pl hp;refine⟨b,o,ca,cc,a1,hf _ a2,a5,a3,fun i c hc=>?_⟩;obtain⟨g,o',pa,pn,pc,b1,b2,b3⟩:=a4 i c hc;exact⟨g,o',pa,pn,pc,b1,hf _ b2,b3⟩
 . obtain⟨b,o,a1,a2,a3⟩:=h.turns i x hi;exact⟨b,o,a1,hf _ a2,a3⟩
 . obtain⟨a0,a5,b,o,a1,a2,a3⟩:=h.Vs i x hi;exact⟨a0,a5,b,o,a1,hf _ a2,a3⟩
theorem runs(W:World){nv:Int}{fa wa ta ya:Option Addr}{plans:List (List EP)}{turns hl fs:List Int}{wc tc yc fc fb fo:Nat}{u:Int}(hC:GL (Row W) wa ta ya plans turns hl W)(hR:BA.Reads W (.slice ta turns.length tc) (turns.map (Value.int .i64)))(hfs:∀(i:Nat) x,fs[i]?=some x->fa=some ⟨fb,fo,none⟩/\Row W fb/\W.cell? ⟨fb,fo+i,none⟩=some (.int .i64 x))(hbig:∀pl∈plans,pl.length<=1000000000) :
  ∃M last o w' t',runNT Try.prog (M+1) (solo (G (Frame.enter Try.prog 3 #[.int .i64 nv,.slice fa fs.length fc,.agg #[.slice wa plans.length wc,.slice ta turns.length tc,.slice ya hl.length yc,.int .i64 u]] .normal) []) W) #[]=(.ended o w',t')/\
    runN Try.prog M (solo (G (Frame.enter Try.prog 3 #[.int .i64 nv,.slice fa fs.length fc,.agg #[.slice wa plans.length wc,.slice ta turns.length tc,.slice ya hl.length yc,.int .i64 u]] .normal) []) W)=.next last/\step Try.prog last=.ended o w'/\Conc.Good Try.prog (Post W) last o w' t':=by
 have hrow:∀g,Row W g->(EF Bn W).heap[g]?=W.heap[g]?:=fun g ⟨c,e,f,h⟩=>by rw[Xa h,h]
 have hrow2:∀g,Row W g->Row (EF Bn W) g:=fun g ⟨c,e,f,h⟩=>⟨c,e,f,Xa h⟩
 have hC2:GL (Row (EF Bn W)) wa ta ya plans turns hl (EF Bn W):=Zh (hC.same hrow) hrow2;have Aci:0<turns.length->∀g,(Value.slice ta turns.length tc).ownBlock=some g->Row W g:=fun h g hg=>by
  obtain⟨b,o,rfl,h2,_⟩:=hC.turns 0 _ (List.getElem?_eq_getElem h);obtain rfl:b=g:=by simpa [Value.ownBlock]using hg
  exact h2
 have hR2:BA.Reads (EF Bn W) (.slice ta turns.length tc) (turns.map (Value.int .i64)):=by
  rcases hR with h1|h1
  . exact .inl h1
  . exact BA.Reads.same (.inr h1) fun k hk _=>hrow k (Aci (List.length_pos_iff.2 fun e=>h1.1 (by rw[e];rfl)) k hk)
 have h:=Sk (Fin:=fin W) (EH:=vB W) (B:=fun _=>false) (W:=EF Bn W) (nn:=1) (cs:=[]) (nv:=nv) (fa:=fa) (fl:=fs.length) (fc:=fc) (fs:=fs) (fb:=fb) (fo:=fo) (J5:=wc) (tc:=tc) (yc:=yc) (u:=u) (Kp:=Row (EF Bn W)) zOM (fun g hg=>by cases hg) (fun g hg=>⟨hg,rfl⟩) hC2 rfl
  (fun i x hx=>by obtain⟨a1,a2,a3⟩:=hfs i x hx;exact⟨a1,hrow2 _ a2,by rw[← a3];simp only[World.cell?,hrow _ a2]⟩) hR2 (fun h g hg=>hrow2 _ (Aci h g hg)) hbig
  (fun B' nn' W' tm Y ht kB k1 k2 w hw gs T sl q hg hn C hlow hfr=>by
    refine C.ends (D:=fun _ _ _=>False) (Post:=Post W) hg fun w₁ ha=>?_;obtain⟨d,rfl⟩:=ha;refine⟨rfl,.bool true,#[],Xe rfl rfl Try.func3 ?_ ?_ zKR,by simp,rfl,hfr.os,rfl,hfr.output,hfr.size,fun g hlt=>?_⟩
    . rw[← Sem.runT_fst (es:=#[]),ht]
    . show((results _ tm).runT _ _ #[]).2=#[];rw[ht]
    . show w.heap[g]?=W.heap[g]?;cases ho:W.heap[g]? with
      | none=>have:=Array.getElem?_eq_none_iff.1 ho;omega
      | some o=>
       cases o with
       | cells c e f=>
        have h1:=k1 g ⟨c,e,f,Xa ho⟩;have hB:B' g=false:=by
         cases hb:B' g with
         | false=>rfl
         | true=>
          rcases kB g hb with h|h
          . cases h
          . rw[Hl]at h;omega
        rw[Gu hw,Fu hB,gK]at h1;have h2:L8 W w g:=by show(w.heap[g]?).map depend=_;rw[← h1];show _=(w.heap[g]?).map (dep false);rw[JN]
        exact h2.cells ho
       | _=>exact hfr.objs g _ hlt ho (by simp))
 have hs:Io Bn W (EF Bn W):=⟨.refl _,⟨fun b hb=>(by cases hb),fun b hb=>(by cases hb)⟩⟩
 exact h W hs #[G (Frame.enter Try.prog 3 #[.int .i64 nv,.slice fa fs.length fc,.agg #[.slice wa plans.length wc,.slice ta turns.length tc,.slice ya hl.length yc,.int .i64 u]] .normal) []] #[] none (fun _=>0) rfl rfl (nC _ _ _ _) (Nat.le_refl _) (.refl _ _)
theorem Zk{W w':World}{may:MemPlace->Prop}(h:Below W.heap.size W { w' with tape:=W.tape }):W.keptBut w' may:=by have hk:=h.frame may;exact⟨hk.1,hk.2.1,hk.2.2⟩
theorem own:ownKnob Try.prog.godebug=none:=by kernel_rfl
theorem laidOut:laidOutB Try.prog=true:=by kernel_rfl
theorem lifted(os:Os)(started:os.Started)(H:Type)(enc:TypeId × Value->H)(F:Stop.Interp) :
  ReturnsInLeavingWide {} Try.checked os 3 .any ((Rows.OpenSpec.upto Rows.cellOrdersSpec).pre6 enc Try.prog Try.f3 Rows.cellOrdersUptoRow.domain false) (((Rows.OpenSpec.upto Rows.cellOrdersSpec).at F).post enc Try.prog Try.f3 false true false false):=by
 refine Qg (C:=Try.checked) (s:=Rows.OpenSpec.upto Rows.cellOrdersSpec) (k:=Rows.uptoSmall) rfl own started Try.func3
  (OpenSpec.witness (enc:=enc) (C:=Try.checked) (s:=Rows.OpenSpec.upto Rows.cellOrdersSpec) (k:=Rows.uptoSmall) rfl false ⟨#[],#[.int .i64 0,.slice none 0 0,.agg #[.slice none 0 0,.slice none 0 0,.slice none 0 0,.int .i64 0]],[]⟩ 8 zKR zKR zKR
    (x:=([.lit (.int .i64 0),.nil,.agg [.nil,.nil,.nil,.lit (.int .i64 0)]],[],[])) zKR rfl zKR) ?_
 intro W base args ds gs before hval0 hW hk _;have hval:∀(j:Nat) t v,Try.f3.params[j]?=some t->args[j]?=some v->Value.okWide Try.prog W .any base t v:=hval0;have hW':=hW;obtain⟨p,q,fH,hV,rfl,_,_⟩:=hW;have hA:DataW.TrodAll enc Try.prog W 0 (fun _=>true) true Try.f3.params.toList args.toList ds p:=fH;rw[Try.params3]at hA hval;obtain⟨v0,vs0,d0,ds0,p0,q0,hargs,rfl,rfl,h0,r0⟩:=trodAll_cons hA;obtain⟨v1,vs1,d1,ds1,p1,q1,rfl,rfl,rfl,h1,r1⟩:=trodAll_cons r0;obtain⟨v2,vs2,d2,ds2,p2,q2,rfl,rfl,rfl,h2,r2⟩:=trodAll_cons r1;obtain⟨rfl,rfl,rfl⟩:=trodAll_nil r2;obtain rfl:args=#[v0,v1,v2]:=by cases args;simp_all
 obtain⟨rfl,rfl⟩:=trodVars_none hV;obtain⟨a0,rfl,rfl,rfl,w0⟩:=open_int Try.underlying3 (hval 0 3 v0 rfl rfl) h0;obtain⟨b1,l1,c1,rfl⟩:=okWide_slice Try.underlying22 (hval 1 22 _ rfl rfl);obtain⟨cs,rfl,_⟩:=okWide_struct Try.underlying25 (hval 2 25 _ rfl rfl);have k1:=h1;have lt1:∀x∈p1,x.block<W.heap.size:=by obtain⟨m,hm⟩:=k1;exact DataW.trod_lt m _ _ _ hm
 have k2:=h2;have lt2:∀x∈p2,x.block<W.heap.size:=by obtain⟨m,hm⟩:=k2;exact DataW.trod_lt m _ _ _ hm
 obtain⟨fuel,hf⟩:=h1;obtain⟨fa,fs,fc,hv,_,hfs⟩:=Oc hf;obtain⟨rfl,rfl,rfl⟩:=Value.slice.inj hv;obtain⟨wa,ta,ya,plans,turns,hl,wc,tc,yc,u,rfl,hC,hR,eF,_⟩:=ZQ h2;have hbig:∀pl∈plans,pl.length<=1000000000:=fun pl hp=>by have h3:=eF pl hp;have h4:Rows.uptoBulkAll [DataW.lit (.int .i64 a0),d1,d2]<=1048576:=of_decide_eq_true hk;simp only[Rows.uptoBulkAll]at h4;omega
 obtain⟨fb,fo,Afn⟩:∃fb fo,∀(i:Nat) x,fs[i]?=some x->b1=some ⟨fb,fo,none⟩/\Row W fb/\W.cell? ⟨fb,fo+i,none⟩=some (.int .i64 x):=by
  by_cases h0:0<fs.length
  . obtain⟨_,_,b,o,e,hb,_⟩:=hfs 0 _ (List.getElem?_eq_getElem h0);refine⟨b,o,fun i x hx=>?_⟩;obtain⟨_,_,b',o',e',hb',hc'⟩:=hfs i x hx;rw[e]at e';cases e'
    exact⟨e,hb,hc'⟩
  . exact⟨0,0,fun i x hx=>by have:=(List.getElem?_eq_some_iff.1 hx).1;omega⟩
 clear fH hval0;obtain⟨M,last,o,w',t',e1,e2,e3,e4⟩:=runs W (nv:=a0) (fc:=c1) (wc:=wc) (yc:=yc) (u:=u) hC hR Afn hbig;refine⟨M,last,o,w',t',e1,e2,e3,e4.mono fun v hF=>?_⟩;obtain⟨rfl,bel⟩:=hF;have hh:({ w' with tape:=W.tape }:World).heap=w'.heap:=rfl;refine⟨_,_,_,[],_,[],hW',trodAll_mk1 (shut_bool Try.underlying4 _),DataW.TrodAll.of_heap hh (trodAll_cons_mk (shut_int Try.underlying3 w0) (trodAll_cons_mk (Below.trod laidOut zKR (of_decide_eq_true zKR) k1 bel lt1) (trodAll_cons_mk (Below.trod laidOut zKR (of_decide_eq_true zKR) k2 bel lt2) trodAll_mk0))),rfl,?_,fun h=>by cases h⟩;exact Zk bel
theorem over:Rows.cellOrdersUptoRow.holds Try.pinned (Rows.OpenSpec.upto Rows.cellOrdersSpec):=
 MK 3 Try.f3 ⟨rfl,rfl,rfl⟩ rfl rfl ⟨rfl,rfl,rfl,rfl,rfl,rfl,rfl⟩ rfl rfl rfl rfl rfl zKR Try.func3 zKR
  (of_decide_eq_true zKR) (by unfold Func.isWrapper;first | (rw[if_pos (by decide +kernel)];kernel_rfl) | (rw[if_neg (by decide +kernel)];exact⟨rfl,rfl⟩))
  (fun os started H enc F=>lifted os started H enc F)
theorem proved:Rows.CellOrdersUptoSaid:=over
end Go.Proofs.Ytdkfdedgfilhbaa.cellOrders
end
#print axioms Go.Proofs.Ytdkfdedgfilhbaa.cellOrders.proved
