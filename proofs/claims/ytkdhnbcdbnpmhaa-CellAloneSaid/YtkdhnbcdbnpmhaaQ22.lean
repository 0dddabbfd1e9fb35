/-
  Part 22 of the proof that CellAlone returns true for every input and leaves its arguments as they were. No further condition.
-/
import Derived.Test.YtkdhnbcdbnpmhaaQ12
import Derived.Test.YtkdhnbcdbnpmhaaQ14
import Derived.Test.YtkdhnbcdbnpmhaaQ17
import Derived.Test.YtkdhnbcdbnpmhaaQ21
import Derived.Test.YtkdhnbcdbnpmhaaProg
import Derived.OwnWalkIn
import Derived.LoopIn
import Derived.TacticsInMore
import Derived.Sort.BigQuietIn
set_option linter.unusedVariables false
set_option linter.unusedSectionVars false
set_option maxHeartbeats 2000000
set_option maxRecDepth 100000
namespace Go.Proofs.Ytkdhnbcdbnpmhaa
open Go Go.RowKit BA
theorem aN:(Try.prog.info? 4).map (fun i=>(i.zero,i.size,i.bytes))=some (some (.bool false),1,1):=by kernel_rfl
theorem uV (w:World)(a b:Obj):((w.alloc a).alloc b).heap[w.heap.size+1]?=some b:=by
  have:=heap_alloc_new (w.alloc a) b
  simpa using this
theorem vQ (w:World)(c:Array Value)(e:TypeId)(f:Nat × Nat)(j:Nat):(w.alloc (.cells c e f)).cell? ⟨w.heap.size,j,none⟩=c[j]?:=by
  have:=heap_alloc_new w (.cells c e f);simp only [World.cell?];rw [this]
  simp
theorem jN {lg lo lc:Nat}{bs:List Nat}{dn:List Bool}{wa xa ya sa:Option Addr}{wn wc xn xc yc sn sc:Nat}{u:Int}(w:World)(hl:dn.length=bs.length)(hn:bs.length<=1000)(hcell:∀ i b,bs[i]?=some b->w.cell? ⟨lg,lo+i,none⟩=some (.pointer (some ⟨b,0,none⟩))/\w.cell? ⟨b,10,none⟩=some (.bool (dn.getD i false))) :
    CallsIn (Fence.list [79,106] none) 0 Try.prog 106 #[.agg #[.slice wa wn wc,.slice xa xn xc,.slice ya 0 yc,.int .i64 u],.slice (some ⟨lg,lo,none⟩) bs.length lc,.slice sa sn sc] w fun e w'=>∃ ob,w.heap.size<=ob/\e=.returned (.tuple #[.slice (some ⟨ob,0,none⟩) bs.length bs.length,.bool (dn.any fun d=>!d)])/\Below w.heap.size w w'/\(∀ i,i < bs.length->w'.cell? ⟨ob,i,none⟩=some (.bool !(dn.getD i false))):=by
  obtain ⟨i0,hi,hz0,hz1,hz2⟩:=info_parts aN;have hmk:∀ wx:World,(Instr.makeSlice 186 (.int .i64 bs.length) (.int .i64 bs.length)).run Try.prog wx=.ok (.slice (some ⟨wx.heap.size,0,none⟩) bs.length bs.length) (wx.alloc (.cells (madeCells #[.bool false] bs.length) 4)):=fun wx=>by
    have:=run_makeSlice (P:=Try.prog) (w:=wx) 186 4 i0 (.bool false) Try.underlying186 hi hz0 .i64 .i64 bs.length bs.length (by omega) (Int.le_refl _) (by rw [hz1];simp;omega) (by rw [hz2];omega) (by omega);rw [hz1,show (Value.bool false).cells=#[.bool false] from rfl] at this
    simpa using this
  have HC:=Lib.hid hcell;clear hcell;gi_enter Try.func106,Try.ntmps106
  gi_wp2;generalize hW:World.alloc (World.alloc w _) _=W1;have z1:W1.heap.size=w.heap.size+2:=by rw [← hW];simp
  have q1:W1.heap[w.heap.size+1]?=some (.cells (madeCells #[.bool false] bs.length) 4 (0,0)):=by rw [← hW];exact uV _ _ _
  have q0:W1.cell? ⟨w.heap.size,2,none⟩=some (.slice ya 0 yc):=by rw [← hW];exact Lib.cell?_alloc_some _ (vQ _ _ _ _ 2)
  have nT:∀ i b,bs[i]?=some b->W1.cell? ⟨lg,lo+i,none⟩=some (.pointer (some ⟨b,0,none⟩))/\W1.cell? ⟨b,10,none⟩=some (.bool (dn.getD i false))/\lg < w.heap.size/\b < w.heap.size:=fun i b hb=>by
    obtain ⟨h1,h2⟩:=HC.out i b hb;have lt:∀ a v,w.cell? a=some v->a.block < w.heap.size:=fun a v h=>by
      simp only [World.cell?] at h;cases ho:w.heap[a.block]? with
      | none=>rw [ho] at h;cases h
      | some o=>exact (Array.getElem?_eq_some_iff.1 ho).1
    exact ⟨by rw [← hW];exact Lib.cell?_alloc_some _ (Lib.cell?_alloc_some _ h1),by rw [← hW];exact Lib.cell?_alloc_some _ (Lib.cell?_alloc_some _ h2),lt _ _ h1,lt _ _ h2⟩
  have HB:Below w.heap.size w W1:=by rw [← hW];exact ((Below.refl _ w).alloc (Nat.le_refl _) _).alloc (by simp) _
  have HH:=Lib.hid (And.intro nT (And.intro HB (And.intro q1 (And.intro q0 z1))));clear nT HB HC hW q1 q0 z1;have hsz:(madeCells #[Value.bool false] bs.length).size=bs.length:=size_madeCells _ _;have HZ:=Lib.hid hsz;clear hsz;gi_loopw [9,18] (fun a i wr=>∃ k:Nat,k<=bs.length/\i=.int .i64 k/\a=.bool ((dn.take k).any fun d=>!d)/\RowKit.Hid (∃ cur:Array Value,wr.heap[w.heap.size+1]?=some (.cells cur 4 (0,0))/\cur.size=bs.length/\(∀ j,j < k->cur[j]?=some (.bool !(dn.getD j false)))/\(∀ g,g < w.heap.size+1->wr.heap[g]?=W1.heap[g]?)/\Below w.heap.size w wr)) (fun a i _=>bs.length - (intOf i).toNat)
  case atStart=>
    obtain ⟨nT,HB,q1,q0,z1⟩:=HH.out;exact ⟨0,Nat.zero_le _,rfl,by simp,Lib.hid ⟨_,q1,HZ.out,fun j hj=>by omega,fun g _=>rfl,HB⟩⟩
  case round=>
    obtain ⟨k,hk,rfl,rfl,hinv⟩:=hrel;by_cases hlt:k < bs.length
    . obtain ⟨cur,r1,r2,r3,r4,r5⟩:=hinv.out;obtain ⟨nT,HB,q1,q0,z1⟩:=HH.out;obtain ⟨b,hb⟩:∃ b,bs[k]?=some b:=⟨_,List.getElem?_eq_getElem hlt⟩
      obtain ⟨p1,p2,p3,p4⟩:=nT k b hb;have s1:wr.cell? ⟨lg,lo+k,none⟩=some (.pointer (some ⟨b,0,none⟩)):=by simp only [World.cell?,r4 lg (by omega)] at p1 ⊢;exact p1
      have s2:wr.cell? ⟨b,10,none⟩=some (.bool (dn.getD k false)):=by simp only [World.cell?,r4 b (by omega)] at p2 ⊢;exact p2
      have s3:wr.cell? ⟨w.heap.size,2,none⟩=some (.slice ya 0 yc):=by simp only [World.cell?,r4 w.heap.size (by omega)] at q0 ⊢;exact q0
      obtain ⟨ov,hov⟩:∃ ov,cur[k]?=some ov:=⟨_,Array.getElem?_eq_getElem (by omega)⟩
      have s4:wr.cell? ⟨w.heap.size+1,k,none⟩=some ov:=by simp [World.cell?,r1,hov]
      have s5:wr.frozen? ⟨w.heap.size+1,k,none⟩=false:=by simp [World.frozen?,r1]
      have hstep:∀ (nq:Nat) (v:Value),v=.bool (!(dn.getD k false))->RowKit.Hid (∃ cur:Array Value,((wr.drewN nq).setCell ⟨w.heap.size+1,k,none⟩ v).heap[w.heap.size+1]?=some (.cells cur 4 (0,0))/\cur.size=bs.length/\(∀ j,j < k+1->cur[j]?=some (.bool !(dn.getD j false)))/\(∀ g,g < w.heap.size+1->((wr.drewN nq).setCell ⟨w.heap.size+1,k,none⟩ v).heap[g]?=W1.heap[g]?)/\Below w.heap.size w ((wr.drewN nq).setCell ⟨w.heap.size+1,k,none⟩ v)):=fun nq v hv=>Lib.hid (by
        refine ⟨cur.setIfInBounds k v,?_,by simpa using r2,fun j hj=>?_,fun g hg=>?_,?_⟩
        . have r1':(wr.drewN nq).heap[w.heap.size+1]?=some (.cells cur 4 (0,0)):=r1;simp only [World.setCell,Array.getElem?_modify,if_true,r1',Option.map_some];first | rfl | simp | skip
        . by_cases e:k=j
          . subst e;rw [Array.getElem?_setIfInBounds_self_of_lt (by omega),hv]
          . rw [Array.getElem?_setIfInBounds_ne e];exact r3 j (by omega)
        . rw [← r4 g hg];have:(wr.drewN nq).heap[g]?=wr.heap[g]?:=rfl;simp only [World.setCell,Array.getElem?_modify];rw [if_neg (by omega),this]
        . exact ⟨r5.os,r5.tape,r5.output,by have:=r5.size;simpa [World.setCell] using this,fun g hg=>by rw [← r5.block g hg];have:(wr.drewN nq).heap[g]?=wr.heap[g]?:=rfl;simp only [World.setCell,Array.getElem?_modify];rw [if_neg (by omega),this]⟩)
      have hany:(dn.take (k+1)).any (fun d=>!d)=((dn.take k).any (fun d=>!d) || !(dn.getD k false)):=by
        have:dn[k]?=some (dn.getD k false):=by rw [List.getD_eq_getElem?_getD,List.getElem?_eq_getElem (by omega)];rfl
        rw [List.take_add_one,this]
        simp
      have HS:=Lib.hid (And.intro hstep hany);clear hstep hany;have HQ:=Lib.hid (And.intro r1 (And.intro r2 (And.intro r3 (And.intro r4 (And.intro r5 hb)))));clear r1 r2 r3 r4 r5 hb p1 p2 nT HB q1 q0 z1 hinv;generalize hd:dn.getD k false=d at s2;have hk0:¬ ((k:Int) < 0):=by omega
      have hk1:decide ((k:Int) < 0)=false:=by simp
      gi_wp2;gi_big_quiet_th (fail)
      gi_wp2;all_goals (refine ⟨⟨k+1,by omega,by go_num,?_,(HS.out.1 _ _ (by rw [hd];simp_all))⟩,by simp [intOf];omega⟩;rw [HS.out.2,hd];first | rfl | simp_all)
    . obtain rfl:k=bs.length:=by omega
      gi_wp2;go_ret2
      obtain ⟨cur,r1,r2,r3,r4,r5⟩:=hinv.out;refine ⟨w.heap.size+1,by omega,?_,r5,fun i hi=>by simp [World.cell?,r1,r3 i hi]⟩;have e:dn.take bs.length=dn:=List.take_of_length_le (by omega);rw [e];rfl
theorem OB {F:Fence}{n:Nat}{P:Program}(w:World){ops:Array Oper}{rest:List Oper}{o:Oper}{a:Act}{Q:Exit->Act->World->Prop}(hg:o.guard=none)(s x:Operand)(t:TypeId)(hop:o.op=Op.call { callee:=Callee.builtin Builtin.append,args:=#[s,x],argTypes:=#[t,t] })(base:Nat)(e:TypeId)(i:TypeInfo)(z:Value)(bytes:Nat)(h1:P.underlying t=some (.slice e))(h2:P.info? e=some i)(h3:i.zero=some z)(h4:i.size=1)(h5:i.bytes=bytes)(h6:z.cells.size=1)(v:Value)(k:Nat)(xs:List Value)(hs:a.eval s=v)(hown:IE w base 1 v k xs)(sv:Value)(ys:List Value)(hx:a.eval x=sv)(hr:Reads w sv ys)(h1c:∀ u∈ys,u.oneCell'=true)(b1:k+ys.length<=maxLen)(b2:(k+ys.length) * bytes<=140737488355328)(b3:base<=w.heap.size)(hK:∀ v' w',IE w' base 1 v' (k+ys.length) (xs ++ ys)->w.grownBy w' v.ownBlock->(v'.ownBlock=v.ownBlock\/v'.ownBlock=none\/∃ g,v'.ownBlock=some g/\w.heap.size<=g)->wpListIn F n P ops Q rest (a.put o.dst v') w') :
    wpListIn F n P ops Q (o :: rest) a w:=by
  refine wpListIn_plain hg fun K hK'=>?_;obtain ⟨v',w',hrun,r1,r2,r3⟩:=Q0 (P:=P) w base t o.type e i z bytes h1 h2 h3 h4 h5 h6 v k xs hown sv ys hr h1c b1 b2 b3;unfold Oper.wpIn;refine ⟨?_,?_⟩
  . simp [Oper.about,hop,resolve,Target.leads,Sem.run_pure]
  . rw [Oper.semAt_plain F _ _ (by rw [hop];intro c hc';cases hc')]
    simp [execOp,hop,resolve,invoke,builtin,hs,hx,hrun,Result.andThen];exact hK' _ _ (hK v' w' r1 r2 r3)
theorem Z0 (xs:List Int):∀ u∈xs.map (Value.int .i64),u.oneCell'=true:=by intro u hu;rw [List.mem_map] at hu;obtain ⟨x,_,rfl⟩:=hu;rfl
theorem WR {w:World}{v:Value}{xs:List Int}(h:Reads w v (xs.map (Value.int .i64))):∃ ao c,v=.slice ao xs.length c:=by obtain ⟨ao,c,h⟩:=h.shape;exact ⟨ao,c,by rw [h,List.length_map]⟩
def rQ (w:World)(xs:List Int)(e:Ending)(w':World):Prop:=
  ∃ ao c,e=.returned (.slice ao xs.length c)/\Reads w' (.slice ao xs.length c) (xs.map (Value.int .i64))/\Below w.heap.size w w'/\∀ k,(Value.slice ao xs.length c).ownBlock=some k->w.heap.size<=k/\k < w'.heap.size/\∃ c e f,w'.heap[k]?=some (.cells c e f)
theorem iU {w:World}{base size n:Nat}{v:Value}{xs:List Value}(h:IE w base size v n xs){g:Nat}(hg:v.ownBlock=some g):∃ c e f,w.heap[g]?=some (.cells c e f):=by
  obtain ⟨te,_,⟨rfl,_⟩|⟨g',cap,cur,rfl,_,h1,_⟩⟩:=h
  . cases hg
  . cases hg
    exact ⟨_,_,_,h1⟩
theorem fJ (sv:Value)(xs:List Int)(w:World)(hr:Reads w sv (xs.map (Value.int .i64)))(hlen:xs.length<=1000000000) :
    CallsIn (Fence.list [79,105,119] none) 0 Try.prog 119 #[sv] w (rQ w xs):=by
  obtain ⟨i0,hi,hz0,hz1,hz2⟩:=info_parts Qp;have hrr:=hr;have hml:(xs.map (Value.int .i64)).length=xs.length:=by simp
  have key:∀ (ao:Option Addr) (n c:Nat),sv=.slice ao n c->∀ wx,(binOp .eql 29 (.slice ao n c) (.slice none 0 0)).run Try.prog wx=.ok (.bool ao.isNone) wx:=fun ao n c _ wx=>Lib.run_eql_slice_nil wx 29 3 ao n c 0 0 Try.underlying29;have hsh:∃ ao n c,sv=.slice ao n c/\(ao=none->xs=[]):=by
    rcases hr with ⟨h,ao,c,hv,_,_⟩|⟨_,b,o,c,hv,_⟩
    . exact ⟨ao,0,c,hv,fun _=>by simpa using h⟩
    . exact ⟨_,_,c,hv,fun h=>by cases h⟩
  obtain ⟨ao,n,c,rfl,hnil⟩:=hsh;have hk:=key ao n c rfl;clear key;cases ao with
  | none=>
    obtain rfl:=hnil rfl;gi_enter Try.func119,Try.ntmps119
    gi_wp2;go_ret
    exact ⟨none,0,rfl,.inl ⟨rfl,none,0,rfl,by unfold maxLen;omega,fun _=>rfl⟩,Below.refl _ _,fun k hk=>by cases hk⟩
  | some a=>
    have HH:=Lib.hid hrr;clear hrr hr hml hnil;gi_enter Try.func119,Try.ntmps119
    have hre:=fun (o:Obj)=>HH.out.same (w':=w.alloc o) fun k _ hlt=>Below.heap_alloc _ _ _ hlt;have HRE:=Lib.hid hre;clear hre;gi_wp2_with (gi_at_builtin;refine OB _ rfl _ _ 29 rfl w.heap.size 3 i0 (.int .i64 0) 8 Try.underlying29 hi hz0 hz1 hz2 rfl _ 0 [] rfl ?c0 _ (xs.map (Value.int .i64)) rfl (HRE.out _) (Z0 xs) ?c3 ?c4 ?c5 ?_)
    case c0=>have:=World.ownsRow_made (base:=w.heap.size) (e:=3) (size:=1) w #[] 0 (Nat.le_refl _) (by unfold maxLen;omega) (by simp);exact ⟨_,this⟩
    case c3=>simp;unfold maxLen;omega
    case c4=>simp;omega
    case c5=>simp
    intro v' w1 h1 h2 h3;have hb:=fun k hk=>And.intro (h1.blk k hk).1 (And.intro (h1.blk k hk).2 (iU h1 hk));have hbel:Below w.heap.size w w1:=((Below.refl _ _).alloc (Nat.le_refl _) _).grown h2 (by simp) (fun k hk=>by cases hk;exact Nat.le_refl _);have hre:=h1.reads;obtain ⟨ao',c',rfl⟩:=WR hre;clear h1 h2 h3;gi_wp2;go_ret
    exact ⟨ao',c',rfl,hre,hbel,hb⟩
def gT (T:TypeId)(w:World)(left:List Int)(last:Int)(e:Ending)(w':World):Prop:=
  ∃ b lv,e=.returned (.pointer (some ⟨b,0,none⟩))/\Vz w' T b lv left last/\Below w.heap.size w w'/\w.heap.size<=b/\∀ k,lv.ownBlock=some k->w.heap.size<=k/\k < w'.heap.size/\∃ c e f,w'.heap[k]?=some (.cells c e f)
theorem nN {w w1:World}{T:TypeId}{v:Value}{left:List Int}{last:Int}(hr:Reads w1 v (left.map (Value.int .i64)))(hb:Below w.heap.size w w1)(hf:∀ k,v.ownBlock=some k->w.heap.size<=k/\k < w1.heap.size) :
    Vz (w1.alloc (.cells #[v,.int .i64 last] T)) T w1.heap.size v left last/\Below w.heap.size w (w1.alloc (.cells #[v,.int .i64 last] T)):=
  ⟨⟨heap_alloc_new _ _,hr.same fun k _ hlt=>Below.heap_alloc _ _ _ hlt,fun h=>by have:=(hf _ h).2;omega⟩,hb.alloc hb.size _⟩
theorem vD (sv:Value)(xs:List Int)(w:World)(hr:Reads w sv (xs.map (Value.int .i64)))(hlen:xs.length<=1000000000) :
    CallsIn (Fence.list [79,105,119] none) 0 Try.prog 105 #[sv] w (gT 204 w xs (-1)):=by
  gi_enter Try.func105,Try.ntmps105
  gi_wp2_with (gi_at_call 119;refine (fJ _ xs _ hr hlen).mono ?_;rintro e w1 ⟨ao,c,rfl,hr1,hb1,hf1⟩)
  go_ret
  have:=nN (T:=204) (last:=-1) hr1 hb1 (fun k hk=>⟨(hf1 k hk).1,(hf1 k hk).2.1⟩);exact ⟨w1.heap.size,_,rfl,this.1,this.2,hb1.size,fun k hk=>⟨(hf1 k hk).1,by have:=(hf1 k hk).2.1;simp;omega,by obtain ⟨c,e,f,hc⟩:=(hf1 k hk).2.2;exact ⟨c,e,f,by rw [Below.heap_alloc _ _ _ (hf1 k hk).2.1];exact hc⟩⟩⟩
end Go.Proofs.Ytkdhnbcdbnpmhaa
namespace Go.LT
open Go Go.Conc
section
structure cB (tm:Array Value)(s0:Nat)(vs:List Value)(l:Array Bool)(a:Act):Prop where
  ds:a.defers=[]
  size:a.tmps.size=tm.size
  low:∀ s,s < s0->a.tmps[s]?=tm[s]?
  val:∀ j v,l[j]?=some true->vs[j]?=some v->a.tmps[s0+j]?=some v
def IK (W0:World):List (Nat × World)->Array Bool->World
  | [],_=>W0
  | (c,w) :: t,l=>IK (if l[c]?=some true then w else W0) t l
theorem LQ {i:Nat}{l:Array Bool}:∀ (cs:List (Nat × World)) (W0:World),¬ i∈cs.map Prod.fst->IK W0 cs (l.setIfInBounds i true)=IK W0 cs l:=by
  intro cs;induction cs with
  | nil=>intro W0 _;rfl
  | cons x t ih=>
    intro W0 h;obtain ⟨c,w⟩:=x;simp only [List.map_cons,List.mem_cons,not_or] at h;simp only [IK,Array.getElem?_setIfInBounds_ne h.1];exact ih _ h.2
theorem VA {l:Array Bool}:∀ (cs:List (Nat × World)) (W0:World),IK W0 cs l=W0\/∃ c w,(c,w)∈cs/\l[c]?=some true/\IK W0 cs l=w:=by
  intro cs;induction cs with
  | nil=>intro W0;exact .inl rfl
  | cons x t ih=>
    intro W0;obtain ⟨c,w⟩:=x;simp only [IK];by_cases h:l[c]?=some true
    . rw [if_pos h];rcases ih w with e|⟨c',w',hm,hl,e⟩
      . exact .inr ⟨c,w,by simp,h,e⟩
      . exact .inr ⟨c',w',by simp [hm],hl,e⟩
    . rw [if_neg h];rcases ih W0 with e|⟨c',w',hm,hl,e⟩
      . exact .inl e
      . exact .inr ⟨c',w',by simp [hm],hl,e⟩
theorem M7 {l:Array Bool}:∀ (cs:List (Nat × World)) (W0:World),(∀ c w,(c,w)∈cs->l[c]?≠some true)->IK W0 cs l=W0:=by
  intro cs;induction cs with
  | nil=>intro W0 _;rfl
  | cons x t ih=>
    intro W0 h;obtain ⟨c,w⟩:=x;simp only [IK];rw [if_neg (h c w (by simp))];exact ih _ fun c' w' hm=>h c' w' (by simp [hm])
theorem K8 {l:Array Bool}{c:Nat}{w:World}{t:List (Nat × World)}(hc:l[c]?=some true)(ht:∀ c w,(c,w)∈t->l[c]?≠some true):∀ (cs:List (Nat × World)) (W0:World),IK W0 (cs ++ (c,w) :: t) l=w:=by
  intro cs;induction cs with
  | nil=>
    intro W0;simp only [List.nil_append,IK,if_pos hc];exact M7 _ _ ht
  | cons x s ih=>
    intro W0;obtain ⟨c',w'⟩:=x;simp only [List.cons_append,IK];exact ih _
section
variable {F:Fence}{n:Nat}{P:Program}{ops:Array Oper}{Q:Exit->Act->World->Prop}
theorem cB.put {tm:Array Value}{s0 N:Nat}{vs:List Value}{l:Array Bool}{a:Act}(h:cB tm s0 vs l a){i:Nat}{v:Value}(hi:vs[i]?=some v)(hfit:s0+vs.length<=tm.size):cB tm s0 vs (l.setIfInBounds i true) (a.put (some (s0+i)) v):=by
  have hlt:i < vs.length:=(List.getElem?_eq_some_iff.1 hi).1;refine ⟨h.ds,by simp [Act.put,h.size],fun s hs=>?_,fun j u hj hu=>?_⟩
  . show (a.tmps.setIfInBounds (s0+i) v)[s]?=_;rw [Array.getElem?_setIfInBounds_ne (by omega)];exact h.low s hs
  . show (a.tmps.setIfInBounds (s0+i) v)[s0+j]?=_;by_cases e:i=j
    . subst e;rw [Array.getElem?_setIfInBounds_self_of_lt (by rw [h.size];omega)];rw [hi] at hu;exact hu
    . rw [Array.getElem?_setIfInBounds_ne (by omega)];rw [Array.getElem?_setIfInBounds_ne e] at hj;exact h.val j u hj hu
theorem cB.skip {tm:Array Value}{s0:Nat}{vs:List Value}{l:Array Bool}{a:Act}(h:cB tm s0 vs l a){i:Nat}(hi:vs.length<=i):cB tm s0 vs (l.setIfInBounds i true) (a.put none undef):=
  ⟨h.ds,h.size,h.low,fun j u hj hu=>by have hlt:j < vs.length:=(List.getElem?_eq_some_iff.1 hu).1;rw [Array.getElem?_setIfInBounds_ne (by omega)] at hj;exact h.val j u hj hu⟩
theorem YC {id:Nat}{tm:Array Value}{w:World}{s0 N:Nat}{vs:List Value}(cs:List (Nat × World))(hF:F.round=none)(hm:P.follows .mixedOrders=true)(Mv:∀ (i:Nat) (o:Oper),ops[i]?=some o->∀ e∈o.after,e.on < i)(hsz:ops.size=N+1)(hvs:vs.length=N)(hfit:s0+N<=tm.size)(hg:∀ (i:Nat) (o:Oper),ops[i]?=some o->o.guard=none/\o.dst=if i=N then none else some (s0+i))(hop:∀ (l:Array Bool) (a:Act) (i:Nat) (o:Oper),cB tm s0 vs l a->l.size=N+1->Down .any ops l->l[i]?=some false->ops[i]?=some o->(∀ e∈o.after,Region.binds .any e=true->l[e.on]?=some true)->
      o.about P (IK w.drew cs l) a.eval=none/\(if i=N then (execOp a.eval o).run P (IK w.drew cs l)=.ok .skip (IK w.drew cs (l.setIfInBounds i true)) else ∃ v,vs[i]?=some v/\(execOp a.eval o).run P (IK w.drew cs l)=.ok (.value v) (IK w.drew cs (l.setIfInBounds i true))))(hend:∀ (l:Array Bool) (a:Act),cB tm s0 vs l a->(∀ i,i < N+1->l[i]?=some true)->Q .normal a (IK w.drew cs l)):(Code.region id ops true).wpIn F n P Q ⟨tm,[]⟩ w:=by
  have hrep:∀ j,(Array.replicate ops.size false)[j]?≠some true:=fun j hj=>by rw [Array.getElem?_replicate] at hj;split at hj <;> cases hj
  refine Wi (I:=fun l a w'=>cB tm s0 vs l a/\w'=IK w.drew cs l) hm Mv ⟨⟨rfl,rfl,fun _ _=>rfl,fun j v hj=>absurd hj (hrep j)⟩,(M7 _ _ fun c _ _=>hrep c).symm⟩ ?_ ?_
  . rintro l a w' i o ⟨hI,rfl⟩ hl hd hb ho hod;rw [hsz] at hl;obtain ⟨g1,g2⟩:=hg i o ho;obtain ⟨r1,r2⟩:=hop l a i o hI hl hd hb ho hod;by_cases hi:i=N
    . rw [if_pos hi] at r2 g2;refine UY hF ho g1 r1 r2 ⟨?_,rfl⟩;rw [g2];exact hI.skip (by omega)
    . rw [if_neg hi] at r2 g2;obtain ⟨v,hv,r2⟩:=r2;refine I7 hF ho g1 r1 r2 ⟨?_,rfl⟩;rw [g2];exact hI.put (N:=N) hv (by omega)
  . rintro l a w' ⟨hI,rfl⟩ hl hall;rw [hsz] at hall;exact hend l a hI hall
end
def IU (o:Oper):List Nat:=(o.after.toList.filter (Region.binds .any)).map (·.on)
theorem P7 {o:Oper}{l:Array Bool}{i:Nat}(h:i∈IU o)(hl:∀ e∈o.after,Region.binds .any e=true->l[e.on]?=some true):l[i]?=some true:=by obtain ⟨e,he,rfl⟩:=List.mem_map.1 h;rw [List.mem_filter] at he;exact hl e (Array.mem_toList_iff.1 he.1) he.2
theorem I8 {ops:Array Oper}{l:Array Bool}{i j:Nat}{ws:List Nat}(hw:(ops[i]?).map IU=some ws)(hd:Down .any ops l)(h:l[i]?=some true)(hj:j∈ws):l[j]?=some true:=by
  cases ho:ops[i]? with
  | none=>rw [ho] at hw;cases hw
  | some o=>
    rw [ho] at hw;exact P7 (by rw [Option.some.inj hw];exact hj) (hd i o ho h)
theorem IB {ops:Array Oper}{l:Array Bool}{i j:Nat}{o:Oper}{ws:List Nat}(hw:(ops[i]?).map IU=some ws)(ho:ops[i]?=some o)(hod:∀ e∈o.after,Region.binds .any e=true->l[e.on]?=some true)(hj:j∈ws):l[j]?=some true:=by rw [ho] at hw;exact P7 (by rw [Option.some.inj hw];exact hj) hod
end
section
section
variable [Host]
variable {P:Program}{main:Bool}{Γ:Type}{S:HY P main Γ}{γ:Γ}{W:World}
theorem HY.uQ {f:FuncId}{κ:CallKind}{k:List Item}{cs:List Frame}{ds:List Deferred}{tm:Array Value}{ops:Array Oper}(L:List FuncId)(hL:∀ f∈L,Lets P f)(hf:f∈L)(TP:κ≠.early)(is rest:List Nat)(hok:I5 P (.inRegion ops is)=true)(h:∀ GQ,Alike W GQ->wpOpsIn (Fence.list L none) 0 P ops (Behind S γ fun tm=>G (Jz f tm (.inRegion ops rest :: k) ds .run κ) cs) is ⟨tm,[]⟩ GQ):JW S.base γ (G (Jz f tm (.inRegion ops (is ++ rest) :: k) ds .run κ) cs) W:=by
  intro w hw;refine S.way _ _ _ ((Vw (R:=S.R γ) (D:=S.D γ) (F:=(·∈L)) (Fn:=Fence.list L none) (n:=0) (tm:=tm) (Q:=Behind S γ fun tm=>G (Jz f tm (.inRegion ops rest :: k) ds .run κ) cs) (S.turns γ) (S.kept γ) hL (fun _ h=>h) rfl rfl rfl hf TP hok (l':=rest) (k:=k) (ds:=ds) (cs:=cs) hw.2 (fun e a w q=>.inl q.1) fun τ=>?_).mono fun g w' hst=>?_)
  . obtain ⟨⟨XG,d',rfl⟩,_⟩:=hw;exact h _ ⟨τ,0,rfl⟩
  . obtain ⟨e,tm',τ,d,hR,⟨rfl,hq⟩,hg⟩:=hst;have hs:J2 (S.B γ) w' (sh (GN (S.B γ) w') τ d):=⟨⟨τ,d,rfl⟩,hR⟩
    exact hg ▸ hq w' hs
end
section
variable {F:Fence}{n:Nat}{P:Program}{Q:Exit->Act->World->Prop}
theorem TG {ops KZ:Array Oper}:∀ (l:List Nat),(∀ i∈l,KZ[i]?=ops[i]?/\∀ o,ops[i]?=some o->o.guard=none)->∀ a w,wpOpsIn F n P KZ Q l a w->wpOpsIn F n P ops Q l a w:=by
  intro l;induction l with
  | nil=>intro _ a w h;simpa [wpOpsIn] using h
  | cons i l ih=>
    intro hl a w h;have hi:=hl i (by simp);rw [wpOpsIn_cons] at h ⊢;have h2:wpOpIn F n P ops Q i (wpOpsIn F n P KZ Q l) a w:=by
      unfold wpOpIn at h ⊢;rw [hi.1] at h;cases ho:ops[i]? with
      | none=>rw [ho] at h;exact h
      | some o=>
        rw [ho] at h;have hg:=hi.2 o ho;simp only [Region.wanted,hg] at h ⊢;exact h
    exact wpOpIn_mono (fun a w h=>ih (fun j hj=>hl j (by simp [hj])) a w h) h2
end
theorem yY {md:Region.Mode}{ops:Array Oper}:∀ (fuel t:Nat) (listed:Array Bool) (acc:List Nat),(∀ i∈acc,i < ops.size)->∀ i∈Region.linearise.go md ops fuel t listed acc,i < ops.size:=by
  intro fuel;induction fuel with
  | zero=>intro t listed acc h i hi;simp [Region.linearise.go] at hi;exact h i hi
  | succ fuel ih=>
    intro t listed acc h i hi;simp only [Region.linearise.go] at hi;change i∈(match (Region.ready md ops listed)[t % (Region.ready md ops listed).length]? with
      | some i=>Region.linearise.go md ops fuel (t / (Region.ready md ops listed).length) (listed.setIfInBounds i true) (i :: acc)
      | none=>acc.reverse) at hi
    cases hr:(Region.ready md ops listed)[t % (Region.ready md ops listed).length]? with
    | none=>rw [hr] at hi;exact h i (by simpa using hi)
    | some j=>
      rw [hr] at hi;refine ih _ _ _ (fun x hx=>?_) i hi;rcases List.mem_cons.1 hx with rfl|hx
      . obtain ⟨_,o,ho,_⟩:=mem_ready.1 (List.mem_of_getElem? hr);exact (Array.getElem?_eq_some_iff.1 ho).1
      . exact h x hx
theorem Qh {md:Region.Mode}{ops:Array Oper}{t:Nat}:∀ i∈Region.linearise md ops t,i < ops.size:=by unfold Region.linearise;exact yY _ _ _ _ (by simp)
section
variable {P:Program}{main:Bool}{Γ:Type}{S:HY P main Γ}{γ:Γ}{W:World}
theorem UQ (B:Hid)(w:World):Kept B w { w with drawn:=w.drawn+1 }:=⟨rfl,rfl,rfl,Nat.le_succ _,Nat.le_refl _,fun _ _=>rfl,fun _ _ h _=>h,fun _ _ _ h=>h,fun _ _=>rfl⟩
theorem HY.bB {b:Frame}{k:List Item}{cs:List Frame}{ds:List Deferred}{tm:Array Value}{ops KZ:Array Oper}{id N s0:Nat}{vs:List Value}(hm:P.follows .mixedOrders=true)(hi:P.inits.idxOf? b.fn=none)(TP:b.kind≠.early)(hs:ops.size=N+1)(hs0:KZ.size=N)(hop:∀ i,i < N->KZ[i]?=ops[i]?)(Mv:∀ (i:Nat) (o:Oper),ops[i]?=some o->∀ e∈o.after,e.on < i)(hcl:∀ listed:Array Bool,listed.size=N+1->Down .any ops listed->N∈Region.ready .any ops listed->∀ i,i < N->listed[i]?=some true)(hok:KZ.toList.all (@M4 (Host.only b.fn) P)=true)(hvs:vs.length=N)(hfit:s0+N<=tm.size)(hg:∀ (i:Nat) (o:Oper),KZ[i]?=some o->o.guard=none/\o.dst=some (s0+i))(hrun:∀ (w:World),Alike W w->∀ (l:Array Bool) (a:Act) (i:Nat) (o:Oper),cB tm s0 vs l a->l[i]?=some false->KZ[i]?=some o->(∀ e∈o.after,Region.binds .any e=true->l[e.on]?=some true)->
      o.about P w a.eval=none/\∃ v,vs[i]?=some v/\(execOp a.eval o).run P w=.ok (.value v) w)(hJ:∀ (l:Array Bool) (tm':Array Value) (W':World),cB tm s0 vs l ⟨tm',[]⟩->(∀ i,i < N->l[i]?=some true)->Alike W W'->JL S.L γ (G (b.at ⟨tm',ds⟩ (.inRegion ops [N] :: k)) cs) W') :
    JL S.L γ (G (b.at ⟨tm,ds⟩ (.code (.region id ops true) :: k)) cs) W:=by
  refine S.step rfl fun w hw=>?_;have hst:stepG P main (G (b.at ⟨tm,ds⟩ (.code (.region id ops true) :: k)) cs) w=.go (G (b.at ⟨tm,ds⟩ (.inRegion ops (Region.schedule (P.follows .mixedOrders) ops (w.tape w.drawn (.order b.fn id))) :: k)) cs) { w with drawn:=w.drawn+1 } #[]:=by simp [G,Frame.at,stepG,stepG.exec,choose,Sem.run,Question.forced,Question.cut]
  refine ⟨_,_,_,hst,UQ _ _,by simp,W,?_,?_⟩
  . obtain ⟨⟨τ,d,rfl⟩,hR⟩:=hw;exact ⟨⟨τ,d,rfl⟩,hR.kept (UQ _ _)⟩
  . rw [Ui hm hs hs0 hop Mv hcl];generalize w.tape w.drawn (.order b.fn id)=t;show JW S.base γ (G (Jz b.fn tm (.inRegion ops (Region.linearise .any KZ t ++ [N]) :: k) ds .run b.kind) cs) W;have xD:∀ (i:Nat) (o:Oper),KZ[i]?=some o->∀ e∈o.after,e.on < i:=fun i o ho=>Mv i o (by rw [← hop i (by rw [← hs0];exact (Array.getElem?_eq_some_iff.1 ho).1)];exact ho);refine @HY.uQ (Host.only b.fn) P main Γ S γ W b.fn b.kind k cs ds tm ops [b.fn] (QL hi (by simp)) (by simp) TP (Region.linearise .any KZ t) [N] ?_ fun GQ ha=>?_
    . show ((Region.linearise .any KZ t).all fun i=>(ops[i]?).all (@M4 (Host.only b.fn) P))=true;rw [List.all_eq_true];intro i hi';have hlt:=Qh i hi';rw [← hop i (by omega),Array.getElem?_eq_getElem hlt,Option.all_some];rw [List.all_eq_true] at hok;exact hok _ (Array.getElem_mem_toList hlt)
    . refine TG _ (fun i hi'=>?_) _ _ ?_ (KZ:=KZ)
      . have hlt:=Qh i hi';have e:=hop i (by omega);exact ⟨e,fun o ho=>(hg i o (by rw [e];exact ho)).1⟩
      . have hrep:∀ j,(Array.replicate KZ.size false)[j]?≠some true:=fun j hj=>by rw [Array.getElem?_replicate] at hj;split at hj <;> cases hj
        refine wpAnyIn_sound _ _ _ _ _ (UK (I:=fun l a w'=>cB tm s0 vs l a/\w'=GQ) xD ?_ ?_ KZ.size (Array.replicate KZ.size false) _ _ ⟨List.range KZ.size,by simp,fun i hi _=>List.mem_range.2 hi⟩ (by simp) (fun i o ho hb=>absurd hb (hrep i)) ⟨⟨rfl,rfl,fun _ _=>rfl,fun j v hj=>absurd hj (hrep j)⟩,rfl⟩)
        . rintro l a w' i o ⟨hI,rfl⟩ hl hd hb ho hod;obtain ⟨g1,g2⟩:=hg i o ho;obtain ⟨r1,v,hv,r2⟩:=hrun w' ha l a i o hI hb ho hod;refine I7 (Fence.list_round _ _) ho g1 r1 r2 ⟨?_,rfl⟩;rw [g2];exact hI.put (N:=N) hv (by omega)
        . rintro l a w' ⟨hI,rfl⟩ hl hall;obtain ⟨tm',pR⟩:=a;obtain rfl:pR=[]:=hI.ds;rw [hs0] at hall;exact ⟨rfl,hJ l tm' _ hI hall ha⟩
end
end
end Go.LT
namespace Go.Proofs.Ytkdhnbcdbnpmhaa
open Go Go.Conc Go.LT Go.LC Go.LK Go.RowKit
open Go.ConcN (WgLive)
open BA TU
section
noncomputable def QH:Code:=match Try.f79.body with | some c=>c | _=>.skip
noncomputable def pd0:Code:=match QH with | .seq c _=>c | _=>.skip
noncomputable def pd1:Code:=match QH with | .seq _ (.seq c _)=>c | _=>.skip
noncomputable def pd2:Code:=match QH with | .seq _ (.seq _ (.seq c _))=>c | _=>.skip
noncomputable def pd4:Code:=match QH with | .seq _ (.seq _ (.seq _ (.seq c _)))=>c | _=>.skip
noncomputable def pd5:Code:=match QH with | .seq _ (.seq _ (.seq _ (.seq _ (.seq c _))))=>c | _=>.skip
noncomputable def pd6:Code:=match QH with | .seq _ (.seq _ (.seq _ (.seq _ (.seq _ (.seq c _)))))=>c | _=>.skip
noncomputable def VN:Code:=match QH with | .seq _ (.seq _ (.seq _ (.seq _ (.seq _ (.seq _ (.seq (.block _ (.loop (.block _ c))) _))))))=>c | _=>.skip
noncomputable def iX:Code:=match QH with | .seq _ (.seq _ (.seq _ (.seq _ (.seq _ (.seq _ (.seq _ c))))))=>c | _=>.skip
theorem oo:Try.f79.body=some (.seq pd0 (.seq pd1 (.seq pd2 (.seq pd4 (.seq pd5 (.seq pd6 (.seq (.block 0 (.loop (.block 1 VN))) iX))))))):=rfl
noncomputable def pd7:Code:=match VN with | .seq c _=>c | _=>.skip
noncomputable def pd8:Code:=match VN with | .seq _ (.seq c _)=>c | _=>.skip
noncomputable def pd9:Code:=match VN with | .seq _ (.seq _ (.seq (.seq c _) _))=>c | _=>.skip
noncomputable def vJ:Code:=match VN with | .seq _ (.seq _ (.seq _ (.seq c _)))=>c | _=>.skip
noncomputable def qW:Code:=match VN with | .seq _ (.seq _ (.seq _ (.seq _ (.seq c _))))=>c | _=>.skip
noncomputable def qU:Code:=match VN with | .seq _ (.seq _ (.seq _ (.seq _ (.seq _ (.seq c _)))))=>c | _=>.skip
noncomputable def mo:Code:=match VN with | .seq _ (.seq _ (.seq _ (.seq _ (.seq _ (.seq _ (.seq c _))))))=>c | _=>.skip
noncomputable def aC:Code:=match VN with | .seq _ (.seq _ (.seq _ (.seq _ (.seq _ (.seq _ (.seq _ c))))))=>c | _=>.skip
theorem qD:VN=.seq pd7 (.seq pd8 (.seq (.seq pd9 (.cond (.tmp 42) (.exit 0) .skip)) (.seq vJ (.seq qW (.seq qU (.seq mo aC)))))):=rfl
noncomputable def sD:Code:=match iX with | .seq (.seq c _) _=>c | _=>.skip
noncomputable def Yv:Code:=match iX with | .seq (.seq _ (.block _ (.loop c))) _=>c | _=>.skip
noncomputable def gP:Code:=match iX with | .seq _ c=>c | _=>.skip
theorem rD:iX=.seq (.seq sD (.block 2 (.loop Yv))) gP:=rfl
noncomputable def tN:Code:=match Yv with | .seq c _=>c | _=>.skip
noncomputable def uS:Code:=match Yv with | .seq _ (.seq _ (.seq (.block _ (.seq c _)) _))=>c | _=>.skip
noncomputable def lX:Code:=match Yv with | .seq _ (.seq _ (.seq (.block _ (.seq _ (.seq c _))) _))=>c | _=>.skip
noncomputable def qL:Code:=match Yv with | .seq _ (.seq _ (.seq (.block _ (.seq _ (.seq _ (.seq c _)))) _))=>c | _=>.skip
noncomputable def Adw:Code:=match Yv with | .seq _ (.seq _ (.seq (.block _ (.seq _ (.seq _ (.seq _ (.cond _ c _))))) _))=>c | _=>.skip
noncomputable def vW:Code:=match Yv with | .seq _ (.seq _ (.seq _ c))=>c | _=>.skip
theorem Yx:Yv=.seq tN (.seq (.cond (.tmp 70) .skip (.exit 2)) (.seq (.block 3 (.seq uS (.seq lX (.seq qL (.cond (.tmp 88) Adw .skip))))) vW)):=rfl
structure RB where
  lg:Nat
  lc:Nat
  bc:Nat
  bz:Nat
  ob:Nat
  sg:Nat
  br:Nat
  most:Nat
  wa:Option Addr
  wn:Nat
  wc:Nat
  ta:Option Addr
  tn:Nat
  tc:Nat
  ya:Option Addr
  yc:Nat
  u:Int
  ol:Option Nat
def RB.cv (q:RB):Value:=.agg #[.slice q.wa q.wn q.wc,.slice q.ta q.tn q.tc,.slice q.ya 0 q.yc,.int .i64 q.u]
def Sd (q:RB)(co n:Nat)(Jo I6 Kh K7 LA LB u68 u69:Value)(tm:Array Value):Prop:=∃ v4 v5 Ai Aj Ak Al Am Ao Ap Aq Ar Au Av Aw Ay Az AA AB AJ AL AO AP AQ AU AV AX AY AZ A8 A9 Ba Bb Bc Bf Bh Bj Bl Bp Bq Br Bu Bv Bw Bz BD BF BG BH BI BJ BK BL BM BQ BR BS BU BX BZ Ca Cb Cc Ce Cg Ci Cj Ck Cm Co Cq Cr Ct Cu Cw Cx Cy Cz CB CF CG CJ CK CO CQ CS CU CV CW CX,tm=#[q.cv,.slice (some ⟨q.lg,0,none⟩) n q.lc,.chan (some co),.pointer (some ⟨q.bc,0,none⟩),v4,v5,.pointer (some ⟨q.bz,0,none⟩),.int .i64 q.most,.pointer (some ⟨q.ob,0,none⟩),.slice (some ⟨q.sg,0,none⟩) n n,.pointer (some ⟨q.br,0,none⟩),Jo,I6,Kh,K7,LA,Ai,Aj,Ak,Al,Am,Ao,Ap,Aq,Ar,Au,Av,Aw,Ay,Az,AA,AB,AJ,AL,AO,AP,AQ,AU,AV,AX,AY,AZ,A8,A9,Ba,Bb,Bc,Bf,Bh,Bj,Bl,Bp,Bq,Br,Bu,Bv,Bw,Bz,BD,BF,BG,BH,BI,BJ,BK,BL,BM,LB,u68,u69,BQ,BR,BS,BU,BX,BZ,Ca,Cb,Cc,Ce,Cg,Ci,Cj,Ck,Cm,Co,Cq,Cr,Ct,Cu,Cw,Cx,Cy,Cz,CB,CF,CG,CJ,CK,CO,CQ,CS,CU,CV,CW,CX]
structure PdR (q:RB)(bs:List Nat)(left:List Int)(last:Int)(steps:List Nat)(s:Nat)(cut:Value)(W:World):Prop where
  row:∀ (i b:Nat),bs[i]?=some b->W.cell? ⟨q.lg,i,none⟩=some (.pointer (some ⟨b,0,none⟩))
  cse:W.heap[q.bc]?=some (.cells #[.slice q.wa q.wn q.wc,.slice q.ta q.tn q.tc,.slice q.ya 0 q.yc,.int .i64 q.u] 59 (0,0))
  ord:∃ VE,Vz W 204 q.ob VE left last/\VE.ownBlock=q.ol
  Xr:W.heap[q.sg]?=some (.cells (steps.map fun (k:Nat)=>Value.int .i64 k).toArray 3 (0,0))
  run:W.heap[q.br]?=some (.cells #[.slice none 0 0,.slice none 0 0,.int .i64 s,cut] 63 (0,0))
  res:W.heap[q.bz]?=some (.cells #[.slice none 0 0,.slice none 0 0,.int .i64 0,.bool false] 63 (0,0))
def RB.K (q:RB)(Kp:Nat->Prop)(g:Nat):Prop:=g=q.lg\/g=q.bc\/g=q.bz\/g=q.ob\/q.ol=some g\/g=q.sg\/g=q.br\/Kp g
structure RB.Lay (q:RB)(Kp:Nat->Prop):Prop where
  h1:q.lg < q.bc
  h2:q.bc < q.bz
  h3:q.bz < q.ob
  h4:q.ob < q.sg
  h5:q.sg < q.br
  h6:∀ g,q.ol=some g->q.bz < g/\g < q.sg/\g≠q.ob
  h7:∀ g,Kp g->g < q.bc
structure Oz {Cs Sg:Type}(m:Mem Sg)(ρ:Rn)(ws:List (Ij (Wk G5 Cs)))(q:RB)(Kp:Nat->Prop)(W0:World)(R:Nat)(σ:Sg)(left:List Int)(last:Int)(s:Nat)(steps:List Nat)(cut:Value)(W:World):Prop where
  rows:PdR q (ws.map (·.b)) left last steps s cut W
  lay:q.Lay Kp
  inv:m.Inv σ W
  free:∀ g,q.K Kp g->(∃ c e f,W.heap[g]?=some (.cells c e f))/\g≠ρ.Wg/\ρ.Bo g=false/\¬ m.Sh g/\∀ (j:Nat) (u:Ij (Wk G5 Cs)),ws[j]?=some u->¬ u.own g
  kept:∀ g,Kp g->W.heap[g]?=W0.heap[g]?
  ov:∀ (j:Nat) (u:Ij (Wk G5 Cs)),ws[j]?=some u->u.over=u.x.over/\lI u.x
  fuel:∀ (j:Nat) (u:Ij (Wk G5 Cs)),ws[j]?=some u->R<=u.r+s
  X3:steps.length=ws.length
  few:ws.length<=1000
section
variable {Cs Sg:Type}{D:Dr G5 Cs Sg}{m:Mem Sg}{ρ:Rn}{ws:List (Ij (Wk G5 Cs))}
variable {Fin:Iw}{GR:Ig Try.prog Fin}
variable {q:RB}{Kp:Nat->Prop}{W0 W:World}{R s co n nn:Nat}{σ:Sg}{left:List Int}{last:Int}{steps:List Nat}{cut Jo I6 Kh K7 LA LB u68 u69:Value}{ds:List Deferred}{K:List Item}{cs:List Frame}
theorem PdR.keep {bs:List Nat}{W':World}(h:PdR q bs left last steps s cut W)(hk:∀ g,q.K (fun _=>False) g->W'.heap[g]?=W.heap[g]?):PdR q bs left last steps s cut W':=by
  have hc:∀ a:Addr,q.K (fun _=>False) a.block->W'.cell? a=W.cell? a:=fun a ha=>cell_of (hk _ ha);refine ⟨fun i b hb=>?_,?_,?_,?_,?_,?_⟩
  . rw [hc ⟨q.lg,i,none⟩ (.inl rfl)];exact h.row i b hb
  . rw [hk _ (.inr (.inl rfl))];exact h.cse
  . obtain ⟨VE,⟨o1,o2,o3⟩,o4⟩:=h.ord;refine ⟨VE,⟨?_,o2.same fun k hk' _=>hk _ (.inr (.inr (.inr (.inr (.inl (by rw [← o4];exact hk')))))),o3⟩,o4⟩;rw [hk _ (.inr (.inr (.inr (.inl rfl))))];exact o1
  . rw [hk _ (.inr (.inr (.inr (.inr (.inr (.inl rfl))))))];exact h.Xr
  . rw [hk _ (.inr (.inr (.inr (.inr (.inr (.inr (.inl rfl)))))))];exact h.run
  . rw [hk _ (.inr (.inr (.inl rfl)))];exact h.res
theorem RB.K.weak {g:Nat}(h:q.K (fun _=>False) g):q.K Kp g:=by
  rcases h with h|h|h|h|h|h|h|h
  . exact .inl h
  . exact .inr (.inl h)
  . exact .inr (.inr (.inl h))
  . exact .inr (.inr (.inr (.inl h)))
  . exact .inr (.inr (.inr (.inr (.inl h))))
  . exact .inr (.inr (.inr (.inr (.inr (.inl h)))))
  . exact .inr (.inr (.inr (.inr (.inr (.inr (.inl h))))))
  . exact h.elim
theorem Oz.lt (h:Oz m ρ ws q Kp W0 R σ left last s steps cut W){g:Nat}(hg:q.K Kp g):g < W.heap.size:=by obtain ⟨⟨c,e,f,hc⟩,_⟩:=h.free g hg;exact (Array.getElem?_eq_some_iff.1 hc).1
theorem Oz.sQ (h:Oz m ρ ws q Kp W0 R σ left last s steps cut W){g:Nat}(hg:m.Sh g):g < W.heap.size:=by obtain ⟨c,e,f,hc⟩:=m.rows σ W g hg h.inv;exact (Array.getElem?_eq_some_iff.1 hc).1
theorem Oz.keep {W':World}(h:Oz m ρ ws q Kp W0 R σ left last s steps cut W)(hk:∀ g,q.K Kp g->W'.heap[g]?=W.heap[g]?)(hs:∀ g,m.Sh g->W'.heap[g]?=W.heap[g]?):Oz m ρ ws q Kp W0 R σ left last s steps cut W':=
  { rows:=h.rows.keep fun g hg=>hk g hg.weak,lay:=h.lay,
     inv:=m.eq σ W W' (fun g hg=>.of (hs g hg)) h.inv,
     free:=fun g hg=>(by rw [hk g hg];exact h.free g hg),
     kept:=fun g hg=>(by rw [hk g (.inr (.inr (.inr (.inr (.inr (.inr (.inr hg)))))))];exact h.kept g hg),
     ov:=h.ov,fuel:=h.fuel,X3:=h.X3,few:=h.few }
theorem Oz.olds {W':World}(h:Oz m ρ ws q Kp W0 R σ left last s steps cut W)(ho:Lm W W'):Oz m ρ ws q Kp W0 R σ left last s steps cut W':=h.keep (fun g hg=>ho.blk g (h.lt hg)) fun g hg=>ho.blk g (h.sQ hg)
theorem Oz.alike {W':World}(h:Oz m ρ ws q Kp W0 R σ left last s steps cut W)(hh:W'.heap=W.heap):Oz m ρ ws q Kp W0 R σ left last s steps cut W':=h.keep (fun g _=>by rw [hh]) fun g _=>by rw [hh]
theorem Oz.turn {W':World}{left':List Int}{last':Int}{s':Nat}{QX:List Nat}{cut':Value}(h:Oz m ρ ws q Kp W0 R σ left last s steps cut W){x:Nat}(hx:q.K Kp x)(hb:q.bc < x)(ho:∀ g,g < W.heap.size->g≠x->W'.heap[g]?=W.heap[g]?)(hr:∃ c e f,W'.heap[x]?=some (.cells c e f))(hR:PdR q (ws.map (·.b)) left' last' QX s' cut' W')(hss:s<=s')(hsl:QX.length=steps.length):Oz m ρ ws q Kp W0 R σ left' last' s' QX cut' W':=
  { rows:=hR,lay:=h.lay,
     inv:=m.eq σ W W' (fun g hg=>.of (ho g (h.sQ hg) fun e=>(h.free x hx).2.2.2.1 (e ▸ hg))) h.inv,
     free:=fun g hg=>(by
       by_cases e:g=x
       . rw [e];exact ⟨hr,(h.free x hx).2⟩
       . rw [ho g (h.lt hg) e];exact h.free g hg),
     kept:=fun g hg=>(by have h7:=h.lay.h7 g hg;rw [ho g (h.lt (.inr (.inr (.inr (.inr (.inr (.inr (.inr hg)))))))) (by omega)];exact h.kept g hg),
     ov:=h.ov,
     fuel:=fun j u hu=>(by have:=h.fuel j u hu;omega),
     X3:=(by rw [hsl];exact h.X3),
     few:=h.few }
theorem Tf {M:Md (Wk G5 Cs) Sg}(hM:M=H9 D m)(hK:Known M ρ ws W){i:Nat}{v:Ij (Wk G5 Cs)}(hv:ws[i]?=some v):W.cell? ⟨v.b,10,none⟩=some (.bool v.x.over)/\W.cell? ⟨v.b,7,none⟩=some (.int .i64 v.x.bg)/\W.cell? ⟨v.b,8,none⟩=some (.int .i64 v.x.ow):=by
  subst hM;obtain ⟨_,hb,t,co,go,gr,ans,hrow,_⟩:=hK.record i v hv;have hin:=(hK.inside i v hv).1;have hc:=hrow.cells;refine ⟨?_,?_,?_⟩
  . rw [hK.cell i v hv ⟨v.b,10,none⟩ hin];exact hc.2.2.2.2.2.1
  . rw [hK.cell i v hv ⟨v.b,7,none⟩ hin];exact hc.2.2.1
  . rw [hK.cell i v hv ⟨v.b,8,none⟩ hin];exact hc.2.2.2.1
end
end
section
theorem Yh:∀ g∈[106],@Lets (Host.only 79) Try.prog g:=fun g hg=>by obtain rfl:=List.mem_singleton.1 hg;exact ⟨by kernel_rfl,.inl ⟨_,_,Try.func106,by kernel_rfl,rfl,by kernel_rfl⟩⟩
section
variable {Cs Sg:Type}{D:Dr G5 Cs Sg}{m:Mem Sg}{ρ:Rn}{ws:List (Ij (Wk G5 Cs))}
variable {Fin:Iw}{GR:Ig Try.prog Fin}
variable {q:RB}{Kp:Nat->Prop}{W0 W:World}{R s co n nn:Nat}{σ:Sg}{left:List Int}{last:Int}{steps:List Nat}{cut Jo I6 Kh K7 LA LB u68 u69:Value}{ds:List Deferred}{K:List Item}{cs:List Frame}
theorem za (h:Oz m ρ ws q Kp W0 R σ left last s steps cut W)(hn:n=ws.length){tm:Array Value}(hs:Sd q co n Jo I6 Kh K7 LA LB u68 u69 tm)(hK:∀ W' tm' wb,Sd q co n (.slice (some ⟨wb,0,none⟩) n n) (.bool ((ws.map fun u=>u.x.over).any fun d=>!d)) Kh K7 LA LB u68 u69 tm'->Oz m ρ ws q Kp W0 R σ left last s steps cut W'->(∀ i,i < n->W'.cell? ⟨wb,i,none⟩=some (.bool !((ws.map fun u=>u.x.over).getD i false)))->JL (S0 Try.prog Fin GR).L (.H7 (H9 D m) ρ ws 0 false nn) (G ((base 79).at ⟨tm',ds⟩ K) cs) W') :
    JL (S0 Try.prog Fin GR).L (.H7 (H9 D m) ρ ws 0 false nn) (G ((base 79).at ⟨tm,ds⟩ (.code pd7 :: K)) cs) W:=by
  refine J0.know (GR:=GR) fun hKn=>?_;have hov:∀ (i b:Nat),(ws.map (·.b))[i]?=some b->W.cell? ⟨b,10,none⟩=some (.bool ((ws.map fun u=>u.x.over).getD i false)):=fun i b hb=>by rw [List.getElem?_map] at hb;obtain ⟨u,hu,rfl⟩:=Option.map_eq_some_iff.1 hb;rw [(Tf (D:=D) rfl hKn hu).1];simp [hu]
  obtain ⟨v4,v5,Ai,Aj,Ak,Al,Am,Ao,Ap,Aq,Ar,Au,Av,Aw,Ay,Az,AA,AB,AJ,AL,AO,AP,AQ,AU,AV,AX,AY,AZ,A8,A9,Ba,Bb,Bc,Bf,Bh,Bj,Bl,Bp,Bq,Br,Bu,Bv,Bw,Bz,BD,BF,BG,BH,BI,BJ,BK,BL,BM,BQ,BR,BS,BU,BX,BZ,Ca,Cb,Cc,Ce,Cg,Ci,Cj,Ck,Cm,Co,Cq,Cr,Ct,Cu,Cw,Cx,Cy,Cz,CB,CF,CG,CJ,CK,CO,CQ,CS,CU,CV,CW,CX,rfl⟩:=hs;refine HY.Ht (S:=S0 Try.prog Fin GR) (b:=base 79) [106] Yh (by kernel_rfl) nE (by kernel_rfl) fun GQ ha=>?_;have hh:GQ.heap=W.heap:=by obtain ⟨τ,d,rfl⟩:=ha;rfl
  have hcell:∀ a,GQ.cell? a=W.cell? a:=fun a=>by simp only [World.cell?,hh]
  have h1:=h.alike hh;have hbl:(ws.map (·.b)).length=n:=by simp [hn]
  have hn8:=h.few;have hdl:(ws.map fun u=>u.x.over).length=(ws.map (·.b)).length:=by simp
  have hrd:∀ (i b:Nat),(ws.map (·.b))[i]?=some b->GQ.cell? ⟨q.lg,0+i,none⟩=some (.pointer (some ⟨b,0,none⟩))/\GQ.cell? ⟨b,10,none⟩=some (.bool ((ws.map fun u=>u.x.over).getD i false)):=fun i b hb=>⟨by rw [Nat.zero_add];exact h1.rows.row i b hb,by rw [hcell];exact hov i b hb⟩
  have c0:GQ.cell? ⟨q.bc,0,none⟩=some (.slice q.wa q.wn q.wc):=by simp [World.cell?,h1.rows.cse]
  have c1:GQ.cell? ⟨q.bc,1,none⟩=some (.slice q.ta q.tn q.tc):=by simp [World.cell?,h1.rows.cse]
  have c2:GQ.cell? ⟨q.bc,2,none⟩=some (.slice q.ya 0 q.yc):=by simp [World.cell?,h1.rows.cse]
  have c3:GQ.cell? ⟨q.bc,3,none⟩=some (.int .i64 q.u):=by simp [World.cell?,h1.rows.cse]
  have hbn:(ws.map (·.b)).length<=1000:=by simp;omega
  have HH:=Lib.hid (And.intro hK (And.intro h1 (And.intro hrd (And.intro hdl hbn))));clear hK h h1 hov hcell hKn hrd hdl hn hn8 hbn;generalize hdn:(ws.map fun u=>u.x.over)=dn at *;generalize hbs:ws.map (·.b)=bs at *;subst hbl;have HD:=Lib.hid (And.intro hdn hbs);clear hdn hbs;dsimp only;simp only [pd7,VN,QH,Try.f79];gi_wp2_with (gi_at_call 106;refine (jN (lg:=q.lg) (lo:=0) (bs:=bs) (dn:=dn) _ HH.out.2.2.2.1 HH.out.2.2.2.2 HH.out.2.2.1).mono ?_;rintro e w1 ⟨wb,hwb,rfl,hB,hcells⟩)
  obtain ⟨hK,h1,_⟩:=HH.out;obtain ⟨rfl,rfl⟩:=HD.out;clear HH HD;exact hK w1 _ wb ⟨_,_,_,_,_,_,_,_,_,_,_,_,_,_,_,_,_,_,_,_,_,_,_,_,_,_,_,_,_,_,_,_,_,_,_,_,_,_,_,_,_,_,_,_,_,_,_,_,_,_,_,_,_,_,_,_,_,_,_,_,_,_,_,_,_,_,_,_,_,_,_,_,_,_,_,_,_,_,_,_,_,_,_,_,_,_,_,_,_,rfl⟩ (h1.olds ((Lm.refl GQ).below hB (Nat.le_refl _))) hcells
theorem wZ (h:Oz m ρ ws q Kp W0 R σ left last s steps cut W){bv:Bool}{tm:Array Value}(hs:Sd q co n Jo (.bool bv) Kh K7 LA LB u68 u69 tm)(hK:∀ W' tm',Sd q co n Jo (.bool bv) Kh K7 LA LB u68 u69 tm'->Oz m ρ ws q Kp W0 R σ left last s steps (.bool bv) W'->(∀ g,g≠q.br->W'.heap[g]?=W.heap[g]?)->JL (S0 Try.prog Fin GR).L (.H7 (H9 D m) ρ ws 0 false nn) (G ((base 79).at ⟨tm',ds⟩ K) cs) W') :
    JL (S0 Try.prog Fin GR).L (.H7 (H9 D m) ρ ws 0 false nn) (G ((base 79).at ⟨tm,ds⟩ (.code pd8 :: K)) cs) W:=by
  obtain ⟨v4,v5,Ai,Aj,Ak,Al,Am,Ao,Ap,Aq,Ar,Au,Av,Aw,Ay,Az,AA,AB,AJ,AL,AO,AP,AQ,AU,AV,AX,AY,AZ,A8,A9,Ba,Bb,Bc,Bf,Bh,Bj,Bl,Bp,Bq,Br,Bu,Bv,Bw,Bz,BD,BF,BG,BH,BI,BJ,BK,BL,BM,BQ,BR,BS,BU,BX,BZ,Ca,Cb,Cc,Ce,Cg,Ci,Cj,Ck,Cm,Co,Cq,Cr,Ct,Cu,Cw,Cx,Cy,Cz,CB,CF,CG,CJ,CK,CO,CQ,CS,CU,CV,CW,CX,rfl⟩:=hs;refine HY.Ht (S:=S0 Try.prog Fin GR) (b:=base 79) [] (by simp) (by kernel_rfl) nE (by kernel_rfl) fun GQ ha=>?_;have hh:GQ.heap=W.heap:=by obtain ⟨τ,d,rfl⟩:=ha;rfl
  have h1:=h.alike hh;have c3:GQ.cell? ⟨q.br,3,none⟩=some cut:=by simp [World.cell?,h1.rows.run]
  have f3:GQ.frozen? ⟨q.br,3,none⟩=false:=by simp [World.frozen?,h1.rows.run]
  have HH:=Lib.hid (And.intro hK (And.intro h1 hh));clear hK h h1 hh;dsimp only;simp only [pd8,VN,QH,Try.f79];gi_wp2;obtain ⟨hK,h1,hh⟩:=HH.out;clear HH;generalize hW':World.setCell _ _ _=W';have hoth:∀ g,g≠q.br->W'.heap[g]?=GQ.heap[g]?:=fun g hg=>by rw [← hW'];simp [World.setCell,Array.getElem?_modify,Ne.symm hg]
  have hrow:W'.heap[q.br]?=some (.cells #[.slice none 0 0,.slice none 0 0,.int .i64 s,.bool bv] 63 (0,0)):=by rw [← hW'];have:=h1.rows.run;simp [World.setCell,Array.getElem?_modify,this]
  have hl:=h1.lay;have l1:=hl.h1;have l2:=hl.h2;have l3:=hl.h3;have l4:=hl.h4;have l5:=hl.h5;refine hK W' _ ⟨_,_,_,_,_,_,_,_,_,_,_,_,_,_,_,_,_,_,_,_,_,_,_,_,_,_,_,_,_,_,_,_,_,_,_,_,_,_,_,_,_,_,_,_,_,_,_,_,_,_,_,_,_,_,_,_,_,_,_,_,_,_,_,_,_,_,_,_,_,_,_,_,_,_,_,_,_,_,_,_,_,_,_,_,_,_,_,_,_,rfl⟩ (h1.turn (x:=q.br) (.inr (.inr (.inr (.inr (.inr (.inr (.inl rfl))))))) (by omega) (fun g _ hg=>hoth g hg) ⟨_,_,_,hrow⟩ ?_ (Nat.le_refl _) rfl) fun g hg=>by rw [hoth g hg,hh]
  have hk:∀ g,q.K (fun _=>False) g->g≠q.br->W'.heap[g]?=GQ.heap[g]?:=fun g _ hg=>hoth g hg;obtain ⟨r1,r2,⟨VE,⟨o1,o2,o3⟩,o4⟩,r4,r5,r6⟩:=h1.rows;have h6:=hl.h6;refine ⟨fun i b hb=>?_,by rw [hoth _ (by omega)];exact r2,⟨VE,⟨by rw [hoth _ (by omega)];exact o1,o2.same fun k hk' _=>hoth k ?_,o3⟩,o4⟩,by rw [hoth _ (by omega)];exact r4,hrow,by rw [hoth _ (by omega)];exact r6⟩
  . rw [cell_of (a:=⟨q.lg,i,none⟩) (hoth q.lg (by omega))];exact r1 i b hb
  . have:=h6 k (by rw [← o4];exact hk')
    omega
theorem zY (h:Oz m ρ ws q Kp W0 R σ left last s steps cut W)(hsb:s<=1000000)(hm:q.most<=1000000){bv:Bool}{tm:Array Value}(hs:Sd q co n Jo (.bool bv) Kh K7 LA LB u68 u69 tm)(hK:∀ W' tm',Sd q co n Jo (.bool bv) Kh K7 LA LB u68 u69 tm'->tm'[42]?=some (.bool (!bv || decide (q.most<=s)))->W'.heap=W.heap->JL (S0 Try.prog Fin GR).L (.H7 (H9 D m) ρ ws 0 false nn) (G ((base 79).at ⟨tm',ds⟩ K) cs) W') :
    JL (S0 Try.prog Fin GR).L (.H7 (H9 D m) ρ ws 0 false nn) (G ((base 79).at ⟨tm,ds⟩ (.code pd9 :: K)) cs) W:=by
  obtain ⟨v4,v5,Ai,Aj,Ak,Al,Am,Ao,Ap,Aq,Ar,Au,Av,Aw,Ay,Az,AA,AB,AJ,AL,AO,AP,AQ,AU,AV,AX,AY,AZ,A8,A9,Ba,Bb,Bc,Bf,Bh,Bj,Bl,Bp,Bq,Br,Bu,Bv,Bw,Bz,BD,BF,BG,BH,BI,BJ,BK,BL,BM,BQ,BR,BS,BU,BX,BZ,Ca,Cb,Cc,Ce,Cg,Ci,Cj,Ck,Cm,Co,Cq,Cr,Ct,Cu,Cw,Cx,Cy,Cz,CB,CF,CG,CJ,CK,CO,CQ,CS,CU,CV,CW,CX,rfl⟩:=hs;refine HY.Ht (S:=S0 Try.prog Fin GR) (b:=base 79) [] (by simp) (by kernel_rfl) nE (by kernel_rfl) fun GQ ha=>?_;have hh:GQ.heap=W.heap:=by obtain ⟨τ,d,rfl⟩:=ha;rfl
  have h1:=h.alike hh;have c2:GQ.cell? ⟨q.br,2,none⟩=some (.int .i64 s):=by simp [World.cell?,h1.rows.run]
  have HH:=Lib.hid (And.intro hK (And.intro h1 hh));clear hK h h1 hh;dsimp only;simp only [pd9,VN,QH,Try.f79];cases bv with
  | true=>
    gi_wp2;obtain ⟨hK,h1,hh⟩:=HH.out;refine hK GQ _ ⟨_,_,_,_,_,_,_,_,_,_,_,_,_,_,_,_,_,_,_,_,_,_,_,_,_,_,_,_,_,_,_,_,_,_,_,_,_,_,_,_,_,_,_,_,_,_,_,_,_,_,_,_,_,_,_,_,_,_,_,_,_,_,_,_,_,_,_,_,_,_,_,_,_,_,_,_,_,_,_,_,_,_,_,_,_,_,_,_,_,rfl⟩ ?_ hh;by_cases e:q.most<=s <;> simp [e]
  | false=>
    gi_wp2;obtain ⟨hK,h1,hh⟩:=HH.out;refine hK GQ _ ⟨_,_,_,_,_,_,_,_,_,_,_,_,_,_,_,_,_,_,_,_,_,_,_,_,_,_,_,_,_,_,_,_,_,_,_,_,_,_,_,_,_,_,_,_,_,_,_,_,_,_,_,_,_,_,_,_,_,_,_,_,_,_,_,_,_,_,_,_,_,_,_,_,_,_,_,_,_,_,_,_,_,_,_,_,_,_,_,_,_,rfl⟩ ?_ hh
    simp
theorem qR (h:Oz m ρ ws q Kp W0 R σ left last s steps cut W)(hsb:s<=1000000){tm:Array Value}(hs:Sd q co n Jo I6 Kh K7 LA LB u68 u69 tm)(hK:∀ W' tm',Sd q co n Jo I6 Kh K7 LA LB u68 u69 tm'->Oz m ρ ws q Kp W0 R σ left last (s+1) steps cut W'->JL (S0 Try.prog Fin GR).L (.H7 (H9 D m) ρ ws 0 false nn) (G ((base 79).at ⟨tm',ds⟩ K) cs) W') :
    JL (S0 Try.prog Fin GR).L (.H7 (H9 D m) ρ ws 0 false nn) (G ((base 79).at ⟨tm,ds⟩ (.code qW :: K)) cs) W:=by
  obtain ⟨v4,v5,Ai,Aj,Ak,Al,Am,Ao,Ap,Aq,Ar,Au,Av,Aw,Ay,Az,AA,AB,AJ,AL,AO,AP,AQ,AU,AV,AX,AY,AZ,A8,A9,Ba,Bb,Bc,Bf,Bh,Bj,Bl,Bp,Bq,Br,Bu,Bv,Bw,Bz,BD,BF,BG,BH,BI,BJ,BK,BL,BM,BQ,BR,BS,BU,BX,BZ,Ca,Cb,Cc,Ce,Cg,Ci,Cj,Ck,Cm,Co,Cq,Cr,Ct,Cu,Cw,Cx,Cy,Cz,CB,CF,CG,CJ,CK,CO,CQ,CS,CU,CV,CW,CX,rfl⟩:=hs;refine HY.Ht (S:=S0 Try.prog Fin GR) (b:=base 79) [] (by simp) (by kernel_rfl) nE (by kernel_rfl) fun GQ ha=>?_;have hh:GQ.heap=W.heap:=by obtain ⟨τ,d,rfl⟩:=ha;rfl
  have h1:=h.alike hh;have c2:GQ.cell? ⟨q.br,2,none⟩=some (.int .i64 s):=by simp [World.cell?,h1.rows.run]
  have f2:GQ.frozen? ⟨q.br,2,none⟩=false:=by simp [World.frozen?,h1.rows.run]
  have hl1:(-9223372036854775808:Int)<=(s:Int)+1:=by omega
  have hl2:(s:Int)+1<=9223372036854775807:=by omega
  have HH:=Lib.hid (And.intro hK (And.intro h1 hh));clear hK h h1 hh;dsimp only;simp only [qW,VN,QH,Try.f79];gi_wp2;obtain ⟨hK,h1,hh⟩:=HH.out;clear HH;generalize hW':World.setCell _ _ _=W';have hoth:∀ g,g≠q.br->W'.heap[g]?=GQ.heap[g]?:=fun g hg=>by rw [← hW'];simp [World.setCell,Array.getElem?_modify,Ne.symm hg]
  have hrow:W'.heap[q.br]?=some (.cells #[.slice none 0 0,.slice none 0 0,.int .i64 ((s+1:Nat):Int),cut] 63 (0,0)):=by rw [← hW'];have:=h1.rows.run;simp [World.setCell,Array.getElem?_modify,this]
  have hl:=h1.lay;have l1:=hl.h1;have l2:=hl.h2;have l3:=hl.h3;have l4:=hl.h4;have l5:=hl.h5;refine hK W' _ ⟨_,_,_,_,_,_,_,_,_,_,_,_,_,_,_,_,_,_,_,_,_,_,_,_,_,_,_,_,_,_,_,_,_,_,_,_,_,_,_,_,_,_,_,_,_,_,_,_,_,_,_,_,_,_,_,_,_,_,_,_,_,_,_,_,_,_,_,_,_,_,_,_,_,_,_,_,_,_,_,_,_,_,_,_,_,_,_,_,_,rfl⟩ (h1.turn (x:=q.br) (.inr (.inr (.inr (.inr (.inr (.inr (.inl rfl))))))) (by omega) (fun g _ hg=>hoth g hg) ⟨_,_,_,hrow⟩ ?_ (by omega) rfl);obtain ⟨r1,r2,⟨VE,⟨o1,o2,o3⟩,o4⟩,r4,r5,r6⟩:=h1.rows;have h6:=hl.h6;refine ⟨fun i b hb=>?_,by rw [hoth _ (by omega)];exact r2,⟨VE,⟨by rw [hoth _ (by omega)];exact o1,o2.same fun k hk' _=>hoth k ?_,o3⟩,o4⟩,by rw [hoth _ (by omega)];exact r4,hrow,by rw [hoth _ (by omega)];exact r6⟩
  . rw [cell_of (a:=⟨q.lg,i,none⟩) (hoth q.lg (by omega))];exact r1 i b hb
  . have:=h6 k (by rw [← o4];exact hk')
    omega
theorem qZ (h:Oz m ρ ws q Kp W0 R σ left last s steps cut W)(hn:n=ws.length){k:Nat}(hk:k < n)(hst:∀ (i c:Nat),steps[i]?=some c->c<=1000000){tm:Array Value}(hs:Sd q co n Jo I6 (.int .i64 k) K7 LA LB u68 u69 tm)(hK:∀ W' tm',Sd q co n Jo I6 (.int .i64 k) K7 LA LB u68 u69 tm'->Oz m ρ ws q Kp W0 R σ left last s (steps.set k (steps.getD k 0+1)) cut W'->JL (S0 Try.prog Fin GR).L (.H7 (H9 D m) ρ ws 0 false nn) (G ((base 79).at ⟨tm',ds⟩ K) cs) W') :
    JL (S0 Try.prog Fin GR).L (.H7 (H9 D m) ρ ws 0 false nn) (G ((base 79).at ⟨tm,ds⟩ (.code qU :: K)) cs) W:=by
  obtain ⟨v4,v5,Ai,Aj,Ak,Al,Am,Ao,Ap,Aq,Ar,Au,Av,Aw,Ay,Az,AA,AB,AJ,AL,AO,AP,AQ,AU,AV,AX,AY,AZ,A8,A9,Ba,Bb,Bc,Bf,Bh,Bj,Bl,Bp,Bq,Br,Bu,Bv,Bw,Bz,BD,BF,BG,BH,BI,BJ,BK,BL,BM,BQ,BR,BS,BU,BX,BZ,Ca,Cb,Cc,Ce,Cg,Ci,Cj,Ck,Cm,Co,Cq,Cr,Ct,Cu,Cw,Cx,Cy,Cz,CB,CF,CG,CJ,CK,CO,CQ,CS,CU,CV,CW,CX,rfl⟩:=hs;refine HY.Ht (S:=S0 Try.prog Fin GR) (b:=base 79) [] (by simp) (by kernel_rfl) nE (by kernel_rfl) fun GQ ha=>?_;have hh:GQ.heap=W.heap:=by obtain ⟨τ,d,rfl⟩:=ha;rfl
  have h1:=h.alike hh;have hkl:k < steps.length:=by rw [h.X3];omega
  have hgk:steps[k]?=some (steps.getD k 0):=by simp [List.getD,hkl]
  have hcb:=hst k _ hgk;have ck:GQ.cell? ⟨q.sg,k,none⟩=some (.int .i64 (steps.getD k 0:Nat)):=by have:=h1.rows.Xr;simp only [World.cell?,this];simp [hkl]
  have fk:GQ.frozen? ⟨q.sg,k,none⟩=false:=by simp [World.frozen?,h1.rows.Xr]
  generalize hc:steps.getD k 0=c at *;have hl1:(-9223372036854775808:Int)<=(c:Int)+1:=by omega
  have hl2:(c:Int)+1<=9223372036854775807:=by omega
  have hk0:¬ ((k:Int) < 0):=by omega
  have HH:=Lib.hid (And.intro hK (And.intro h1 (And.intro hh (And.intro hgk (And.intro hc hn)))));clear hK h h1 hh hgk hc hn;dsimp only;simp only [qU,VN,QH,Try.f79];gi_wp2;obtain ⟨hK,h1,hh,hgk,hc,hn⟩:=HH.out;clear HH;generalize hW':World.setCell _ _ _=W';have hoth:∀ g,g≠q.sg->W'.heap[g]?=GQ.heap[g]?:=fun g hg=>by rw [← hW'];simp [World.setCell,Array.getElem?_modify,Ne.symm hg]
  have hrow:W'.heap[q.sg]?=some (.cells ((steps.set k (c+1)).map fun (k:Nat)=>Value.int .i64 k).toArray 3 (0,0)):=by rw [← hW'];have:=h1.rows.Xr;simp [World.setCell,Array.getElem?_modify,this]
  have hl:=h1.lay;have l1:=hl.h1;have l2:=hl.h2;have l3:=hl.h3;have l4:=hl.h4;have l5:=hl.h5;refine hK W' _ ⟨_,_,_,_,_,_,_,_,_,_,_,_,_,_,_,_,_,_,_,_,_,_,_,_,_,_,_,_,_,_,_,_,_,_,_,_,_,_,_,_,_,_,_,_,_,_,_,_,_,_,_,_,_,_,_,_,_,_,_,_,_,_,_,_,_,_,_,_,_,_,_,_,_,_,_,_,_,_,_,_,_,_,_,_,_,_,_,_,_,rfl⟩ (h1.turn (x:=q.sg) (.inr (.inr (.inr (.inr (.inr (.inl rfl)))))) (by omega) (fun g _ hg=>hoth g hg) ⟨_,_,_,hrow⟩ ?_ (Nat.le_refl _) (by simp));obtain ⟨r1,r2,⟨VE,⟨o1,o2,o3⟩,o4⟩,r4,r5,r6⟩:=h1.rows;have h6:=hl.h6;refine ⟨fun i b hb=>?_,by rw [hoth _ (by omega)];exact r2,⟨VE,⟨by rw [hoth _ (by omega)];exact o1,o2.same fun k hk' _=>hoth k ?_,o3⟩,o4⟩,hrow,by rw [hoth _ (by omega)];exact r5,by rw [hoth _ (by omega)];exact r6⟩
  . rw [cell_of (a:=⟨q.lg,i,none⟩) (hoth q.lg (by omega))];exact r1 i b hb
  . have:=h6 k (by rw [← o4];exact hk')
    omega
end
end
section
section
variable {Cs Sg:Type}{D:Dr G5 Cs Sg}{m:Mem Sg}{ρ:Rn}{ws:List (Ij (Wk G5 Cs))}
variable {Fin:Iw}{GR:Ig Try.prog Fin}
variable {q:RB}{Kp:Nat->Prop}{W0 W:World}{R s co n nn:Nat}{σ:Sg}{left:List Int}{last:Int}{steps:List Nat}{cut Jo I6 Kh K7 LA LB u68 u69:Value}{ds:List Deferred}{K:List Item}{cs:List Frame}
theorem sG (h:Oz m ρ ws q Kp W0 R σ left last s steps cut W)(hn:n=ws.length){wb:Nat}{rd:List Bool}(hrl:rd.length=n)(hne:OD rd≠[])(hcells:∀ i,i < n->W.cell? ⟨wb,i,none⟩=some (.bool (rd.getD i false))){tm:Array Value}(hs:Sd q co n (.slice (some ⟨wb,0,none⟩) n n) I6 Kh K7 LA LB u68 u69 tm)(hK:∀ W' tm',Sd q co n (.slice (some ⟨wb,0,none⟩) n n) I6 (.int .i64 (NR left last (OD rd))) K7 LA LB u68 u69 tm'->Oz m ρ ws q Kp W0 R σ (NP left (OD rd)) (NC left last (OD rd)) s steps cut W'->JL (S0 Try.prog Fin GR).L (.H7 (H9 D m) ρ ws 0 false nn) (G ((base 79).at ⟨tm',ds⟩ K) cs) W') :
    JL (S0 Try.prog Fin GR).L (.H7 (H9 D m) ρ ws 0 false nn) (G ((base 79).at ⟨tm,ds⟩ (.code vJ :: K)) cs) W:=by
  subst hrl;have HN:=Lib.hid hn;clear hn;obtain ⟨v4,v5,Ai,Aj,Ak,Al,Am,Ao,Ap,Aq,Ar,Au,Av,Aw,Ay,Az,AA,AB,AJ,AL,AO,AP,AQ,AU,AV,AX,AY,AZ,A8,A9,Ba,Bb,Bc,Bf,Bh,Bj,Bl,Bp,Bq,Br,Bu,Bv,Bw,Bz,BD,BF,BG,BH,BI,BJ,BK,BL,BM,BQ,BR,BS,BU,BX,BZ,Ca,Cb,Cc,Ce,Cg,Ci,Cj,Ck,Cm,Co,Cq,Cr,Ct,Cu,Cw,Cx,Cy,Cz,CB,CF,CG,CJ,CK,CO,CQ,CS,CU,CV,CW,CX,rfl⟩:=hs;dsimp only;simp only [vJ,VN,QH,Try.f79];refine Hu fun _ hkk=>?_;iterate 2 (refine Hf ?_;walk_nrm)
  refine JL.enter rfl rfl nE rfl Try.func107 (by kernel_rfl) (by kernel_rfl) ?_;walk_nrm;have hn8:=h.few;obtain ⟨VE,Vr,ho4⟩:=h.rows.ord;refine mQ (S:=S0 Try.prog Fin GR) (l:=rd) (b:=wb) (o:=0) Vr (fun i u hu=>?_) (by have:=HN.out;omega) hne fun W' hP=>?_
  . have hlt:i < rd.length:=by
      have:=(List.getElem?_eq_some_iff.1 hu).1
      simpa [bools] using this
    rw [Nat.zero_add,hcells i hlt];simp [bools,hlt] at hu;rw [← hu];simp [hlt]
  . rw [Frame.finish_at];show JL (S0 Try.prog Fin GR).L _ _ W';walk_nrm
    (refine Hf ?_;walk_nrm)
    refine Hw ?_;cases hkk;have hl:=h.lay;have l1:=hl.h1;have l2:=hl.h2;have l3:=hl.h3;have l4:=hl.h4;have l5:=hl.h5;have h6:=hl.h6;obtain ⟨Aet,ho',Adm⟩:=hP.ord;have hx:q.K Kp q.ob:=.inr (.inr (.inr (.inl rfl)));have hoth:=fun g (hg:g < W.heap.size) (hne:g≠q.ob)=>hP.blk g hg hne;refine hK W' _ ⟨_,_,_,_,_,_,_,_,_,_,_,_,_,_,_,_,_,_,_,_,_,_,_,_,_,_,_,_,_,_,_,_,_,_,_,_,_,_,_,_,_,_,_,_,_,_,_,_,_,_,_,_,_,_,_,_,_,_,_,_,_,_,_,_,_,_,_,_,_,_,_,_,_,_,_,_,_,_,_,_,_,_,_,_,_,_,_,_,_,rfl⟩ (h.turn (x:=q.ob) hx (by omega) hoth ⟨_,_,_,ho'.1⟩ ?_ (Nat.le_refl _) rfl);obtain ⟨r1,r2,_,r4,r5,r6⟩:=h.rows;have k1:q.lg < W.heap.size:=h.lt (.inl rfl);have k2:q.bc < W.heap.size:=h.lt (.inr (.inl rfl));have k3:q.bz < W.heap.size:=h.lt (.inr (.inr (.inl rfl)));have k4:q.sg < W.heap.size:=h.lt (.inr (.inr (.inr (.inr (.inr (.inl rfl))))))
    have k5:q.br < W.heap.size:=h.lt (.inr (.inr (.inr (.inr (.inr (.inr (.inl rfl)))))));refine ⟨fun i b hb=>?_,by rw [hoth _ k2 (by omega)];exact r2,⟨Aet,ho',Adm.trans ho4⟩,by rw [hoth _ k4 (by omega)];exact r4,by rw [hoth _ k5 (by omega)];exact r5,by rw [hoth _ k3 (by omega)];exact r6⟩;rw [cell_of (a:=⟨q.lg,i,none⟩) (hoth q.lg k1 (by omega))];exact r1 i b hb
end
end
end Go.Proofs.Ytkdhnbcdbnpmhaa
