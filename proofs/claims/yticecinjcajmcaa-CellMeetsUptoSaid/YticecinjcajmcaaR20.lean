/-
  Part 20 of the proof that CellMeets returns true, and leaves its arguments as they were, for every input whose reading is of bulk at most 1048576. No further condition.
-/
import Derived.Test.YticecinjcajmcaaR00
import Derived.Test.YticecinjcajmcaaR01
import Derived.Test.YticecinjcajmcaaR08
import Derived.Test.YticecinjcajmcaaR11
import Derived.Test.YticecinjcajmcaaR19
import Derived.Conc.WgGenN2
set_option linter.unusedVariables false
set_option linter.unusedSectionVars false
set_option linter.unusedSimpArgs false
set_option maxHeartbeats 8000000
set_option maxRecDepth 100000
noncomputable section
namespace Go.Proofs.Yticecinjcajmcaa
open Go Go.Conc Go.LT Go.LC Go.LK Go.RowKit
open Go.ConcN (WgLive)
section
section
variable {Cs Sg:Type}{D:Dr Ef Cs Sg}{m:Mem Sg}{ρ:Rn}{b k:Nat}{cf:Frame}{fs:List Frame}{W:World}{σ:Sg}
variable {wv dv cv:Value}
structure UG (D:Dr Ef Cs Sg)(m:Mem Sg)(b k:Nat)(x:Wx (Wk Ef Cs) Sg ρ)(own:Nat->Prop)(z:Wk Ef Cs)(σ:Sg)(W:World):Prop where
  zi:ρ.zi=.int .i64 0
  zg:ρ.zg=.agg #[]
  vb:x.1.1.v.b=b
  vk:x.1.1.v.k=k
  row:Fq W b k x.1.1.v.t ρ.come ρ.gone false z.st z.bg z.ow (.slice none 0 0) false false
  zk:z.k=k
  zo:z.over=false
  zf:z.fell=false
  rH:z.out=[]
  inv:m.Inv σ W
  sh:∀ b,m.Sh b->x.1.1.B b=false
  low:∀ b,x.1.1.B b=true->b < x.1.1.n0
  size:x.1.1.n0<=W.heap.size
  Wo:∀ b,x.1.1.v.own b->b < x.1.1.n0
  cb:own b
  o1:∀ b,x.1.1.v.own b->own b
  o2:∀ b,own b->x.1.1.v.own b\/x.1.1.n0<=b
  o3:∀ b,own b->x.1.1.B b=false/\¬ m.Sh b/\∃ c e f,W.heap[b]?=some (.cells c e f)
  Ld:x.1.1.v.own b
  cap:z.ow+x.1.2 < 2 ^ 62
theorem UG.at {x:Wx (Wk Ef Cs) Sg ρ}{own:Nat->Prop}{z:Wk Ef Cs}(h:UG D m b k x own z σ W){W':World}(ho:∀ g,g < W.heap.size->W'.heap[g]?=W.heap[g]?)(hs:W.heap.size<=W'.heap.size)(hr:W'.heap[W.heap.size]?=some (.cells #[.pointer (some ⟨b,0,none⟩)] 65 (0,0))) :
    Jt m b k ⟨x,fun g=>own g\/g=W.heap.size,fun g=>own g\/g=W.heap.size,W.heap.size,z,false,.slice none 0 0⟩ σ W':=by
  have hlt:∀ {g},own g->g < W.heap.size:=fun hg=>by obtain ⟨_,_,c,e,f,hc⟩:=h.o3 _ hg;exact (zGE hc).1
  have MS:∀ {g},m.Sh g->g < W.heap.size:=fun hg=>by obtain ⟨c,e,f,hc⟩:=m.rows σ W _ hg h.inv;exact (zGE hc).1
  have hb:=hlt h.cb;exact {
          zi:=h.zi,zg:=h.zg,vb:=h.vb,vk:=h.vk
          row:=by have:=h.row;unfold Fq at this ⊢;rw [ho b hb];exact this
          zk:=h.zk,zo:=h.zo,zf:=h.zf
          am:=by show Ko W' _ _ z.out;rw [h.rH];exact ⟨⟨[],rfl,⟨0,rfl,.inl ⟨rfl,rfl⟩⟩,fun i a iv hi=>by simp at hi⟩,fun g hg=>by cases hg⟩
          inv:=m.eq σ W W' (fun g hg=>.of (ho g (MS hg))) h.inv
          sh:=h.sh,low:=h.low,size:=Nat.le_trans h.size hs,Wo:=h.Wo
          cb:=.inl h.cb,Pb:=.inr rfl,co:=fun g hg=>hg
          o1:=fun g hg=>.inl (h.o1 g hg)
          o2:=fun g hg=>hg.elim (h.o2 g) fun e=>.inr (e ▸ h.size)
          o3:=fun g hg=>by
            rcases hg with hg|rfl
            . exact ⟨(h.o3 g hg).1,(h.o3 g hg).2.1,by rw [ho g (hlt hg)];exact (h.o3 g hg).2.2⟩
            . refine ⟨?_,fun hg=>by have:=MS hg;omega,⟨_,_,_,hr⟩⟩
              cases hB:x.1.1.B W.heap.size with
              | false=>rfl
              | true=>
                have h1:W.heap.size < x.1.1.n0:=h.low _ hB;have:=h.size;omega
          Ld:=h.Ld,TM:=by show W.heap.size≠b;omega
          pc:=by show W'.cell? ⟨W.heap.size,0,none⟩=_;simp [World.cell?,hr]
          cap:=by simpa using h.cap }
theorem Zu {x:Wx (Wk Ef Cs) Sg ρ}{own:Nat->Prop}{z:Wk Ef Cs}{OY:FuncId}{recv:Value}(hD:OV (J2 D m ρ b k) dv OY recv)(hdv:∃ t v,dv=.iface t v)(h:UG D m b k x own z σ W)(hcur:z.cur=none)(hbg:z.bg=0)(Lj:x.1.1.tgt=({ z with over:=z.todo.isEmpty },σ,z.todo.isEmpty))(hcs:∀ σ W,m.Inv σ W->Kj W cv z.todo)(Kk:∀ W,JL (SG Try.prog ρ.ty ρ.Wg (KQ Try.prog ρ.ty ρ.Wg)) () (G (cf.finish (.tuple #[])) fs) W) :
    JW (SW (Eu D m) ρ Try.prog).base x (G (Frame.enter Try.prog 33 #[.pointer (some ⟨b,0,none⟩),dv,cv] .normal) (cf :: fs)) W:=by
  have ht:#[.pointer (some ⟨b,0,none⟩),dv,cv] ++ Array.replicate (Try.f33.ntmps - (#[.pointer (some ⟨b,0,none⟩),dv,cv]:Array Value).size) undef=#[.pointer (some ⟨b,0,none⟩),dv,cv,undef,undef,undef,undef,undef,undef,undef,undef,undef,undef,undef,undef,undef,undef,undef,undef,undef,undef,undef,undef,undef,undef,undef,undef,undef,undef,undef,undef,undef,undef,undef,undef,undef,undef,undef,undef,undef,undef,undef,undef,undef,undef,undef,undef,undef,undef,undef,undef,undef,undef,undef,undef,undef,undef,undef,undef,undef,undef,undef,undef,undef,undef,undef,undef,undef,undef,undef,undef,undef,undef,undef,undef,undef,undef,undef,undef,undef,undef]:=by
    have:Try.f33.ntmps=81:=by kernel_rfl
    rw [this];walk_nrm
  obtain ⟨p,cap,hcv,hcl,_⟩:=hcs σ W h.inv;obtain ⟨dt,dw,rfl⟩:=hdv;rw [enter_at _ Try.func33 fT,ht];show JL (SW (Eu D m) ρ Try.prog).L x _ W;refine Ei ?_;refine EL.EJ (S:=SW (Eu D m) ρ Try.prog) (b:=base 33) [] (by simp) zKR nE zKR fun W₁ ha=>?_;have hh:=EW ha;have HH:=Lib.hid (zAI hD (zAI h (zAI Lj (zAI hcs (zAI Kk hh)))));clear hD h Lj hcs Kk hh;simp only [pc0,Try.f33];gi_wp2;obtain ⟨hD,h,Lj,hcs,Kk,hh⟩:=HH.out;clear HH;have h':=h.at (W':=W₁.alloc (.cells #[.pointer (some ⟨b,0,none⟩)] 65 (0,0))) (fun g hg=>by rw [Below.heap_alloc W₁ _ g (by rw [hh];exact hg),hh]) (by simp [hh]) (by rw [← hh];exact heap_alloc_new _ _);rw [← hh] at h';generalize W₁.alloc (.cells #[.pointer (some ⟨b,0,none⟩)] 65 (0,0))=W2 at *;generalize W₁.heap.size=pb at *;generalize (fun g=>own g\/g=pb)=bU at *
  show JL (SW (Eu D m) ρ Try.prog).L x _ W2;dsimp only;refine Ei ?_;simp only [pc1,Try.f33];refine EH fun _ hkk=>?_;refine JL.Ii (.func (.func 58) #[] #[.pointer (some ⟨pb,0,none⟩)]) rfl rfl nE (fun _=>by kernel_rfl) ?_;walk_nrm;refine JL.V7 rfl rfl nE rfl rfl ?_;walk_nrm;refine EB ?_;cases hkk;refine Ei ?_;have HH:=Lib.hid (zAI hD (zAI h' (zAI Lj (zAI hcs (zAI Kk h)))));clear hD h Lj hcs Kk h' hh;subst hcv;refine EL.EJ (S:=SW (Eu D m) ρ Try.prog) (b:=base 33) [] (by simp) zKR nE zKR fun W₃ ha=>?_;simp only [pc2,Try.f33];gi_wp2;obtain ⟨hD,h',Lj,hcs,Kk,h⟩:=HH.out;clear HH;show JL (SW (Eu D m) ρ Try.prog).L x _ W₃;try dsimp only
  refine Er stepG_block ?_;refine Er stepG_loop ?_;refine bZ (K:=[]) (ds:=[Qg pb]) hD ⟨dt,dw,rfl⟩ (Yn Kk) hcs hcl rfl (h:=x.1.1.v.h) (fun s' σ' W' tm' hA' hT' qZ bS hh'=>Zy hA' hT' bS qZ Kk) z.todo ⟨x,bU,bU,pb,z,false,.slice none 0 0⟩ σ W₃ 0 undef undef _ rfl (h'.alike (EW ha)) ⟨rfl,hcur,hbg,Lj⟩ rfl rfl (by rw [h.rH];rfl) (Nat.zero_le _) rfl (by refine ⟨.func (.func 58) #[] #[.pointer (some ⟨pb,0,none⟩)],undef,undef,undef,undef,undef,undef,undef,undef,undef,undef,undef,undef,undef,undef,undef,undef,undef,undef,undef,undef,undef,undef,undef,undef,undef,undef,undef,undef,undef,undef,undef,undef,undef,undef,undef,undef,undef,undef,undef,undef,undef,undef,undef,undef,undef,undef,undef,undef,undef,undef,undef,undef,undef,undef,undef,undef,undef,undef,undef,undef,undef,undef,undef,undef,undef,undef,undef,undef,?_⟩;simp)
end
end
end Go.Proofs.Yticecinjcajmcaa
namespace Go.LK
open Go Go.Conc Go.LT Go.LC
open Go.ConcN (WgLive sumTo upd sumTo_upd upd_ne upd_same)
open Go.ConcR (KK wgBlock WgAt stA smA rd wr mk)
section
section
variable {X Sg:Type}
variable {P:Program}{Fin:FE}{Ea:E5 P Fin}
variable {M:Md X Sg}{ρ:Rn}{ws:List (EK X)}{role:Nat->EC}{bd:Nat->Nat}{w W:World}{ex n:Nat}{df:Bool}{g g':Goroutine}
theorem Nh.qM {B B':Nat->Bool}{q:Nat->Nat}{T:Trace}{gs:Array Goroutine}{w:World}(C:Nh P (Y9 { hol:=B }) q T gs w){b:Nat}(hb:w.heap.size<=b)(h1:∀ x,B x=true->B' x=true)(h2:∀ x,B' x=true->B x=true\/x=b):Nh P (Y9 { hol:=B' }) q T gs w:=by
  refine ⟨C.old,C.above,C.past.shun (fun l ⟨a,e,h⟩=>⟨a,e,h1 _ h⟩) fun i a ha hs=>?_⟩;obtain ⟨ad,ho,hB⟩:=hs;rcases h2 _ hB with hB|hB
  . exact .inl ⟨ad,ho,hB⟩
  . exfalso
    obtain ⟨x,hx,hxa⟩:=touch_of ha;have hlow:=C.past.seen x (Array.mem_of_getElem? hx);have:(MemAct.low w.heap.size x.act)->b < w.heap.size:=by
      intro hl;cases hact:x.act with
      | access e=>
        rw [hact] at hl hxa;simp only [MemAct.touch?,Option.some.injEq] at hxa;subst hxa;simp only at ho;have h3:e.loc.low w.heap.size:=hl;rw [ho] at h3;rw [← hB];exact h3
      | mark m=>
        rw [hact] at hl hxa;cases m <;> simp only [MemAct.touch?,Option.some.injEq,reduceCtorEq] at hxa
        all_goals (subst hxa;simp only [Loc.cell.injEq] at ho;subst ho;rw [← hB];exact hl)
      | _=>rw [hact] at hxa;simp [MemAct.touch?] at hxa
    have:=this hlow;omega
theorem gQ:M7 ([]:List (EK X))=Pn:=by
  funext i l
  apply propext;exact ⟨fun ⟨j,v,hv,_⟩=>(by cases hv),fun h=>h.elim⟩
theorem dH:LY ([]:List (EK X)) 0=fun g=>g=0:=by
  funext i
  apply propext;exact ⟨fun h=>h.elim id fun h=>h.elim id fun ⟨j,v,hv,_⟩=>(by cases hv),fun h=>.inl h⟩
theorem WL:Hw ([]:List (EK X)) 0=fun _=>False:=by
  funext i
  apply propext;exact ⟨fun ⟨h0,h⟩=>h.elim h0 fun ⟨j,v,hv,_⟩=>(by cases hv),fun h=>h.elim⟩
theorem Rx:GV ρ=Y9 (EX ρ ws):=by
  funext l
  apply propext;unfold GV Y9 EX;constructor
  . rintro ⟨a,rfl,h⟩;exact ⟨a,rfl,by simp;exact h.symm⟩
  . rintro ⟨a,rfl,h⟩;exact ⟨a,rfl,by simp at h;exact h.symm⟩
theorem J0.begin {B:Nat->Bool}{n:Nat}(VU:ρ.Bo=B)(V8:ρ.Wg=W.heap.size)(hrun:g.status=.running)(hstep:∀ w,w.heap.size=ρ.Wg->stepG P true g w=.go g' { w with heap:=w.heap.push (wgBlock ρ.ty 0 0) } #[])(hcg:ρ.come≠ρ.gone)(hco:∃ k,W.heap[ρ.come]?=some (.chan 0 #[] false k k false))(hgo:∃ k,W.heap[ρ.gone]?=some (.chan 0 #[] false k k false))(YO:∀ b,M.Sh b->b≠ρ.Wg/\ρ.Bo b=false)(hlow:Fin.b0<=ρ.come/\Fin.b0<=ρ.gone)(hJ:∀ W',(∀ b,b < W.heap.size->W'.heap[b]?=W.heap[b]?)->W'.heap.size=W.heap.size+1->JW (S0 P Fin Ea).base (.Ev M ρ [] 0 false n) g' W') :
    JW (S0 (X:=X) (Sg:=Sg) P Fin Ea).base (.Gp B n) g W:=by
  intro w hw gs T sl q hg hn C Aee;subst VU;have hsz:=Ho hw;have hC':Nh P (Y9 (EX ρ ([]:List (EK X)))) q T gs w:=Nh.qM (B':=fun b=>ρ.Bo b || b == ρ.Wg) C (b:=ρ.Wg) zOM (fun x h=>by simp [h]) (fun x h=>by simpa using h);obtain ⟨N,gs',a',w',sl',T',q',p1,p2,p3,p4,p5⟩:=XI (sl:=sl) (D:=fun w w' es=>w.heap.size<=w'.heap.size/\es=#[]) (Stop:=fun a x=>a=g'/\x.heap=w.heap.push (wgBlock ρ.ty 0 0)/\x.os=w.os/\x.output=w.output) (fun w w' es ⟨h1,h2⟩=>⟨h1,by rw [h2];simp⟩)
    (.one hrun fun w₁ ⟨d,h₁⟩=>by subst h₁;exact ⟨g',_,#[],hstep _ (by show w.heap.size=_;omega),⟨by simp,rfl⟩,.stop fun w₂ ⟨d',h₂⟩=>by subst h₂;exact ⟨rfl,rfl,rfl,rfl⟩⟩) hg hC'
  obtain ⟨rfl,hh,hos,hou⟩:=p4 w' ⟨w'.drawn,rfl⟩;have hget:∀ b,b < w.heap.size->w'.heap[b]?=w.heap[b]?:=fun b hb=>by rw [hh,Array.getElem?_push];simp [Nat.ne_of_lt hb]
  have hwg:WgAt ρ.ty ρ.Wg w' 0 0:=by
    unfold WgAt;rw [hh,V8,hsz]
    simp
  have hlt:∀ {b:Nat} {o:Obj},w.heap[b]?=some o->b < w.heap.size:=fun h=>(zGE h).1;have hcw:∀ c:Nat,(∃ k,W.heap[c]?=some (Obj.chan 0 #[] false k k false))->∃ k,w'.heap[c]?=some (Obj.chan 0 #[] false k k false):=fun c ⟨k,h⟩=>by have:=RL hw h;exact ⟨k,by rw [hget _ (hlt this)];exact this⟩
  have hold:∀ b:Nat,ρ.Bo b=true->b≠ρ.Wg/\∃ c e f,w'.heap[b]?=some (Obj.cells c e f):=fun b hb=>by obtain ⟨c,e,f,hc⟩:=hw.2 b hb;have:=hlt hc;exact ⟨by omega,c,e,f,by rw [hget _ this];exact hc⟩
  have H:=Nh.begin (ty:=ρ.ty) (K:=Kc ρ ([]:List (EK X))) (fun _=>0) (fun c=>c=ρ.gone) p5 hwg;rw [← gQ (X:=X),← dH (X:=X),← WL (X:=X),← Rx] at H;have hs':GQ (EX ρ ([]:List (EK X))) w' (D7 (EX ρ ([]:List (EK X))) w'):=⟨.refl _,⟨fun b hb=>?_,fun b hb=>?_⟩⟩
  . refine Ea _ _ _ _ _ p1 ⟨hos,hou,by show w.heap.size<=w'.heap.size;rw [hh];simp,fun b o _ ho _=>by rw [show (crowd gs' w' sl').world=w' from rfl,hget b (hlt ho)];exact ho⟩ (hJ _ (fun b hb=>?_) (by simp [hh,hsz]) w' hs' gs' T' sl' _ _ _ p3 (p2.trans hn) ⟨?_,?_,?_,fun i st n c e=>(by cases e),?_,?_,?_,?_,⟨hcg,hcw _ hco⟩,fun _=>hcw _ hgo,YO,hold,rfl⟩ H ⟨?_,rfl,?_⟩ (H.JG.past.hears 0 (.inl rfl)) ⟨by omega,hlow.1,hlow.2,fun i v hv=>(by cases hv)⟩)
    . rw [FJ hw,Ez,Ez,hget b zOM];have hb1:(b == ρ.Wg)=false:=by simp;omega
      have hb2:ownB ([]:List (EK X)) b=false:=JK fun i v hv=>(by cases hv)
      show Option.map (fun o=>if ((ρ.Bo b || b == ρ.Wg)=true) then KZ o else dep (ownB ([]:List (EK X)) b) o) _=_;rw [hb1,hb2,Bool.or_false];rfl
    all_goals (intro i;intros;simp_all)
  . simp only [EX,Bool.or_eq_true,beq_iff_eq] at hb;rcases hb with hb|hb
    . exact (hold b hb).2
    . rw [hb];exact G6 hwg
  . obtain ⟨j,u,hu,_⟩:=IQ.1 hb;cases hu
theorem Lx.mem (C:Lx M ρ P ws 0 role bd w):∀ g l,M7 ws g l->l.isMemory=true/\¬ GV ρ l:=by
  rintro x l ⟨j,u,hu,GY,ho,hs⟩;have key:∀ b,u.own b->∀ o,¬ GV ρ (.cell ⟨b,o,none⟩):=fun b hb o=>by
    rintro ⟨a,ha,h⟩;cases ha
    obtain ⟨_,h1,h2,_⟩:=C.own j u hu b hb;rcases h with h|h
    . exact h1 h
    . rw [h2] at h;cases h
  have hi:=C.inside j u hu;rcases hs with rfl|rfl|rfl
  . exact ⟨rfl,key _ hi.1 _⟩
  . exact ⟨rfl,key _ hi.1 _⟩
  . exact ⟨rfl,key _ hi.2 _⟩
theorem S0.Rk (hw:GQ (EX ρ ws) w W){w₁:World}(h:F8 ρ.ty ρ.Wg w w₁):GQ (EX ρ ws) w₁ W:=by obtain ⟨⟨τ,d,rfl⟩,hR⟩:=hw;have ht:=h.turns (B:=EX ρ ws) KJ;exact ⟨⟨τ,d,by rw [ht.same];rfl⟩,ht.rows hR⟩
theorem Lx.turns {ER:Nat->EC}{w₁:World}(C:Lx M ρ P ws 0 role bd w)(hS:Same role ER)(h:F8 ρ.ty ρ.Wg w w₁)(V8:∃ c e f,w.heap[ρ.Wg]?=some (.cells c e f)):Lx M ρ P ws 0 ER bd w₁:=
  C.walk (B:=fun _=>true) hS (fun _ _ _ _ _=>rfl) (fun _ _=>rfl) (.Xg h) V8
theorem J0.Zd (hrun:g.status=.running)(hstep:∀ w,stepG P true g w=.go g' w #[mk .disable])(hJ:JW (S0 P Fin Ea).base (.Ev M ρ ws ex true n) g' W):JW (S0 P Fin Ea).base (.Ev M ρ ws ex false n) g W:=by
  intro w hw gs T sl role bd live hg hn C H hL hdf Jw;obtain ⟨N,gs₁,w₁,d,sl₁,sl₂,T₁,Ew,ET,p1,p2,p3,p4,p5,p6,p7,p8,p9,nA⟩:=picked (h:=0) (sl:=sl) C.env hrun _ _ rfl rfl hg H;have hst:=hstep (w₁.at d);have hrt:=runT_crowd_go (P:=P) (sl:=sl₂) (i:=0) p4 hst;have H1:Held P ρ.ty ρ.Wg (Kc ρ ws) (M7 ws) bd (GV ρ) (fun c=>c=ρ.gone) (gH (LY ws 0) 0 true) (Hw ws 0) 0 Ew ET ex T₁ gs₁ (w₁.at d):=by obtain ⟨C,hs,_⟩:=id p5;exact ⟨⟨fun i g s m d hi hg e=>let ⟨a1,a2,a3,a4,a5⟩:=C.Gz i g s m d hi hg e;⟨a1,a2,a3,fun z=>a4 z.1,a5⟩,C.seats,fun i st n e=>let ⟨a1,a2,a3,a4⟩:=C.seat i st n e;⟨a1,a2,⟨a3,fun z=>by subst z;exact hs st n e⟩,a4⟩,C.own,C.above,C.past.fewer fun g hg=>hg.1,C.keep,C.wg,C.few,C.one⟩,hs,p5.tight⟩
  obtain ⟨H',ha'⟩:=H1.mark C.env (fn:=g.frame.fn) (pos:=g.frame.place) (a':=g') (fun z=>z.2 rfl) p4 (m:=.disable) (.inl rfl);have QU:Deaf (T₁ ++ MemOp.ofEvents 0 g.frame.fn g.frame.place #[mk .disable]) 0=true.toNat:=by rw [Deaf_own,p9,hdf];rfl
  exact Ea (N+1) _ _ _ _ (runNT_then p1 (by simp only [runNT,p2,hrt];rfl)) (.Xg Jw.wg p6) (hJ (w₁.at d) (S0.Rk hw p6) _ _ _ Ew bd ET ha' (by simp [p3,hn]) (C.turns p7 p6 (G6 H.JG.wg)) H' (hL.keep C p8) QU Jw)
theorem J0.en (hrun:g.status=.running)(hstep:∀ w,stepG P true g w=.go g' w #[mk .enable])(hJ:JW (S0 P Fin Ea).base (.Ev M ρ ws ex false n) g' W):JW (S0 P Fin Ea).base (.Ev M ρ ws ex true n) g W:=by
  intro w hw gs T sl role bd live hg hn C H hL hdf Jw;obtain ⟨N,gs₁,w₁,d,sl₁,sl₂,T₁,Ew,ET,p1,p2,p3,p4,p5,p6,p7,p8,p9,nA⟩:=picked (h:=0) (sl:=sl) C.env hrun _ _ rfl rfl hg H;have hst:=hstep (w₁.at d);have hrt:=runT_crowd_go (P:=P) (sl:=sl₂) (i:=0) p4 hst;obtain ⟨H',ha'⟩:=p5.mark C.env (fn:=g.frame.fn) (pos:=g.frame.place) (a':=g') (fun z=>z.2 rfl) p4 (m:=.enable) (.inr rfl);have QU:Deaf (T₁ ++ MemOp.ofEvents 0 g.frame.fn g.frame.place #[mk .enable]) 0=false.toNat:=by rw [Deaf_own,p9,hdf];rfl
  have H2:Held P ρ.ty ρ.Wg (Kc ρ ws) (M7 ws) bd (GV ρ) (fun c=>c=ρ.gone) (gH (LY ws 0) 0 false) (Hw ws 0) 0 Ew ET ex (T₁ ++ MemOp.ofEvents 0 g.frame.fn g.frame.place #[mk .enable]) ((gs₁.map (woken P g g' (w₁.at d))).setIfInBounds 0 g') (w₁.at d):=by
    obtain ⟨C',hs,_⟩:=id H';have hM:∀ x,LY ws 0 x->gH (LY ws 0) 0 true x\/x=0:=fun x hx=>by
      by_cases e:x=0
      . exact .inr e
      . exact .inl ⟨hx,e⟩
    exact ⟨⟨fun i g s m d hi hg e=>let ⟨a1,a2,a3,a4,a5⟩:=C'.Gz i g s m d hi hg e;⟨a1,a2,a3,fun z=>a4 ⟨z,hi⟩,a5⟩,C'.seats,fun i st n e=>let ⟨a1,a2,a3,a4⟩:=C'.seat i st n e;⟨a1,a2,a3.1,a4⟩,C'.own,C'.above,(C'.past.join QU C.mem).fewer hM,C'.keep,C'.wg,C'.few,C'.one⟩,hs,p5.tight⟩
  exact Ea (N+1) _ _ _ _ (runNT_then p1 (by simp only [runNT,p2,hrt];rfl)) (.Xg Jw.wg p6) (hJ (w₁.at d) (S0.Rk hw p6) _ _ _ Ew bd ET ha' (by simp [p3,hn]) (C.turns p7 p6 (G6 H.JG.wg)) H2 (hL.keep C p8) QU Jw)
theorem J0.add {g':Nat->Goroutine}(hrun:g.status=.running)(hcap:n+ex+1 < 2147483648)(hstep:∀ (w:World) (v:Nat),v+1 < 2147483648->WgAt ρ.ty ρ.Wg w (v * KK) 0->stepG P true g w=.go (g' v) (w.setCell (stA ρ.Wg) (.int .u64 ((v+1:Nat) * KK))) #[rd (stA ρ.Wg),wr (stA ρ.Wg)])(hJ:∀ v,v+1 < 2147483648->JW (S0 P Fin Ea).base (.Ev M ρ ws (ex+1) true n) (g' v) W):JW (S0 P Fin Ea).base (.Ev M ρ ws ex true n) g W:=by
  intro w hw gs T sl role bd live hg hn C H hL hdf Jw;obtain ⟨N,gs₁,w₁,d,sl₁,sl₂,T₁,Ew,ET,p1,p2,p3,p4,p5,p6,p7,p8,p9,nA⟩:=picked (h:=0) (sl:=sl) C.env hrun _ _ rfl rfl hg H;have hsum:sumTo gs₁.size ET<=gs₁.size:=by have:=Go.ConcN.sumTo_le (f:=ET) (c:=1) (j:=gs₁.size) fun i _=>p5.JG.one i;omega
  have hv:sumTo gs₁.size ET+ex+1 < 2147483648:=by omega
  have hst:=hstep _ _ hv p5.JG.wg;have hrt:=runT_crowd_go (P:=P) (sl:=sl₂) (i:=0) p4 hst;obtain ⟨H',ha'⟩:=p5.count (fn:=g.frame.fn) (pos:=g.frame.place) (a':=g' (sumTo gs₁.size ET+ex)) C.env (fun z=>z.2 rfl) p4 hv;have QU:Deaf (T₁ ++ MemOp.ofEvents 0 g.frame.fn g.frame.place #[rd (stA ρ.Wg),wr (stA ρ.Wg)]) 0=true.toNat:=by rw [Deaf_own,p9,hdf];rfl
  have hr2:F8 ρ.ty ρ.Wg w ((w₁.at d).setCell (stA ρ.Wg) (.int .u64 ((sumTo gs₁.size ET+ex+1:Nat) * KK))):=p6.trans (F8.TD (.inr ⟨_,rfl⟩) ⟨_,_,H'.JG.wg⟩ ⟨_,_,p5.JG.wg⟩);exact Ea (N+1) _ _ _ _ (runNT_then p1 (by simp only [runNT,p2,hrt];rfl)) (.Xg Jw.wg hr2) (hJ _ hv _ (S0.Rk hw hr2) _ _ _ Ew bd ET ha' (by simp [p3,hn]) (C.turns p7 hr2 (G6 H.JG.wg)) H' (hL.keep C p8) QU Jw)
end
end
section
section
variable {X Sg:Type}
variable {P:Program}{Fin:FE}{Ea:E5 P Fin}
variable {M:Md X Sg}{ρ:Rn}{ws:List (EK X)}{role:Nat->EC}{bd:Nat->Nat}{w W:World}{ex n:Nat}{df:Bool}{g g':Goroutine}
def G0.live:G0 X Sg->World->Prop
  | .Gp _ _=>fun _=>True
  | .Ev _ ρ _ _ _ _=>WgLive ρ.ty ρ.Wg
theorem J0.idle (hrun:g.status=.running)(hstep:∀ w,WgLive ρ.ty ρ.Wg w->stepG P true g w=.go g' w #[])(hJ:JW (S0 P Fin Ea).base (.Ev M ρ ws ex df n) g' W):JW (S0 P Fin Ea).base (.Ev M ρ ws ex df n) g W:=by
  intro w hw gs T sl role bd live hg hn C H hL hdf Jw;obtain ⟨N,gs₁,w₁,d,sl₁,sl₂,T₁,Ew,ET,p1,p2,p3,p4,p5,p6,p7,p8,p9,nA⟩:=picked (h:=0) (sl:=sl) C.env hrun _ _ rfl rfl hg H;have hst:=hstep (w₁.at d) ⟨_,_,p5.JG.wg⟩;have hrt:=runT_crowd_go (P:=P) (sl:=sl₂) (i:=0) p4 hst;have hd:oV (Kc ρ ws) (M7 ws) (GV ρ) (fun _=>True) ρ.Wg 0 (w₁.at d) (w₁.at d) #[]:=⟨fun _ _ h=>h,fun _ _ _ h=>h,rfl,Nat.le_refl _,by simp⟩
  obtain ⟨H',ha'⟩:=p5.own (fn:=g.frame.fn) (pos:=g.frame.place) (a':=g') (fun _ _ _ _ _ _=>trivial) p4 hd;have QU:=((Ka (h:=0) (fn:=g.frame.fn) (pos:=g.frame.place) hd.evs).2.2.2 T₁).trans (p9.trans hdf);exact Ea (N+1) _ _ _ _ (runNT_then p1 (by simp only [runNT,p2,hrt];rfl)) (.Xg Jw.wg p6) (hJ (w₁.at d) (S0.Rk hw p6) _ _ _ Ew bd ET ha' (by simp [p3,hn]) (C.turns p7 p6 (G6 H.JG.wg)) H' (hL.keep C p8) QU Jw)
def eO (P:Program)(Fin:FE)(Ea:E5 P Fin):Ou P true (G0 X Sg) where
  B:=G0.B
  J:=J0 P Fin
  live:=G0.live
  idle:=fun γ g g' W hs h hJ=>by
    cases γ with
    | Gp B=>exact JW.silent (S:=(S0 (X:=X) (Sg:=Sg) P Fin Ea).base) hs (fun w=>h w trivial) hJ
    | Ev M ρ ws ex df n=>exact J0.idle (Ea:=Ea) hs h hJ
structure Says (Wg:Nat)(m:Mark):Prop where
  Zd:m≠.disable
  en:m≠.enable
  low:∀ n,Wg < n->(MemAct.ofEvent (mk m)).low n
  touch:∀ b,(MemAct.ofEvent (mk m)).touch?=some b->(∃ a:Addr,b.loc=.cell a/\a.block=Wg)/\b.kind≠.plain
theorem X6 (Wg o:Nat):Says Wg (.read ⟨Wg,o,none⟩):=⟨by simp,by simp,fun n h=>h,fun b hb=>by simp only [mk,MemAct.ofEvent,MemAct.touch?,Option.some.injEq] at hb;subst hb;exact ⟨⟨_,rfl,rfl⟩,by simp⟩⟩
theorem VD (Wg o:Nat):Says Wg (.write ⟨Wg,o,none⟩):=⟨by simp,by simp,fun n h=>h,fun b hb=>by simp only [mk,MemAct.ofEvent,MemAct.touch?,Option.some.injEq] at hb;subst hb;exact ⟨⟨_,rfl,rfl⟩,by simp⟩⟩
theorem Lx.xH (C:Lx M ρ P ws 0 role bd w){x:Nat}{l:Loc}(h:M7 ws x l){a:Addr}(e:l=.cell a):a.block≠ρ.Wg:=by obtain ⟨_,h2⟩:=C.mem x l h;intro hb;exact h2 ⟨a,e,.inl hb⟩
theorem J0.said {m:Mark}(hm:Says ρ.Wg m)(hrun:g.status=.running)(hstep:∀ w,WgLive ρ.ty ρ.Wg w->stepG P true g w=.go g' w #[mk m])(hJ:JW (S0 P Fin Ea).base (.Ev M ρ ws ex df n) g' W):JW (S0 P Fin Ea).base (.Ev M ρ ws ex df n) g W:=by
  intro w hw gs T sl role bd live hg hn C H hL hdf Jw;obtain ⟨N,gs₁,w₁,d,sl₁,sl₂,T₁,Ew,ET,p1,p2,p3,p4,p5,p6,p7,p8,p9,nA⟩:=picked (h:=0) (sl:=sl) C.env hrun _ _ rfl rfl hg H;have hst:=hstep (w₁.at d) ⟨_,_,p5.JG.wg⟩;have hrt:=runT_crowd_go (P:=P) (sl:=sl₂) (i:=0) p4 hst;have hlow:=p5.JG.jM;have hd:oV (Kc ρ ws) (M7 ws) (GV ρ) (fun _=>True) ρ.Wg 0 (w₁.at d) (w₁.at d) #[mk m]:=⟨fun _ _ h=>h,fun _ _ _ h=>h,rfl,Nat.le_refl _,fun e he=>by
    simp only [List.mem_toArray,List.mem_cons,List.not_mem_nil,or_false] at he;subst he;refine ⟨fun b hb=>?_,fun h=>?_,fun h=>?_,hm.low _ hlow⟩
    . obtain ⟨⟨a,h1,h2⟩,h3⟩:=hm.touch b hb;exact ⟨fun x _ hS=>absurd h2 (C.xH hS h1),fun _=>h3⟩
    . simp only [mk,Loc.mark.injEq] at h;exact hm.Zd h
    . simp only [mk,Loc.mark.injEq] at h;exact hm.en h⟩
  obtain ⟨H',ha'⟩:=p5.own (fn:=g.frame.fn) (pos:=g.frame.place) (a':=g') (fun _ _ _ _ _ _=>trivial) p4 hd;have QU:=((Ka (h:=0) (fn:=g.frame.fn) (pos:=g.frame.place) hd.evs).2.2.2 T₁).trans (p9.trans hdf);exact Ea (N+1) _ _ _ _ (runNT_then p1 (by simp only [runNT,p2,hrt];rfl)) (.Xg Jw.wg p6) (hJ (w₁.at d) (S0.Rk hw p6) _ _ _ Ew bd ET ha' (by simp [p3,hn]) (C.turns p7 p6 (G6 H.JG.wg)) H' (hL.keep C p8) QU Jw)
end
end
end Go.LK
namespace Go.LK
open Go Go.Conc Go.LT Go.LC Go.Conc.Lib Go.ConcR.Gen Go.RowKit
open Go.ConcN (WgLive sumTo upd sumTo_upd upd_ne upd_same)
open Go.ConcR (KK wgBlock WgAt stA smA rd wr mk)
section
section
variable {X Sg:Type}
variable {P:Program}{L:WgLink}{Fin:FE}{Ea:E5 P Fin}
variable {M:Md X Sg}{ρ:Rn}{ws:List (EK X)}{W:World}{ex n:Nat}{b₀:Frame}{a₀:Act}{ops₀:Array Oper}{i₀:Nat}{rest₀:List Nat}{k₀:List Item}{cs:List Frame}
theorem bub {S:Ou P true (G0 X Sg)}(H:WgLib P L){γ:G0 X Sg}{b:Frame}{a:Act}{k:List Item}{ops:Array Oper}{i:Nat}{rest:List Nat}{o:Oper}{aSx:Array Operand}{ats:Array TypeId}(ho:ops[i]?=some o)(hw:Region.wanted o (yielded ops a.tmps)=true)(hk:b.kind≠.early)(hop:o.op=.call { callee:=.value (.func L.inBubble),args:=aSx,argTypes:=ats })(h:JL S γ (G (b.at (a.put o.dst (.bool false)) (.inRegion ops rest :: k)) cs) W):JL S γ (G (b.at a (.inRegion ops (i :: rest) :: k)) cs) W:=
  JL.pure (.bool false) ho hw hk hop H.f_inBubble (x_inBubble_n L) (x_inBubble_b L) (x_inBubble_x L) (x_inBubble_f L) h
theorem add1 (H:WgLib P L)(hty:ρ.ty=L.tWg)(hcap:n+ex+1 < 2147483648)(hT:JL (eO (X:=X) (Sg:=Sg) P Fin Ea) (.Ev M ρ ws (ex+1) false n) (G (b₀.at (a₀.put ((ops₀[i₀]?).bind (·.dst)) (.tuple #[])) (.inRegion ops₀ rest₀ :: k₀)) cs) W) :
    JL (eO (X:=X) (Sg:=Sg) P Fin Ea) (.Ev M ρ ws ex false n) (G ((base L.add).at ⟨#[.pointer (some ⟨ρ.Wg,0,none⟩),.int .i64 1] ++ Array.replicate 115 undef,[]⟩ [.code (body_add L)]) (b₀.at a₀ (.inRegion ops₀ (i₀ :: rest₀) :: k₀) :: cs)) W:=by
  lib_facts
  simp only [body_add,addFn,Option.getD_some];walk_nrm;refine Ei ?_;refine JL.Fz rfl ?_;refine Ei ?_;refine Ei ?_;refine EH fun _ hkk=>?_;iterate 2 (refine Eo ?_;walk_nrm)
  refine EB ?_;cases hkk;refine JL.Ey rfl ?_;refine Er stepG_skip ?_;refine Ei ?_;refine EH fun _ hkk=>?_;refine J0.Zd (Ea:=Ea) rfl (fun w=>stepG_mark0 .disable (by simp) rfl rfl (by k_ne) rfl H.f_disable (x_disable_n L) (x_disable_b L) (x_disable_x L) (x_disable_f L)) ?_;show JL (eO (X:=X) (Sg:=Sg) P Fin Ea) _ _ _;walk_nrm;refine EB ?_;cases hkk;refine EH fun _ hkk=>?_;refine Er (stepG_defer rfl rfl (by first|exact Zh|exact bJ|decide|assumption) rfl) ?_;walk_nrm;refine EB ?_;cases hkk;refine Ei ?_;refine EH fun _ hkk=>?_
  (refine Eo ?_;walk_nrm)
  refine EB ?_;cases hkk;refine Ei ?_;refine Ei ?_;refine EH fun _ hkk=>?_;refine bub H rfl rfl (by k_ne) rfl ?_;walk_nrm;refine EB ?_;cases hkk;refine JL.Ey rfl ?_;refine Er stepG_skip ?_;refine Ei ?_;refine EH fun _ hkk=>?_;iterate 6 (refine Eo ?_;walk_nrm)
  refine JL.call rfl rfl (by first|exact Zh|exact bJ|decide|assumption) rfl H.f_uAdd (nm_uAdd L) rfl ?_;walk_nrm;simp only [uAddFn];walk_nrm;refine Ei ?_;refine EH fun _ hkk=>?_
  (refine Eo ?_;walk_nrm)
  refine EB ?_;cases hkk;refine Ei ?_;refine EH fun _ hkk=>?_;iterate 4 (refine Eo ?_;walk_nrm)
  apply J0.add (Ea:=Ea) rfl hcap
  . intro w v hv hw;have e0:IntKind.u64.wrap ((v:Int) * KK+4294967296)=((v+1:Nat):Int) * KK:=by rw [IntKind.wrap_u64];simp only [KK];omega
    refine (stepG_add_atomic rfl rfl (by k_ne) rfl H.f_addU64 (x_addU64_n L) (x_addU64_b L) (x_addU64_x L) .u64 (x_addU64_f L) rfl rfl (show w.cell? (stA ρ.Wg)=_ from hw.cellSt) (hw.thaw 0)).trans ?_;rw [e0];rfl
  intro v hv;show JL (eO (X:=X) (Sg:=Sg) P Fin Ea) _ _ _;have hmk:∀ g':Goroutine,JL (eO (X:=X) (Sg:=Sg) P Fin Ea) (.Ev M ρ ws (ex+1) false n) g' W->∀ g:Goroutine,g.status=.running->(∀ w,stepG P true g w=.go g' w #[mk .enable])->JL (eO (X:=X) (Sg:=Sg) P Fin Ea) (.Ev M ρ ws (ex+1) true n) g W:=fun g' hJ g hg h=>J0.en (Ea:=Ea) hg h hJ;clear hcap;rcases Nat.eq_zero_or_pos v with rfl|hvp
  . have z:(((0+1:Nat):Int)) * KK=4294967296:=by simp [KK]
    simp only [z];walk_nrm
    (refine Eo ?_;walk_nrm)
    refine EB ?_;cases hkk;refine Er stepG_ret' ?_;refine JL.leave1 rfl rfl H.f_uAdd rfl ?_;walk_nrm
    (refine Eo ?_;walk_nrm)
    refine EB ?_;cases hkk;refine Ei ?_;refine Ei ?_;refine EH fun _ hkk=>?_;iterate 4 (refine Eo ?_;walk_nrm)
    refine Er (stepG_unwanted rfl rfl) ?_;walk_nrm;refine Er (stepG_unwanted rfl rfl) ?_;walk_nrm
    (refine Eo ?_;walk_nrm)
    refine EB ?_;cases hkk;refine JL.Ey rfl ?_;refine Er stepG_skip ?_;refine Ei ?_;refine EH fun _ hkk=>?_;iterate 4 (refine Eo ?_;walk_nrm)
    refine EB ?_;cases hkk;refine Ei ?_;refine EH fun _ hkk=>?_;iterate 4 (refine Eo ?_;walk_nrm)
    refine EB ?_;cases hkk;refine Ei ?_;refine Ei ?_;refine EH fun _ hkk=>?_;iterate 10 (refine Eo ?_;walk_nrm)
    refine EB ?_;cases hkk;refine JL.Fz rfl ?_;refine EH fun _ hkk=>?_;iterate 3 (refine Eo ?_;walk_nrm)
    refine JL.value (.pointer (some ⟨ρ.Wg,1,none⟩)) rfl rfl (by k_ne) (fun w hl=>by
      have hcv:=run_convert_to_unsafe (P:=P) H.underlying_tPU32 H.underlying_tUP H.room_tU32 (ConcN.Gen.WgLive.cell1 (show WgLive ρ.ty ρ.Wg w from hl)).choose_spec;go_simp) (fun w hl e he=>by
      have hce:=fun es=>events_convert_to_unsafe (P:=P) H.underlying_tPU32 H.underlying_tUP H.room_tU32 (ConcN.Gen.WgLive.cell1 (show WgLive ρ.ty ρ.Wg w from hl)).choose_spec es;simp [go_sem,hce] at he) ?_
    walk_nrm;refine J0.said (Ea:=Ea) (X6 ρ.Wg 1) rfl (fun w _=>stepG_markAt .read (by simp) rfl rfl (by k_ne) rfl H.f_raceRead (x_raceRead_n L) (x_raceRead_b L) (x_raceRead_x L) (x_raceRead_f L) (ad:=⟨ρ.Wg,1,none⟩) (by simp [Act.eval])) ?_;show JL (eO (X:=X) (Sg:=Sg) P Fin Ea) _ _ _;walk_nrm;refine EB ?_;cases hkk;refine Ei ?_;refine Ei ?_;refine EH fun _ hkk=>?_;iterate 2 (refine Eo ?_;walk_nrm)
    refine EB ?_;cases hkk;refine JL.Ey rfl ?_;refine Er stepG_skip ?_;refine Ei ?_;refine Ei ?_;refine EH fun _ hkk=>?_;iterate 3 (refine Eo ?_;walk_nrm)
    refine Er (stepG_unwanted rfl rfl) ?_;walk_nrm;refine Er (stepG_unwanted rfl rfl) ?_;walk_nrm;iterate 2 (refine Eo ?_;walk_nrm)
    refine Er (stepG_unwanted rfl rfl) ?_;walk_nrm;refine Er (stepG_unwanted rfl rfl) ?_;walk_nrm;refine Er (stepG_unwanted rfl rfl) ?_;walk_nrm;refine Er (stepG_unwanted rfl rfl) ?_;walk_nrm
    (refine Eo ?_;walk_nrm)
    refine EB ?_;cases hkk;refine JL.Ey rfl ?_;refine Er stepG_skip ?_;refine Ei ?_;refine Ei ?_;refine EH fun _ hkk=>?_;iterate 3 (refine Eo ?_;walk_nrm)
    refine Er (stepG_unwanted rfl rfl) ?_;walk_nrm;refine Er (stepG_unwanted rfl rfl) ?_;walk_nrm
    (refine Eo ?_;walk_nrm)
    refine EB ?_;cases hkk;refine JL.Fz rfl ?_;refine Er stepG_ret' ?_;refine hmk _ ?_ _ rfl fun w=>stepG_unwind_entry (v:=.tuple #[]) (evs:=#[mk .enable]) rfl H.f_enable (x_enable_n L) (x_enable_b L) (x_enable_x L) (x_enable_f L) (by simp [Extern.Race.none_]) (by simp [mk]) (by simp [mk]);refine JL.leave0 rfl rfl H.f_add rfl ?_;exact hT
  . obtain ⟨V,hV⟩:∃ V:Int,V=(v:Int)+1:=⟨_,rfl⟩
    obtain ⟨S,hS⟩:∃ S:Int,S=V * KK:=⟨_,rfl⟩
    have z:(((v+1:Nat):Int)) * KK=S:=by rw [hS,hV];simp
    simp only [z];have a1:S / 4294967296=V:=by rw [hS];simp only [KK];omega
    have b1:bits .and .u64 S 2147483648=0:=by rw [hS,hV];have:=ConcN.st_flag (v+1) 0 zOM zOM;simpa [KK] using this
    have b2:bits .and .u64 S 2147483647=0:=by rw [hS,hV];have:=ConcN.st_waiters (v+1) 0 zOM zOM;simpa [KK] using this
    have c1:IntKind.i32.wrap V=V:=by rw [IntKind.wrap_i32];omega
    have hV1:1 < V:=by omega
    have hV2:V < 2147483648:=by omega
    have q1:(V == 1)=false:=by simp;omega
    have q2:decide (V=1)=false:=decide_eq_false zOM;have q3:decide (V < 0)=false:=decide_eq_false zOM;have q4:decide (0 < V)=true:=decide_eq_true zOM;have q5:(V == 0)=false:=by simp;omega
    have q6:decide (V=0)=false:=decide_eq_false zOM;clear hS hV z;walk_nrm
    (refine Eo ?_;walk_nrm)
    refine EB ?_;cases hkk;refine Er stepG_ret' ?_;refine JL.leave1 rfl rfl H.f_uAdd rfl ?_;walk_nrm
    (refine Eo ?_;walk_nrm)
    refine EB ?_;cases hkk;refine Ei ?_;refine Ei ?_;refine EH fun _ hkk=>?_;iterate 4 (refine Eo ?_;walk_nrm)
    refine Er (stepG_unwanted rfl rfl) ?_;walk_nrm;refine Er (stepG_unwanted rfl rfl) ?_;walk_nrm
    (refine Eo ?_;walk_nrm)
    refine EB ?_;cases hkk;refine JL.Ey rfl ?_;refine Er stepG_skip ?_;refine Ei ?_;refine EH fun _ hkk=>?_;iterate 4 (refine Eo ?_;walk_nrm)
    refine EB ?_;cases hkk;refine Ei ?_;refine EH fun _ hkk=>?_;iterate 4 (refine Eo ?_;walk_nrm)
    refine EB ?_;cases hkk;refine Ei ?_;refine Ei ?_;refine EH fun _ hkk=>?_;iterate 10 (refine Eo ?_;walk_nrm)
    refine EB ?_;cases hkk;refine JL.Ey rfl ?_;refine Er stepG_skip ?_;refine Ei ?_;refine Ei ?_;refine EH fun _ hkk=>?_;iterate 2 (refine Eo ?_;walk_nrm)
    refine EB ?_;cases hkk;refine JL.Ey rfl ?_;refine Er stepG_skip ?_;refine Ei ?_;refine Ei ?_;refine EH fun _ hkk=>?_;iterate 3 (refine Eo ?_;walk_nrm)
    refine Er (stepG_unwanted rfl rfl) ?_;walk_nrm;refine Er (stepG_unwanted rfl rfl) ?_;walk_nrm;iterate 2 (refine Eo ?_;walk_nrm)
    refine Er (stepG_unwanted rfl rfl) ?_;walk_nrm;refine Er (stepG_unwanted rfl rfl) ?_;walk_nrm;refine Er (stepG_unwanted rfl rfl) ?_;walk_nrm;refine Er (stepG_unwanted rfl rfl) ?_;walk_nrm
    (refine Eo ?_;walk_nrm)
    refine EB ?_;cases hkk;refine JL.Ey rfl ?_;refine Er stepG_skip ?_;refine Ei ?_;refine Ei ?_;refine EH fun _ hkk=>?_;iterate 3 (refine Eo ?_;walk_nrm)
    refine Er (stepG_unwanted rfl rfl) ?_;walk_nrm;refine Er (stepG_unwanted rfl rfl) ?_;walk_nrm
    (refine Eo ?_;walk_nrm)
    refine EB ?_;cases hkk;refine JL.Fz rfl ?_;refine Er stepG_ret' ?_;refine hmk _ ?_ _ rfl fun w=>stepG_unwind_entry (v:=.tuple #[]) (evs:=#[mk .enable]) rfl H.f_enable (x_enable_n L) (x_enable_b L) (x_enable_x L) (x_enable_f L) (by simp [Extern.Race.none_]) (by simp [mk]) (by simp [mk]);refine JL.leave0 rfl rfl H.f_add rfl ?_;exact hT
end
end
end Go.LK
namespace Go.LC
open Go Go.Conc
section
section
variable {P:Program}{gs:Array Goroutine}{w w₁:World}{sl:Option (Nat × Nat)}{i:Nat}{g g₂:Goroutine}{cases:Array CommCase}{blocking:Bool}{shape:CommShape}{es:Array Event}{k c cap s r:Nat}{z:Value}{tm:Bool}
theorem VI (hi:gs[i]?=some g)(h:stepG P (i == 0) g w=.comm g₂ cases blocking shape w₁ es)(hk:cases[k]?=some (rcase c z))(ho:∀ (m:Nat) (c':CommCase),m≠k->cases[m]?=some c'->NoWays w₁ (gs.setIfInBounds i ph) c')(hc:w₁.heap[c]?=some (.chan cap #[] true s r tm))(hp:partners (gs.setIfInBounds i ph) c true=[]) :
    runT P (crowd gs w sl) i=(.next (crowd (gs.setIfInBounds i (g₂.finishComm P cases shape k z false)) w₁ sl),
      MemOp.ofEvents i g.frame.fn g.frame.place es ++ #[{ g:=i,fn:=g₂.frame.fn,pos:=g₂.frame.place,act:=.recvClosed c }]):=by
  have hw:ways w₁ (gs.setIfInBounds i ph) (rcase c z)=[.closed]:=by simp [ways,rcase,hc,hp]
  rw [runT_crowd_comm hi h];unfold communicate;simp only [ready_one hk (by rw [hw];simp) ho,hw];rw [if_neg]
  . simp [choose,Sem.run,Question.forced,bind,Sem.bind,pure,rcase,crowd,hc,hk]
  . rw [Bool.not_eq_true];exact any_ill (made_of_one hk (made_recv z hc) ho)
end
end
end Go.LC
namespace Go.LK
open Go Go.Conc Go.LT Go.LC
open Go.ConcN (WgLive sumTo upd sumTo_upd upd_ne upd_same)
open Go.ConcR (KK wgBlock WgAt stA smA rd wr mk DC0)
section
structure pU (P:Program)(ty:TypeId)(Wg gone:Nat)(st:Seat):Prop where
  wf:st.Wf
  at_:∃ (kk:Nat) (z:Value),st.cases[kk]?=some (rcase gone z)/\∀ g₂,st.home g₂->∃ m,∀ w,WgLive ty Wg w->Goes P false (RX ty Wg) DA (KQ P ty Wg) m (g₂.finishComm P st.cases st.shape (kk:Nat) z false) w
inductive Sw (P:Program)(ty:TypeId)(Wg:Nat)(K:World->Prop)(Still:Loc->Prop)(Bd:Nat)(st:Seat):Nat->Nat->Nat->Goroutine->World->Prop
  | seat {m:Nat} {g:Goroutine} {w w₀:World}:K w->Goes P false (RK K) (DS Still Bd) (fun g _=>∃ g₂,AtIn P false K Still Bd st g g₂) m g w₀->Sw P ty Wg K Still Bd st 9 m 0 g w
  | leave {m:Nat} {g:Goroutine} {w:World}:Goes P false (RX ty Wg) DA (KQ P ty Wg) m g w->Sw P ty Wg K Still Bd st 8 m 0 g w
  | fin {s m d:Nat} {g:Goroutine} {w:World}:s<=7->Fs P ty Wg s m d g w->Sw P ty Wg K Still Bd st s m d g w
def Zb (Wg:Nat)(w w':World):Prop:=Jf Wg w w'\/∃ o,Pv o/\w'={ w with heap:=w.heap.push o }
theorem Zb.size {Wg:Nat}{w w':World}(h:Zb Wg w w'):w.heap.size<=w'.heap.size:=by
  rcases h with h|⟨o,_,rfl⟩
  . exact Nat.le_of_eq h.size.symm
  . simp
theorem Zb.block {Wg:Nat}{w w':World}(h:Zb Wg w w'){b:Nat}(hb:b≠Wg)(hlt:b < w.heap.size):w'.heap[b]?=w.heap[b]?:=by
  rcases h with h|⟨o,_,rfl⟩
  . rcases h with rfl | ⟨x,rfl⟩ | ⟨x,rfl⟩ <;> simp [World.setCell,stA,smA,Array.getElem?_modify,Ne.symm hb]
  . show (w.heap.push o)[b]?=_;rw [Array.getElem?_push,if_neg zOM]
structure QY (Wg:Nat)(K:Nat->World->Prop)(Still:Nat->Loc->Prop)(Shun:Loc->Prop):Prop extends Env2 Wg K Still Shun where
  grow:∀ i w w',w.heap.size<=w'.heap.size->(∀ b,b≠Wg->b < w.heap.size->w'.heap[b]?=w.heap[b]?)->K i w->K i w'
inductive IZ (n:Nat)(role:Nat->EC):Bool->Nat->Nat->Nat->Prop
  | b0 {v:Nat} (hs:∀ i,i≠0->i < n->(5<=(role i).stage/\(role i).stage<=9)\/(role i).stage=1) (hc:v=sumTo n fun i=>IX (role i)):IZ n role false v 0 0
  | b1 {v:Nat} (hv:1<=v) (hs:∀ i,i≠0->i < n->(5<=(role i).stage/\(role i).stage<=9)\/(role i).stage=1) (hc:v=sumTo n fun i=>IX (role i)):IZ n role true v 1 0
  | b2 (L:Nat) (hL:L≠0) (hLn:L < n) (hs:(role L).stage=4\/(role L).stage=3) (ho:∀ i,i≠0->i≠L->i < n->(role i).stage=1):IZ n role true 0 1 0
  | b3 (L:Nat) (hL:L≠0) (hLn:L < n) (hs:(role L).stage=2) (ho:∀ i,i≠0->i≠L->i < n->(role i).stage=1):IZ n role true 0 0 0
  | b4 (ho:∀ i,i≠0->i < n->(role i).stage=1):IZ n role true 0 0 1
def sH (Still:Nat->Loc->Prop)(T:Trace)(i:Nat):Prop:=∀ j a,touchAt T j=some a->a.write=true->Still i a.loc->Knows T i j
theorem sH.app {Still:Nat->Loc->Prop}{T u:Trace}{i:Nat}(h:sH Still T i)(hu:∀ op∈u,∀ b,op.act.touch?=some b->b.write=true->¬ Still i b.loc):sH Still (T ++ u) i:=fun j a ha hw hs=>by
  obtain ⟨x,hx,hxa⟩:=touch_of ha;rcases getElem?_append_cases hx with ⟨_,hx'⟩|⟨_,hxu⟩
  . exact (h j a (by rw [touchAt_of hx'];exact hxa) hw hs).app u
  . exact absurd hs (hu x hxu a hxa hw)
theorem FI.xB {Still:Nat->Loc->Prop}{Shun:Loc->Prop}{Loose:Nat->Prop}{B:Nat}{Kn:Nat->Prop}{T:Trace}(H:FI Still Shun (fun _=>False) Loose B Kn T){i:Nat}(hk:sH Still T i)(hd:Deaf T i=0):FI Still Shun (fun x=>x=i) Loose B Kn T:=
  ⟨H.clean,H.known,H.atom,fun j a ha hw g hg hs=>by subst hg;exact hk j a ha hw hs,fun g hg=>by subst hg;exact hd,H.seen⟩
def Rl (Wg:Nat)(T:Trace)(j:Nat):Prop:=∃ r g,j < r/\T.g? j=some g/\T.act? r=some (.mark (.releaseMerge (stA Wg)))/\T.g? r=some g/\T.heard r/\∀ k,r < k->T.act? k≠some (.mark (.release (stA Wg)))
theorem g?_old {T:Trace}(u:Trace){j:Nat}(h:j < T.size):(T ++ u).g? j=T.g? j:=by unfold Trace.g?;rw [getElem?_append_old h]
theorem act?_old {T:Trace}(u:Trace){j:Nat}(h:j < T.size):(T ++ u).act? j=T.act? j:=by unfold Trace.act?;rw [getElem?_append_old h]
theorem lt_of_act? {T:Trace}{j:Nat}{x:MemAct}(h:T.act? j=some x):j < T.size:=by obtain ⟨z,hz,_⟩:=Option.map_eq_some_iff.1 h;exact lt_size_of_getElem? hz
theorem lt_of_g? {T:Trace}{j g:Nat}(h:T.g? j=some g):j < T.size:=by obtain ⟨z,hz,_⟩:=Option.map_eq_some_iff.1 h;exact lt_size_of_getElem? hz
theorem heard_old {T:Trace}(u:Trace){j:Nat}(h:T.heard j):(T ++ u).heard j:=by obtain ⟨g,hg,hd⟩:=h;have hlt:=lt_of_g? hg;exact ⟨g,by rw [g?_old u hlt];exact hg,by rw [deaf_old (Nat.le_of_lt hlt)];exact hd⟩
theorem Rl.app {Wg:Nat}{T u:Trace}{j:Nat}(h:Rl Wg T j)(hu:∀ op∈u,op.act≠.mark (.release (stA Wg))):Rl Wg (T ++ u) j:=by
  obtain ⟨r,g,h1,h2,h3,h4,h5,h6⟩:=h;have hr:=lt_of_act? h3;refine ⟨r,g,h1,by rw [g?_old u zOM];exact h2,by rw [act?_old u hr];exact h3,by rw [g?_old u hr];exact h4,heard_old u h5,fun k hk e=>?_⟩;obtain ⟨z,hz,hza⟩:=Option.map_eq_some_iff.1 e;rcases getElem?_append_cases hz with ⟨hlt,hz'⟩|⟨_,hzu⟩
  . exact h6 k hk (by unfold Trace.act?;rw [hz'];exact congrArg some hza)
  . exact hu z hzu hza
structure Sop (Still:Nat->Loc->Prop)(Wg i s s':Nat)(ops:Trace):Prop where
  norel:∀ op∈ops,op.act≠.mark (.release (stA Wg))
  shy:s'<=6->∀ op∈ops,∀ b,op.act.touch?=some b->∀ x,¬ Still x b.loc
  rel:s'<=6->7<=s->∃ fn pos,ops=#[{ g:=i,fn:=fn,pos:=pos,act:=.mark (.releaseMerge (stA Wg)) }]
structure Lp (P:Program)(ty:TypeId)(Wg gone:Nat)(K:Nat->World->Prop)(Still:Nat->Loc->Prop)(Bd:Nat->Nat)(St:Nat->Seat)(Shun:Loc->Prop)(Loose:Nat->Prop)(d0:Nat)(pz:Bool)(role:Nat->EC)(v wt sm:Nat)(T:Trace)(gs:Array Goroutine)(w:World):Prop where
  Gz:∀ i g s m d,i≠0->gs[i]?=some g->role i=.fin s m d->Sw P ty Wg (K i) (Still i) (Bd i) (St i) s m d g w/\Deaf T i=d
  nine:∀ i,i≠0->i < gs.size->(role i).stage=9->Loose i/\Bd i<=w.heap.size/\sH Still T i/\pU P ty Wg gone (St i)/\∀ c,(St i).has c->c≠gone->c≠Wg/\∃ k,w.heap[c]?=some (.chan 0 #[] false k k false)
  chan:gone≠Wg/\∃ k,w.heap[gone]?=some (.chan 0 #[] true k k false)
  all:∀ i,i≠0->i < gs.size->∃ s m d,role i=.fin s m d
  zero:IX (role 0)=0
  deaf0:Deaf T 0=d0
  above:∀ j,gs.size<=j->Deaf T j=0
  past:FI Still Shun (fun _=>False) Loose w.heap.size (Knows T 0) T
  tight:¬ Loose 0
  wg:WgAt ty Wg w (v * KK+wt) sm
  mode:IZ gs.size role pz v wt sm
  few:v < 2147483648
  rel:∀ j a,touchAt T j=some a->a.loc.isMemory=true->Knows T 0 j\/(∃ g,T.g? j=some g/\g≠0/\g < gs.size/\7<=(role g).stage)\/Rl Wg T j\/(Shun a.loc/\a.kind=.atomic/\¬ T.counts j)
section
variable {P:Program}{ty:TypeId}{Wg gone d0:Nat}{K:Nat->World->Prop}{Still:Nat->Loc->Prop}{Bd:Nat->Nat}{St:Nat->Seat}{Shun:Loc->Prop}{Loose:Nat->Prop}{role:Nat->EC}{pz:Bool}{v wt sm:Nat}{T:Trace}{gs:Array Goroutine}{w:World}
theorem Sw.status {K:World->Prop}{Still:Loc->Prop}{Bd:Nat}{st:Seat}{s m d:Nat}{g:Goroutine}(h:Sw P ty Wg K Still Bd st s m d g w):g.status=.running\/g.status=.finished:=by
  cases h with
  | seat hK hG=>exact .inl (Goes.running (fun _ _ ⟨_,x⟩=>x.1) w hK hG)
  | leave hG=>exact .inl (Goes.running (fun _ _ x=>x.1) w (EY w) hG)
  | fin _ hF=>exact hF.status
theorem Sw.rely {K:World->Prop}{Still:Loc->Prop}{Bd:Nat}{st:Seat}{s m d:Nat}{g:Goroutine}{w':World}(h:Sw P ty Wg K Still Bd st s m d g w)(hK:K w->K w')(hr:RX ty Wg w w'):Sw P ty Wg K Still Bd st s m d g w':=by
  cases h with
  | seat h hG=>exact .seat (hK h) hG
  | leave hG=>exact .leave (Goes.rely JU hG hr)
  | fin hs hF=>exact .fin hs (hF.rely hr)
theorem Zb.keep (E:QY Wg K Still Shun){w':World}(hw:Zb Wg w w')(i:Nat)(h:K i w):K i w':=E.grow i w w' hw.size (fun b hb hlt=>hw.block hb hlt) h
theorem Lp.put (E:QY Wg K Still Shun)(C:Lp P ty Wg gone K Still Bd St Shun Loose d0 pz role v wt sm T gs w){i:Nat}{g':Goroutine}{s' m' d' v' MK sm':Nat}{w':World}{ops:Trace}{gs':Array Goroutine}(hw:Zb Wg w w')(hlt:i < gs.size)(h0:i≠0)(hops:∀ op∈ops,op.g=i)(hst:∀ op∈ops,∀ b,op.act.touch?=some b->b.write=true->∀ x,¬ Still x b.loc)(hsz:gs'.size=gs.size)(hoth:∀ x,x≠i->x≠0->gs'[x]?=gs[x]?)(hself:gs'[i]?=some g')(hF:Sw P ty Wg (K i) (Still i) (Bd i) (St i) s' m' d' g' w')(h9:s'=9->(role i).stage=9)(hd:Deaf (T ++ ops) i=d')(hp:FI Still Shun (fun _=>False) Loose w.heap.size (Knows (T ++ ops) 0) (T ++ ops))(hwg:WgAt ty Wg w' (v' * KK+MK) sm')(hm:IZ gs.size (upd role i (.fin s' m' d')) pz v' MK sm')(hf:v' < 2147483648)(lU:Sop Still Wg i (role i).stage s' ops)(hd0:7<=(role i).stage->s'<=6->Deaf T i=0) :
    Lp P ty Wg gone K Still Bd St Shun Loose d0 pz (upd role i (.fin s' m' d')) v' MK sm' (T ++ ops) gs' w':=by
  have hrx:=Lg ty Wg ⟨_,_,C.wg⟩ ⟨_,_,hwg⟩;have hD:∀ x,x≠i->Deaf (T ++ ops) x=Deaf T x:=fun x hx=>Deaf_other T (fun z=>hx z.symm) _ hops;have lt:∀ {g:Nat} {o},w.heap[g]?=some o->g < w.heap.size:=fun h=>(zGE h).1;refine ⟨fun x y s m d hx hy e=>?_,fun x hx hlx eD=>?_,?_,fun x hx hlx=>?_,?_,by rw [hD 0 (Ne.symm h0)];exact C.deaf0,fun j hj=>?_,hp.mono hw.size,C.tight,hwg,by rw [hsz];exact hm,hf,fun j a ha hmem=>?_⟩
  rotate_right
  . rcases hp.known j a ha hmem with hk | ⟨_,g,hg,hl,hS⟩ | hk
    . exact .inl hk
    . obtain ⟨x,hx,hxa⟩:=touch_of ha;rcases getElem?_append_cases hx with ⟨hlt',hx'⟩|⟨_,hxu⟩
      . rcases C.rel j a (by rw [touchAt_of hx'];exact hxa) hmem with hk | ⟨g',k1,k2,k3,k4⟩ | hk | ⟨hk,_,_⟩
        . exact .inl (hk.app _)
        . by_cases ei:g'=i
          . subst ei;rcases Nat.lt_or_ge s' 7 with h7|h7
            . right;right;left
              obtain ⟨fn,pos,eo⟩:=lU.rel zOM k4;have hlast:(T ++ ops)[T.size]?=some { g:=g',fn:=fn,pos:=pos,act:=.mark (.releaseMerge (stA Wg)) }:=by rw [eo,Array.getElem?_append_right (Nat.le_refl _)];simp
              refine ⟨T.size,g',hlt',by rw [g?_old ops hlt'];exact k1,by unfold Trace.act?;rw [hlast];rfl,by unfold Trace.g?;rw [hlast];rfl,⟨g',by unfold Trace.g?;rw [hlast];rfl,by rw [deaf_old (Nat.le_refl _)];exact hd0 k4 zOM⟩,fun k hk e=>?_⟩;have:=lt_of_act? e;rw [eo] at this;simp at this;omega
            . exact .inr (.inl ⟨g',by rw [g?_old ops hlt'];exact k1,k2,by rw [hsz];exact k3,by rw [upd_same];exact h7⟩)
          . exact .inr (.inl ⟨g',by rw [g?_old ops hlt'];exact k1,k2,by rw [hsz];exact k3,by rw [upd_ne _ _ ei];exact k4⟩)
        . exact .inr (.inr (.inl (hk.app lU.norel)))
        . exact absurd hk (E.apart _ _ hS)
      . rcases Nat.lt_or_ge s' 7 with h7 | h7
        . exact absurd hS (lU.shy zOM x hxu a hxa g)
        . exact .inr (.inl ⟨i,by unfold Trace.g?;rw [hx];exact congrArg some (hops x hxu),h0,by rw [hsz];exact hlt,by rw [upd_same];exact h7⟩)
    . exact .inr (.inr (.inr hk))
  . by_cases ex:x=i
    . subst ex;rw [upd_same] at e;cases e
      rw [hself] at hy;obtain rfl:=Option.some.inj hy;exact ⟨hF,hd⟩
    . rw [upd_ne role _ ex] at e;rw [hoth x ex hx] at hy;obtain ⟨a1,a2⟩:=C.Gz x y s m d hx hy e;rw [hD x ex];exact ⟨a1.rely (hw.keep E x) hrx,a2⟩
  . have hold:(role x).stage=9:=by
      by_cases ex:x=i
      . subst ex;rw [upd_same] at eD;exact h9 eD
      . rw [upd_ne role _ ex] at eD;exact eD
    obtain ⟨a1,a2,a3,a4,a5⟩:=C.nine x hx (by rw [← hsz];exact hlx) hold;refine ⟨a1,Nat.le_trans a2 hw.size,a3.app fun op hop b hb hwr=>hst op hop b hb hwr x,a4,fun c hc hne=>?_⟩;obtain ⟨b1,k,hk⟩:=a5 c hc hne;exact ⟨b1,k,by rw [hw.block b1 (lt hk)];exact hk⟩
  . obtain ⟨h1,k,hk⟩:=C.chan;exact ⟨h1,k,by rw [hw.block h1 (lt hk)];exact hk⟩
  . by_cases ex:x=i
    . subst ex;exact ⟨_,_,_,upd_same _ _ _⟩
    . rw [upd_ne role _ ex];exact C.all x hx (by rw [← hsz];exact hlx)
  . rw [upd_ne role _ (Ne.symm h0)];exact C.zero
  . rw [hD j zOM];exact C.above j zOM
theorem IZ.congr {n:Nat}{r r':Nat->EC}{pz:Bool}{v wt sm:Nat}(h:IZ n r pz v wt sm)(hs:∀ i,i < n->(r' i).stage=(r i).stage/\IX (r' i)=IX (r i)):IZ n r' pz v wt sm:=by
  cases h with
  | b0 h1 hc=>exact .b0 (fun i h0 hi=>by rw [(hs i hi).1];exact h1 i h0 hi) (by rw [hc];exact Go.ConcN.sumTo_congr fun i hi=>((hs i hi).2).symm)
  | b1 hv h1 hc=>exact .b1 hv (fun i h0 hi=>by rw [(hs i hi).1];exact h1 i h0 hi) (by rw [hc];exact Go.ConcN.sumTo_congr fun i hi=>((hs i hi).2).symm)
  | b2 L hL hn h1 ho=>exact .b2 L hL hn (by rw [(hs L hn).1];exact h1) fun i a b c=>by rw [(hs i c).1];exact ho i a b c
  | b3 L hL hn h1 ho=>exact .b3 L hL hn (by rw [(hs L hn).1];exact h1) fun i a b c=>by rw [(hs i c).1];exact ho i a b c
  | b4 ho=>exact .b4 fun i a c=>by rw [(hs i c).1];exact ho i a c
theorem IZ.on {n:Nat}{role:Nat->EC}{pz:Bool}{v wt sm i s s' m m' d d':Nat}(h:IZ n role pz v wt sm)(hi:i < n)(h0:i≠0)(er:role i=.fin s m d)(hs:5<=s)(hs':5<=s'/\s'<=9):IZ n (upd role i (.fin s' m' d')) pz v wt sm:=by
  have e1:IX (role i)=1:=by rw [er];simp [IX,cn,hs]
  have e2:IX (.fin s' m' d')=1:=by simp [IX,cn,hs'.1]
  have hsum:=Nr (role:=role) (r':=.fin s' m' d') hi;have hst:(role i).stage=s:=by rw [er];rfl
  have hst':∀ x,x≠0->x < n->((5<=(role x).stage/\(role x).stage<=9)\/(role x).stage=1)->(5<=(upd role i (.fin s' m' d') x).stage/\(upd role i (.fin s' m' d') x).stage<=9)\/(upd role i (.fin s' m' d') x).stage=1:=fun x a b c=>by
    by_cases e:x=i
    . subst e;rw [upd_same];exact .inl hs'
    . rw [upd_ne _ _ e];exact c
  cases h with
  | b0 h1 hc=>exact .b0 (fun x a b=>hst' x a b (h1 x a b)) zOM
  | b1 hv h1 hc=>exact .b1 hv (fun x a b=>hst' x a b (h1 x a b)) zOM
  | b2 L hL hn h1 ho=>
    exfalso
    by_cases e:i=L
    . subst e;omega
    . have:=ho i h0 e hi;omega
  | b3 L hL hn h1 ho=>
    exfalso
    by_cases e:i=L
    . subst e;omega
    . have:=ho i h0 e hi;omega
  | b4 ho=>exfalso;have:=ho i h0 hi;omega
end
end
end Go.LK
end
