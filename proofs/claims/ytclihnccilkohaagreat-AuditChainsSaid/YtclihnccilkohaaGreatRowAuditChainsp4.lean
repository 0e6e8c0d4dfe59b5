/-
  Deep values: a function as a whole. Deep values: types and terms, as deep values and as they lie in memory. Deep values: the walk's own words. Deep values: the walk as a proposition that reckons itself out: each step hands its yield on. Deep values: a region's walk that reckons itself out. Deep values: a contract with other names. Terms put for variables, in plain Lean: what norm.Put and subst.Apply make of terms and of a budget. A budget in memory: New, Left, Dry, take, Spend. A budget that runs dry: sync.Once, once; Spend of one unit. The budget, as a deep object. Operations of a region that may come up in any order among themselves, each of which asks nothing of the others: each is looked at once. A term, copied cell by cell: To, Of of the laws. term.turned: a term whose loose indexes a function turns. term.Copy, term.Body. A term whose loose indexes have grown: norm.lifted, subst.grown. subst.grown, walked in the deep way. Package norm, walked in the deep way. norm.lifted, walked in the deep way.
-/
import Derived.Test.YtclihnccilkohaaGreatRowAuditChainsp3
import Derived.Test.YtclihnccilkohaaGreatRowAuditChainsp1
import Derived.RegionTactic
import Derived.Test.YtclihnccilkohaaGreatProg
import Derived.Lib.Hide
import Derived.Laws.LoneSync
import Derived.Deep.RegionHeld3
import Derived.Deep.DrawnRows
import Derived.Tactics2
import Derived.Defers
import Derived.Laws.Pointers
import Derived.RegionCalls
import Derived.ChangeAlike
import Derived.Laws.NewBlocks
import Derived.OwnWalk
set_option maxRecDepth 100000
set_option maxHeartbeats 1000000
set_option linter.unusedVariables false
set_option linter.unusedSimpArgs false
namespace Go.Proofs.YtclihnccilkohaaGreat
open Go.RowKit
def resV (T:List (Nat×TI))(σ:List (Key×D)):ResultVar→Option D
 | .tmp t=>get σ (.t t)
 | .cell x t=>(get σ (.t x)).bind (ldD T σ t)
def resL (T:List (Nat×TI))(σ:List (Key×D)):List ResultVar→Option (List D)
 | []=>some []
 | r :: l=>match resV T σ r with
  | some d=>(resL T σ l).map (d :: ·)
  | none=>none
def resD (T:List (Nat×TI))(σ:List (Key×D))(rs:List ResultVar):Option D:=match resL T σ rs with
 | some [d]=>some d
 | some ds=>some (.tu ds)
 | none=>none
def rnames (R:List (Key×D)):List Nat:=R.filterMap fun p=>match p.1 with | .c k _=>some k | .o k=>some k | _=>none
def inN (R:List (Key×D)):Nat→Bool:=fun k=>(rnames R).contains k
def noR:Nat→Bool:=fun _=>false
def RetOk (T:List (Nat×TI))(rs:List ResultVar)(V:D)(W:List (Key×D)):Exit→List (Key×D)→Nat→Prop:=fun e σ _=>
 (e=.normal∨e=.ret)∧(∃ V',resD T σ rs=some V'∧VLe V' V)∧∀ p∈W,get σ p.1=some p.2∨∃ d,get σ p.1=some d∧VLe d p.2∧(match p.1 with | .c _ _=>True | _=>False)
def argsT:Nat→List D→List (Key×D)→List (Key×D)
 | _,[],R=>R
 | i,d :: l,R=>(.t i,d) :: argsT (i+1) l R
def wordsOk (args:List D)(R W:List (Key×D))(V:D)(N0:Nat):Bool:=
 args.all (fun d=>d.ok (inN R) noR)&&R.all (fun p=>p.2.ok (inN R) noR&&ckey p.1)&&W.all (fun p=>p.2.ok (inN R) noR&&(match p.1 with | .c k _=>inN R k | .o k=>inN R k | .j=>R.any fun p=>isJ p.1 | _=>false))&&V.ok (inN R) noR&&(rnames R).all fun k=>decide (k<N0)
section
variable {P:Program} {T:List (Nat×TI)} {cx:Cx} {Fr Fr':Nat→Prop} {m m':Mp} {Im Im':Nat→Nat→Prop} {w w':World} {a:Act} {σ σ' τ:List (Key×D)} {N N':Nat}
theorem resV_run (hT:TabOk P T)(h:St cx Fr m Im w a σ){r:ResultVar}{d:D}(hd:resV T σ r=some d):∃ v,(match r with | .tmp t=>pure (a.tmps.getD t undef) | .cell x t=>do loadVar t (←asAddr (a.tmps.getD x undef)):Sem Value).run P w=.ok v w∧Rel m Im w v d:=by
 cases r with
 | tmp t=>exact⟨_,by simp,h.tm t d hd⟩
 | cell x t=>
  obtain⟨e,h1,h2⟩:=bind_some hd
  have hx:=h.tm x e h1
  obtain⟨v,r1,r2⟩:=ldD_run (P:=P) hT h hx h2
  refine⟨v,?_,r2⟩
  unfold ldD at h2
  split at h2
  ·cases h2
  ·split at h2
   ·obtain⟨b,hb,ex⟩:=rel_p hx
    show (do loadVar t (←asAddr (a.tmps.getD x undef)):Sem Value).run P w=_
    rw[ex] at r1 ⊢
    simpa[Instr.loadAt,Instr.sureAddr,asAddr] using r1
   ·obtain⟨b,o,ex,_⟩:=rel_q (bl:=0) (off:=0) hx
    show (do loadVar t (←asAddr (a.tmps.getD x undef)):Sem Value).run P w=_
    rw[ex] at r1 ⊢
    simpa[Instr.loadAt,Instr.sureAddr,asAddr] using r1
   ·show (do loadVar t (←asAddr (a.tmps.getD x undef)):Sem Value).run P w=_
    generalize a.tmps.getD x undef=xv at hx r1 ⊢
    cases hx with
    | pr _ _ _ _ _ b hh=>simpa[Instr.loadAt,Instr.sureAddr,asAddr] using r1
   ·cases h2
theorem resL_run (hT:TabOk P T)(h:St cx Fr m Im w a σ):∀ {rs:List ResultVar} {ds:List D},resL T σ rs=some ds→∃ vs:List Value,(rs.mapM (fun(r:ResultVar)=>(match r with | .tmp t=>pure (a.tmps.getD t undef) | .cell x t=>do loadVar t (←asAddr (a.tmps.getD x undef)):Sem Value))).run P w=.ok vs w∧RelL m Im w vs ds
 | [],ds,hd=>by cases hd;exact⟨[],by simp,trivial⟩
 | r :: rs,ds,hd=>by
  simp only[resL] at hd
  cases hv:resV T σ r with
  | none=>rw[hv] at hd;cases hd
  | some d=>
   rw[hv] at hd
   cases hl:resL T σ rs with
   | none=>rw[hl] at hd;cases hd
   | some ds'=>
    rw[hl] at hd
    cases hd
    obtain⟨v,r1,r2⟩:=resV_run hT h hv
    obtain⟨vs,q1,q2⟩:=resL_run hT h hl
    exact⟨v :: vs,by simp only[List.mapM_cons,Sem.run_bind,r1,Result.andThen_ok,q1,Sem.run_pure],r2,q2⟩
theorem resD_run (hT:TabOk P T)(h:St cx Fr m Im w a σ){fn:Func}{d:D}(hd:resD T σ fn.results.toList=some d):∃ v,(results fn a.tmps).run P w=.ok v w∧Rel m Im w v d:=by
 unfold resD at hd
 have hrun:∀ vs:List Value,(fn.results.toList.mapM (fun(r:ResultVar)=>(match r with | .tmp t=>pure (a.tmps.getD t undef) | .cell x t=>do loadVar t (←asAddr (a.tmps.getD x undef)):Sem Value))).run P w=.ok vs w →
   (results fn a.tmps).run P w=.ok (if h:vs.length=1 then vs[0] else .tuple vs.toArray) w:=fun vs hv=>by
  unfold results
  rw[Array.mapM_eq_mapM_toList]
  simp only[Sem.run_bind,map_eq_pure_bind,bind_assoc]
  erw [hv]
  simp
 split at hd
 ·rename_i d' hl
  cases hd
  obtain⟨vs,q1,q2⟩:=resL_run hT h hl
  cases vs with
  | nil=>exact q2.elim
  | cons v vs=>
   cases vs with
   | nil=>exact⟨v,by simpa using hrun _ q1,q2.1⟩
   | cons _ _=>exact q2.2.elim
 ·rename_i ds hne hl
  cases hd
  obtain⟨vs,q1,q2⟩:=resL_run hT h hl
  have hlen:=(relL_iff.1 q2).1
  have:¬ vs.length=1:=fun e=>by
   rw[e] at hlen
   match ds,hlen with
   | [d],_=>exact hne d rfl
  exact⟨_,by simpa[this] using hrun _ q1,rel_tu.2 ⟨vs,rfl,q2⟩⟩
 ·cases hd
theorem get_argsT {R:List (Key×D)}:∀ (ds:List D) (i x:Nat) {d:D},get (argsT i ds R) (.t x)=some d→(∃ j,x=i+j∧ds[j]?=some d)∨get R (.t x)=some d
 | [],i,x,d,h=>.inr h
 | e :: ds,i,x,d,h=>by
  simp only[argsT,get] at h
  split at h
  ·rename_i he
   have:=Key.eq_iff.1 he;cases this
   cases h
   exact .inl ⟨0,rfl,rfl⟩
  ·rcases get_argsT ds (i+1) x h with⟨j,h1,h2⟩ | h
   ·exact .inl ⟨j+1,by omega,by simpa using h2⟩
   ·exact .inr h
theorem get_argsN {R:List (Key×D)}{k:Key}(hk:∀ x,k≠.t x):∀ (ds:List D) (i:Nat),get (argsT i ds R) k=get R k
 | [],i=>rfl
 | e :: ds,i=>by
  simp only[argsT,get]
  rw[if_neg (by rw[Key.eq_iff];exact fun e=>hk i e.symm)]
  exact get_argsN hk ds (i+1)
theorem mem_rnames {R:List (Key×D)}{k off:Nat}{d:D}(h:(Key.c k off,d)∈R):inN R k=true:=by
 unfold inN
 rw[List.contains_iff_mem]
 exact List.mem_filterMap.2 ⟨_,h,rfl⟩
theorem mem_rnamesO {R:List (Key×D)}{k:Nat}{d:D}(h:(Key.o k,d)∈R):inN R k=true:=by
 unfold inN
 rw[List.contains_iff_mem]
 exact List.mem_filterMap.2 ⟨_,h,rfl⟩
theorem of_rnames {R:List (Key×D)}{k:Nat}(h:inN R k=true):(∃ off d,(Key.c k off,d)∈R)∨∃ d,(Key.o k,d)∈R:=by
 unfold inN at h
 rw[List.contains_iff_mem] at h
 obtain⟨p,hp,e⟩:=List.mem_filterMap.1 h
 obtain⟨key,d⟩:=p
 cases key with
 | c k' off=>simp at e;subst e;exact .inl ⟨off,d,hp⟩
 | o k'=>simp at e;subst e;exact .inr ⟨d,hp⟩
 | _=>cases e
theorem call_of_dw {f:FuncId}{fn:Func}{c:Code}{args:List D}{R W:List (Key×D)}{V:D}(N0 nt:Nat)(rs:List ResultVar)(hT:TabOk P T)(hen:entersB P f=true)(hf:P.funcs[f]?=some fn)(hb:fn.body=some c)(hnt:fn.ntmps=nt)(hrs:fn.results.toList=rs) 
  (hal:args.length≤nt) (hw:wordsOk args R W V N0=true) (h:∀ cx:Cx,cx.nt=nt→cx.n0=N0→DW P cx c (argsT 0 args R) N0 (RetOk T rs V W)):CallC P f args R W V:=by
 refine⟨hen,fun cx Fr m Im w vs hmem hargs hR=>?_⟩
 simp only[wordsOk,Bool.and_eq_true,List.all_eq_true,decide_eq_true_eq] at hw
 obtain⟨⟨⟨⟨w1,w2⟩,w3⟩,w4⟩,w5⟩:=hw
 have hin:∀ k b,inN R k=true→m.blk k=some b→Tch m R b:=fun k b hk hb=>by
  rcases of_rnames hk with⟨off,d,hm⟩ | ⟨d,hm⟩
  ·exact .inl ⟨k,off,d,hm,hb⟩
  ·obtain⟨b',q1,_⟩:=hR _ hm
   have:=hmem.dis k b hb
   rw[this] at q1;cases q1
 have hino:∀ k b,inN R k=true→m.obj k=some b→Tch m R b:=fun k b hk hb=>by
  rcases of_rnames hk with⟨off,d,hm⟩ | ⟨d,hm⟩
  ·obtain⟨b',v,q1,_⟩:=hR _ hm
   have:=hmem.dis k b' q1
   rw[this] at hb;cases hb
  ·exact .inr (.inr ⟨k,d,hm,hb⟩)
 have hlt:∀ k,inN R k=true→k<N0:=fun k hk=>w5 k (by unfold inN at hk;rwa [List.contains_iff_mem] at hk)
 have hX:∀ X J,(Key.j,D.j X J)∈R→XOk cx m Im w X J:=fun X J hm=>by
  obtain⟨X',J',e,hx⟩:=hR _ hm
  cases e;exact hx
 have hle:=Mp.cut_le m (inN R) noR
 refine calls_of_wp hf hb ?_
 let cx':Cx:={ w0:=w,C:=Tch m R,Im0:=Im,m0:=m.cut (inN R) noR,nt:=nt,n0:=N0,h0:=fun k b hk=>hlt k (Mp.cut_blk hk).1,h0o:=fun k b hk=>hlt k (Mp.cut_obj hk).1,h0r:=fun g R hg=>absurd (Mp.cut_row hg).1 (by simp[noR]) }
 have hvl:vs.length=args.length:=(relL_iff.1 hargs).1
 have hst:St cx' (fun k=>N0≤k) (m.cut (inN R) noR) Im w { tmps:=vs.toArray++Array.replicate (fn.ntmps-vs.toArray.size) undef,defers:=[] } (argsT 0 args R):=by
  refine⟨⟨Off.refl _ _,hmem.im,fun b o hi=>.inl hi,fun b o hi=>hi,fun k b hk=>?_,fun k b hk=>hmem.lt k b (Mp.cut_blk hk).2,fun k b o hk=>hmem.free k b o (Mp.cut_blk hk).2,fun k b o hk=>hmem.nim k b o (Mp.cut_blk hk).2,fun k k' b hk hk'=>hmem.inj k k' b (Mp.cut_blk hk).2 (Mp.cut_blk hk').2,
    fun g R' hg=>?_,fun g R' b o hg=>?_,fun g R' b k hg=>?_,fun g g' R' R'' b hg=>?_,fun k hk=>⟨?_,?_,?_⟩,fun k b hk=>hk,fun k b hk=>hk,fun k b hk=>.inl (hino k b (Mp.cut_obj hk).1 (Mp.cut_obj hk).2),fun k b hk=>hmem.olt k b (Mp.cut_obj hk).2,fun k b o hk=>hmem.onim k b o (Mp.cut_obj hk).2,fun k k' b hk hk'=>hmem.oinj k k' b (Mp.cut_obj hk).2 (Mp.cut_obj hk').2,fun k k' b hk hk'=>hmem.oblk k k' b (Mp.cut_obj hk).2 (Mp.cut_blk hk').2,fun k g R' b hk hg=>absurd (Mp.cut_row hg).1 (by simp[noR]),fun k b hk=>?_,KeepI.refl _ _,fun g R b hg=>absurd (Mp.cut_row hg).1 (by simp[noR]),fun g R hg=>absurd (Mp.cut_row hg).1 (by simp[noR])⟩,rfl,?_,fun x d hx=>?_,fun k off d hx=>?_,fun g d hx=>?_,fun d hx=>?_,fun k d hx=>?_⟩
  ·obtain⟨h1,h2⟩:=Mp.cut_blk hk
   exact .inl (hin k b h1 h2)
  ·exact absurd (Mp.cut_row hg).1 (by simp[noR])
  ·exact absurd (Mp.cut_row hg).1 (by simp[noR])
  ·exact absurd (Mp.cut_row hg).1 (by simp[noR])
  ·exact absurd (Mp.cut_row hg).1 (by simp[noR])
  ·by_cases hk2:inN R k=true
   ·have:=hlt k hk2;omega
   ·simp[Mp.cut,hk2]
  ·simp[Mp.cut,noR]
  ·by_cases hk2:inN R k=true
   ·have:=hlt k hk2;omega
   ·simp[Mp.cut,hk2]
  ·have:=hmem.dis k b (Mp.cut_blk hk).2
   show (if _ then m.obj k else none)=none
   rw[this];simp
  ·simp[cx',hvl,hnt];omega
  ·rcases get_argsT args 0 x hx with⟨j,h1,h2⟩ | hx
   ·have hj:j<args.length:=by
     rcases Nat.lt_or_ge j args.length with h' | h'
     ·exact h'
     ·rw[List.getElem?_eq_none h'] at h2;cases h2
    rw[List.getElem?_eq_getElem hj] at h2
    cases h2
    have hr:=(relL_iff.1 hargs).2 j hj
    have hx':x=j:=by omega
    subst hx'
    have:(vs.toArray++Array.replicate (fn.ntmps-vs.toArray.size) undef).getD x undef=vs.getD x undef:=by
     have hx2:x<vs.length:=by omega
     rw[Array.getD_eq_getD_getElem?,Array.getElem?_append_left (by simpa using hx2),List.getD_eq_getElem?_getD]
     simp
    show Rel _ _ _ ((vs.toArray++Array.replicate (fn.ntmps-vs.toArray.size) undef).getD x undef) _
    rw[this]
    exact hr.cut (w1 _ (List.getElem_mem hj))
   ·have:=(w2 _ (mem_of_get hx)).2
    cases this
  ·rw[get_argsN (fun x=>by simp) args 0] at hx
   have hm:=mem_of_get hx
   obtain⟨b,v,q1,q2,q3⟩:=hR _ hm
   exact⟨b,v,by simp only[Mp.cut,mem_rnames hm,if_true];exact q1,q2,q3.cut (w2 _ hm).1⟩
  ·rw[get_argsN (fun x=>by simp) args 0] at hx
   have:=(w2 _ (mem_of_get hx)).2
   cases this
  ·rw[get_argsN (fun x=>by simp) args 0] at hx
   have hm:=mem_of_get hx
   obtain⟨X,J,e,hx⟩:=hR _ hm
   refine⟨X,J,e,{ hx with own:=fun b hb=>.inl (.inr (.inl ⟨X,J,e ▸ hm,hb⟩)),blk:=fun b k hb hk=>hx.blk b k hb (Mp.cut_blk hk).2,row:=fun b g R' hb hg=>hx.row b g R' hb (Mp.cut_row hg).2,obj:=fun b k hb hk=>hx.obj b k hb (Mp.cut_obj hk).2 }⟩
  ·rw[get_argsN (fun x=>by simp) args 0] at hx
   have hm:=mem_of_get hx
   obtain⟨b,q1,q2⟩:=hR _ hm
   exact⟨b,by simp only[Mp.cut,mem_rnamesO hm,if_true];exact q1,q2.cut (w2 _ hm).1⟩
 have hwp:=h cx' rfl rfl _ Im w _ hst
 refine Code.wp_mono (fun e a' w' ⟨σ',N',m',Im',⟨hq1,⟨V',hq2,hq3⟩,hq4⟩,hs⟩=>?_) hwp
 obtain⟨v,r1,r2⟩:=resD_run (P:=P) (fn:=fn) hT hs (by rw[hrs];exact hq2)
 have hm':∀ k b,inN R k=true→m'.blk k=some b→m.blk k=some b:=fun k b hk hb=>by
  rcases of_rnames hk with⟨off,d,hm⟩ | ⟨d,hm⟩
  ·obtain⟨b',_,q1,_⟩:=hR _ hm
   have:=hs.mem.m0 k b' (by show (m.cut (inN R) noR).blk k=some b';simp[Mp.cut,hk,q1])
   rw[this] at hb;cases hb;exact q1
  ·obtain⟨b',q1,_⟩:=hR _ hm
   have:=hs.mem.m0o k b' (by show (m.cut (inN R) noR).obj k=some b';simp[Mp.cut,hk,q1])
   rw[hs.mem.dis k b hb] at this;cases this
 have hmo':∀ k b,inN R k=true→m'.obj k=some b→m.obj k=some b:=fun k b hk hb=>by
  rcases of_rnames hk with⟨off,d,hm⟩ | ⟨d,hm⟩
  ·obtain⟨b',_,q1,_⟩:=hR _ hm
   have:=hs.mem.m0 k b' (by show (m.cut (inN R) noR).blk k=some b';simp[Mp.cut,hk,q1])
   rw[hs.mem.dis k b' this] at hb;cases hb
  ·obtain⟨b',q1,_⟩:=hR _ hm
   have:=hs.mem.m0o k b' (by show (m.cut (inN R) noR).obj k=some b';simp[Mp.cut,hk,q1])
   rw[this] at hb;cases hb;exact q1
 have hcutle:(m'.cut (inN R) noR).le m:=⟨fun k b hk=>hm' k b (Mp.cut_blk hk).1 (Mp.cut_blk hk).2,fun g R' hg=>absurd (Mp.cut_row hg).1 (by simp[noR]),fun k b hk=>hmo' k b (Mp.cut_obj hk).1 (Mp.cut_obj hk).2⟩
 have hrel:∀ {x d},Rel m' Im' w' x d→d.ok (inN R) noR=true→Rel m Im' w' x d:=fun hx hd=>(hx.cut hd).mono hcutle (KeepI.refl _ _) fun _ _ h=>h
 have hV:Rel m Im' w' v V:=by
  exact hrel (hq3 _ _ _ _ r2) w4
 have hnT:∀ k b,m.blk k=some b→inN R k=false→¬ Tch m R b:=fun k b hk hn ht=>by
  rcases ht with⟨k',off,d,hm,hb⟩ | ⟨X,J,hm,hb⟩ | ⟨k',d,hm,hb⟩
  ·have:=hmem.inj k k' b hk hb
   subst this
   rw[mem_rnames hm] at hn;cases hn
  ·exact(hX X J hm).blk b k hb hk
  ·exact hmem.oblk k' k b hb hk
 have hfin:∃ v' Im'',Ending.returned v=.returned v'∧Off (Tch m R) w w'∧(∀ b o,Im b o→Im'' b o)∧(∀ b o,Im'' b o→Im b o∨w.heap.size≤b)∧(∀ b o,Im'' b o→∃ v,w'.cell? ⟨b,o,none⟩=some v) ∧
   (∀ k b o,m.blk k=some b→w'.frozen? ⟨b,o,none⟩=false)∧Rel m Im'' w' v' V∧Holds cx m Im'' w' W:=by
  refine⟨v,Im',rfl,hs.mem.off,fun b o hi=>hs.mem.im0 b o hi,fun b o hi=>(hs.mem.imb b o hi).imp id fun h=>h.elim id fun h=>h.elim,hs.mem.im,fun k b o hk=>?_,hV,fun p hp=>?_⟩
  ·by_cases hn:inN R k=true
   ·have:=hs.mem.m0 k b (by show (m.cut (inN R) noR).blk k=some b;simp[Mp.cut,hn,hk])
    exact hs.mem.free k b o this
   ·have hn:inN R k=false:=by simpa using hn
    exact(World.frozen?_of_block (a:=⟨b,o,none⟩) (hs.mem.off.block b (hmem.lt k b hk) (hnT k b hk hn))).trans (hmem.free k b o hk)
  ·have hok:=w3 p hp
   have hg:=hq4 p hp
   obtain⟨key,d⟩:=p
   cases key with
   | c k off=>
    have hk:inN R k=true:=hok.2
    rcases hg with hg | ⟨d',hg,e,_⟩
    ·obtain⟨b,x,q1,q2,q3⟩:=hs.ce k off d hg
     exact⟨b,x,hm' k b hk q1,q2,hrel q3 hok.1⟩
    ·obtain⟨b,x,q1,q2,q3⟩:=hs.ce k off d' hg
     exact⟨b,x,hm' k b hk q1,q2,hrel (e _ _ _ _ q3) hok.1⟩
   | o k=>
    have hk:inN R k=true:=hok.2
    rcases hg with hg | ⟨d',hg,e,hf⟩
    ·obtain⟨b,q1,q2⟩:=hs.ok k d hg
     exact⟨b,hmo' k b hk q1,(q2.cut hok.1).mono rfl hcutle (KeepI.refl _ _) fun _ _ h=>h⟩
    ·exact hf.elim
   | j=>
    rcases hg with hg | ⟨d',hg,e,hf⟩
    ·obtain⟨X,J,e,hx⟩:=hs.jk d hg
     have hold:∀ b,X b→b<w.heap.size→∃ X0 J0,(Key.j,D.j X0 J0)∈R∧X0 b:=fun b hb hlt=>by
      rcases hx.own b hb with hc | hc
      ·rcases hc with⟨k',off,d',hm,hb'⟩ | hc | ⟨k',d',hm,hb'⟩
       ·have hk:=mem_rnames hm
        have:=hs.mem.m0 k' b (by show (m.cut (inN R) noR).blk k'=some b;simp[Mp.cut,hk,hb'])
        exact absurd this (hx.blk b k' hb)
       ·exact hc
       ·have hk:=mem_rnamesO hm
        have:=hs.mem.m0o k' b (by show (m.cut (inN R) noR).obj k'=some b;simp[Mp.cut,hk,hb'])
        exact absurd this (hx.obj b k' hb)
      ·exact absurd hc (Nat.not_le.2 hlt)
     refine⟨X,J,e,{ hx with own:=fun b hb=>?_,blk:=fun b k hb hk=>?_,row:=fun b g R' hb hg e2=>?_,obj:=fun b k hb hk=>?_ }⟩
     ·by_cases hlt:b<w.heap.size
      ·obtain⟨X0,J0,hm,hb0⟩:=hold b hb hlt
       exact(hX X0 J0 hm).own b hb0
      ·exact .inr (Nat.le_trans hmem.off.size (Nat.le_of_not_lt hlt))
     ·obtain⟨X0,J0,hm,hb0⟩:=hold b hb (hmem.lt k b hk)
      exact(hX X0 J0 hm).blk b k hb0 hk
     ·obtain⟨xs,hxs⟩:=hmem.row g R' hg
      obtain⟨X0,J0,hm,hb0⟩:=hold b hb (row_lt hxs e2).2
      exact(hX X0 J0 hm).row b g R' hb0 hg e2
     ·obtain⟨X0,J0,hm,hb0⟩:=hold b hb (hmem.olt k b hk)
      exact(hX X0 J0 hm).obj b k hb0 hk
    ·exact hf.elim
   | t x=>cases hok.2
   | r g=>cases hok.2
 rcases hq1 with rfl | rfl
 ·exact⟨hs.df,v,r1,hfin⟩
 ·exact⟨hs.df,v,r1,hfin⟩
end
mutual
def eTy:Ty→List D
 | .mk a b=>[.sl 2 (eTys a) none,.v (.int .i64 b)]
def eTys:List Ty→List (List D)
 | []=>[]
 | t :: l=>eTy t :: eTys l
end
mutual
def eTm:Tm→List D
 | .mk bs k i a=>[.sl 2 (eTys bs) none,.v (.int .i64 k),.v (.int .i64 i),.sl 4 (eTms a) none]
def eTms:List Tm→List (List D)
 | []=>[]
 | t :: l=>eTm t :: eTms l
end
theorem eTys_map (l:List Ty):eTys l=l.map eTy:=by
 induction l with
 | nil=>rfl
 | cons t l ih=>rw[eTys,ih];rfl
theorem eTms_map (l:List Tm):eTms l=l.map eTm:=by
 induction l with
 | nil=>rfl
 | cons t l ih=>rw[eTms,ih];rfl
theorem eTy_eq (t:Ty):eTy t=[.sl 2 (eTys t.args) none,.v (.int .i64 t.base)]:=by cases t;rfl
theorem eTm_eq (t:Tm):eTm t=[.sl 2 (eTys t.binds) none,.v (.int .i64 t.kind),.v (.int .i64 t.index),.sl 4 (eTms t.args) none]:=by cases t;rfl
theorem eTy_len (t:Ty):(eTy t).length=2:=by cases t;rfl
theorem eTm_len (t:Tm):(eTm t).length=4:=by cases t;rfl
theorem eTys_len (l:List Ty):(eTys l).length=l.length:=by rw[eTys_map,List.length_map]
theorem eTms_len (l:List Tm):(eTms l).length=l.length:=by rw[eTms_map,List.length_map]
theorem eTys_getD (l:List Ty)(i:Nat)(h:i<l.length):(eTys l).getD i []=eTy l[i]:=by
 rw[eTys_map,List.getD_eq_getElem?_getD,List.getElem?_map,List.getElem?_eq_getElem h];rfl
theorem eTms_getD (l:List Tm)(i:Nat)(h:i<l.length):(eTms l).getD i []=eTm l[i]:=by
 rw[eTms_map,List.getD_eq_getElem?_getD,List.getElem?_map,List.getElem?_eq_getElem h];rfl
theorem eTys_append (l r:List Ty):eTys (l++r)=eTys l++eTys r:=by simp[eTys_map]
theorem eTms_append (l r:List Tm):eTms (l++r)=eTms l++eTms r:=by simp[eTms_map]
section
variable (f g:Nat→Bool)
@[simp] theorem eTy_ok (t:Ty):D.oks f g (eTy t)=true:=by
 induction t using Ty.ind with
 | h a b ih=>
  rw[eTy_eq]
  simp only[D.oks,D.ok,Bool.and_true,eTys_map,Ty.args]
  exact D.okss_map _ _ ih
@[simp] theorem eTys_ok (l:List Ty):D.okss f g (eTys l)=true:=by rw[eTys_map];exact D.okss_map _ _ fun t _=>eTy_ok f g t
@[simp] theorem eTm_ok (t:Tm):D.oks f g (eTm t)=true:=by
 induction t using Tm.ind with
 | h bs k i a ih=>
  rw[eTm_eq]
  simp only[D.oks,D.ok,Bool.and_true,Tm.args,Bool.and_eq_true]
  exact⟨eTys_ok f g _,trivial,trivial,by rw[eTms_map];exact D.okss_map _ _ ih⟩
@[simp] theorem eTms_ok (l:List Tm):D.okss f g (eTms l)=true:=by rw[eTms_map];exact D.okss_map _ _ fun t _=>eTm_ok f g t
end
section
variable {m:Mp} {Im:Nat→Nat→Prop} {w w':World}
def blkI (Im:Nat→Nat→Prop):Nat→Prop:=fun b=>∃ o,Im b o
theorem sl_of_rel {α:Type}{r:Rp α}{e:α→List D}(hlen:∀ a,(e a).length=r.n)(hr:∀ (x:List Value) (a:α),RelL m Im w x (e a)→(∀ u∈x,u.oneCell'=true)→r.R (blkI Im) w x a){v:Value}{l:List α}(hn:0<r.n)(h:Rel m Im w v (.sl r.n (l.map e) none)):IsSl r (blkI Im) w v l:=by
 obtain⟨a,c,bl,off,X,rfl,h1,ha,hc,hn2,ho,hr2,_⟩:=rel_sl h
 rw[List.length_map] at h1 ha hc ho ⊢
 refine⟨a,c,bl,off,fun i=>(List.range r.n).map (X i),rfl,h1,fun h0=>⟨ha h0,?_⟩,fun i j u hi hu=>?_,fun i hi=>?_⟩
 ·exact⟨_,(hc 0 0 h0 hn).2⟩
 ·rw[List.getElem?_map] at hu
  by_cases hj:j<r.n
  ·rw[List.getElem?_range hj] at hu
   cases hu
   exact(hc i j hi hj).1
  ·rw[List.getElem?_eq_none (by simpa using hj)] at hu;cases hu
 ·refine hr _ _ (relL_iff.2 ⟨by simp[hlen],fun j hj=>?_⟩) fun u hu=>?_
  ·have hi':i<(l.map e).length:=by simpa using hi
   have hj':j<(l.map e)[i].length:=by simpa using hj
   have:=hr2 i hi' j hj'
   have hjn:j<r.n:=by rw[←hlen l[i]];exact hj
   simpa[List.getD_eq_getElem?_getD,List.getElem?_map,List.getElem?_range hjn] using this
  ·obtain⟨j,hj,rfl⟩:=List.mem_map.1 hu
   exact ho i j hi (List.mem_range.1 hj)
theorem rel_of_sl {α:Type}{r:Rp α}{e:α→List D}{F:Nat→Prop}(hIm:∀ b o v,F b→w.cell? ⟨b,o,none⟩=some v→Im b o)(hlen:∀ a,(e a).length=r.n)(hr:∀ (x:List Value) (a:α),r.R F w x a→RelL m Im w x (e a)){v:Value}{l:List α}(h:IsSl r F w v l):Rel m Im w v (.sl r.n (l.map e) none):=by
 obtain⟨a,c,bl,off,X,rfl,h1,ha,h2,h3⟩:=h
 have hx:∀ i (hi:i<l.length),(X i).length=r.n:=fun i hi=>r.len (h3 i hi)
 have key:Rel m Im w (.slice a (l.map e).length c) (.sl r.n (l.map e) none):=by
  refine .sl a c bl off r.n (fun i j=>(X i).getD j undef) (l.map e) none (by simpa using h1) (fun h0=>(ha (by simpa using h0)).1) (fun i j hi hj=>?_) (fun i hi=>by simp[hlen]) (fun i j hi hj=>?_) (fun i hi j hj=>?_) (fun r e=>by cases e)
  ·have hi':i<l.length:=by simpa using hi
   have hj2:j<(X i).length:=by rw[hx i hi'];exact hj
   have:=h2 i j _ hi' (List.getElem?_eq_getElem hj2)
   rw[List.getD_eq_getElem?_getD,List.getElem?_eq_getElem hj2]
   exact⟨this,hIm _ _ _ (ha (by omega)).2 this⟩
  ·have hi':i<l.length:=by simpa using hi
   have hj2:j<(X i).length:=by rw[hx i hi'];exact hj
   rw[List.getD_eq_getElem?_getD,List.getElem?_eq_getElem hj2]
   exact r.one (h3 i hi') _ (List.getElem_mem _)
  ·have hi':i<l.length:=by simpa using hi
   have h4:=relL_iff.1 (hr _ _ (h3 i hi'))
   have hj':j<(e l[i]).length:=by simpa using hj
   have:=h4.2 j hj'
   simpa using this
 simpa using key
theorem ty_of_rel:∀ (t:Ty) {x:List Value},RelL m Im w x (eTy t)→∃ s b,x=[s,b]∧IsTy (blkI Im) w s b t:=by
 intro t
 induction t using Ty.ind with
 | h a b ih=>
  intro x hx
  rw[eTy_eq] at hx
  match x,hx with
  | [s,b'],⟨h1,h2,_⟩=>
   have:=rel_v.1 h2
   subst this
   refine⟨s,_,rfl,isTy_mk ?_ _⟩
   have h1:Rel m Im w s (.sl 2 (a.map eTy) none):=by rw[eTys_map] at h1;exact h1
   obtain⟨ad,c,bl,off,X,rfl,g1,ha,hc,hn2,ho,hr2,_⟩:=rel_sl h1
   simp only[List.length_map,Ty.args] at g1 ha hc ho ⊢
   refine⟨ad,c,bl,off,fun i=>[X i 0,X i 1],rfl,g1,fun h0=>⟨ha h0,⟨_,(hc 0 0 h0 (by omega)).2⟩⟩,fun i j u hi hu=>?_,fun i hi=>?_⟩
   ·match j with
    | 0=>cases hu;exact(hc i 0 hi (by omega)).1
    | 1=>cases hu;exact(hc i 1 hi (by omega)).1
    | j+2=>simp at hu
   ·have hi':i<(a.map eTy).length:=by simpa using hi
    have q:(a.map eTy)[i]=eTy a[i]:=by simp
    have hl:(a.map eTy)[i].length=2:=by rw[q];exact eTy_len _
    have q0:=hr2 i hi' 0 (by omega)
    have q1:=hr2 i hi' 1 (by omega)
    refine ih a[i] (List.getElem_mem _) ?_
    rw[eTy_eq]
    simp only[q] at q0 q1
    have e0:(eTy a[i])[0]'(by rw[eTy_len];omega)=.sl 2 (eTys a[i].args) none:=by simp[eTy_eq]
    have e1:(eTy a[i])[1]'(by rw[eTy_len];omega)=.v (.int .i64 a[i].base):=by simp[eTy_eq]
    rw[e0] at q0;rw[e1] at q1
    exact⟨q0,q1,trivial⟩
theorem rel_of_ty {F:Nat→Prop}(hIm:∀ b o v,F b→w.cell? ⟨b,o,none⟩=some v→Im b o):∀ (t:Ty) {s b:Value},IsTy F w s b t→RelL m Im w [s,b] (eTy t):=by
 intro t
 induction t using Ty.ind with
 | h a b ih=>
  intro s b' h
  obtain⟨rfl,hs⟩:=h.inv
  rw[eTy_eq,eTys_map]
  refine⟨?_,.v _,trivial⟩
  let r2:Rp {t:Ty // t∈a}:={ n:=2,R:=fun F w x t=>rpTy.R F w x t.1,len:=fun h=>rpTy.len h,one:=fun h=>rpTy.one h,keep:=fun h=>rpTy.keep h,weaken:=fun h=>rpTy.weaken h }
  have h2:IsSl r2 F w s (a.attach):=by
   obtain⟨ad,c,bl,off,X,rfl,g1,ha,g2,g3⟩:=hs
   refine⟨ad,c,bl,off,X,by simp[Ty.args],by simpa[Ty.args] using g1,fun h0=>ha (by simpa[Ty.args] using h0),fun i j u hi hu=>g2 i j u (by simpa[Ty.args] using hi) hu,fun i hi=>?_⟩
   have hi':i<a.length:=by simpa using hi
   have:=g3 i hi'
   simpa[r2,Ty.args] using this
  have h3:=rel_of_sl (m:=m) (Im:=Im) (r:=r2) (e:=fun t=>eTy t.1) hIm (fun t=>eTy_len t.1) (fun x t hx=>by
   obtain⟨s,b,rfl,ht⟩:=hx
   exact ih t.1 t.2 ht) h2
  have e:(a.attach.map fun t=>eTy t.1)=a.map eTy:=by simp
  rw[e] at h3
  exact h3
theorem tm_of_rel:∀ (t:Tm) {x:List Value},RelL m Im w x (eTm t)→∃ b k i a,x=[b,k,i,a]∧IsTm (blkI Im) w b k i a t:=by
 intro t
 induction t using Tm.ind with
 | h bs k i a ih=>
  intro x hx
  rw[eTm_eq] at hx
  match x,hx with
  | [b',k',i',a'],⟨h1,h2,h3,h4,_⟩=>
   have:=rel_v.1 h2
   subst this
   have:=rel_v.1 h3
   subst this
   have hb:IsSl rpTy (blkI Im) w b' bs:=sl_of_rel (r:=rpTy) (e:=eTy) eTy_len (fun x t hx _=>ty_of_rel t hx) (by decide) (by rw[eTys_map] at h1;exact h1)
   refine⟨b',_,_,a',rfl,isTm_mk hb ?_ _ _⟩
   have h4:Rel m Im w a' (.sl 4 (a.map eTm) none):=by rw[eTms_map] at h4;exact h4
   obtain⟨ad,c,bl,off,X,rfl,g1,ha,hc,hn2,ho,hr2,_⟩:=rel_sl h4
   simp only[List.length_map,Tm.args] at g1 ha hc ho ⊢
   refine⟨ad,c,bl,off,fun i=>[X i 0,X i 1,X i 2,X i 3],rfl,g1,fun h0=>⟨ha h0,⟨_,(hc 0 0 h0 (by omega)).2⟩⟩,fun i j u hi hu=>?_,fun i hi=>?_⟩
   ·match j with
    | 0=>cases hu;exact(hc i 0 hi (by omega)).1
    | 1=>cases hu;exact(hc i 1 hi (by omega)).1
    | 2=>cases hu;exact(hc i 2 hi (by omega)).1
    | 3=>cases hu;exact(hc i 3 hi (by omega)).1
    | j+4=>simp at hu
   ·have hi':i<(a.map eTm).length:=by simpa using hi
    have q:(a.map eTm)[i]=eTm a[i]:=by simp
    have hl:(a.map eTm)[i].length=4:=by rw[q];exact eTm_len _
    have q0:=hr2 i hi' 0 (by omega)
    have q1:=hr2 i hi' 1 (by omega)
    have q2:=hr2 i hi' 2 (by omega)
    have q3:=hr2 i hi' 3 (by omega)
    refine ih a[i] (List.getElem_mem _) ?_
    rw[eTm_eq]
    simp only[q] at q0 q1 q2 q3
    have e0:(eTm a[i])[0]'(by rw[eTm_len];omega)=.sl 2 (eTys a[i].binds) none:=by simp[eTm_eq]
    have e1:(eTm a[i])[1]'(by rw[eTm_len];omega)=.v (.int .i64 a[i].kind):=by simp[eTm_eq]
    have e2:(eTm a[i])[2]'(by rw[eTm_len];omega)=.v (.int .i64 a[i].index):=by simp[eTm_eq]
    have e3:(eTm a[i])[3]'(by rw[eTm_len];omega)=.sl 4 (eTms a[i].args) none:=by simp[eTm_eq]
    rw[e0] at q0;rw[e1] at q1;rw[e2] at q2;rw[e3] at q3
    exact⟨q0,q1,q2,q3,trivial⟩
theorem rel_of_tm {F:Nat→Prop}(hIm:∀ b o v,F b→w.cell? ⟨b,o,none⟩=some v→Im b o):∀ (t:Tm) {b k i a:Value},IsTm F w b k i a t→RelL m Im w [b,k,i,a] (eTm t):=by
 intro t
 induction t using Tm.ind with
 | h bs k i a ih=>
  intro b' k' i' a' h
  obtain⟨rfl,rfl,hb,hs⟩:=h.inv
  rw[eTm_eq,eTms_map,eTys_map]
  have h1:=rel_of_sl (m:=m) (Im:=Im) (r:=rpTy) (e:=eTy) hIm eTy_len (fun x t hx=>by
   obtain⟨s,b,rfl,ht⟩:=hx
   exact rel_of_ty hIm t ht) hb
  refine⟨h1,.v _,.v _,?_,trivial⟩
  let r2:Rp {t:Tm // t∈a}:={ n:=4,R:=fun F w x t=>rpTm.R F w x t.1,len:=fun h=>rpTm.len h,one:=fun h=>rpTm.one h,keep:=fun h=>rpTm.keep h,weaken:=fun h=>rpTm.weaken h }
  have h2:IsSl r2 F w a' (a.attach):=by
   obtain⟨ad,c,bl,off,X,rfl,g1,ha,g2,g3⟩:=hs
   refine⟨ad,c,bl,off,X,by simp[Tm.args],by simpa[Tm.args] using g1,fun h0=>ha (by simpa[Tm.args] using h0),fun i j u hi hu=>g2 i j u (by simpa[Tm.args] using hi) hu,fun i hi=>?_⟩
   have hi':i<a.length:=by simpa using hi
   have:=g3 i hi'
   simpa[r2,Tm.args] using this
  have h3:=rel_of_sl (m:=m) (Im:=Im) (r:=r2) (e:=fun t=>eTm t.1) hIm (fun t=>eTm_len t.1) (fun x t hx=>by
   obtain⟨b,k,i,a,rfl,ht⟩:=hx
   exact ih t.1 t.2 ht) h2
  have e:(a.attach.map fun t=>eTm t.1)=a.map eTm:=by simp
  rw[e] at h3
  exact h3
end
section
variable {P:Program} {T:List (Nat×TI)} {cx:Cx} {σ:List (Key×D)} {N:Nat} {Q:Exit→List (Key×D)→Nat→Prop} {nt N1:Nat}
def dstOk (nt:Nat)(ops:Array Oper):Bool:=ops.all (fun o=>match o.dst with | none=>true | some d=>decide (d<nt))
def notR:Key→Prop
 | .r _=>False
 | .j=>False
 | .o _=>False
 | _=>True
def kV (N':Nat)(σ:List (Key×D)):List (Key×D)→Prop
 | []=>True
 | (k,d) :: r=>((d.ok (upto N') (upto N')&&keyOk N' k)=true∧(get σ k=some d∨∃ d',get σ k=some d'∧VLe d' d∧notR k))∧kV N' σ r
theorem kV_all {N':Nat}{σ:List (Key×D)}:∀ {τ:List (Key×D)},kV N' σ τ→∀ p∈τ,(p.2.ok (upto N') (upto N')&&keyOk N' p.1)=true∧(get σ p.1=some p.2∨∃ d',get σ p.1=some d'∧VLe d' p.2∧notR p.1)
 | [],_,p,hp=>by cases hp
 | (k,d) :: r,h,p,hp=>by
  rcases List.mem_cons.1 hp with rfl | hp
  ·exact h.1
  ·exact kV_all h.2 p hp
theorem VS.toK {cx:Cx}{σ τ:List (Key×D)}{N N':Nat}(hN:cx.n0≤N')(h:kV N' σ τ):VS cx σ N τ N':=
 VS.to hN (List.all_eq_true.2 fun p hp=>(kV_all h p hp).1) fun p hp=>by
  rcases(kV_all h p hp).2 with h1 | ⟨d',h1,h2,h3⟩
  ·exact .inl h1
  ·refine .inr ⟨d',h1,h2,?_⟩
   obtain⟨k,d⟩:=p
   cases k <;> first | trivial | exact h3
def cutQ (cx:Cx)(τ:List (Key×D))(N1:Nat):Exit→List (Key×D)→Nat→Prop
 | .normal,σ,N=>VS cx σ N τ N1
 | _,_,_=>False
theorem cut_ok {τ:List (Key×D)}{N1:Nat}(h:VS cx σ N τ N1):cutQ cx τ N1 .normal σ N:=h
theorem dw_cut {x y:Code}{τ:List (Key×D)}{N1:Nat}(h:DW P cx x σ N (cutQ cx τ N1))(h2:DW P cx y τ N1 Q):DW P cx (.seq x y) σ N Q:=
 dw_seq (h.mono fun e σ' N' hh=>by
  cases e with
  | normal=>exact h2.vs hh
  | _=>exact hh.elim)
def cutE {ι:Type}(cx:Cx)(τ:ι→List (Key×D))(N1:Nat)(Q:Exit→List (Key×D)→Nat→Prop):Exit→List (Key×D)→Nat→Prop
 | .normal,σ,N=>∃ i,VS cx σ N (τ i) N1
 | e,σ,N=>Q e σ N
theorem cutE_ok {ι:Type}{τ:ι→List (Key×D)}{N1:Nat}(i:ι)(h:VS cx σ N (τ i) N1):cutE cx τ N1 Q .normal σ N:=⟨i,h⟩
theorem dw_cutE {ι:Type}{x y:Code}(τ:ι→List (Key×D))(N1:Nat)(h:DW P cx x σ N (cutE cx τ N1 Q))(h2:∀ i,DW P cx y (τ i) N1 Q):DW P cx (.seq x y) σ N Q:=
 dw_seq (h.mono fun e σ' N' hh=>by
  cases e with
  | normal=>obtain⟨i,hv⟩:=hh;exact(h2 i).vs hv
  | _=>exact hh)
end
abbrev Env:=List (Key×D)
def kget (σ:Env)(k:Key)(c:D→Prop):Prop:=match get σ k with
 | some d=>c d
 | none=>False
def kev (σ:Env)(x:Operand)(c:D→Prop):Prop:=match x with
 | .tmp t=>kget σ (.t t) c
 | .const v=>c (.v v)
 | .func f=>c (.fn f [])
 | .global _=>False
def kevs (σ:Env):List Operand→(List D→Prop)→Prop
 | [],c=>c []
 | x :: r,c=>kev σ x fun d=>kevs σ r fun l=>c (d :: l)
def kcells (σ:Env)(k:Nat):Nat→Nat→(List D→Prop)→Prop
 | _,0,c=>c []
 | o,n+1,c=>kget σ (.c k o) fun d=>kcells σ k (o+1) n fun l=>c (d :: l)
def ktake:Nat→List D→(List D→Prop)→Prop
 | 0,_,c=>c []
 | n+1,d :: l,c=>ktake n l fun r=>c (d :: r)
 | _+1,[],_=>False
def kdrop:Nat→List D→(List D→Prop)→Prop
 | 0,l,c=>c l
 | n+1,_ :: l,c=>kdrop n l c
 | _+1,[],_=>False
def kT (T:List (Nat×TI))(t:Nat)(c:TI→Prop):Prop:=match tget T t with
 | some ti=>c ti
 | none=>False
def kOf (ti:TI)(l:List D)(c:D→Prop):Prop:=match ti.ag with
 | true=>(match Nat.beq l.length ti.sz with | true=>c (.ag l) | false=>False)
 | false=>(match l with | [d]=>c d | _=>False)
def kOfP (ti:TI)(r:List D)(j n:Nat)(c:D→Prop):Prop:=match ti.ag with
 | true=>(match Nat.beq j 0&&Nat.beq ti.sz n with | true=>c (.ag r) | false=>c (.ag ((r.drop j).take ti.sz)))
 | false=>(match Nat.beq ti.sz 1 with | true=>c (r.getD j (.v undef)) | false=>False)
def kld (T:List (Nat×TI))(σ:Env)(t:Nat)(x:D)(c:D→Prop):Prop:=kT T t fun ti=>match x with
 | .p k o=>kcells σ k o ti.sz fun l=>kOf ti l c
 | .q l=>ktake ti.sz l fun l=>kOf ti l c
 | .pr g len n i j=>kget σ (.r g) fun d=>(match d with
  | .rp _ n' l=>(match Nat.beq n' n&&Nat.ble (j+ti.sz) n with
   | true=>(l.length=len∧i<len∧(l.getD i []).length=n)∧kOfP ti (l.getD i []) j n c
   | false=>False)
  | _=>False)
 | _=>False
def kfield (T:List (Nat×TI))(t:Nat)(x:D)(f:Nat)(c:D→Prop):Prop:=kT T t fun ti=>match x,ti.fs[f]? with
 | .ag l,some (off,sz,ag)=>kdrop off l fun l=>ktake sz l fun l=>(match ag with | true=>c (.ag l) | false=>(match l with | [d]=>c d | _=>False))
 | _,_=>False
def kfaddr (T:List (Nat×TI))(t:Nat)(x:D)(f:Nat)(c:D→Prop):Prop:=kT T t fun ti=>match x,ti.fs[f]? with
 | .p k o,some (off,_,_)=>c (.p k (o+off))
 | .q l,some (off,_,_)=>kdrop off l fun l=>c (.q l)
 | .pr g len n i j,some (off,_,_)=>c (.pr g len n i (j+off))
 | _,_=>False
def kiaddr (T:List (Nat×TI))(t:Nat)(x y:D)(c:D→Prop):Prop:=kT T t fun ti=>match ti.el with
 | none=>False
 | some e=>kT T e fun te=>match x,y with
  | .sl n l _,.v (.int _ i)=>(match Nat.beq te.sz n&&Nat.ble 1 n with | true=>(0≤i∧i<(l.length:Int))∧c (.q (l.getD i.toNat [])) | false=>False)
  | .ps g len,.v (.int _ i)=>(match Nat.ble 1 te.sz with | true=>(0≤i∧i<(len:Int))∧c (.pr g len te.sz i.toNat 0) | false=>False)
  | _,_=>False
def klen (T:List (Nat×TI))(t:Nat)(x:D)(c:D→Prop):Prop:=kT T t fun ti=>match x with
 | .sl _ l _=>(match Nat.beq ti.kd 5 with | true=>c (.v (.int .i64 l.length)) | false=>False)
 | .v (.slice _ n _)=>(match Nat.beq ti.kd 5 with | true=>c (.v (.int .i64 n)) | false=>False)
 | .v (.string s)=>(match Nat.beq ti.kd 3 with | true=>c (.v (.int .i64 s.size)) | false=>False)
 | .ps _ len=>(match Nat.beq ti.kd 5 with | true=>c (.v (.int .i64 len)) | false=>False)
 | _=>False
def kevI (σ:Env)(x:Option Operand)(c:Option Int→Prop):Prop:=match x with
 | none=>c none
 | some x=>kev σ x fun d=>(match d with | .v (.int .i64 i)=>c (some i) | _=>False)
def kbnd (lo hi mx:Option Int)(n:Nat)(c:Prop):Prop:=match lo,hi,mx with
 | none,none,none=>c
 | some l,none,none=>(0≤l∧l≤n)∧c
 | none,some h,none=>(0≤h∧h≤n)∧c
 | some l,some h,none=>(0≤l∧l≤h∧h≤n)∧c
 | none,some h,some m=>(0≤h∧h=m∧m≤n)∧c
 | some l,some h,some m=>(0≤l∧l≤h∧h=m∧m≤n)∧c
 | _,none,some _=>False
def ksl (T:List (Nat×TI))(t:Nat)(x:D)(lo hi mx:Option Int)(c:D→Prop):Prop:=kT T t fun ti=>match ti.el with
 | none=>False
 | some E=>kT T E fun te=>match x with
  | .sl n l _=>(match Nat.beq te.sz n with
   | true=>kbnd lo hi mx l.length (c (match mx with | none=>.sl n ((l.take (hi.getD l.length).toNat).drop (lo.getD 0).toNat) none | some _=>.cl n ((l.take (hi.getD l.length).toNat).drop (lo.getD 0).toNat)))
   | false=>False)
  | .v (.slice none 0 0)=>kbnd lo hi mx 0 (c (.v (.slice none 0 0)))
  | .ps g len=>(match lo,hi,mx with
   | some i,none,none=>(match Nat.ble 1 te.sz with | true=>(0≤i∧i≤(len:Int))∧c (.pt g len te.sz i.toNat) | false=>False)
   | _,_,_=>False)
  | _=>False
def kdc (ti:TI)(d:D)(c:List D→Prop):Prop:=match dcells ti d with
 | some l=>c l
 | none=>False
def kapp:List D→List D→(List D→Prop)→Prop
 | [],r,c=>c r
 | d :: l,r,c=>kapp l r fun x=>c (d :: x)
def kpartD (ti:TI)(f:Nat)(d:D)(c:Nat→Nat→List D→Prop):Prop:=match ti.fs[f]? with
 | none=>False
 | some (off,sz,ag)=>match ag with
  | true=>(match d with | .ag ds=>(match Nat.beq ds.length sz with | true=>c off sz ds | false=>False) | _=>False)
  | false=>(match Nat.beq sz 1&&d.one with | true=>c off sz [d] | false=>False)
def kfill (ti:TI):List D→List (Nat×Operand)→List D→(List D→Prop)→Prop
 | l,[],_,c=>c l
 | _,_ :: _,[],_=>False
 | l,(f,_) :: ps,d :: ds,c=>kpartD ti f d fun off sz vs=>ktake off l fun l1=>kdrop (off+sz) l fun l2=>kapp vs l2 fun l3=>kapp l1 l3 fun l4=>kfill ti l4 ps ds c
def kzs:List Value→(List D→Prop)→Prop
 | [],c=>c []
 | v :: l,c=>kzs l fun r=>c (.v v :: r)
def kbuild (T:List (Nat×TI))(σ:Env)(t:Nat)(parts:List (Nat×Operand))(c:D→Prop):Prop:=kT T t fun ti=>match Nat.beq ti.kd 6 with
 | false=>False
 | true=>kevs σ (parts.map (·.2)) fun ds=>kzs ti.z fun z=>kfill ti z parts ds fun l=>c (.ag l)
def kbin (T:List (Nat×TI))(t:Nat)(op:BinOp)(x y:D)(c:D→Prop):Prop:=kT T t fun ti=>match binD ti op x y with
 | some d=>c d
 | none=>False
def kopt {α:Type}(x:Option α)(c:α→Prop):Prop:=match x with
 | some d=>c d
 | none=>False
theorem kopt_some {α:Type}{x:Option α}{c:α→Prop}(h:kopt x c):∃ d,x=some d∧c d:=by
 cases x with
 | none=>exact h.elim
 | some d=>exact⟨d,rfl,h⟩
section sound
variable {σ:Env} {T:List (Nat×TI)}
theorem kget_some {k:Key}{c:D→Prop}(h:kget σ k c):∃ d,get σ k=some d∧c d:=by
 unfold kget at h
 cases hg:get σ k with
 | none=>rw[hg] at h;exact h.elim
 | some d=>rw[hg] at h;exact⟨d,rfl,h⟩
theorem kev_some {x:Operand}{c:D→Prop}(h:kev σ x c):∃ d,ev σ x=some d∧c d:=by
 cases x with
 | tmp t=>exact kget_some h
 | const v=>exact⟨_,rfl,h⟩
 | func f=>exact⟨_,rfl,h⟩
 | global g=>exact h.elim
theorem kevs_some:∀ {xs:List Operand} {c:List D→Prop},kevs σ xs c→∃ ds,evs σ xs=some ds∧c ds
 | [],c,h=>⟨[],rfl,h⟩
 | x :: xs,c,h=>by
  obtain⟨d,h1,h2⟩:=kev_some h
  obtain⟨ds,h3,h4⟩:=kevs_some h2
  exact⟨d :: ds,by simp[evs,h1,h3],h4⟩
theorem kcells_some {k:Nat}:∀ {n o:Nat} {c:List D→Prop},kcells σ k o n c→∃ l,cellsAt σ k o n=some l∧c l
 | 0,_,c,h=>⟨[],rfl,h⟩
 | n+1,o,c,h=>by
  obtain⟨d,h1,h2⟩:=kget_some h
  obtain⟨l,h3,h4⟩:=kcells_some h2
  exact⟨d :: l,by simp[cellsAt,h1,h3],h4⟩
theorem ktake_some:∀ {n:Nat} {l:List D} {c:List D→Prop},ktake n l c→n≤l.length∧c (l.take n)
 | 0,l,c,h=>⟨Nat.zero_le _,by simpa[ktake] using h⟩
 | n+1,d :: l,c,h=>by
  obtain⟨h1,h2⟩:=ktake_some (n:=n) (l:=l) h
  exact⟨by simp;omega,by simpa using h2⟩
 | _+1,[],_,h=>h.elim
theorem kdrop_some:∀ {n:Nat} {l:List D} {c:List D→Prop},kdrop n l c→n≤l.length∧c (l.drop n)
 | 0,l,c,h=>⟨Nat.zero_le _,by simpa[kdrop] using h⟩
 | n+1,d :: l,c,h=>by
  obtain⟨h1,h2⟩:=kdrop_some (n:=n) (l:=l) h
  exact⟨by simp;omega,by simpa using h2⟩
 | _+1,[],_,h=>h.elim
theorem kapp_some:∀ {l r:List D} {c:List D→Prop},kapp l r c→c (l++r)
 | [],_,_,h=>h
 | _ :: l,r,c,h=>kapp_some (l:=l) (r:=r) h
theorem kzs_some:∀ {l:List Value} {c:List D→Prop},kzs l c→c (l.map .v)
 | [],_,h=>h
 | _ :: l,c,h=>kzs_some (l:=l) h
theorem kT_some {t:Nat}{c:TI→Prop}(h:kT T t c):∃ ti,tget T t=some ti∧c ti:=by
 unfold kT at h
 cases hg:tget T t with
 | none=>rw[hg] at h;exact h.elim
 | some d=>rw[hg] at h;exact⟨d,rfl,h⟩
theorem kOf_some {ti:TI}{l:List D}{c:D→Prop}(h:kOf ti l c):∃ d,ofCells ti l=some d∧c d:=by
 unfold kOf at h
 unfold ofCells
 cases hag:ti.ag with
 | true=>
  rw[hag] at h
  cases hl:Nat.beq l.length ti.sz with
  | true=>
   rw[hl] at h
   exact⟨.ag l,by simp[Nat.eq_of_beq_eq_true hl],h⟩
  | false=>rw[hl] at h;exact h.elim
 | false=>
  rw[hag] at h
  match l,h with
  | [d],h=>exact⟨d,by simp,h⟩
theorem kOfP_some {ti:TI}{r:List D}{j n:Nat}{c:D→Prop}(hr:r.length=n)(hj:j+ti.sz≤n)(h:kOfP ti r j n c):∃ d,ofCells ti ((r.drop j).take ti.sz)=some d∧c d:=by
 unfold kOfP at h
 unfold ofCells
 have hl:((r.drop j).take ti.sz).length=ti.sz:=by simp;omega
 cases hag:ti.ag with
 | true=>
  rw[hag] at h
  dsimp only at h ⊢
  split at h
  ·rename_i hb
   simp only[Bool.and_eq_true] at hb
   have e1:=Nat.eq_of_beq_eq_true hb.1
   have e2:=Nat.eq_of_beq_eq_true hb.2
   refine⟨_,?_,h⟩
   subst e1
   rw[List.drop_zero,e2,←hr,List.take_length]
   simp
  ·refine⟨_,?_,h⟩
   simp[hl]
 | false=>
  rw[hag] at h
  dsimp only at h ⊢
  split at h
  ·rename_i hb
   have e1:=Nat.eq_of_beq_eq_true hb
   have hlt:j<r.length:=by omega
   rw[e1,List.drop_eq_getElem_cons hlt,List.take_succ_cons]
   refine⟨_,?_,h⟩
   simp[List.getD_eq_getElem?_getD,List.getElem?_eq_getElem hlt]
  ·exact h.elim
theorem kld_some {t:Nat}{x:D}{c:D→Prop}(h:kld T σ t x c):∃ e,ldD T σ t x=some e∧c e:=by
 obtain⟨ti,h1,h⟩:=kT_some h
 unfold ldD
 rw[h1]
 split at h
 ·obtain⟨l,h2,h3⟩:=kcells_some h
  obtain⟨d,h4,h5⟩:=kOf_some h3
  exact⟨d,by simp[h2,h4],h5⟩
 ·obtain⟨h2,h3⟩:=ktake_some h
  obtain⟨d,h4,h5⟩:=kOf_some h3
  exact⟨d,by simp[h2,h4],h5⟩
 ·obtain⟨d,h2,h⟩:=kget_some h
  split at h
  ·split at h
   ·rename_i hb
    simp only[Bool.and_eq_true] at hb
    have e1:=Nat.eq_of_beq_eq_true hb.1
    have e2:=Nat.le_of_ble_eq_true hb.2
    obtain⟨⟨a1,a2,a3⟩,h⟩:=h
    obtain⟨e,h4,h5⟩:=kOfP_some a3 e2 h
    refine⟨e,?_,h5⟩
    simp only[h2]
    rw[if_pos ⟨e1,a1,a2,e2⟩]
    exact h4
   ·exact h.elim
  ·exact h.elim
 ·exact h.elim
theorem kfield_some {t:Nat}{x:D}{f:Nat}{c:D→Prop}(h:kfield T t x f c):∃ e,fieldD T t x f=some e∧c e:=by
 obtain⟨ti,h1,h⟩:=kT_some h
 unfold fieldD
 rw[h1]
 split at h
 ·rename_i l off sz ag _ _
  have hf:ti.fs[f]?=some (off,sz,ag):=by assumption
  obtain⟨h2,h3⟩:=kdrop_some h
  obtain⟨h4,h5⟩:=ktake_some h3
  rw[List.length_drop] at h4
  have hle:off+sz≤l.length:=by omega
  cases ag with
  | true=>exact⟨_,by simp[hf,hle],h5⟩
  | false=>
   cases sz with
   | zero=>exact h5.elim
   | succ n=>
    have hlt:off<l.length:=by omega
    rw[List.drop_eq_getElem_cons hlt,List.take_succ_cons] at h5
    simp only at h5
    split at h5
    ·rename_i d he
     injection he with e1 e2
     exact⟨d,by simp[hf,hle,hlt,e1],h5⟩
    ·exact h5.elim
 ·exact h.elim
theorem kfaddr_some {t:Nat}{x:D}{f:Nat}{c:D→Prop}(h:kfaddr T t x f c):∃ e,faddrD T t x f=some e∧c e:=by
 obtain⟨ti,h1,h⟩:=kT_some h
 unfold faddrD
 rw[h1]
 split at h
 ·rename_i k o off a b _ _
  have hf:ti.fs[f]?=some (off,a,b):=by assumption
  exact⟨_,by simp[hf],h⟩
 ·rename_i l off a b _ _
  have hf:ti.fs[f]?=some (off,a,b):=by assumption
  obtain⟨h2,h3⟩:=kdrop_some h
  exact⟨_,by simp[hf,h2],h3⟩
 ·rename_i g len n i j off a b _ _
  have hf:ti.fs[f]?=some (off,a,b):=by assumption
  exact⟨_,by simp[hf],h⟩
 ·exact h.elim
theorem kiaddr_some {t:Nat}{x y:D}{c:D→Prop}(h:kiaddr T t x y c):∃ e,iaddrD T t x y=some e∧c e:=by
 obtain⟨ti,h1,h⟩:=kT_some h
 unfold iaddrD
 rw[h1]
 cases hel:ti.el with
 | none=>rw[hel] at h;exact h.elim
 | some e=>
  rw[hel] at h
  obtain⟨te,h2,h⟩:=kT_some h
  simp only[hel,h2]
  split at h
  ·split at h
   ·rename_i hb
    simp only[Bool.and_eq_true] at hb
    have e1:=Nat.eq_of_beq_eq_true hb.1
    have e2:=Nat.le_of_ble_eq_true hb.2
    refine⟨_,?_,h.2⟩
    dsimp only
    rw[if_pos (by simp[e1];omega),if_pos h.1]
   ·exact h.elim
  ·split at h
   ·rename_i hb
    have e2:=Nat.le_of_ble_eq_true hb
    exact⟨_,if_pos ⟨by omega,h.1.1,h.1.2⟩,h.2⟩
   ·exact h.elim
  ·exact h.elim
theorem kevI_some {x:Option Operand}{c:Option Int→Prop}(h:kevI σ x c):∃ i,evI σ x=some i∧c i:=by
 cases x with
 | none=>exact⟨none,rfl,h⟩
 | some x=>
  obtain⟨d,h1,h⟩:=kev_some h
  split at h
  ·exact⟨_,by simp[evI,h1],h⟩
  ·exact h.elim
theorem kbnd_some {lo hi mx:Option Int}{n:Nat}{c:Prop}(h:kbnd lo hi mx n c):(0≤lo.getD 0∧lo.getD 0≤hi.getD n∧hi.getD n≤mx.getD n∧(mx.isSome→hi.isSome)∧mx.getD n≤n)∧(∀ m',mx=some m'→m'=hi.getD n)∧c:=by
 match lo,hi,mx,h with
 | none,none,none,h=>exact⟨⟨Int.le_refl _,by simp,by simp,by simp,by simp⟩,nofun,h⟩
 | some l,none,none,h=>exact⟨⟨h.1.1,h.1.2,by simp,by simp,by simp⟩,nofun,h.2⟩
 | none,some k,none,h=>exact⟨⟨Int.le_refl _,h.1.1,h.1.2,by simp,by simp⟩,nofun,h.2⟩
 | some l,some k,none,h=>exact⟨⟨h.1.1,h.1.2.1,h.1.2.2,by simp,by simp⟩,nofun,h.2⟩
 | none,some k,some m,h=>exact⟨⟨Int.le_refl _,h.1.1,Int.le_of_eq h.1.2.1,by simp,h.1.2.2⟩,(fun m' e=>by cases e;exact h.1.2.1.symm),h.2⟩
 | some l,some k,some m,h=>exact⟨⟨h.1.1,h.1.2.1,Int.le_of_eq h.1.2.2.1,by simp,h.1.2.2.2⟩,(fun m' e=>by cases e;exact h.1.2.2.1.symm),h.2⟩
 | none,none,some m,h=>exact h.elim
 | some l,none,some m,h=>exact h.elim
theorem ksl_some {t:Nat}{x:D}{lo hi mx:Option Int}{c:D→Prop}(h:ksl T t x lo hi mx c):∃ e,sliceD T t x lo hi mx=some e∧c e:=by
 obtain⟨ti,h1,h⟩:=kT_some h
 unfold sliceD
 rw[h1]
 cases hel:ti.el with
 | none=>rw[hel] at h;exact h.elim
 | some e=>
  rw[hel] at h
  obtain⟨te,h2,h⟩:=kT_some h
  simp only[hel,h2]
  split at h
  ·split at h
   ·rename_i hb
    obtain⟨⟨q1,q2,q3,q4,q5⟩,q6,h⟩:=kbnd_some h
    refine⟨_,?_,h⟩
    dsimp only
    rw[if_pos ⟨Nat.eq_of_beq_eq_true hb,q1,q2,q3,q4,q5⟩]
    cases mx with
    | none=>rfl
    | some m=>dsimp only;rw[if_pos (q6 m rfl)]
   ·exact h.elim
  ·obtain⟨⟨q1,q2,q3,q4,q5⟩,_,h⟩:=kbnd_some h
   have z:((0:Nat):Int)=0:=rfl
   rw[z] at q2 q3 q5
   exact⟨_,if_pos ⟨by omega,by omega,by omega,q4⟩,h⟩
  ·split at h
   ·split at h
    ·rename_i hb
     have:=Nat.le_of_ble_eq_true hb
     exact⟨_,if_pos ⟨by omega,h.1.1,h.1.2⟩,h.2⟩
    ·exact h.elim
   ·exact h.elim
  ·exact h.elim
theorem klen_some {t:Nat}{x:D}{c:D→Prop}(h:klen T t x c):∃ e,lenD T t x=some e∧c e:=by
 obtain⟨ti,h1,h⟩:=kT_some h
 unfold lenD
 rw[h1]
 split at h
 ·split at h
  ·rename_i hb;exact⟨_,by simp[Nat.eq_of_beq_eq_true hb],h⟩
  ·exact h.elim
 ·split at h
  ·rename_i hb;exact⟨_,by simp[Nat.eq_of_beq_eq_true hb],h⟩
  ·exact h.elim
 ·split at h
  ·rename_i hb;exact⟨_,by simp[Nat.eq_of_beq_eq_true hb],h⟩
  ·exact h.elim
 ·split at h
  ·rename_i hb;exact⟨_,by simp[Nat.eq_of_beq_eq_true hb],h⟩
  ·exact h.elim
 ·exact h.elim
theorem kpartD_some {ti:TI}{f:Nat}{d:D}{c:Nat→Nat→List D→Prop}(h:kpartD ti f d c):∃ off sz ag ds,ti.fs[f]?=some (off,sz,ag)∧partD sz ag d=some ds∧c off sz ds:=by
 unfold kpartD at h
 split at h
 ·exact h.elim
 ·rename_i off sz ag hf
  cases ag with
  | true=>
   simp only at h
   split at h
   ·rename_i ds
    split at h
    ·rename_i hb;exact⟨off,sz,true,ds,hf,by simp[partD,Nat.eq_of_beq_eq_true hb],h⟩
    ·exact h.elim
   ·exact h.elim
  | false=>
   simp only at h
   split at h
   ·rename_i hb
    simp only[Bool.and_eq_true] at hb
    exact⟨off,sz,false,[d],hf,by simp[partD,Nat.eq_of_beq_eq_true hb.1,hb.2],h⟩
   ·exact h.elim
theorem kfill_some {ti:TI}:∀ {l:List D} {ps:List (Nat×Operand)} {ds:List D} {c:List D→Prop},kfill ti l ps ds c→∃ l',fillD ti l ((ps.map (·.1)).zip ds)=some l'∧c l'
 | l,[],ds,c,h=>⟨l,by simp[fillD],by cases ds <;> exact h⟩
 | l,_ :: _,[],c,h=>h.elim
 | l,(f,x) :: ps,d :: ds,c,h=>by
  obtain⟨off,sz,ag,vs,h1,h2,h3⟩:=kpartD_some h
  obtain⟨h4,h5⟩:=ktake_some h3
  obtain⟨h6,h7⟩:=kdrop_some h5
  obtain⟨l',h8,h9⟩:=kfill_some (kapp_some (kapp_some h7))
  refine⟨l',?_,h9⟩
  simp only[List.map_cons,List.zip_cons_cons,fillD,h1,h2]
  rw[if_pos h6,List.append_assoc]
  exact h8
theorem kbuild_some {t:Nat}{parts:List (Nat×Operand)}{c:D→Prop}(h:kbuild T σ t parts c):∃ e,buildD T σ t parts=some e∧c e:=by
 obtain⟨ti,h1,h⟩:=kT_some h
 unfold buildD
 rw[h1]
 split at h
 ·exact h.elim
 ·rename_i hb
  obtain⟨ds,h2,h3⟩:=kevs_some h
  obtain⟨l,h4,h5⟩:=kfill_some (kzs_some h3)
  exact⟨.ag l,by simp[Nat.eq_of_beq_eq_true hb,h2,h4],h5⟩
theorem kbin_some {t:Nat}{op:BinOp}{x y:D}{c:D→Prop}(h:kbin T t op x y c):∃ e,bin2 T t op (some x) (some y)=some e∧c e:=by
 obtain⟨ti,h1,h⟩:=kT_some h
 cases hb:binD ti op x y with
 | none=>rw[hb] at h;exact h.elim
 | some e=>rw[hb] at h;exact⟨e,by simp[bin2,h1,hb],h⟩
end sound
def kval (T:List (Nat×TI))(σ:Env)(o:Op)(c:D→Prop)(other:Prop):Prop:=match o with
 | .move x=>kev σ x c
 | .assign x=>kev σ x c
 | .pick x y z=>kev σ x fun d=>(match d with | .v (.bool t)=>(match t with | true=>kev σ y c | false=>kev σ z c) | _=>False)
 | .load t x=>kev σ x fun d=>kld T σ t d c
 | .nilCheck x=>kev σ x fun d=>kopt (nilD d) c
 | .binOp op t x y _=>kev σ x fun d=>kev σ y fun e=>kbin T t op d e c
 | .unOp op _ x=>kev σ x fun d=>kopt (unD op d) c
 | .convert s t x=>kev σ x fun d=>kopt (convD T s t d) c
 | .field t x f=>kev σ x fun d=>kfield T t d f c
 | .fieldAddr t x f=>kev σ x fun d=>kfaddr T t d f c
 | .indexAddr t x y=>kev σ x fun d=>kev σ y fun e=>kiaddr T t d e c
 | .extract x i=>kev σ x fun d=>kopt (extractD d i) c
 | .makeFunc f first caps=>(match f,first.toList with | .func f,[]=>kevs σ caps.toList fun ds=>c (.fn f ds) | _,_=>False)
 | .build t parts=>kbuild T σ t parts.toList c
 | .slice t x lo hi mx=>kev σ x fun d=>kevI σ lo fun lo=>kevI σ hi fun hi=>kevI σ mx fun mx=>ksl T t d lo hi mx c
 | .call cl=>(match cl.callee,cl.args.toList,cl.argTypes.toList with
  | .builtin .len,[x],[t]=>kev σ x fun d=>klen T t d c
  | .builtin .min,[x,y],[_,_]=>kev σ x fun d=>kev σ y fun e=>kopt (minD d e) c
  | .builtin .max,[x,y],[_,_]=>kev σ x fun d=>kev σ y fun e=>kopt (maxD d e) c
  | _,_,_=>other)
 | _=>other
theorem kval_some {T:List (Nat×TI)}{σ:Env}{o:Oper}{c:D→Prop}{other:Prop}(h:kval T σ o.op c other):(∃ V,pval T σ o=some V∧c V)∨other:=by
 unfold kval at h
 unfold pval
 split at h
 ·rename_i x ho;rw[ho];exact .inl (kev_some h)
 ·rename_i x ho;rw[ho];exact .inl (kev_some h)
 ·rename_i x y z ho
  rw[ho]
  obtain⟨d,h1,h2⟩:=kev_some h
  split at h2
  ·rename_i t
   cases t with
   | true=>obtain⟨e,h3,h4⟩:=kev_some h2;exact .inl ⟨e,by simp[pickD,h1,h3],h4⟩
   | false=>obtain⟨e,h3,h4⟩:=kev_some h2;exact .inl ⟨e,by simp[pickD,h1,h3],h4⟩
  ·exact h2.elim
 ·rename_i t x ho
  rw[ho]
  obtain⟨d,h1,h2⟩:=kev_some h
  obtain⟨e,h3,h4⟩:=kld_some h2
  exact .inl ⟨e,by simp[h1,h3],h4⟩
 ·rename_i x ho
  rw[ho]
  obtain⟨d,h1,h2⟩:=kev_some h
  obtain⟨e,h3,h4⟩:=kopt_some h2
  exact .inl ⟨e,by simp[h1,h3],h4⟩
 ·rename_i op t x y _ ho
  rw[ho]
  obtain⟨d,h1,h2⟩:=kev_some h
  obtain⟨e,h3,h4⟩:=kev_some h2
  obtain⟨f,h5,h6⟩:=kbin_some h4
  exact .inl ⟨f,by simp[h1,h3,h5],h6⟩
 ·rename_i op t x ho
  rw[ho]
  obtain⟨d,h1,h2⟩:=kev_some h
  obtain⟨e,h3,h4⟩:=kopt_some h2
  exact .inl ⟨e,by simp[h1,h3],h4⟩
 ·rename_i t t2 x ho
  rw[ho]
  obtain⟨d,h1,h2⟩:=kev_some h
  obtain⟨e,h3,h4⟩:=kopt_some h2
  exact .inl ⟨e,by simp[h1,h3],h4⟩
 ·rename_i t x f ho
  rw[ho]
  obtain⟨d,h1,h2⟩:=kev_some h
  obtain⟨e,h3,h4⟩:=kfield_some h2
  exact .inl ⟨e,by simp[h1,h3],h4⟩
 ·rename_i t x f ho
  rw[ho]
  obtain⟨d,h1,h2⟩:=kev_some h
  obtain⟨e,h3,h4⟩:=kfaddr_some h2
  exact .inl ⟨e,by simp[h1,h3],h4⟩
 ·rename_i t x y ho
  rw[ho]
  obtain⟨d,h1,h2⟩:=kev_some h
  obtain⟨e,h3,h4⟩:=kev_some h2
  obtain⟨f,h5,h6⟩:=kiaddr_some h4
  exact .inl ⟨f,by simp[h1,h3,h5],h6⟩
 ·rename_i x i ho
  rw[ho]
  obtain⟨d,h1,h2⟩:=kev_some h
  obtain⟨e,h3,h4⟩:=kopt_some h2
  exact .inl ⟨e,by simp[h1,h3],h4⟩
 ·rename_i f first caps ho
  rw[ho]
  split at h
  ·rename_i f' hf
   obtain⟨ds,h1,h2⟩:=kevs_some h
   exact .inl ⟨_,by simp[makeFnD,hf,h1],h2⟩
  ·exact h.elim
 ·rename_i t parts ho
  rw[ho]
  obtain⟨e,h1,h2⟩:=kbuild_some h
  exact .inl ⟨e,h1,h2⟩
 ·rename_i t x lo hi mx ho
  rw[ho]
  obtain⟨d,h1,h⟩:=kev_some h
  obtain⟨i,h2,h⟩:=kevI_some h
  obtain⟨j,h3,h⟩:=kevI_some h
  obtain⟨k,h4,h⟩:=kevI_some h
  obtain⟨e,h5,h⟩:=ksl_some h
  exact .inl ⟨e,by simp only[slD,h1,h2,h3,h4];exact h5,h⟩
 ·rename_i cl ho
  rw[ho]
  split at h
  ·rename_i x t h1 h2 h3
   obtain⟨d,q1,q2⟩:=kev_some h
   obtain⟨e,q3,q4⟩:=klen_some q2
   exact .inl ⟨e,by simp[h1,h2,h3,q1,q3],q4⟩
  ·rename_i x y t t' h1 h2 h3
   obtain⟨d,q1,h⟩:=kev_some h
   obtain⟨e,q2,h⟩:=kev_some h
   obtain⟨f,q3,h⟩:=kopt_some h
   exact .inl ⟨f,by simp[h1,h2,h3,q1,q2,q3],h⟩
  ·rename_i x y t t' h1 h2 h3
   obtain⟨d,q1,h⟩:=kev_some h
   obtain⟨e,q2,h⟩:=kev_some h
   obtain⟨f,q3,h⟩:=kopt_some h
   exact .inl ⟨f,by simp[h1,h2,h3,q1,q2,q3],h⟩
  ·exact .inr h
 ·exact .inr h
theorem pval_none_of_mop {T:List (Nat×TI)}{σ:Env}{nm:Nat}{o:Oper}{V:D}{W:List (Key×D)}{R:List Key}(h:mop T σ nm o=some (V,W,R)):pval T σ o=none:=by
 unfold mop at h
 unfold pval
 split at h
 ·rename_i t ho;rw[ho]
 ·rename_i t x ho;rw[ho]
 ·rename_i t x y ho;rw[ho]
 ·rename_i t len parts ho;rw[ho]
 ·rename_i t l x ho;rw[ho]
 ·rename_i ho;rw[ho]
 ·rename_i ho;rw[ho]
 ·rename_i ho;rw[ho]
 ·rename_i ho;rw[ho]
 ·rename_i cl ho
  rw[ho]
  split at h
  ·rename_i x y t t' h1 h2 h3;simp[h1]
  ·rename_i x t h1 h2 h3;simp[h1]
  ·cases h
 ·cases h
theorem none_of_call {T:List (Nat×TI)}{σ:Env}{nm:Nat}{o:Oper}{r:FuncId×List D}(h:callD σ o=some r):pval T σ o=none∧mop T σ nm o=none:=by
 unfold callD at h
 split at h
 ·rename_i cl ho
  split at h
  ·rename_i x hc
   unfold pval mop
   rw[ho]
   simp[hc]
  ·cases h
 ·cases h
def natsL:List Nat:=[0,1,2,3,4,5,6,7,8,9,10,11,12,13,14,15,16,17,18,19,20,21,22,23,24,25,26,27,28,29,30,31,32,33,34,35,36,37,38,39,40,41,42,43,44,45,46,47,48,49,50,51,52,53,54,55,56,57,58,59,60,61,62,63,64,65,66,67,68,69,70,71,72,73,74,75,76,77,78,79,80,81,82,83,84,85,86,87,88,89,90,91,92,93,94,95,96,97,98,99,100,101,102,103,104,105,106,107,108,109,110,111,112,113,114,115,116,117,118,119,120,121,122,123,124,125,126,127,128,129,130,131,132,133,134,135,136,137,138,139,140,141,142,143,144,145,146,147,148,149,150,151,152,153,154,155,156,157,158,159,160,161,162,163,164,165,166,167,168,169,170,171,172,173,174,175,176,177,178,179,180,181,182,183,184,185,186,187,188,189,190,191,192,193,194,195,196,197,198,199,200,201,202,203,204,205,206,207,208,209,210,211,212,213,214,215,216,217,218,219,220,221,222,223,224,225,226,227,228,229,230,231,232,233,234,235,236,237,238,239,240,241,242,243,244,245,246,247,248,249,250,251,252,253,254,255]
set_option maxRecDepth 100000 in
theorem natsL_eq:natsL=List.range 256:=by decide
def knat (n:Nat)(c:Nat→Prop):Prop:=match natsL[n]? with
 | some k=>c k
 | none=>False
theorem knat_some {n:Nat}{c:Nat→Prop}(h:knat n c):c n:=by
 unfold knat at h
 rw[natsL_eq] at h
 by_cases hn:n<256
 ·rw[List.getElem?_range hn] at h;exact h
 ·rw[List.getElem?_eq_none (by simpa using hn)] at h;exact h.elim
def kco (k:Nat):Nat→List D→(List (Key×D)→Prop)→Prop
 | _,[],c=>c []
 | o,d :: l,c=>knat o fun o=>kco k (o+1) l fun r=>c ((.c k o,d) :: r)
theorem kco_some {k:Nat}:∀ {l:List D} {o:Nat} {c:List (Key×D)→Prop},kco k o l c→c (cellsOf k o l)
 | [],_,_,h=>h
 | d :: l,o,c,h=>by
  have h:=knat_some h
  exact kco_some (l:=l) h
def krows (te:TI):List D→(List (List D)→Prop)→Prop
 | [],c=>c []
 | d :: l,c=>kdc te d fun x=>krows te l fun r=>c (x :: r)
theorem kdc_some {ti:TI}{d:D}{c:List D→Prop}(h:kdc ti d c):∃ l,dcells ti d=some l∧c l:=by
 unfold kdc at h
 cases hg:dcells ti d with
 | none=>rw[hg] at h;exact h.elim
 | some l=>rw[hg] at h;exact⟨l,rfl,h⟩
theorem krows_some {te:TI}:∀ {l:List D} {c:List (List D)→Prop},krows te l c→∃ rows,rowsD te l=some rows∧c rows
 | [],_,h=>⟨[],rfl,h⟩
 | d :: l,c,h=>by
  obtain⟨x,h1,h2⟩:=kdc_some h
  obtain⟨rows,h3,h4⟩:=krows_some h2
  exact⟨x :: rows,by simp[rowsD,h1,h3],h4⟩
def ksrc (n:Nat)(y:D)(c:List (List D)→Prop):Prop:=match y with
 | .sl n' l _=>(match Nat.beq n' n with | true=>c l | false=>False)
 | .v (.slice _ 0 _)=>c []
 | _=>False
theorem ksrc_some {n:Nat}{y:D}{c:List (List D)→Prop}(h:ksrc n y c):∃ l,srcD n y=some l∧c l:=by
 unfold ksrc at h
 unfold srcD
 split at h
 ·split at h
  ·rename_i hb;exact⟨_,by simp[Nat.eq_of_beq_eq_true hb],h⟩
  ·exact h.elim
 ·exact⟨_,rfl,h⟩
 ·exact h.elim
def kapd (T:List (Nat×TI))(σ:Env)(nm:Nat)(t:Nat)(x y:D)(c:D→List (Key×D)→List Key→Prop):Prop:=kT T t fun ti=>match ti.el with
 | none=>False
 | some E=>kT T E fun te=>ksrc te.sz y fun l2=>match Nat.ble 1 te.sz&&Nat.ble te.bys 1000 with
  | false=>False
  | true=>match x with
   | .v (.slice none 0 0)=>l2.length≤1000000∧c (.sl te.sz l2 (some nm)) [(.r nm,.rw E te.sz l2.length)] []
   | .sl n l (some g)=>kget σ (.r g) fun d=>match d with
    | .rw E' n' len=>(match Nat.beq E' E&&Nat.beq n' te.sz&&Nat.beq n te.sz with
     | true=>(len=l.length∧l.length+l2.length≤1000000)∧c (.sl n (l++l2) (some g)) [(.r g,.rw E n (l++l2).length)] [.r g]
     | false=>False)
    | _=>False
   | .ps g len=>kget σ (.r g) fun d=>(match d with
    | .rp E' n' l=>(match Nat.beq E' E&&Nat.beq n' te.sz with
     | true=>(len=l.length∧l.length+l2.length≤1000000)∧c (.ps g (len+l2.length)) [(.r g,.rp E' n' (l++l2))] [.r g]
     | false=>False)
    | .rw E' n' 0=>(match Nat.beq E' E&&Nat.beq n' te.sz&&Nat.beq len 0 with
     | true=>(l2.length≤1000000)∧c (.ps g l2.length) [(.r g,.rp E' n' l2)] [.r g]
     | false=>False)
    | _=>False)
   | .cl n l=>(match Nat.beq n te.sz with
    | true=>(0<l2.length∧l.length+l2.length≤1000000)∧c (.sl n (l++l2) (some nm)) [(.r nm,.rw E n (l++l2).length)] []
    | false=>False)
   | _=>False
theorem kapd_some {T:List (Nat×TI)}{σ:Env}{nm t:Nat}{x y:D}{c:D→List (Key×D)→List Key→Prop}(h:kapd T σ nm t x y c):∃ V W R,appD T σ nm t x y=some (V,W,R)∧c V W R:=by
 obtain⟨ti,h1,h⟩:=kT_some h
 unfold appD
 rw[h1]
 cases hE:ti.el with
 | none=>rw[hE] at h;exact h.elim
 | some E=>
  rw[hE] at h
  obtain⟨te,h2,h⟩:=kT_some h
  obtain⟨l2,h3,h⟩:=ksrc_some h
  split at h
  ·exact h.elim
  ·rename_i hb
   simp only[Bool.and_eq_true] at hb
   have b1:=Nat.le_of_ble_eq_true hb.1
   have b2:=Nat.le_of_ble_eq_true hb.2
   simp only[hE,h2,h3]
   rw[if_pos ⟨by omega,b2⟩]
   split at h
   ·rw[if_pos h.1];exact⟨_,_,_,rfl,h.2⟩
   ·obtain⟨d,h4,h⟩:=kget_some h
    split at h
    ·split at h
     ·rename_i hc
      simp only[Bool.and_eq_true] at hc
      have c1:=Nat.eq_of_beq_eq_true hc.1.1
      have c2:=Nat.eq_of_beq_eq_true hc.1.2
      have c3:=Nat.eq_of_beq_eq_true hc.2
      simp only[h4]
      rw[if_pos ⟨c1,c2,c3,h.1.1,h.1.2⟩]
      exact⟨_,_,_,rfl,h.2⟩
     ·exact h.elim
    ·exact h.elim
   ·obtain⟨d,h4,h⟩:=kget_some h
    split at h
    ·split at h
     ·rename_i hc
      simp only[Bool.and_eq_true] at hc
      have c1:=Nat.eq_of_beq_eq_true hc.1
      have c2:=Nat.eq_of_beq_eq_true hc.2
      simp only[h4]
      rw[if_pos ⟨c1,c2,h.1.1,h.1.2⟩]
      exact⟨_,_,_,rfl,h.2⟩
     ·exact h.elim
    ·split at h
     ·rename_i hc
      simp only[Bool.and_eq_true] at hc
      have c1:=Nat.eq_of_beq_eq_true hc.1.1
      have c2:=Nat.eq_of_beq_eq_true hc.1.2
      have c3:=Nat.eq_of_beq_eq_true hc.2
      simp only[h4]
      rw[if_pos ⟨c1,c2,c3,h.1⟩]
      exact⟨_,_,_,rfl,h.2⟩
     ·exact h.elim
    ·exact h.elim
   ·split at h
    ·rename_i hc
     dsimp only
     rw[if_pos ⟨Nat.eq_of_beq_eq_true hc,h.1.1,h.1.2⟩];exact⟨_,_,_,rfl,h.2⟩
    ·exact h.elim
   ·exact h.elim
def kclr (T:List (Nat×TI))(σ:Env)(t:Nat)(x:D)(c:D→List (Key×D)→List Key→Prop):Prop:=kT T t fun ti=>match ti.el,x with
 | some E,.pt g len n lo=>kT T E fun te=>kget σ (.r g) fun d=>(match d with
  | .rp E' n' l=>(match Nat.beq E' E&&Nat.beq n' n&&Nat.beq te.sz n&&Nat.ble 1 n with
   | true=>(l.length=len∧lo≤len)∧c (.tu []) [(.r g,.rp E' n' (l.take lo++List.replicate (len-lo) (te.z.map .v)))] [.r g]
   | false=>False)
  | _=>False)
 | _,_=>False
theorem kclr_some {T:List (Nat×TI)}{σ:Env}{t:Nat}{x:D}{c:D→List (Key×D)→List Key→Prop}(h:kclr T σ t x c):∃ V W R,clrD T σ t x=some (V,W,R)∧c V W R:=by
 obtain⟨ti,h1,h⟩:=kT_some h
 unfold clrD
 rw[h1]
 split at h
 ·rename_i E g len n lo hel _
  obtain⟨te,h2,h⟩:=kT_some h
  obtain⟨d,h3,h⟩:=kget_some h
  split at h
  ·split at h
   ·rename_i hb
    simp only[Bool.and_eq_true] at hb
    have b1:=Nat.eq_of_beq_eq_true hb.1.1.1
    have b2:=Nat.eq_of_beq_eq_true hb.1.1.2
    have b3:=Nat.eq_of_beq_eq_true hb.1.2
    have b4:=Nat.le_of_ble_eq_true hb.2
    simp only[hel,h2,h3]
    rw[if_pos ⟨b1,b2,b3,by omega,h.1.1,h.1.2⟩]
    exact⟨_,_,_,rfl,h.2⟩
   ·exact h.elim
  ·exact h.elim
 ·exact h.elim
def klk (T:List (Nat×TI))(σ:Env)(t:Nat)(x y:D)(ok:Bool)(c:D→List (Key×D)→List Key→Prop):Prop:=kT T t fun ti=>match x,y,ti.mv with
 | .mo k,.v (.int .i64 n),some e=>kT T e fun te=>kget σ (.o k) fun d=>(match d with | .mp l=>c (lookD te l n ok) [] [.o k] | _=>False)
 | _,_,_=>False
def kupd (T:List (Nat×TI))(σ:Env)(t:Nat)(x y z:D)(c:D→List (Key×D)→List Key→Prop):Prop:=kT T t fun ti=>match x,y,ti.mv with
 | .mo k,.v (.int .i64 n),some _=>kget σ (.o k) fun d=>(match d with | .mp l=>c (.v undef) [(.o k,.mp (mput l n z))] [.o k] | _=>False)
 | _,_,_=>False
theorem klk_some {T:List (Nat×TI)}{σ:Env}{t:Nat}{x y:D}{ok:Bool}{c:D→List (Key×D)→List Key→Prop}(h:klk T σ t x y ok c):∃ V W R,lkD T σ t (some x) (some y) ok=some (V,W,R)∧c V W R:=by
 obtain⟨ti,h1,h⟩:=kT_some h
 unfold lkD
 simp only[h1]
 split at h
 ·obtain⟨te,h2,h⟩:=kT_some h
  obtain⟨d,h3,h⟩:=kget_some h
  split at h
  ·exact⟨_,_,_,by simp[*],h⟩
  ·exact h.elim
 ·exact h.elim
theorem kupd_some {T:List (Nat×TI)}{σ:Env}{t:Nat}{x y z:D}{c:D→List (Key×D)→List Key→Prop}(h:kupd T σ t x y z c):∃ V W R,updD T σ t (some x) (some y) (some z)=some (V,W,R)∧c V W R:=by
 obtain⟨ti,h1,h⟩:=kT_some h
 unfold updD
 simp only[h1]
 split at h
 ·obtain⟨d,h3,h⟩:=kget_some h
  split at h
  ·exact⟨_,_,_,by simp[*],h⟩
  ·exact h.elim
 ·exact h.elim
def kmop (T:List (Nat×TI))(σ:Env)(nm:Nat)(o:Op)(c:D→List (Key×D)→List Key→Prop)(other:Prop):Prop:=match o with
 | .alloc t=>kT T t fun ti=>kzs ti.z fun z=>kco nm 0 z fun W=>c (.p nm 0) W []
 | .box t x=>kT T t fun ti=>kev σ x fun d=>kdc ti d fun l=>kco nm 0 l fun W=>c (.p nm 0) W []
 | .store t x y=>kT T t fun ti=>kev σ x fun d=>(match d with
  | .p k off=>kev σ y fun e=>kdc ti e fun l=>kcells σ k off ti.sz fun _=>kco k off l fun W=>c (.v undef) W ((List.range ti.sz).map fun i=>.c k (off+i))
  | .pr g len n i j=>kget σ (.r g) fun d=>(match d with
   | .rp E n' l=>(match Nat.beq n' n&&Nat.ble (j+ti.sz) n with
    | true=>(l.length=len∧i<len)∧kev σ y fun e=>kdc ti e fun cs=>c (.v undef) [(.r g,.rp E n (l.set i (rowPut (l.getD i []) j n cs)))] [.r g]
    | false=>False)
   | _=>False)
  | _=>False)
 | .buildSlice t len parts=>kT T t fun ti=>(match ti.el with
  | none=>False
  | some E=>kT T E fun te=>(match parts.toList.length==len&&inOrder 0 (parts.toList.map (·.1))&&decide (0<te.sz)&&decide (len * te.sz≤16777216) with
   | true=>kevs σ (parts.toList.map (·.2)) fun ds=>krows te ds fun rows=>c (.sl te.sz rows (some nm)) [(.r nm,.rw E te.sz len)] []
   | false=>False))
 | .makeSlice t l x=>kT T t fun ti=>(match ti.el with
  | none=>False
  | some E=>kT T E fun te=>kev σ l fun d=>kev σ x fun e=>(match d,e with
   | .v (.int .i64 0),.v (.int .i64 n)=>(match Nat.ble 1 te.sz&&Nat.ble te.bys 1000 with
    | true=>(0≤n∧n≤1000000)∧c (.sl te.sz [] (some nm)) [(.r nm,.rw E te.sz 0)] []
    | false=>False)
   | _,_=>False))
 | .lookup t x y ok=>kev σ x fun d=>kev σ y fun e=>klk T σ t d e ok c
 | .mapUpdate t x y z=>kev σ x fun d=>kev σ y fun e=>kev σ z fun f=>kupd T σ t d e f c
 | .insert t x y z=>kev σ x fun d=>kev σ y fun e=>kev σ z fun f=>kupd T σ t d e f c
 | .makeMap _ r=>(match r with | none=>c (.mo nm) [(.o nm,.mp [])] [] | some _=>False)
 | .call cl=>(match cl.callee,cl.args.toList,cl.argTypes.toList with
  | .builtin .append,[x,y],[t,t']=>(match Nat.beq t t' with
   | true=>kev σ x fun d=>kev σ y fun e=>kapd T σ nm t d e c
   | false=>False)
  | .builtin .clear,[x],[t]=>kev σ x fun d=>kclr T σ t d c
  | _,_,_=>other)
 | _=>other
theorem kmop_some {T:List (Nat×TI)}{σ:Env}{nm:Nat}{o:Oper}{c:D→List (Key×D)→List Key→Prop}{other:Prop}(h:kmop T σ nm o.op c other):(∃ V W R,mop T σ nm o=some (V,W,R)∧c V W R)∨other:=by
 unfold kmop at h
 unfold mop
 split at h
 ·rename_i t ho
  rw[ho]
  obtain⟨ti,h1,h⟩:=kT_some h
  exact .inl ⟨_,_,_,by simp[h1],kco_some (kzs_some h)⟩
 ·rename_i t x ho
  rw[ho]
  obtain⟨ti,h1,h⟩:=kT_some h
  obtain⟨d,h2,h⟩:=kev_some h
  obtain⟨l,h3,h⟩:=kdc_some h
  exact .inl ⟨_,_,_,by simp[h1,h2,h3],kco_some h⟩
 ·rename_i t x y ho
  rw[ho]
  obtain⟨ti,h1,h⟩:=kT_some h
  obtain⟨d,h2,h⟩:=kev_some h
  split at h
  ·obtain⟨e,h3,h⟩:=kev_some h
   obtain⟨l,h4,h⟩:=kdc_some h
   obtain⟨l0,h5,h⟩:=kcells_some h
   exact .inl ⟨_,_,_,by simp[h1,h2,h3,h4,h5],kco_some h⟩
  ·obtain⟨d,h3,h⟩:=kget_some h
   split at h
   ·split at h
    ·rename_i hb
     simp only[Bool.and_eq_true] at hb
     have e1:=Nat.eq_of_beq_eq_true hb.1
     have e2:=Nat.le_of_ble_eq_true hb.2
     obtain⟨⟨a1,a2⟩,h⟩:=h
     obtain⟨e,h4,h⟩:=kev_some h
     obtain⟨cs,h5,h⟩:=kdc_some h
     refine .inl ⟨_,_,_,?_,h⟩
     simp only[h1,h2,h3,Option.bind_some]
     rw[if_pos ⟨e1,a1,a2,e2⟩,h4]
     simp[h5]
    ·exact h.elim
   ·exact h.elim
  ·exact h.elim
 ·rename_i t len parts ho
  rw[ho]
  obtain⟨ti,h1,h⟩:=kT_some h
  cases hE:ti.el with
  | none=>rw[hE] at h;exact h.elim
  | some E=>
   rw[hE] at h
   obtain⟨te,h2,h⟩:=kT_some h
   split at h
   ·rename_i hc
    obtain⟨ds,h3,h⟩:=kevs_some h
    obtain⟨rows,h4,h⟩:=krows_some h
    refine .inl ⟨_,_,_,?_,h⟩
    unfold bslD
    simp only[h1,hE,h2,hc,h3,h4,if_true,Option.map_some]
   ·exact h.elim
 ·rename_i t l x ho
  rw[ho]
  obtain⟨ti,h1,h⟩:=kT_some h
  cases hE:ti.el with
  | none=>rw[hE] at h;exact h.elim
  | some E=>
   rw[hE] at h
   obtain⟨te,h2,h⟩:=kT_some h
   obtain⟨d,h3,h⟩:=kev_some h
   obtain⟨e,h4,h⟩:=kev_some h
   split at h
   ·split at h
    ·rename_i hb
     simp only[Bool.and_eq_true] at hb
     refine .inl ⟨_,_,_,?_,h.2⟩
     unfold mkslD
     simp only[h1,hE,h2,h3,h4]
     rw[if_pos ⟨by have:=Nat.le_of_ble_eq_true hb.1;omega,Nat.le_of_ble_eq_true hb.2,h.1.1,h.1.2⟩]
    ·exact h.elim
   ·exact h.elim
 ·rename_i t x y ok ho
  rw[ho]
  obtain⟨d,h1,h⟩:=kev_some h
  obtain⟨e,h2,h⟩:=kev_some h
  obtain⟨V,W,R,h3,h⟩:=klk_some h
  exact .inl ⟨V,W,R,by simp only[h1,h2];exact h3,h⟩
 ·rename_i t x y z ho
  rw[ho]
  obtain⟨d,h1,h⟩:=kev_some h
  obtain⟨e,h2,h⟩:=kev_some h
  obtain⟨f,h3,h⟩:=kev_some h
  obtain⟨V,W,R,h4,h⟩:=kupd_some h
  exact .inl ⟨V,W,R,by simp only[h1,h2,h3];exact h4,h⟩
 ·rename_i t x y z ho
  rw[ho]
  obtain⟨d,h1,h⟩:=kev_some h
  obtain⟨e,h2,h⟩:=kev_some h
  obtain⟨f,h3,h⟩:=kev_some h
  obtain⟨V,W,R,h4,h⟩:=kupd_some h
  exact .inl ⟨V,W,R,by simp only[h1,h2,h3];exact h4,h⟩
 ·rename_i t r ho
  rw[ho]
  split at h
  ·exact .inl ⟨_,_,_,rfl,h⟩
  ·exact h.elim
 ·rename_i cl ho
  rw[ho]
  split at h
  ·rename_i x y t t' h1 h2 h3
   split at h
   ·rename_i hb
    have:=Nat.eq_of_beq_eq_true hb
    subst this
    obtain⟨d,q1,q2⟩:=kev_some h
    obtain⟨e,q3,q4⟩:=kev_some q2
    obtain⟨V,W,R,q5,q6⟩:=kapd_some q4
    exact .inl ⟨V,W,R,by simp[h1,h2,h3,q1,q3,q5],q6⟩
   ·exact h.elim
  ·rename_i x t h1 h2 h3
   obtain⟨d,q1,q2⟩:=kev_some h
   obtain⟨V,W,R,q5,q6⟩:=kclr_some q2
   exact .inl ⟨V,W,R,by simp[h1,h2,h3,q1,q5],q6⟩
  ·exact .inr h
 ·exact .inr h
def kov:List (Nat×D)→Option Tmp→D→(D→Prop)→Prop
 | [],_,V,c=>c V
 | _ :: _,none,V,c=>c V
 | (t,V') :: r,some d,V,c=>match Nat.beq t d with
  | true=>VLe V V'∧c V'
  | false=>kov r (some d) V c
theorem kov_some:∀ {ov:List (Nat×D)} {dst:Option Tmp} {V:D} {c:D→Prop},kov ov dst V c→∃ V',VLe V V'∧c V'
 | [],_,_,_,h=>⟨_,VLe.refl _,h⟩
 | _ :: _,none,_,_,h=>⟨_,VLe.refl _,h⟩
 | (t,V') :: r,some d,V,c,h=>by
  unfold kov at h
  split at h
  ·exact⟨V',h.1,h.2⟩
  ·exact kov_some h
def kputs (σ:Env):List (Key×D)→(Env→Prop)→Prop
 | [],c=>c σ
 | (k,d) :: r,c=>kputs ((k,d) :: σ) r c
theorem kputs_some:∀ {W:List (Key×D)} {σ:Env} {c:Env→Prop},kputs σ W c→c (puts σ W)
 | [],_,_,h=>h
 | (k,d) :: W,σ,c,h=>kputs_some (W:=W) h
def kdst (σ:Env)(dst:Option Tmp)(V:D)(c:Env→Prop):Prop:=match dst with
 | none=>c σ
 | some d=>c ((.t d,V) :: σ)
theorem kdst_some {σ:Env}{dst:Option Tmp}{V:D}{c:Env→Prop}(h:kdst σ dst V c):c (puts σ (dW dst V)):=by
 cases dst with
 | none=>exact h
 | some d=>exact h
def kR (σ:Env):List (Key×D)→Prop
 | []=>True
 | (k,d) :: r=>(get σ k=some d∧ckeyR k=true)∧kR σ r
theorem kR_all {σ:Env}:∀ {R:List (Key×D)},kR σ R→∀ p∈R,get σ p.1=some p.2∧ckeyR p.1=true
 | [],_,p,hp=>by cases hp
 | (k,d) :: r,h,p,hp=>by
  rcases List.mem_cons.1 hp with rfl | hp
  ·exact h.1
  ·exact kR_all h.2 p hp
def kdrop1 (R:List (Key×D)):Env→(Env→Prop)→Prop
 | [],c=>c []
 | (k,d) :: σ,c=>match touches R k with
  | true=>kdrop1 R σ c
  | false=>kdrop1 R σ fun s=>c ((k,d) :: s)
def kdropT (R:List (Key×D))(σ:Env)(c:Env→Prop):Prop:=match R with
 | []=>c σ
 | r :: l=>kdrop1 (r :: l) σ c
theorem kdrop1_some {R:List (Key×D)}:∀ {σ:Env} {c:Env→Prop},kdrop1 R σ c→c (dropT R σ)
 | [],_,h=>h
 | (k,d) :: σ,c,h=>by
  unfold kdrop1 at h
  unfold dropT
  rw[List.filter_cons]
  split at h
  ·rename_i e;simp only[e];exact kdrop1_some h
  ·rename_i e;simp only[e];exact kdrop1_some (c:=fun s=>c ((k,d) :: s)) h
theorem kdropT_some {R:List (Key×D)}{σ:Env}{c:Env→Prop}(h:kdropT R σ c):c (dropT R σ):=by
 cases R with
 | nil=>rw[dropT_nil];exact h
 | cons r l=>exact kdrop1_some h
def kcall (σ:Env)(o:Op)(c:FuncId→List D→Prop):Prop:=match o with
 | .call cl=>(match cl.callee with
  | .value x=>kev σ x fun d=>(match d with
   | .fn f caps=>kevs σ cl.args.toList fun ars=>kapp ars caps fun ars=>c f ars
   | _=>False)
  | _=>False)
 | _=>False
theorem kcall_some {σ:Env}{o:Oper}{c:FuncId→List D→Prop}(h:kcall σ o.op c):∃ f ars,callD σ o=some (f,ars)∧c f ars:=by
 unfold kcall at h
 unfold callD
 split at h
 ·rename_i cl ho
  try rw[ho]
  split at h
  ·rename_i x hc
   obtain⟨d,h1,h⟩:=kev_some h
   split at h
   ·obtain⟨ars,h2,h⟩:=kevs_some h
    exact⟨_,_,by simp[hc,h1,h2],kapp_some h⟩
   ·exact h.elim
  ·exact h.elim
 ·exact h.elim
def klg (draw:Bool)(e:Ent)(lg:List Ent)(c:List Ent→Prop):Prop:=match draw with
 | true=>c (e :: lg)
 | false=>c lg
def DRk (P:Program)(T:List (Nat×TI))(ops:Array Oper)(nm:Nat)(draw:Bool)(ov:List (Nat×D)):List Oper→Nat→Env→List Ent→(Env→List Ent→Prop)→Prop
 | [],_,σ,lg,K=>K σ lg
 | o :: r,i,σ,lg,K=>
  match gd ops σ o.guard with
  | none=>False
  | some false=>kdst σ o.dst (.v undef) fun σ'=>klg draw (gr ops o.guard,[],dk o.dst) lg fun lg=>DRk P T ops nm draw ov r (i+1) σ' lg K
  | some true=>
   kval T σ o.op (fun V=>kov ov o.dst V fun V=>kdst σ o.dst V fun σ'=>klg draw (gr ops o.guard++trd o++mrd T σ o,[],dk o.dst) lg fun lg=>DRk P T ops nm draw ov r (i+1) σ' lg K)
    (knat (nm+i) fun k=>kmop T σ k o.op (fun V W R=>kov ov o.dst V fun V=>kputs σ W fun σ1=>kdst σ1 o.dst V fun σ'=>klg draw (gr ops o.guard++trd o++R,[],W.map (·.1)++dk o.dst) lg fun lg=>DRk P T ops nm draw ov r (i+1) σ' lg K)
     (kcall σ o.op fun f ars=>∃ R W V,CallX P f ars R k W V∧kR σ R∧kov ov o.dst V fun V=>kdropT R σ fun σ0=>kputs σ0 W fun σ1=>kdst σ1 o.dst V fun σ'=>klg draw (gr ops o.guard++trd o++R.map (·.1),R,W.map (·.1)++dk o.dst) lg fun lg=>DRk P T ops nm draw ov r (i+1) σ' lg K))
theorem drk_drg {P:Program}{T:List (Nat×TI)}{ops:Array Oper}{nm:Nat}{draw:Bool}{ov:List (Nat×D)}{K K2:Env→List Ent→Prop}(hK:∀ σ' lg lg',(draw=true→lg=lg')→K σ' lg→K2 σ' lg'):
  ∀ (os:List Oper) (i:Nat) (σ:Env) (lg lg':List Ent),(draw=true→lg=lg')→DRk P T ops nm draw ov os i σ lg K→DRg P T ops nm os i σ lg' K2
 | [],_,σ,lg,lg',hl,h=>hK σ lg lg' hl h
 | o :: r,i,σ,lg,lg',hl,h=>by
  have hlg:∀ (e:Ent) (σ':Env),(klg draw e lg fun lg=>DRk P T ops nm draw ov r (i+1) σ' lg K)→DRg P T ops nm r (i+1) σ' (e :: lg') K2:=fun e σ' h=>by
   cases draw with
   | true=>exact drk_drg hK r _ _ _ _ (fun _=>by rw[hl rfl]) h
   | false=>exact drk_drg hK r _ _ _ _ (fun e=>by cases e) h
  rw[DRg]
  rw[DRk] at h
  cases hg:gd ops σ o.guard with
  | none=>rw[hg] at h;exact h.elim
  | some b=>
   rw[hg] at h
   cases b with
   | false=>exact hlg _ _ (kdst_some h)
   | true=>
    simp only at h ⊢
    rcases kval_some h with⟨V,h1,h⟩ | h
    ·rw[h1];obtain⟨V',hle,h⟩:=kov_some h;exact⟨V',hle,hlg _ _ (kdst_some h)⟩
    ·rcases kmop_some (knat_some h) with⟨V,W,R,h1,h⟩ | h
     ·cases hp:pval T σ o with
      | some V'=>
       exfalso
       have:pval T σ o=none:=pval_none_of_mop h1
       rw[this] at hp;cases hp
      | none=>
       simp only[h1]
       obtain⟨V',hle,h⟩:=kov_some h
       refine⟨V',hle,?_⟩
       rw[puts_append]
       exact hlg _ _ (kdst_some (kputs_some h))
     ·obtain⟨f,ars,h1,h⟩:=kcall_some h
      obtain⟨R,W,V,h2,h3,h⟩:=h
      obtain⟨n1,n2⟩:=none_of_call (nm:=nm+i) (T:=T) h1
      simp only[n1,n2,h1]
      obtain⟨V',hle,h⟩:=kov_some h
      refine⟨R,W,V,h2,kR_all h3,V',hle,?_⟩
      rw[puts_append]
      exact hlg _ _ (kdst_some (kputs_some (kdropT_some h)))
section
variable {P:Program} {T:List (Nat×TI)} {cx:Cx} {σ:List (Key×D)} {N:Nat} {Q:Exit→List (Key×D)→Nat→Prop} {nt N1:Nat}
theorem dw_k (ov:List (Nat×D))(hT:TabOk P T)(hm:P.follows .mixedOrders=true)(hnt:cx.nt=nt){id:Nat}{ops:Array Oper}(hd:dstOk nt ops=true)(hN:N+ops.size=N1)(h:∀ K:Env→List Ent→Prop,(∀ σ' lg,Q .normal σ' N1→K σ' lg)→DRk P T ops N false ov ops.toList 0 σ [] K):DW P cx (.region id ops false) σ N Q:=
 dw_region hT hm (by rw[hnt];exact hd) (drk_drg (K:=fun σ' _=>Q .normal σ' N1) (fun σ' lg lg' _ hk=>⟨fun e=>(by cases e),hN ▸ hk⟩) _ _ _ _ _ (fun e=>by cases e) (h _ fun _ _ h=>h))
theorem dw_kD (ov:List (Nat×D))(hT:TabOk P T)(hm:P.follows .mixedOrders=true)(hnt:cx.nt=nt){id:Nat}{ops:Array Oper}(hd:dstOk nt ops=true)(hN:N+ops.size=N1)(h:∀ K:Env→List Ent→Prop,(∀ σ' lg,chkB ops lg=true→Q .normal σ' N1→K σ' lg)→DRk P T ops N true ov ops.toList 0 σ [] K):DW P cx (.region id ops true) σ N Q:=
 dw_region hT hm (by rw[hnt];exact hd) (drk_drg (K:=fun σ' lg=>chkB ops lg=true∧Q .normal σ' N1) (fun σ' lg lg' e hk=>by
  rw[←e rfl];exact⟨fun _=>hk.1,hN ▸ hk.2⟩) _ _ _ _ _ (fun _=>rfl) (h _ fun _ _ h1 h2=>⟨h1,h2⟩))
end
theorem dtrue {p:Prop}[Decidable p](h:p):VLe (.v (.bool (decide p))) (.v (.bool true)):=.of_eq (by simp[h])
theorem dfalse {p:Prop}[Decidable p](h:¬ p):VLe (.v (.bool (decide p))) (.v (.bool false)):=.of_eq (by simp[h])
theorem dintE {a b:Int}(h:a=b):VLe (.v (.int .i64 a)) (.v (.int .i64 b)):=.of_eq (by rw[h])
/-! what a walk's steps are proved by, unless it says so -/
theorem auT {x:D}(h:VLe x (.v (.bool true)):=by first | exact dtrue (by omega) | exact VLe.of_eq (by simp[*];done) | exact dtrue (by first | omega | (simp only[List.length_append,List.length_take,List.length_cons,List.length_nil,eTms_len,eTys_len];omega) | assumption | (simp_all;done)) | exact VLe.of_eq (by simp_all;done)):VLe x (.v (.bool true)):=h
theorem auF {x:D}(h:VLe x (.v (.bool false)):=by first | exact dfalse (by omega) | exact VLe.of_eq (by simp[*];done) | exact dfalse (by first | omega | (simp only[List.length_append,List.length_take,List.length_cons,List.length_nil,eTms_len,eTys_len];omega) | assumption | (simp_all;done)) | exact VLe.of_eq (by simp_all;done)):VLe x (.v (.bool false)):=h
theorem auI {x:D}{b:Int}(h:VLe x (.v (.int .i64 b)):=by exact dintE (by first | omega | exact IntWalk.i64_in _ (by omega) | (rw[IntWalk.i64_in _ (by omega)];omega) | (simp only[List.length_append,List.length_take,List.length_cons,List.length_nil,eTms_len,eTys_len];omega) | assumption | (simp_all;done))):VLe x (.v (.int .i64 b)):=h
theorem auV {x y:D}(h:VLe x y:=by repeat first | exact VLe.refl _ | exact VLe.nil _ | exact VLe.untag _ _ _ | refine VLe.ag ?_ | refine VLe.tu ?_ | refine VLeL.cons ?_ ?_ | exact VLeL.nil):VLe x y:=h
theorem elo {l:List (List D)}{n j:Nat}(hl:l.length=n)(hj:j<n:=by omega):0≤((j:Nat):Int)∧((j:Nat):Int)<((l.length:Nat):Int):=⟨by omega,by omega⟩
theorem elv {l:List (List D)}{n j:Nat}{r r':List D}(h:∀ _:j<n,l.getD j []=r)(e:r=r')(hj:j<n:=by omega):VLe (.q (l.getD (Int.toNat ((j:Nat):Int)) [])) (.q r'):=VLe.of_eq (by rw[Int.toNat_natCast,h hj,e])
theorem dcl {P:Program}{f:FuncId}{ars:List D}{nm:Nat}{σ:Env}{R W:List (Key×D)}{V:D}{c:List (Key×D)→List (Key×D)→D→Prop}(h:CallC P f ars R W V)(hk:c R W V)(hR:kR σ R:=by repeat first | exact trivial | refine And.intro ⟨rfl,rfl⟩ ?_):∃ R W V,CallX P f ars R nm W V∧kR σ R∧c R W V:=⟨R,W,V,.inl h,hR,hk⟩
theorem dcn {P:Program}{f:FuncId}{ars:List D}{nm:Nat}{σ:Env}{R W:List (Key×D)}{V:D}{c:List (Key×D)→List (Key×D)→D→Prop}(h:CallN P f ars R nm W V)(hk:c R W V)(hR:kR σ R:=by repeat first | exact trivial | refine And.intro ⟨rfl,rfl⟩ ?_):∃ R W V,CallX P f ars R nm W V∧kR σ R∧c R W V:=⟨R,W,V,.inr h,hR,hk⟩
section
variable {P:Program} {T:List (Nat×TI)} {cx:Cx} {σ τ:List (Key×D)} {N:Nat} {Q:Exit→List (Key×D)→Nat→Prop} {nt N1:Nat}
theorem dwk (ov:List (Nat×D))(hT:TabOk P T)(hnt:cx.nt=nt){id:Nat}{ops:Array Oper}(h:∀ K:Env→List Ent→Prop,(∀ σ' lg,Q .normal σ' N1→K σ' lg)→DRk P T ops N false ov ops.toList 0 σ [] K)(hm:P.follows .mixedOrders=true:=by kernel_rfl)(hd:dstOk nt ops=true:=by kernel_rfl)(hN:N+ops.size=N1:=by simp only[List.size_toArray,List.length_cons,List.length_nil,Nat.reduceAdd];rfl):DW P cx (.region id ops false) σ N Q:=dw_k ov hT hm hnt hd hN h
theorem dwkD (ov:List (Nat×D))(hT:TabOk P T)(hnt:cx.nt=nt){id:Nat}{ops:Array Oper}(h:∀ K:Env→List Ent→Prop,(∀ σ' lg,chkB ops lg=true→Q .normal σ' N1→K σ' lg)→DRk P T ops N true ov ops.toList 0 σ [] K)(hm:P.follows .mixedOrders=true:=by kernel_rfl)(hd:dstOk nt ops=true:=by kernel_rfl)(hN:N+ops.size=N1:=by simp only[List.size_toArray,List.length_cons,List.length_nil,Nat.reduceAdd];rfl):DW P cx (.region id ops true) σ N Q:=dw_kD ov hT hm hnt hd hN h
theorem VS.toA (hN:cx.n0≤N1:=by omega)(h:kV N1 σ τ:=by repeat first | exact trivial | refine And.intro (And.intro (by first | rfl | simp[D.ok,D.oks,D.okss,D.okm,upto,keyOk]) (by first | exact Or.inl rfl | (refine Or.inr ⟨_,rfl,?_,trivial⟩;repeat first | exact VLe.refl _ | exact VLe.nil _ | exact VLe.untag _ _ _ | refine VLe.ag ?_ | refine VLe.tu ?_ | refine VLeL.cons ?_ ?_ | exact VLeL.nil;done) | (simp[get,Key.eq];done))) ?_):VS cx σ N τ N1:=VS.toK hN h
theorem calldw {f:FuncId}{fn:Func}{c:Code}{args:List D}{R W:List (Key×D)}{V:D}(N0 nt:Nat)(rs:List ResultVar)(hT:TabOk P T)(hf:P.funcs[f]?=some fn)(hb:fn.body=some c)(hnt:fn.ntmps=nt)(hrs:fn.results.toList=rs)(h:∀ cx:Cx,cx.nt=nt→cx.n0=N0→DW P cx c (argsT 0 args R) N0 (RetOk T rs V W))(hw:wordsOk args R W V N0=true:=by simp[wordsOk,D.ok,D.oks,D.okss,rnames,inN,ckey])(hen:entersB P f=true:=by kernel_rfl)(hal:args.length≤nt:=by simp):CallC P f args R W V:=call_of_dw N0 nt rs hT hen hf hb hnt hrs hal hw h
end
mutual
def D.ren (ρ:Nat→Nat):D→D
 | .v x=>.v x
 | .sl n l g=>.sl n (D.renss ρ l) g
 | .p k off=>.p (ρ k) off
 | .q l=>.q (D.rens ρ l)
 | .ag l=>.ag (D.rens ρ l)
 | .tu l=>.tu (D.rens ρ l)
 | .fn f l=>.fn f (D.rens ρ l)
 | .rw a b c=>.rw a b c
 | .o k=>.o (ρ k)
 | .mo k=>.mo (ρ k)
 | .mp l=>.mp (D.renm ρ l)
 | .ob J=>.ob J
 | .j X J=>.j X J
 | .cl n l=>.cl n (D.renss ρ l)
 | .rp E n l=>.rp E n (D.renss ρ l)
 | .ps g len=>.ps g len
 | .pr g len n i0 j0=>.pr g len n i0 j0
 | .pt g len n lo=>.pt g len n lo
 | .mq bm es clock l=>.mq bm es clock (D.renm ρ l)
 | .it k bm es clock rem last=>.it (ρ k) bm es clock rem last
def D.rens (ρ:Nat→Nat):List D→List D
 | []=>[]
 | d :: l=>D.ren ρ d :: D.rens ρ l
def D.renss (ρ:Nat→Nat):List (List D)→List (List D)
 | []=>[]
 | d :: l=>D.rens ρ d :: D.renss ρ l
def D.renm (ρ:Nat→Nat):List (Int×D)→List (Int×D)
 | []=>[]
 | (i,d) :: l=>(i,D.ren ρ d) :: D.renm ρ l
end
theorem D.rens_map (ρ:Nat→Nat):∀ l:List D,D.rens ρ l=l.map (D.ren ρ)
 | []=>rfl
 | d :: l=>by rw[D.rens,D.rens_map ρ l,List.map_cons]
theorem D.renss_map (ρ:Nat→Nat):∀ l:List (List D),D.renss ρ l=l.map (D.rens ρ)
 | []=>rfl
 | d :: l=>by rw[D.renss,D.renss_map ρ l,List.map_cons]
theorem D.renm_map (ρ:Nat→Nat):∀ l:List (Int×D),D.renm ρ l=l.map fun p=>(p.1,p.2.ren ρ)
 | []=>rfl
 | (i,d) :: l=>by rw[D.renm,D.renm_map ρ l,List.map_cons]
/-! what has no names stays as it is -/
mutual
theorem D.ren_id {f g:Nat→Bool}{ρ:Nat→Nat}(hf:∀ k,f k=true→ρ k=k):∀ d:D,d.ok f g=true→d.ren ρ=d
 | .v _,_=>rfl
 | .sl n l r,h=>by simp only[D.ok,Bool.and_eq_true] at h;rw[D.ren,D.renss_id hf l h.1]
 | .p k off,h=>by simp only[D.ok] at h;rw[D.ren,hf k h]
 | .q l,h=>by simp only[D.ok] at h;rw[D.ren,D.rens_id hf l h]
 | .ag l,h=>by simp only[D.ok] at h;rw[D.ren,D.rens_id hf l h]
 | .tu l,h=>by simp only[D.ok] at h;rw[D.ren,D.rens_id hf l h]
 | .fn _ l,h=>by simp only[D.ok] at h;rw[D.ren,D.rens_id hf l h]
 | .rw _ _ _,_=>rfl
 | .o k,h=>by simp only[D.ok] at h;rw[D.ren,hf k h]
 | .mo k,h=>by simp only[D.ok] at h;rw[D.ren,hf k h]
 | .mp l,h=>by simp only[D.ok] at h;rw[D.ren,D.renm_id hf l h]
 | .ob _,_=>rfl
 | .j _ _,_=>rfl
 | .cl n l,h=>by simp only[D.ok] at h;rw[D.ren,D.renss_id hf l h]
 | .rp E n l,h=>by simp only[D.ok] at h;rw[D.ren,D.renss_id hf l h]
 | .ps _ _,_=>rfl
 | .pr _ _ _ _ _,_=>rfl
 | .pt _ _ _ _,_=>rfl
 | .mq _ _ _ l,h=>by simp only[D.ok] at h;rw[D.ren,D.renm_id hf l h]
 | .it k _ _ _ _ _,h=>by simp only[D.ok] at h;rw[D.ren,hf k h]
theorem D.rens_id {f g:Nat→Bool}{ρ:Nat→Nat}(hf:∀ k,f k=true→ρ k=k):∀ l:List D,D.oks f g l=true→D.rens ρ l=l
 | [],_=>rfl
 | d :: l,h=>by simp only[D.oks,Bool.and_eq_true] at h;rw[D.rens,D.ren_id hf d h.1,D.rens_id hf l h.2]
theorem D.renss_id {f g:Nat→Bool}{ρ:Nat→Nat}(hf:∀ k,f k=true→ρ k=k):∀ l:List (List D),D.okss f g l=true→D.renss ρ l=l
 | [],_=>rfl
 | d :: l,h=>by simp only[D.okss,Bool.and_eq_true] at h;rw[D.renss,D.rens_id hf d h.1,D.renss_id hf l h.2]
theorem D.renm_id {f g:Nat→Bool}{ρ:Nat→Nat}(hf:∀ k,f k=true→ρ k=k):∀ l:List (Int×D),D.okm f g l=true→D.renm ρ l=l
 | [],_=>rfl
 | (i,d) :: l,h=>by simp only[D.okm,Bool.and_eq_true] at h;rw[D.renm,D.ren_id hf d h.1,D.renm_id hf l h.2]
end
def Key.ren (ρ:Nat→Nat):Key→Key
 | .c k off=>.c (ρ k) off
 | .o k=>.o (ρ k)
 | k=>k
def renE (ρ:Nat→Nat)(p:Key×D):Key×D:=(p.1.ren ρ,p.2.ren ρ)
section
variable {P:Program} {m m':Mp} {Im Im':Nat→Nat→Prop} {w w':World} {ρ:Nat→Nat} {f:Nat→Bool}
def Mp.ren (m:Mp)(ρ:Nat→Nat)(f:Nat→Bool):Mp:=⟨fun k=>if f k then m.blk (ρ k) else none,fun _=>none,fun k=>if f k then m.obj (ρ k) else none⟩
theorem Mp.ren_blk {k b:Nat}(h:(m.ren ρ f).blk k=some b):f k=true∧m.blk (ρ k)=some b:=by
 by_cases hk:f k=true
 ·exact⟨hk,by simpa[Mp.ren,hk] using h⟩
 ·simp[Mp.ren,hk] at h
theorem Mp.ren_obj {k b:Nat}(h:(m.ren ρ f).obj k=some b):f k=true∧m.obj (ρ k)=some b:=by
 by_cases hk:f k=true
 ·exact⟨hk,by simpa[Mp.ren,hk] using h⟩
 ·simp[Mp.ren,hk] at h
theorem Rel.unren {x:Value}{d e:D}(h:Rel m Im w x e)(he:d.ren ρ=e)(hd:d.ok f noR=true):Rel (m.ren ρ f) Im w x d:=by
 induction h generalizing d with
 | v x=>cases d <;> simp only[D.ren] at he <;> cases he;exact .v x
 | p k off b h=>
  cases d <;> simp only[D.ren] at he <;> cases he
  simp only[D.ok] at hd
  exact .p _ _ b (by simp only[Mp.ren,hd,if_true];exact h)
 | o k b h=>
  cases d <;> simp only[D.ren] at he <;> cases he
  simp only[D.ok] at hd
  exact .o _ b (by simp only[Mp.ren,hd,if_true];exact h)
 | mo k b h=>
  cases d <;> simp only[D.ren] at he <;> cases he
  simp only[D.ok] at hd
  exact .mo _ b (by simp only[Mp.ren,hd,if_true];exact h)
 | q bl off X l h hr ih=>
  cases d <;> simp only[D.ren] at he <;> cases he
  rename_i l0
  simp only[D.ok] at hd
  have hl:(D.rens ρ l0).length=l0.length:=by rw[D.rens_map];simp
  refine .q bl off X l0 (fun i hi=>h i (by omega)) fun i hi=>?_
  exact ih i (by omega) (by simp[D.rens_map]) (D.oks_get hd i hi)
 | ag cs l hn hr ih=>
  cases d <;> simp only[D.ren] at he <;> cases he
  rename_i l0
  simp only[D.ok] at hd
  have hl:(D.rens ρ l0).length=l0.length:=by rw[D.rens_map];simp
  exact .ag cs l0 (by omega) fun i hi=>ih i (by omega) (by simp[D.rens_map]) (D.oks_get hd i hi)
 | tu cs l hn hr ih=>
  cases d <;> simp only[D.ren] at he <;> cases he
  rename_i l0
  simp only[D.ok] at hd
  have hl:(D.rens ρ l0).length=l0.length:=by rw[D.rens_map];simp
  exact .tu cs l0 (by omega) fun i hi=>ih i (by omega) (by simp[D.rens_map]) (D.oks_get hd i hi)
 | fn g cs l hn hr ih=>
  cases d <;> simp only[D.ren] at he <;> cases he
  rename_i l0
  simp only[D.ok] at hd
  have hl:(D.rens ρ l0).length=l0.length:=by rw[D.rens_map];simp
  exact .fn g cs l0 (by omega) fun i hi=>ih i (by omega) (by simp[D.rens_map]) (D.oks_get hd i hi)
 | sl a c bl off n X l g h1 ha hc hn ho hr hg ih=>
  cases d <;> simp only[D.ren] at he <;> cases he
  rename_i l0
  simp only[D.ok,Bool.and_eq_true] at hd
  have hl:(D.renss ρ l0).length=l0.length:=by rw[D.renss_map];simp
  have hl2:∀ i (hi:i<l0.length),((D.renss ρ l0)[i]'(by omega))=D.rens ρ l0[i]:=fun i hi=>by simp[D.renss_map]
  have hl3:∀ i (hi:i<l0.length),((D.renss ρ l0)[i]'(by omega)).length=l0[i].length:=fun i hi=>by rw[hl2 i hi,D.rens_map];simp
  rw[hl] at h1 ha ⊢
  refine .sl a c bl off n X l0 g h1 ha (fun i j hi hj=>hc i j (by omega) hj) (fun i hi=>by rw[←hl3 i hi];exact hn i (by omega)) (fun i j hi hj=>ho i j (by omega) hj)
   (fun i hi j hj=>ih i (by omega) j (by rw[hl3 i hi];exact hj) (by simp[D.renss_map,D.rens_map]) (D.oks_get (D.okss_get hd.1 i hi) j hj)) fun r e=>?_
  have:=hd.2
  subst e
  simp[noR] at this
 | cl a n l h ih=>
  cases d <;> simp only[D.ren] at he <;> cases he
  rename_i l0
  have hl:(D.renss ρ l0).length=l0.length:=by rw[D.renss_map];simp
  have:=ih (d:=.sl n l0 none) (by rw[D.ren]) (by simp only[D.ok] at hd ⊢;simp[hd])
  rw[hl] at this ⊢
  exact .cl a n l0 this
 | ps a c g len ha hcp h=>
  cases d <;> simp only[D.ren] at he <;> cases he
  simp[D.ok,noR] at hd
 | pt a c g len n lo h=>
  cases d <;> simp only[D.ren] at he <;> cases he
  simp[D.ok,noR] at hd
 | pr g len n i j b h=>
  cases d <;> simp only[D.ren] at he <;> cases he
  simp[D.ok,noR] at hd
theorem Rel.ren {x:Value}{d:D}(h:Rel m' Im w x d)(hb:∀ k b,m'.blk k=some b→m.blk (ρ k)=some b)(ho':∀ k b,m'.obj k=some b→m.obj (ρ k)=some b)(hrow:∀ r,m'.row r=none):Rel m Im w x (d.ren ρ):=by
 induction h with
 | v x=>exact .v x
 | p k off b h=>exact .p _ off b (hb k b h)
 | o k b h=>exact .o _ b (ho' k b h)
 | mo k b h=>exact .mo _ b (ho' k b h)
 | q bl off X l h hr ih=>
  rw[D.ren,D.rens_map]
  exact .q bl off X _ (fun i hi=>h i (by simpa using hi)) fun i hi=>by rw[List.getElem_map];exact ih i (by simpa using hi)
 | ag cs l hn hr ih=>
  rw[D.ren,D.rens_map]
  exact .ag cs _ (by simpa using hn) fun i hi=>by rw[List.getElem_map];exact ih i (by simpa using hi)
 | tu cs l hn hr ih=>
  rw[D.ren,D.rens_map]
  exact .tu cs _ (by simpa using hn) fun i hi=>by rw[List.getElem_map];exact ih i (by simpa using hi)
 | fn g cs l hn hr ih=>
  rw[D.ren,D.rens_map]
  exact .fn g cs _ (by simpa using hn) fun i hi=>by rw[List.getElem_map];exact ih i (by simpa using hi)
 | sl a c bl off n X l g h1 ha hc hn ho hr hg ih=>
  rw[D.ren,D.renss_map]
  have hl:(l.map (D.rens ρ)).length=l.length:=by simp
  rw[←hl] at h1 ha ⊢
  refine .sl a c bl off n X _ g h1 ha (fun i j hi hj=>hc i j (by omega) hj) (fun i hi=>by rw[List.getElem_map,D.rens_map,List.length_map];exact hn i (by omega)) (fun i j hi hj=>ho i j (by omega) hj)
   (fun i hi j hj=>?_) fun r e=>?_
  ·have:(l.map (D.rens ρ))[i]=(l[i]'(by omega)).map (D.ren ρ):=by simp[D.rens_map]
   simp only[this,List.getElem_map]
   exact ih i (by omega) j (by rw[List.getElem_map,D.rens_map,List.length_map] at hj;exact hj)
  ·obtain⟨R,q,_⟩:=hg r e
   rw[hrow r] at q;cases q
 | cl a n l h ih=>
  have hl:(D.renss ρ l).length=l.length:=by rw[D.renss_map];simp
  simp only[D.ren] at ih ⊢
  rw[←hl] at ih ⊢
  exact .cl a n _ ih
 | ps a c g len ha hcp h=>
  obtain⟨R,q,_⟩:=h
  rw[hrow g] at q;cases q
 | pt a c g len n lo h=>
  obtain⟨R,q,_⟩:=h
  rw[hrow g] at q;cases q
 | pr g len n i j b h=>
  obtain⟨R,q,_⟩:=h
  rw[hrow g] at q;cases q
theorem ObOk.unren {b:Nat}{d e:D}(h:ObOk m Im w b e)(he:d.ren ρ=e)(hd:d.ok f noR=true):ObOk (m.ren ρ f) Im w b d:=by
 cases h with
 | mp es clock l h1 h2 h3 h4 h5=>
  cases d <;> simp only[D.ren] at he <;> cases he
  rename_i l0
  simp only[D.ok] at hd
  have hl:(D.renm ρ l0).length=l0.length:=by rw[D.renm_map];simp
  refine .mp es clock l0 h1 (by omega) (fun i hi=>?_) (fun i hi v hv=>?_) h5
  ·have:=h3 i (by omega);simpa[D.renm_map] using this
  ·exact(h4 i (by omega) v hv).unren (by simp[D.renm_map]) (D.okm_get hd i hi)
 | mq es clock l h1 h2 h3 h4 h5=>
  cases d <;> simp only[D.ren] at he <;> cases he
  rename_i l0
  simp only[D.ok] at hd
  have hl:(D.renm ρ l0).length=l0.length:=by rw[D.renm_map];simp
  refine .mq es clock l0 h1 (by omega) (fun i hi=>?_) (fun i hi v hv=>?_) h5
  ·have:=h3 i (by omega);simpa[D.renm_map] using this
  ·exact(h4 i (by omega) v hv).unren (by simp[D.renm_map]) (D.okm_get hd i hi)
 | it k bm es clock rem last seen h1 h2 h3 h4 h5 h6=>
  cases d <;> simp only[D.ren] at he <;> cases he
  simp only[D.ok] at hd
  exact .it _ bm es clock rem last seen (by simp only[Mp.ren,hd,if_true];exact h1) h2 h3 h4 h5 h6
 | ob J h hs=>
  cases d <;> simp only[D.ren] at he <;> cases he
  exact .ob J h hs
theorem ObOk.ren {b:Nat}{d:D}(h:ObOk m' Im w b d)(hb:∀ k b,m'.blk k=some b→m.blk (ρ k)=some b)(ho':∀ k b,m'.obj k=some b→m.obj (ρ k)=some b)(hrow:∀ r,m'.row r=none):ObOk m Im w b (d.ren ρ):=by
 cases h with
 | mp es clock l h1 h2 h3 h4 h5=>
  rw[D.ren,D.renm_map]
  exact .mp es clock _ h1 (by simpa using h2) (fun i hi=>by simpa using h3 i (by simpa using hi)) (fun i hi v hv=>by
   have:=(h4 i (by simpa using hi) v hv).ren hb ho' hrow
   simpa using this) h5
 | mq es clock l h1 h2 h3 h4 h5=>
  rw[D.ren,D.renm_map]
  exact .mq es clock _ h1 (by simpa using h2) (fun i hi=>by simpa using h3 i (by simpa using hi)) (fun i hi v hv=>by
   have:=(h4 i (by simpa using hi) v hv).ren hb ho' hrow
   simpa using this) h5
 | it k bm es clock rem last seen h1 h2 h3 h4 h5 h6=>exact .it _ bm es clock rem last seen (ho' k bm h1) h2 h3 h4 h5 h6
 | ob J h hs=>exact .ob J h hs
def renOk (args:List D)(R W:List (Key×D))(V:D):Bool:=
 args.all (fun d=>d.ok (inN R) noR)&&R.all (fun p=>p.2.ok (inN R) noR&&ckey p.1)&&W.all (fun p=>p.2.ok (inN R) noR&&(match p.1 with | .c k _=>inN R k | .o k=>inN R k | .j=>R.any fun p=>isJ p.1 | _=>false))&&V.ok (inN R) noR
theorem CallC.ren {g:FuncId}{args:List D}{R W:List (Key×D)}{V:D}(h:CallC P g args R W V)(ρ:Nat→Nat)(hw:renOk args R W V=true)(hinj:∀ k∈rnames R,∀ k'∈rnames R,ρ k=ρ k'→k=k'):
  CallC P g (args.map (D.ren ρ)) (R.map (renE ρ)) (W.map (renE ρ)) (V.ren ρ):=by
 refine⟨h.1,fun cx Fr m Im w vs hmem hargs hR=>?_⟩
 simp only[renOk,Bool.and_eq_true,List.all_eq_true] at hw
 obtain⟨⟨⟨w1,w2⟩,w3⟩,w4⟩:=hw
 have hinj:∀ k k',inN R k=true→inN R k'=true→ρ k=ρ k'→k=k':=fun k k' hk hk'=>by
  unfold inN at hk hk'
  rw[List.contains_iff_mem] at hk hk'
  exact hinj k hk k' hk'
 have hmemR:∀ p∈R,renE ρ p∈R.map (renE ρ):=fun p hp=>List.mem_map.2 ⟨p,hp,rfl⟩
 have hTb:∀ k b,inN R k=true→m.blk (ρ k)=some b→Tch m (R.map (renE ρ)) b:=fun k b hk hb=>by
  rcases of_rnames hk with⟨off,d,hm⟩ | ⟨d,hm⟩
  ·exact .inl ⟨ρ k,off,d.ren ρ,hmemR _ hm,hb⟩
  ·obtain⟨b',q1,_⟩:=hR _ (hmemR _ hm)
   have:=hmem.dis _ b hb
   rw[this] at q1;cases q1
 have hTo:∀ k b,inN R k=true→m.obj (ρ k)=some b→Tch m (R.map (renE ρ)) b:=fun k b hk hb=>by
  rcases of_rnames hk with⟨off,d,hm⟩ | ⟨d,hm⟩
  ·obtain⟨b',v,q1,_⟩:=hR _ (hmemR _ hm)
   have:=hmem.dis _ b' q1
   rw[this] at hb;cases hb
  ·exact .inr (.inr ⟨ρ k,d.ren ρ,hmemR _ hm,hb⟩)
 have hX:∀ X J,(Key.j,D.j X J)∈R→XOk cx m Im w X J:=fun X J hm=>by
  obtain⟨X',J',e,hx⟩:=hR _ (hmemR _ hm)
  have e:D.j X J=D.j X' J':=e
  cases e;exact hx
 let m':=m.ren ρ (inN R)
 let cx':Cx:={ w0:=w,C:=Tch m (R.map (renE ρ)),Im0:=Im,m0:=⟨fun _=>none,fun _=>none,fun _=>none⟩,nt:=0,n0:=0,h0:=(fun k b hk=>by cases hk),h0o:=(fun k b hk=>by cases hk) }
 have hmem':MemOk cx' (fun _=>False) m' Im w:={
  off:=Off.refl _ _,im:=hmem.im,imb:=fun b o hi=>.inl hi,im0:=fun b o hi=>hi
  own:=fun k b hk=>.inl (hTb k b (Mp.ren_blk hk).1 (Mp.ren_blk hk).2)
  lt:=fun k b hk=>hmem.lt _ b (Mp.ren_blk hk).2
  free:=fun k b o hk=>hmem.free _ b o (Mp.ren_blk hk).2
  nim:=fun k b o hk=>hmem.nim _ b o (Mp.ren_blk hk).2
  inj:=fun k k' b hk hk'=>hinj k k' (Mp.ren_blk hk).1 (Mp.ren_blk hk').1 (hmem.inj _ _ b (Mp.ren_blk hk).2 (Mp.ren_blk hk').2)
  row:=fun g R hg=>by cases hg
  k0:=KeepI.refl _ _
  rown:=fun g R b hg=>by cases hg
  m0r:=fun g R hg=>by cases hg
  rIm:=fun g R b o hg=>by cases hg
  rblk:=fun g R b k hg=>by cases hg
  rinj:=fun g g' R R' b hg=>by cases hg
  fr:=fun k hk=>hk.elim
  m0:=fun k b hk=>by cases hk
  m0o:=fun k b hk=>by cases hk
  oown:=fun k b hk=>.inl (hTo k b (Mp.ren_obj hk).1 (Mp.ren_obj hk).2)
  olt:=fun k b hk=>hmem.olt _ b (Mp.ren_obj hk).2
  onim:=fun k b o hk=>hmem.onim _ b o (Mp.ren_obj hk).2
  oinj:=fun k k' b hk hk'=>hinj k k' (Mp.ren_obj hk).1 (Mp.ren_obj hk').1 (hmem.oinj _ _ b (Mp.ren_obj hk).2 (Mp.ren_obj hk').2)
  oblk:=fun k k' b hk hk'=>hmem.oblk _ _ b (Mp.ren_obj hk).2 (Mp.ren_blk hk').2
  orow:=fun k g R b hk hg=>by cases hg
  dis:=fun k b hk=>by
   have:=hmem.dis _ b (Mp.ren_blk hk).2
   show (if _ then m.obj (ρ k) else none)=none
   rw[this];simp }
 have hargs':RelL m' Im w vs args:=by
  rw[relL_iff] at hargs ⊢
  refine⟨by simpa using hargs.1,fun i hi=>?_⟩
  exact(hargs.2 i (by simpa using hi)).unren (by simp) (w1 _ (List.getElem_mem hi))
 have hR':Holds cx' m' Im w R:=fun p hp=>by
  have hh:=hR _ (hmemR _ hp)
  have hok:=w2 p hp
  obtain⟨key,d⟩:=p
  cases key with
  | c k off=>
   obtain⟨b,v,q1,q2,q3⟩:=hh
   have hk:=mem_rnames hp
   exact⟨b,v,by show (if inN R k then m.blk (ρ k) else none)=_;rw[if_pos hk];exact q1,q2,q3.unren rfl hok.1⟩
  | o k=>
   obtain⟨b,q1,q2⟩:=hh
   have hk:=mem_rnamesO hp
   exact⟨b,by show (if inN R k then m.obj (ρ k) else none)=_;rw[if_pos hk];exact q1,q2.unren rfl hok.1⟩
  | j=>
   obtain⟨X,J,e,hx⟩:=hh
   cases d <;> simp only[renE,D.ren] at e <;> cases e
   exact⟨X,J,rfl,{ hx with own:=fun b hb=>.inl (.inr (.inl ⟨X,J,hmemR _ hp,hb⟩)),blk:=fun b k hb hk=>hx.blk b _ hb (Mp.ren_blk hk).2,row:=(fun b g R hb hg=>by cases hg),obj:=fun b k hb hk=>hx.obj b _ hb (Mp.ren_obj hk).2 }⟩
  | t x=>cases hok.2
  | r g=>cases hok.2
 have hTch:∀ b,Tch m' R b→Tch m (R.map (renE ρ)) b:=fun b hb=>by
  rcases hb with⟨k,off,d,hm,hb⟩ | ⟨X,J,hm,hb⟩ | ⟨k,d,hm,hb⟩
  ·exact .inl ⟨ρ k,off,d.ren ρ,hmemR _ hm,(Mp.ren_blk hb).2⟩
  ·exact .inr (.inl ⟨X,J,hmemR _ hm,hb⟩)
  ·exact .inr (.inr ⟨ρ k,d.ren ρ,hmemR _ hm,(Mp.ren_obj hb).2⟩)
 refine(h.2 cx' _ m' Im w vs hmem' hargs' hR').mono ?_
 rintro e w' ⟨v,Im',rfl,q1,q2,q3,q4,q5,q6,q7⟩
 have hoff:Off (Tch m (R.map (renE ρ))) w w':=⟨q1.os,q1.tape,q1.output,q1.size,fun b hb hn=>q1.block b hb fun ht=>hn (hTch b ht)⟩
 refine⟨v,Im',rfl,hoff,q2,q3,q4,fun k b o hk=>?_,q6.ren (fun k b hk=>(Mp.ren_blk hk).2) (fun k b hk=>(Mp.ren_obj hk).2) (fun _=>rfl),fun p hp=>?_⟩
 ·by_cases hb:Tch m' R b
  ·rcases hb with⟨k',off,d,hm,hb⟩ | ⟨X,J,hm,hb⟩ | ⟨k',d,hm,hb⟩
   ·exact q5 k' b o hb
   ·exact absurd hk ((hX X J hm).blk b k hb)
   ·exact absurd hk (hmem.oblk _ k b (Mp.ren_obj hb).2)
  ·exact(World.frozen?_of_block (a:=⟨b,o,none⟩) (q1.block b (hmem.lt k b hk) hb)).trans (hmem.free k b o hk)
 ·obtain⟨p0,hp0,rfl⟩:=List.mem_map.1 hp
  have hh:=q7 p0 hp0
  have hok:=w3 p0 hp0
  obtain⟨key,d⟩:=p0
  cases key with
  | c k off=>
   obtain⟨b,x,r1,r2,r3⟩:=hh
   exact⟨b,x,(Mp.ren_blk r1).2,r2,r3.ren (fun k b hk=>(Mp.ren_blk hk).2) (fun k b hk=>(Mp.ren_obj hk).2) (fun _=>rfl)⟩
  | o k=>
   obtain⟨b,r1,r2⟩:=hh
   exact⟨b,(Mp.ren_obj r1).2,r2.ren (fun k b hk=>(Mp.ren_blk hk).2) (fun k b hk=>(Mp.ren_obj hk).2) (fun _=>rfl)⟩
  | j=>
   obtain⟨X,J,e,hx⟩:=hh
   have e:d=.j X J:=e
   subst e
   have hold:∀ b,X b→b<w.heap.size→∃ X0 J0,(Key.j,D.j X0 J0)∈R∧X0 b:=fun b hb hlt=>by
    rcases hx.own b hb with hc | hc
    ·have hc:Tch m (R.map (renE ρ)) b:=hc
     rcases hc with⟨k',off,d',hm,hb'⟩ | ⟨X0,J0,hm,hb'⟩ | ⟨k',d',hm,hb'⟩
     ·obtain⟨⟨key,d0⟩,hm0,e0⟩:=List.mem_map.1 hm
      cases key with
      | c k0 o0=>
       simp only[renE,Key.ren] at e0
       cases e0
       refine absurd ?_ (hx.blk b k0 hb)
       show (if inN R k0 then m.blk (ρ k0) else none)=_
       rw[if_pos (mem_rnames hm0)];exact hb'
      | _=>simp[renE,Key.ren] at e0
     ·obtain⟨⟨key,d0⟩,hm0,e0⟩:=List.mem_map.1 hm
      cases key <;> simp only[renE,Key.ren,Prod.mk.injEq,reduceCtorEq,false_and] at e0
      have e0:=e0.2
      cases d0 <;> simp only[D.ren] at e0 <;> cases e0
      exact⟨X0,J0,hm0,hb'⟩
     ·obtain⟨⟨key,d0⟩,hm0,e0⟩:=List.mem_map.1 hm
      cases key with
      | o k0=>
       simp only[renE,Key.ren] at e0
       cases e0
       refine absurd ?_ (hx.obj b k0 hb)
       show (if inN R k0 then m.obj (ρ k0) else none)=_
       rw[if_pos (mem_rnamesO hm0)];exact hb'
      | _=>simp[renE,Key.ren] at e0
    ·exact absurd hc (Nat.not_le.2 hlt)
   refine⟨X,J,rfl,{ hx with own:=fun b hb=>?_,blk:=fun b k hb hk=>?_,row:=fun b g R' hb hg e2=>?_,obj:=fun b k hb hk=>?_ }⟩
   ·by_cases hlt:b<w.heap.size
    ·obtain⟨X0,J0,hm,hb0⟩:=hold b hb hlt
     exact(hX X0 J0 hm).own b hb0
    ·exact .inr (Nat.le_trans hmem.off.size (Nat.le_of_not_lt hlt))
   ·obtain⟨X0,J0,hm,hb0⟩:=hold b hb (hmem.lt k b hk)
    exact(hX X0 J0 hm).blk b k hb0 hk
   ·obtain⟨xs,hxs⟩:=hmem.row g R' hg
    obtain⟨X0,J0,hm,hb0⟩:=hold b hb (row_lt hxs e2).2
    exact(hX X0 J0 hm).row b g R' hb0 hg e2
   ·obtain⟨X0,J0,hm,hb0⟩:=hold b hb (hmem.olt k b hk)
    exact(hX X0 J0 hm).obj b k hb0 hk
  | t x=>cases hok.2
  | r g=>cases hok.2
end
end Go.Proofs.YtclihnccilkohaaGreat
namespace Go.Proofs.YtclihnccilkohaaGreat
namespace Nm
abbrev wr (x:Int):Int:=RowKit.wrap64 x
def tz:Tm:=.mk [] 0 0 []
structure St where
 left:Int
 dry:Bool
 count:Int
 e:Int
deriving DecidableEq
def spend (s:St):Bool×St:=
 if s.dry=true∨s.left<1 then (false,{ s with left:=0,dry:=true }) else (true,{ s with left:=s.left-1 })
def fail (s:St)(c:Int):St:=if s.e=0 then { s with e:=c } else s
def unit (s:St):Bool×St:=
 if s.e≠0 then (false,s)
 else if s.count=100000 then (false,{ s with count:=s.count+1,e:=2 })
 else match spend s with
  | (false,s')=>(false,{ s' with count:=s'.count+1,e:=11 })
  | (true,s')=>(true,{ s' with count:=s'.count+1 })
mutual
def lift (by_:Int):Tm→Int→Tm
 | .mk b k i a,ins=>.mk b k (if k=0∧wr (ins+b.length)≤i then wr (i+by_) else i) (lifts by_ a (wr (ins+b.length)))
def lifts (by_:Int):List Tm→Int→List Tm
 | [],_=>[]
 | t :: l,ins=>lift by_ t ins :: lifts by_ l ins
end
theorem lift_eq (y:Int)(b:List Ty)(k i:Int)(a:List Tm)(ins:Int):lift y (.mk b k i a) ins=.mk b k (if k=0∧wr (ins+b.length)≤i then wr (i+y) else i) (lifts y a (wr (ins+b.length))):=by rw[lift]
theorem lifts_map (y:Int)(l:List Tm)(ins:Int):lifts y l ins=l.map fun t=>lift y t ins:=by
 induction l with
 | nil=>rfl
 | cons t l ih=>rw[lifts,ih];rfl
def grown (t:Tm)(y:Int):Tm:=if y=0 then t else lift y t 0
def seqM (g:Tm→St→Tm×St):List Tm→St→List Tm×St
 | [],s=>([],s)
 | t :: l,s=>((g t s).1 :: (seqM g l (g t s).2).1,(seqM g l (g t s).2).2)
theorem seqM_append (g:Tm→St→Tm×St)(l r:List Tm)(s:St):seqM g (l++r) s=((seqM g l s).1++(seqM g r (seqM g l s).2).1,(seqM g r (seqM g l s).2).2):=by
 induction l generalizing s with
 | nil=>simp[seqM]
 | cons t l ih=>simp[seqM,ih]
theorem seqM_take (g:Tm→St→Tm×St)(l:List Tm)(j:Nat)(h:j<l.length)(s:St):seqM g (l.take (j+1)) s=((seqM g (l.take j) s).1++[(g l[j] (seqM g (l.take j) s).2).1],(g l[j] (seqM g (l.take j) s).2).2):=by
 rw[List.take_succ_eq_append_getElem h,seqM_append];rfl
theorem seqM_length (g:Tm→St→Tm×St)(l:List Tm)(s:St):(seqM g l s).1.length=l.length:=by
 induction l generalizing s with
 | nil=>rfl
 | cons t l ih=>simp[seqM,ih]
abbrev Thr:=List Tm→Nat→Tm→Int→St→Tm×St
def putW (thr:Thr)(t:Tm)(xs:List Tm)(s:St):Tm×St:=
 if s.e≠0∨xs.length>t.binds.length then (tz,fail s 1)
 else
  let r:=thr xs t.binds.length (.mk [] t.kind t.index t.args) 0 s
  (.mk (t.binds.drop xs.length) r.1.kind r.1.index r.1.args,r.2)
def hit (thr:Thr)(xs:List Tm)(n:Nat)(t:Tm)(ins:Int)(args:List Tm)(s:St):Tm×St:=
 if t.kind≠0∨t.index<ins then (.mk t.binds t.kind t.index args,s)
 else
  let i:=wr (t.index-ins)
  if i<(n:Int)-xs.length then (.mk t.binds t.kind t.index args,s)
  else if (n:Int)≤i then (.mk t.binds t.kind (wr (t.index-xs.length)) args,s)
  else
   let u:=grown (xs.getD ((n:Int)-1-i).toNat tz) (wr (wr (ins+n)-xs.length))
   if u.binds.length≠args.length then (tz,fail s 1)
   else
    let r:=putW thr u args s
    (.mk t.binds r.1.kind r.1.index r.1.args,r.2)
def through:Nat→Thr
 | 0=>fun _ _ _ _ s=>(tz,s)
 | f+1=>fun xs n t ins s=>
  if (unit s).1=true then
   let q:=seqM (fun a s=>through f xs n a (wr (ins+t.binds.length)) s) t.args (unit s).2
   hit (through f) xs n t (wr (ins+t.binds.length)) q.1 q.2
  else (tz,(unit s).2)
def put (f:Nat):Tm→List Tm→St→Tm×St:=putW (through f)
def done (p:Tm×St):Tm×St:=
 let s:=if p.2.e=0∧¬ (p.1.size≤5000∧p.1.depth≤60) then fail p.2 2 else p.2
 if s.e≠0 then (tz,s) else (p.1,s)
def Put (t:Tm)(xs:List Tm)(left:Int)(dry:Bool):Tm×St:=done (put 100001 t xs ⟨left,dry,0,0⟩)
end Nm
namespace Sb
open Go.Proofs.YtclihnccilkohaaGreat.Nm
abbrev Pair:=Int×Tm
def right (s:List Pair):Bool:=decide (s.Pairwise fun a b=>a.1<b.1)
def find (s:List Pair)(m:Int):Option Tm:=(s.find? fun p=>p.1==m).map (·.2)
def replaced (t u:Tm)(s:Nm.St):Tm×Nm.St:=
 if u.binds.length≠t.args.length then (tz,{ s with e:=1 })
 else
  let r:=Put u t.args s.left s.dry
  if r.2.e≠0 then (tz,{ s with left:=r.2.left,dry:=r.2.dry,e:=r.2.e }) else (.mk t.binds r.1.kind r.1.index r.1.args,{ s with left:=r.2.left,dry:=r.2.dry })
mutual
def through (l:List Pair):Tm→Int→Nm.St→Tm×Nm.St
 | .mk b k i a,ins,s=>
  if s.e≠0 then (tz,s)
  else if (spend s).1=false then (tz,{ (spend s).2 with e:=11 })
  else
   let q:=throughs l a (wr (ins+b.length)) (spend s).2
   if k≠2∨q.2.e≠0 then (.mk b k i q.1,q.2)
   else match find l i with
    | none=>(.mk b k i q.1,q.2)
    | some u=>replaced (.mk b k i q.1) (lift (wr (ins+b.length)) u 0) q.2
def throughs (l:List Pair):List Tm→Int→Nm.St→List Tm×Nm.St
 | [],_,s=>([],s)
 | t :: r,ins,s=>((through l t ins s).1 :: (throughs l r ins (through l t ins s).2).1,(throughs l r ins (through l t ins s).2).2)
end
theorem throughs_seq (l:List Pair)(a:List Tm)(ins:Int)(s:Nm.St):throughs l a ins s=seqM (fun t s=>through l t ins s) a s:=by
 induction a generalizing s with
 | nil=>rfl
 | cons t a ih=>rw[throughs,ih];rfl
def apply (l:List Pair)(t:Tm)(left:Int)(dry:Bool):Tm×Nm.St:=
 if right l=false then (tz,⟨left,dry,0,1⟩)
 else
  let r:=through l t 0 ⟨left,dry,0,0⟩
  let s:=if r.2.e=0∧¬ (r.1.size≤5000∧r.1.depth≤60) then { r.2 with e:=2 } else r.2
  if s.e≠0 then (tz,s) else (r.1,s)
def kA:Ty:=.mk [] 0
def kC (l:List Tm):Tm:=.mk [] 1 1 l
def kX (l:List Tm):Tm:=.mk [] 2 0 l
end Sb
end Go.Proofs.YtclihnccilkohaaGreat
namespace Go.Proofs.YtclihnccilkohaaGreat
open Go.RowKit
theorem load64 (w:World)(b o:Nat)(x:Int)(hc:w.cell? ⟨b,o,none⟩=some (.int .i64 x)):
  Calls Tryz.prog 187 #[.pointer (some ⟨b,o,none⟩)] w fun e w'=>e=.returned (.int .i64 x)∧w'=w:=by
 have hl:=run_call_load (P:=Tryz.prog) Tryz.func196 (by kernel_rfl) (by kernel_rfl) (by kernel_rfl) .i64 (by kernel_rfl) hc
 go_enter Tryz.func187,Tryz.ntmps187
 go_wp2_with fail
 go_ret
 exact⟨rfl,rfl⟩
theorem store64 (w:World)(b o:Nat)(x y:Int)(hc:w.cell? ⟨b,o,none⟩=some (.int .i64 x))(hf:w.frozen? ⟨b,o,none⟩=false):
  Calls Tryz.prog 150 #[.pointer (some ⟨b,o,none⟩),.int .i64 y] w fun e w'=>e=.returned (.tuple #[])∧w'=w.setCell ⟨b,o,none⟩ (.int .i64 y):=by
 have hs:=run_call_store (P:=Tryz.prog) Tryz.func161 (by kernel_rfl) (by kernel_rfl) (by kernel_rfl) (by kernel_rfl) (k:=.i64) (y:=y) hc hf
 go_enter Tryz.func150,Tryz.ntmps150
 go_wp2_with fail
 go_end0
 exact⟨rfl,rfl⟩
theorem add64 (w:World)(b o:Nat)(x y:Int)(hc:w.cell? ⟨b,o,none⟩=some (.int .i64 x))(hf:w.frozen? ⟨b,o,none⟩=false):
  Calls Tryz.prog 188 #[.pointer (some ⟨b,o,none⟩),.int .i64 y] w fun e w'=>(∃ r,e=.returned (.int .i64 r))∧w'=w.setCell ⟨b,o,none⟩ (.int .i64 (IntKind.i64.wrap (x+y))):=by
 have hs:=run_call_add (P:=Tryz.prog) Tryz.func197 (by kernel_rfl) (by kernel_rfl) (by kernel_rfl) .i64 (by kernel_rfl) (y:=y) (s:=IntKind.i64.wrap (x+y)) hc hf (by simp[go_sem])
 go_enter Tryz.func188,Tryz.ntmps188
 go_wp2_with fail
 go_ret
 exact⟨⟨_,rfl⟩,by rw[IntWalk.i64_left]⟩
theorem loadB (w:World)(b o:Nat)(x:Int)(hc:w.cell? ⟨b,o,none⟩=some (.int .u32 x)):
  Calls Tryz.prog 186 #[.pointer (some ⟨b,o,none⟩)] w fun e w'=>e=.returned (.bool (x != 0))∧w'=w:=by
 have hl:=run_call_load (P:=Tryz.prog) Tryz.func195 (by kernel_rfl) (by kernel_rfl) (by kernel_rfl) .u32 (by kernel_rfl) hc
 go_enter Tryz.func186,Tryz.ntmps186
 go_wp2_with fail
 go_ret
 exact⟨rfl,rfl⟩
def bi (d:Bool):Int:=if d=true then 1 else 0
def budC (left used:Int)(dry:Bool):Array Value:=#[.int .i64 left,.int .i64 used,.int .u32 (bi dry),.int .i32 0,.int .u32 0,.int .u32 (bi dry)]
def BudAt (w:World)(b:Nat)(left:Int)(dry:Bool):Prop:=∃ used,Blk w b (budC left used dry) 261
theorem new_b (w:World)(n:Int)(h0:0≤n):Calls Tryz.prog 141 #[.int .i64 n] w fun e w'=>e=.returned (.pointer (some ⟨w.heap.size,0,none⟩))∧BudAt w' w.heap.size n false∧Below w.heap.size w w':=by
 have z0:=Blk.new w (budC 0 0 false) 261 rfl
 go_enter Tryz.func141,Tryz.ntmps141
 go_wp2_with fail
 have hmx:max n 0=n:=by omega
 try simp only[hmx]
 refine(store64 _ _ _ 0 n (z0.cell rfl) (z0.free 0)).mono ?_
 rintro e w' ⟨rfl,rfl⟩
 go_wp2_with fail
 go_ret
 exact⟨rfl,⟨0,Blk.new w (budC n 0 false) 261 rfl⟩,(Below.refl _ _).alloc (Nat.le_refl _) _⟩
theorem left_b {w:World}{b:Nat}{left:Int}{dry:Bool}(h:BudAt w b left dry):Calls Tryz.prog 175 #[.pointer (some ⟨b,0,none⟩)] w fun e w'=>e=.returned (.int .i64 left)∧w'=w:=by
 obtain⟨used,h⟩:=h
 have hcon:=load64 w b 0 left (h.cell rfl)
 go_enter Tryz.func175,Tryz.ntmps175
 go_wp2_with fail
 refine hcon.mono ?_
 rintro e w' ⟨rfl,rfl⟩
 go_wp2_with fail
 go_ret
 exact⟨rfl,rfl⟩
theorem dry_b {w:World}{b:Nat}{left:Int}{dry:Bool}(h:BudAt w b left dry):Calls Tryz.prog 174 #[.pointer (some ⟨b,0,none⟩)] w fun e w'=>e=.returned (.bool dry)∧w'=w:=by
 obtain⟨used,h⟩:=h
 have hcon:=loadB w b 5 (bi dry) (h.cell rfl)
 have hd:(bi dry != 0)=dry:=by cases dry <;> rfl
 rw[hd] at hcon
 go_enter Tryz.func174,Tryz.ntmps174
 go_wp2_with fail
 refine hcon.mono ?_
 rintro e w' ⟨rfl,rfl⟩
 go_wp2_with fail
 go_ret
 exact⟨rfl,rfl⟩
theorem take_b {w:World}{b:Nat}{left:Int}{dry:Bool}(h:BudAt w b left dry)(n:Int)(h0:0≤n)(h1:n≤left)(h2:left≤1000000000):Calls Tryz.prog 176 #[.pointer (some ⟨b,0,none⟩),.int .i64 n] w fun e w'=>e=.returned (.tuple #[])∧BudAt w' b (left-n) dry∧(∀ B,B≤b→Below B w w')∧∀ k,k≠b→w'.heap[k]?=w.heap[k]?:=by
 obtain⟨used,h⟩:=h
 have hn:IntKind.i64.wrap (-n)=-n:=IntWalk.i64_in _ (by omega)
 have hl:IntKind.i64.wrap (left + -n)=left-n:=by rw[IntWalk.i64_in _ (by omega)];omega
 have hcon:=add64 w b 0 left (-n) (h.cell rfl) (h.free 0)
 rw[hl] at hcon
 have h':=h.set 0 (.int .i64 (left-n))
 have hcon2:=add64 _ b 1 used n (h'.cell rfl) (h'.free 1)
 have h'':=h'.set 1 (.int .i64 (IntKind.i64.wrap (used+n)))
 clear hl
 go_enter Tryz.func176,Tryz.ntmps176
 go_wp2_with fail
 refine hcon.mono ?_
 rintro e w' ⟨⟨r,rfl⟩,rfl⟩
 go_wp2_with fail
 refine hcon2.mono ?_
 rintro e w' ⟨⟨r2,rfl⟩,rfl⟩
 go_wp2_with fail
 go_end0
 exact⟨rfl,⟨_,h''⟩,fun B hB=>((Below.refl B w).setCell (p:=⟨b,0,none⟩) hB _).setCell (p:=⟨b,1,none⟩) hB _,fun k hk=>(Below.heap_setCell _ ⟨b,1,none⟩ _ _ hk).trans (Below.heap_setCell _ ⟨b,0,none⟩ _ _ hk)⟩
theorem race_disable (w:World):(callFunc 210 #[]).run Tryz.prog w=.ok (.value (.tuple #[])) w:=run_call_mark0 Tryz.func210 (by kernel_rfl) (by kernel_rfl) (by kernel_rfl) .disable (by kernel_rfl) w
theorem race_enable (w:World):(callFunc 212 #[]).run Tryz.prog w=.ok (.value (.tuple #[])) w:=run_call_mark0 Tryz.func212 (by kernel_rfl) (by kernel_rfl) (by kernel_rfl) .enable (by kernel_rfl) w
theorem race_acquire (a:Addr)(w:World):(callFunc 213 #[.pointer (some a)]).run Tryz.prog w=.ok (.value (.tuple #[])) w:=run_call_marked Tryz.func213 (by kernel_rfl) (by kernel_rfl) (by kernel_rfl) .acquire (by kernel_rfl) a w
theorem race_releaseMerge (a:Addr)(w:World):(callFunc 215 #[.pointer (some a)]).run Tryz.prog w=.ok (.value (.tuple #[])) w:=run_call_marked Tryz.func215 (by kernel_rfl) (by kernel_rfl) (by kernel_rfl) .releaseMerge (by kernel_rfl) a w
theorem storeB (a:Addr)(x:Value)(w:World)(hc:w.cell? a=some x)(hz:w.frozen? a=false):
  Calls Tryz.prog 191 #[.pointer (some a),.bool true] w fun e w'=>e=.returned (.tuple #[])∧w'=w.drew.setCell a (.int .u32 1):=by
 have hc':w.drew.cell? a=some x:=by go_simp
 have hz':w.drew.frozen? a=false:=by go_simp
 have hst:=run_call_store (P:=Tryz.prog) Tryz.func199 (by kernel_rfl) (by kernel_rfl) (by kernel_rfl) (by kernel_rfl) (k:=.u32) (y:=1) hc' hz'
 go_enter Tryz.func191,Tryz.ntmps191
 go_wp2
 go_region_calls
 all_goals (go_end0;exact⟨rfl,rfl⟩)
theorem store_deferred (a:Addr)(x:Value)(u:FrameMode)(w:World)(hc:w.cell? a=some x)(hz:w.frozen? a=false):
  CallsD Tryz.prog 191 #[.pointer (some a),.bool true] u w fun e u' w'=>u'=u∧(e=.returned (.tuple #[])∧w'=w.drew.setCell a (.int .u32 1)):=by
 have hc':w.drew.cell? a=some x:=by go_simp
 have hz':w.drew.frozen? a=false:=by go_simp
 have hst:=run_call_store (P:=Tryz.prog) Tryz.func199 (by kernel_rfl) (by kernel_rfl) (by kernel_rfl) (by kernel_rfl) (k:=.u32) (y:=1) hc' hz'
 go_enter_d Tryz.func191,Tryz.ntmps191
 go_wp2
 go_region_calls
 all_goals (go_end0;exact⟨rfl,rfl⟩)
set_option maxRecDepth 100000 in
set_option maxHeartbeats 1600000 in
theorem unlock_deferred (a:Addr)(u:FrameMode)(w:World)(hc:w.cell? a=some (.int .i32 1))(hz:w.frozen? a=false):
  CallsD Tryz.prog 204 #[.pointer (some a)] u w fun e u' w'=>u'=u∧(e=.returned (.tuple #[])∧w'=w.setCell a (.int .i32 0)):=by
 have hd:=race_disable
 have he:=race_enable
 have hr:=race_releaseMerge
 have hadd:=run_call_add (P:=Tryz.prog) Tryz.func216 (by kernel_rfl) (by kernel_rfl) (by kernel_rfl) .i32 (by kernel_rfl) (y:=-1) (s:=0) hc hz (by simp[go_sem];rfl)
 have hcv:=run_convert_to_unsafe (P:=Tryz.prog) (src:=322) (dst:=326) Tryz.underlying322 Tryz.underlying326 (by kernel_rfl) hc
 go_enter_d Tryz.func204,Tryz.ntmps204
 go_wp2
 go_end0
 go_wp2
 go_end0
 exact⟨rfl,rfl⟩
set_option maxRecDepth 100000 in
set_option maxHeartbeats 1600000 in
theorem lock_free (a:Addr)(w:World)(hc:w.cell? a=some (.int .i32 0))(hz:w.frozen? a=false):
  Calls Tryz.prog 203 #[.pointer (some a)] w fun e w'=>e=.returned (.tuple #[])∧w'=w.setCell a (.int .i32 1):=by
 have hd:=race_disable
 have he:=race_enable
 have ha:=race_acquire
 have hcas:=run_call_cas_hit (P:=Tryz.prog) Tryz.func211 (by kernel_rfl) (by kernel_rfl) (by kernel_rfl) .i32 (by kernel_rfl) (y:=1) hc hz
 have hc':(w.setCell a (.int .i32 1)).cell? a=some (.int .i32 1):=World.cell?_setCell_same w a _ hc
 have hcv:=run_convert_to_unsafe (P:=Tryz.prog) (src:=322) (dst:=326) Tryz.underlying322 Tryz.underlying326 (by kernel_rfl) hc'
 go_enter Tryz.func203,Tryz.ntmps203
 go_wp2
 first | go_end0 | (simp only[Exit.inBlock,Exit.then];refine bodyPost_ret (results_none rfl _ _ _) rfl ?_) | refine bodyPost_ret (results_none rfl _ _ _) rfl ?_
 go_wp2
 go_end0
 exact⟨rfl,rfl⟩
theorem dried1 (pl:Addr)(b:Nat)(x:Value)(w:World)(hp:w.cell? pl=some (.pointer (some ⟨b,0,none⟩)))(hc:w.cell? ⟨b,5,none⟩=some x)(hz:w.frozen? ⟨b,5,none⟩=false):
  Calls Tryz.prog 190 #[.pointer (some pl)] w fun e w'=>e=.returned (.tuple #[])∧w'=w.drew.setCell ⟨b,5,none⟩ (.int .u32 1):=by
 have hcon:=storeB ⟨b,5,none⟩ x w hc hz
 go_enter Tryz.func190,Tryz.ntmps190
 go_wp2_with fail
 refine hcon.mono ?_
 rintro e w' ⟨rfl,rfl⟩
 go_wp2_with fail
 go_end0
 exact⟨rfl,rfl⟩
set_option maxRecDepth 100000 in
set_option maxHeartbeats 1600000 in
theorem slow_b {w:World}{b:Nat}{left used:Int}{pl:Addr}(hpb:¬ b=pl.block)(hp:w.cell? pl=some (.pointer (some ⟨b,0,none⟩)))(hb:Blk w b (budC left used false) 261):
  Calls Tryz.prog 198 #[.pointer (some ⟨b,2,none⟩),.func (.func 190) #[] #[.pointer (some pl)]] w fun e w'=>e=.returned (.tuple #[]) ∧
   w'=((((w.setCell ⟨b,3,none⟩ (.int .i32 1)).drew.setCell ⟨b,5,none⟩ (.int .u32 1)).drew.setCell ⟨b,2,none⟩ (.int .u32 1)).setCell ⟨b,3,none⟩ (.int .i32 0)):=by
 have hnot:∀ (x:Bool) (w:World),(Op.unary .not (.bool x)).run Tryz.prog w=.ok (.bool (!x)) w:=fun _ _=>rfl
 have b1:=hb.set 3 (.int .i32 1)
 have hp1:(w.setCell ⟨b,3,none⟩ (.int .i32 1)).cell? pl=some (.pointer (some ⟨b,0,none⟩)):=(World.cell?_setCell_other _ ⟨b,3,none⟩ pl _ (fun h=>hpb (by rw[←h]))).trans hp
 go_enter_defers Tryz.func198,Tryz.ntmps198
 go_wp2_with fail
 refine(lock_free ⟨b,3,none⟩ _ (hb.cell rfl) (hb.free 3)).mono ?_
 rintro e w' ⟨rfl,rfl⟩
 go_wp2_with fail
 refine(loadB _ b 2 0 (b1.cell rfl)).mono ?_
 rintro e w' ⟨rfl,rfl⟩
 go_wp2_with fail
 refine(dried1 pl b (.int .u32 0) _ hp1 (b1.cell rfl) (b1.free 5)).mono ?_
 rintro e w' ⟨rfl,rfl⟩
 have b2:=b1.drew.set 5 (.int .u32 1)
 go_wp2_with fail
 refine leaves_cons (f:=191) (args:=#[.pointer (some ⟨b,2,none⟩),.bool true]) (by simp) (by simp[go_sem]) ?_
 refine(store_deferred ⟨b,2,none⟩ (.int .u32 0) .returning _ (b2.cell rfl) (b2.free 2)).mono ?_
 rintro e u' w'' ⟨rfl,rfl,rfl⟩
 have b3:=b2.drew.set 2 (.int .u32 1)
 refine leaves_cons (f:=204) (args:=#[.pointer (some ⟨b,3,none⟩)]) (by simp[settle]) (by simp[go_sem]) ?_
 refine(unlock_deferred ⟨b,3,none⟩ _ _ (b3.cell rfl) (b3.free 3)).mono ?_
 rintro e u' w'' ⟨rfl,rfl,rfl⟩
 simp[Leaves,settle,results,Tryz.results198]
theorem do_first {w:World}{b:Nat}{left used:Int}{pl:Addr}(hpb:¬ b=pl.block)(hp:w.cell? pl=some (.pointer (some ⟨b,0,none⟩)))(hb:Blk w b (budC left used false) 261):
  Calls Tryz.prog 189 #[.pointer (some ⟨b,2,none⟩),.func (.func 190) #[] #[.pointer (some pl)]] w fun e w'=>e=.returned (.tuple #[]) ∧
   w'=((((w.setCell ⟨b,3,none⟩ (.int .i32 1)).drew.setCell ⟨b,5,none⟩ (.int .u32 1)).drew.setCell ⟨b,2,none⟩ (.int .u32 1)).setCell ⟨b,3,none⟩ (.int .i32 0)):=by
 have hnot:∀ (x:Bool) (w:World),(Op.unary .not (.bool x)).run Tryz.prog w=.ok (.bool (!x)) w:=fun _ _=>rfl
 have hcon:=loadB w b 2 0 (hb.cell rfl)
 have hcon2:=slow_b hpb hp hb
 go_enter Tryz.func189,Tryz.ntmps189
 go_wp2_with fail
 refine hcon.mono ?_
 rintro e w' ⟨rfl,rfl⟩
 go_wp2_with fail
 refine hcon2.mono ?_
 rintro e w' ⟨rfl,rfl⟩
 go_wp2_with fail
 go_end0
 exact⟨rfl,rfl⟩
theorem do_again {w:World}{b:Nat}{left used:Int}(fv:Value)(hb:Blk w b (budC left used true) 261):
  Calls Tryz.prog 189 #[.pointer (some ⟨b,2,none⟩),fv] w fun e w'=>e=.returned (.tuple #[])∧w'=w:=by
 have hnot:∀ (x:Bool) (w:World),(Op.unary .not (.bool x)).run Tryz.prog w=.ok (.bool (!x)) w:=fun _ _=>rfl
 have hcon:=loadB w b 2 1 (hb.cell rfl)
 go_enter Tryz.func189,Tryz.ntmps189
 go_wp2_with fail
 refine hcon.mono ?_
 rintro e w' ⟨rfl,rfl⟩
 go_wp2_with fail
 go_end0
 exact⟨rfl,rfl⟩
theorem dried_b {w:World}{b:Nat}{left:Int}{dry:Bool}(h:BudAt w b left dry):
  Calls Tryz.prog 177 #[.pointer (some ⟨b,0,none⟩)] w fun e w'=>e=.returned (.tuple #[])∧BudAt w' b left true∧Off (fun k=>k=b) w w':=by
 have hmf:∀ (fn:Fn) (first cap:Array Value) (w:World),(Instr.makeFunc fn first cap).run Tryz.prog w=.ok (.func fn first cap) w:=fun _ _ _ _=>rfl
 obtain⟨used,h⟩:=h
 have hlt:=h.lt
 obtain⟨wB,hwB⟩:∃ wB,w.alloc (.cells #[.pointer (some ⟨b,0,none⟩)] 233)=wB:=⟨_,rfl⟩
 have B0:Off (fun k=>k=b) w wB:=by rw[←hwB];exact(Off.refl _ _).alloc _
 have x0:Blk wB w.heap.size #[.pointer (some ⟨b,0,none⟩)] 233:=by rw[←hwB];exact Blk.new _ _ _ rfl
 have h1:Blk wB b (budC left used dry) 261:=by rw[←hwB];exact h.alloc _
 have c0:wB.cell? ⟨w.heap.size,0,none⟩=some (.pointer (some ⟨b,0,none⟩)):=x0.cell rfl
 clear h x0
 cases dry
 ·have hcon:=do_first (pl:=⟨w.heap.size,0,none⟩) (show ¬ b=w.heap.size by omega) c0 h1
  go_enter Tryz.func177,Tryz.ntmps177
  go_wp2_with fail
  try rw[hwB]
  refine hcon.mono ?_
  rintro e w' ⟨rfl,rfl⟩
  go_wp2_with fail
  go_end0
  have h2:=(((h1.set 3 (.int .i32 1)).drew.set 5 (.int .u32 1)).drew.set 2 (.int .u32 1)).set 3 (.int .i32 0)
  exact⟨rfl,⟨used,h2⟩,((((B0.set ⟨b,3,none⟩ _ (.inl rfl)).drew.set ⟨b,5,none⟩ _ (.inl rfl)).drew.set ⟨b,2,none⟩ _ (.inl rfl)).set ⟨b,3,none⟩ _ (.inl rfl))⟩
 ·have hcon:=do_again (.func (.func 190) #[] #[.pointer (some ⟨w.heap.size,0,none⟩)]) h1
  go_enter Tryz.func177,Tryz.ntmps177
  go_wp2_with fail
  try rw[hwB]
  refine hcon.mono ?_
  rintro e w' ⟨rfl,rfl⟩
  go_wp2_with fail
  go_end0
  exact⟨rfl,⟨used,h1⟩,B0⟩
open Go.Proofs.YtclihnccilkohaaGreat.Nm in
set_option maxHeartbeats 1600000 in
theorem spend_b {w:World}{b:Nat}{s:Nm.St}(h:BudAt w b s.left s.dry)(h0:0≤s.left)(h1:s.left≤1000000000):
  Calls Tryz.prog 157 #[.pointer (some ⟨b,0,none⟩),.int .i64 1] w fun e w'=>e=.returned (.bool (spend s).1)∧BudAt w' b (spend s).2.left (spend s).2.dry∧Off (fun k=>k=b) w w':=by
 obtain⟨left,dry,count,er⟩:=s
 dsimp only at *
 have hd:=dry_b h
 have hl:=left_b h
 have hnot:∀ (x:Bool) (w:World),(Op.unary .not (.bool x)).run Tryz.prog w=.ok (.bool (!x)) w:=fun _ _=>rfl
 by_cases hc:dry=false∧1≤left
 ·obtain⟨rfl,hc⟩:=hc
  have hg:¬ (1:Int)>left:=by omega
  have hs:Hid (spend ⟨left,false,count,er⟩=(true,⟨left-1,false,count,er⟩)):=by
   show _=_;unfold spend;rw[if_neg (by simp;omega)]
  have ht:=take_b h 1 (by omega) hc h1
  rw[hs.out]
  dsimp only
  clear h
  go_enter Tryz.func157,Tryz.ntmps157
  go_wp2_with fail
  refine hd.mono ?_
  rintro e w1 ⟨rfl,rfl⟩
  go_wp2_with fail
  refine hl.mono ?_
  rintro e w1 ⟨rfl,rfl⟩
  go_wp2_with fail
  refine ht.mono ?_
  rintro e w2 ⟨rfl,hB,hbl,hbk⟩
  go_wp2_with fail
  go_ret
  have hz:=hbl 0 (Nat.zero_le _)
  exact⟨rfl,hB,⟨hz.os,hz.tape,hz.output,hz.size,fun k _ hk=>hbk k hk⟩⟩
 ·have hs:Hid (spend ⟨left,dry,count,er⟩=(false,⟨0,true,count,er⟩)):=by
   show _=_;unfold spend
   rw[if_pos]
   cases dry
   ·right;show left<1;simp at hc;omega
   ·left;rfl
  have ht:=take_b h left h0 (Int.le_refl _) h1
  rw[Int.sub_self] at ht
  rw[hs.out]
  dsimp only
  cases dry
  ·have hg:(1:Int)>left:=by simp at hc;omega
   clear h hc
   go_enter Tryz.func157,Tryz.ntmps157
   go_wp2_with fail
   refine hd.mono ?_
   rintro e w1 ⟨rfl,rfl⟩
   go_wp2_with fail
   refine hl.mono ?_
   rintro e w1 ⟨rfl,rfl⟩
   go_wp2_with fail
   refine hl.mono ?_
   rintro e w1 ⟨rfl,rfl⟩
   go_wp2_with fail
   refine ht.mono ?_
   rintro e w2 ⟨rfl,hB,hbl,hbk⟩
   go_wp2_with fail
   refine(dried_b hB).mono ?_
   rintro e w3 ⟨rfl,hB3,hO3⟩
   go_wp2_with fail
   go_ret
   have hz:=hbl 0 (Nat.zero_le _)
   exact⟨rfl,hB3,Off.trans ⟨hz.os,hz.tape,hz.output,hz.size,fun k _ hk=>hbk k hk⟩ hO3⟩
  ·clear h hc
   go_enter Tryz.func157,Tryz.ntmps157
   go_wp2_with fail
   refine hd.mono ?_
   rintro e w1 ⟨rfl,rfl⟩
   go_wp2_with fail
   refine hl.mono ?_
   rintro e w1 ⟨rfl,rfl⟩
   go_wp2_with fail
   refine ht.mono ?_
   rintro e w2 ⟨rfl,hB,hbl,hbk⟩
   go_wp2_with fail
   refine(dried_b hB).mono ?_
   rintro e w3 ⟨rfl,hB3,hO3⟩
   go_wp2_with fail
   go_ret
   have hz:=hbl 0 (Nat.zero_le _)
   exact⟨rfl,hB3,Off.trans ⟨hz.os,hz.tape,hz.output,hz.size,fun k _ hk=>hbk k hk⟩ hO3⟩
end Go.Proofs.YtclihnccilkohaaGreat
namespace Go.Proofs.YtclihnccilkohaaGreat
open Go.RowKit
def BudJ (left:Int)(dry:Bool):Nat→World→Prop:=fun b w=>BudAt w b left dry
theorem BudAt.sameD {w w':World}{b:Nat}{left:Int}{dry:Bool}(h:BudAt w b left dry)(hb:w'.heap[b]?=w.heap[b]?):BudAt w' b left dry:=by
 obtain⟨u,h⟩:=h;exact⟨u,h.same hb⟩
theorem BudAt.ltD {w:World}{b:Nat}{left:Int}{dry:Bool}(h:BudAt w b left dry):b<w.heap.size:=by
 obtain⟨u,h⟩:=h;exact h.lt
theorem BudAt.ob {m:Mp}{Im:Nat→Nat→Prop}{w:World}{b:Nat}{left:Int}{dry:Bool}(h:BudAt w b left dry):ObOk m Im w b (.ob (BudJ left dry)):=
 .ob _ h fun _ hb=>BudAt.sameD h hb
theorem obOk_ob {m:Mp}{Im:Nat→Nat→Prop}{w:World}{b:Nat}{J:Nat→World→Prop}(h:ObOk m Im w b (.ob J)):J b w:=by
 cases h with | ob J h hs=>exact h
theorem rel_oE {m:Mp}{Im:Nat→Nat→Prop}{w:World}{x:Value}{k:Nat}(h:Rel m Im w x (.o k)):∃ b,x=.pointer (some ⟨b,0,none⟩)∧m.obj k=some b:=by
 cases h with | o k b h=>exact⟨b,rfl,h⟩
theorem callC_obj {P:Program}{f:FuncId}(hf:entersB P f=true){k:Nat}{ds:List D}{J J':Nat→World→Prop}{V:Value}(hs:∀ b w w',J' b w→w'.heap[b]?=w.heap[b]?→J' b w') 
  (h:∀ (m:Mp) (Im:Nat→Nat→Prop) (w:World) (b:Nat) (vs:List Value),J b w→RelL m Im w vs ds→Calls P f (.pointer (some ⟨b,0,none⟩) :: vs).toArray w fun e w'=>e=.returned V∧J' b w'∧Off (fun x=>x=b) w w') :
  CallC P f (.o k :: ds) [(.o k,.ob J)] [(.o k,.ob J')] (.v V):=by
 refine⟨hf,fun cx Fr m Im w vs hmem hargs hR=>?_⟩
 obtain⟨b,q1,q2⟩:=hR (.o k,.ob J) (by simp)
 cases vs with
 | nil=>exact hargs.elim
 | cons x vs=>
  obtain⟨b',rfl,q3⟩:=rel_oE hargs.1
  rw[q1] at q3;cases q3
  refine(h m Im w b vs (obOk_ob q2) hargs.2).mono ?_
  rintro e w' ⟨rfl,h1,h2⟩
  have hki:KeepI Im w w':=fun c o v hi hv=>(World.cell?_of_block (a:=⟨c,o,none⟩) (h2.block c (ltOfCell hv) fun e=>by subst e;exact hmem.onim k c o q1 hi)).trans hv
  refine⟨V,Im,rfl,⟨h2.os,h2.tape,h2.output,h2.size,fun c hc hn=>h2.block c hc fun e=>hn ?_⟩,fun _ _ h=>h,fun _ _ h=>.inl h,fun c o hi=>?_,fun k' c o hk=>?_,.v _,fun p hp=>?_⟩
  ·subst e;exact .inr (.inr ⟨k,.ob J,by simp,q1⟩)
  ·obtain⟨v,hv⟩:=hmem.im c o hi;exact⟨v,hki c o v hi hv⟩
  ·exact(World.frozen?_of_block (a:=⟨c,o,none⟩) (h2.block c (hmem.lt k' c hk) fun e=>by subst e;exact hmem.oblk k k' c q1 hk)).trans (hmem.free k' c o hk)
  ·simp only[List.mem_singleton] at hp
   subst hp
   exact⟨b,q1,.ob _ h1 fun w2 hb=>hs b w' w2 h1 hb⟩
theorem spend_d (k:Nat)(s:Nm.St)(h0:0≤s.left)(h1:s.left≤1000000000):CallC Tryz.prog 157 [.o k,.v (.int .i64 1)] [(.o k,.ob (BudJ s.left s.dry))] [(.o k,.ob (BudJ (Nm.spend s).2.left (Nm.spend s).2.dry))] (.v (.bool (Nm.spend s).1)):=by
 refine callC_obj (by kernel_rfl) (fun b w w' h hb=>BudAt.sameD h hb) fun m Im w b vs hJ hv=>?_
 match vs,hv with
 | [x],hv=>
  have:=rel_v.1 hv.1;subst this
  exact spend_b hJ h0 h1
theorem new_d (n:Int)(h0:0≤n)(nm:Nat):CallN Tryz.prog 141 [.v (.int .i64 n)] [] nm [(.o nm,.ob (BudJ n false))] (.o nm):=by
 refine⟨by kernel_rfl,fun cx Fr m Im w a σ vs hn hs hv _=>?_⟩
 match vs,hv with
 | [x],hv=>
  have:=rel_v.1 hv.1;subst this
  refine(new_b w n h0).mono ?_
  rintro e w' ⟨rfl,h1,h2⟩
  rw[dropT_nil]
  obtain⟨r1,r2⟩:=hs.newObjB hn h2 (Nat.le_refl _) h1.ltD (d:=.ob (BudJ n false)) fun m'=>h1.ob
  exact⟨_,m.setO nm w.heap.size,Im,rfl,r1,.o nm _ (by simp[Mp.setO])⟩
def subs:List Nat→List (List Nat)
 | []=>[[]]
 | a :: l=>subs l++(subs l).map (a :: ·)
def markL (D:Nat→Bool):List Bool→Nat→List Bool
 | [],_=>[]
 | b :: l,k=>(b||D k) :: markL D l (k+1)
def mark (listed:Array Bool)(D:Nat→Bool):Array Bool:=(markL D listed.toList 0).toArray
section
variable {P:Program} {ops:Array Oper} {Q:Exit→Act→World→Prop} {md:Region.Mode} {S:World→Prop}
end
namespace Tm
mutual
def turn {σ:Type}(f:σ→Int→σ×Int):Tm→σ→Int→σ×Tm
 | .mk b k i a,s,n=>
  ((turns f a (if k=0∧n+(b.length:Nat)≤i then (f s (i-(n+(b.length:Nat)))).1 else s) (n+(b.length:Nat))).1,
   .mk b k (if k=0∧n+(b.length:Nat)≤i then n+(b.length:Nat)+(f s (i-(n+(b.length:Nat)))).2 else i) (turns f a (if k=0∧n+(b.length:Nat)≤i then (f s (i-(n+(b.length:Nat)))).1 else s) (n+(b.length:Nat))).2)
def turns {σ:Type}(f:σ→Int→σ×Int):List Tm→σ→Int→σ×List Tm
 | [],s,_=>(s,[])
 | t :: l,s,n=>((turns f l (turn f t s n).1 n).1,(turn f t s n).2 :: (turns f l (turn f t s n).1 n).2)
end
variable {σ:Type} (f:σ→Int→σ×Int)
end Tm
theorem Acc.other {α:Type}{r:Rp α}{E:TypeId}{base:Nat}{F:Nat→Prop}{w w':World}{v:Value}{l:List α}{row:Option Nat}(h:Acc r E base F w v l)(hg:w.grownBy w' row)(hr:∀ k,row=some k→¬ F k∧k<base):Acc r E base F w' v l:=by
 obtain⟨X,h1,h2,h3⟩:=h
 refine⟨X,h1,h2.kept hg ?_,fun i hi=>?_⟩
 ·cases hv:v.ownBlock with
  | none=>exact .inl rfl
  | some k=>exact .inr fun e=>by have:=(h2.lt k hv).1;have:=(hr k e.symm).2;omega
 ·obtain⟨x,hx,hrr⟩:=h3 i hi
  exact⟨x,hx,r.keep hrr ((Keep.refl _ _).grown hg fun k hk hf=>(hr k hk).1 hf.1)⟩
end Go.Proofs.YtclihnccilkohaaGreat
namespace Go.Proofs.YtclihnccilkohaaGreat
open Go.RowKit
inductive Wide:Tm→Prop where
 | mk (b:List Ty) (k i:Int) (a:List Tm):b.length≤100000→a.length≤100000→(∀ t∈a,Wide t)→Wide (.mk b k i a)
theorem Wide.inv {b:List Ty}{k i:Int}{a:List Tm}(h:Wide (.mk b k i a)):b.length≤100000∧a.length≤100000∧∀ t∈a,Wide t:=by
 cases h with
 | mk _ _ _ _ h1 h2 h3=>exact⟨h1,h2,h3⟩
theorem Nm.lift_len (y:Int)(l:List Tm)(m:Int):(Nm.lifts y l m).length=l.length:=by rw[Nm.lifts_map];simp
theorem Nm.lift_take (y:Int)(l:List Tm)(m:Int)(j:Nat)(h:j<l.length):Nm.lifts y (l.take (j+1)) m=Nm.lifts y (l.take j) m++[Nm.lift y l[j] m]:=by
 rw[Nm.lifts_map,Nm.lifts_map,List.take_succ_eq_append_getElem h,List.map_append];rfl
theorem Wide.lift {t:Tm}(y:Int)(h:Wide t):∀ m,Wide (Nm.lift y t m):=by
 induction h with
 | mk b k i a h1 h2 h3 ih=>
  intro m
  rw[Nm.lift_eq]
  refine .mk _ _ _ _ h1 (by rw[Nm.lift_len];exact h2) fun t ht=>?_
  rw[Nm.lifts_map] at ht
  obtain⟨u,hu,rfl⟩:=List.mem_map.1 ht
  exact ih u hu _
def TG_62:TI:=⟨4,true,[Value.slice none 0 0,Value.int IntKind.i64 0,Value.int IntKind.i64 0,Value.slice none 0 0],[(0,1,false),(1,2,true),(3,1,false)],none,64,6,none,false⟩
theorem TG_62_ok:TypOk Tryz.prog 62 TG_62:=by constructor <;> kernel_rfl
def TG_3:TI:=⟨1,false,[Value.int IntKind.i64 0],[],none,8,2,none,false⟩
theorem TG_3_ok:TypOk Tryz.prog 3 TG_3:=by constructor <;> kernel_rfl
def TG_60:TI:=⟨1,false,[Value.slice none 0 0],[],some 62,24,5,none,false⟩
theorem TG_60_ok:TypOk Tryz.prog 60 TG_60:=by constructor <;> kernel_rfl
def TG_59:TI:=⟨2,true,[Value.int IntKind.i64 0,Value.int IntKind.i64 0],[(0,1,false),(1,1,false)],none,16,6,none,true⟩
theorem TG_59_ok:TypOk Tryz.prog 59 TG_59:=by constructor <;> kernel_rfl
def TG_41:TI:=⟨1,false,[Value.slice none 0 0],[],some 106,24,5,none,false⟩
theorem TG_41_ok:TypOk Tryz.prog 41 TG_41:=by constructor <;> kernel_rfl
def TG_106:TI:=⟨2,true,[Value.slice none 0 0,Value.int IntKind.i64 0],[(0,1,false),(1,1,false)],none,32,6,none,false⟩
theorem TG_106_ok:TypOk Tryz.prog 106 TG_106:=by constructor <;> kernel_rfl
def TG:List (Nat×TI):=[(62,TG_62),(3,TG_3),(60,TG_60),(59,TG_59),(41,TG_41),(106,TG_106)]
theorem TG_ok:TabOk Tryz.prog TG:=(((((((TabOk.nil _).cons TG_106_ok).cons TG_41_ok).cons TG_59_ok).cons TG_60_ok).cons TG_3_ok).cons TG_62_ok)
theorem wr_wrap (x:Int):Nm.wr x=IntKind.i64.wrap x:=by rw[IntKind.wrap_i64];unfold Nm.wr RowKit.wrap64;rfl
set_option maxHeartbeats 1000000 in
theorem grown_d:∀ (t:Tm) (_:Wide t) (y ins:Int),PureC Tryz.prog 160 [.ag (eTm t),.v (.int .i64 y),.v (.int .i64 ins)] (.ag (eTm (Nm.lift y t ins))):=by
 intro t
 induction t using Tm.ind with
 | h bs k i a ih=>
 intro hw y ins
 obtain⟨w1,w2,w3⟩:=hw.inv
 obtain⟨m,hm⟩:∃ m,IntKind.i64.wrap (ins+(bs.length:Int))=m:=⟨_,rfl⟩
 obtain⟨i',hi'⟩:∃ i',(if k=0∧m≤i then IntKind.i64.wrap (i+y) else i)=i':=⟨_,rfl⟩
 have hL:Nm.lift y (.mk bs k i a) ins=.mk bs k i' (Nm.lifts y a m):=by rw[Nm.lift_eq,wr_wrap,wr_wrap,hm,hi']
 rw[hL]
 refine call_of_dw 0 55 [ResultVar.cell 6 62] TG_ok (by kernel_rfl) Tryz.func160 rfl Tryz.ntmps160 rfl (by simp) ?dwords ?dbody
 case dwords=>simp[wordsOk,D.ok,D.oks,eTm_ok,rnames]
 case dbody=>
  intro cx hnt hn0
  refine dw_seq ?_;refine dwk [] TG_ok hnt fun _ z9=>z9 _ _ ?_;refine dw_seq ?_;refine dwk [(13,.v (.int .i64 bs.length)),(14,.v (.int .i64 m))] TG_ok hnt fun K hK=>?_;refine And.intro (dintE (by rw[eTys_len])) ?_;refine And.intro (dintE hm) ?_;refine hK _ _ ?_;clear hK K
  refine dw_cut (τ:=[(.t 1,.v (.int .i64 y)),(.t 2,.v (.int .i64 m)),(.t 3,.p 0 0),(.t 6,.p 1 0),(.c 0 0,.sl 2 (eTys bs) none),(.c 0 1,.v (.int .i64 k)),(.c 0 2,.v (.int .i64 i')),(.c 0 3,.sl 4 (eTms a) none),(.c 1 0,.v (.slice none 0 0)),(.c 1 1,.v (.int .i64 0)),(.c 1 2,.v (.int .i64 0)),(.c 1 3,.v (.slice none 0 0))]) (N1:=2) ?_ ?_
  ·by_cases hk:k=0
   ·subst hk
    by_cases hi:m≤i
    ·rw[if_pos ⟨rfl,hi⟩] at hi';refine dw_seq ?_;refine dwk [(18,.v (.bool true)),(24,.v (.bool true))] TG_ok hnt fun K hK=>?_;refine And.intro (VLe.refl _) ?_;refine And.intro (dtrue hi) ?_;refine hK _ _ ?_;clear hK K;refine dw_cond (t:=true) rfl ?_;rw[if_pos rfl];refine dwk [(30,.v (.int .i64 i'))] TG_ok hnt fun K hK=>?_;refine And.intro (dintE hi') ?_;refine hK _ _ ?_;clear hK K
     exact cut_ok VS.toA
    ·rw[if_neg (fun h=>hi h.2)] at hi'
     subst hi'
     refine dw_seq ?_;refine dwk [(18,.v (.bool true)),(24,.v (.bool false))] TG_ok hnt fun K hK=>?_;refine And.intro (VLe.refl _) ?_;refine And.intro (dfalse hi) ?_;refine hK _ _ ?_;clear hK K;refine dw_cond (t:=false) rfl ?_;rw[if_neg (by simp)];refine dw_skip ?_
     exact cut_ok VS.toA
   ·rw[if_neg (fun h=>hk h.1)] at hi'
    subst hi'
    refine dw_seq ?_;refine dwk [(18,.v (.bool false))] TG_ok hnt fun K hK=>?_;refine And.intro (dfalse hk) ?_;refine hK _ _ ?_;clear hK K;refine dw_cond (t:=false) rfl ?_;rw[if_neg (by simp)];refine dw_skip ?_
    exact cut_ok VS.toA
  ·refine dw_seq ?_;refine dwk [(35,.v (.int .i64 a.length))] TG_ok hnt fun K hK=>?_;refine And.intro (dintE (by rw[eTms_len])) ?_;refine And.intro ((by omega)) ?_;refine hK _ _ ?_;clear hK K;refine dw_seq (dw_seq ?_);refine dwk [(39,.v (.int .i64 a.length))] TG_ok hnt fun K hK=>?_;refine And.intro (dintE (by rw[eTms_len])) ?_;refine hK _ _ ?_;clear hK K;refine dw_block ?_
   refine dw_loop (ι:=Nat) (fun j=>[(.t 40,.v (.int .i64 j)),(.t 7,.sl 4 (eTms (Nm.lifts y (a.take j) m)) (some 5)),(.r 5,.rw 62 4 j),(.t 1,.v (.int .i64 y)),(.t 2,.v (.int .i64 m)),(.t 3,.p 0 0),(.t 6,.p 1 0),(.t 38,.sl 4 (eTms a) none),(.t 39,.v (.int .i64 a.length)),(.c 0 0,.sl 2 (eTys bs) none),(.c 0 1,.v (.int .i64 k)),(.c 0 2,.v (.int .i64 i')),(.c 0 3,.sl 4 (eTms a) none),(.c 1 0,.v (.slice none 0 0)),(.c 1 1,.v (.int .i64 0)),(.c 1 2,.v (.int .i64 0)),(.c 1 3,.v (.slice none 0 0))]) 6 (fun j=>a.length-j) 0 ?_ fun j=>?_
   ·exact(VS.toK (by omega) (by repeat first | exact trivial | refine And.intro (And.intro (by first | rfl | simp[D.ok,D.oks,D.okss,D.okm,upto,keyOk,Nm.lifts,eTms]) (by first | exact Or.inl rfl | exact Or.inr ⟨_,rfl,(by repeat first | exact VLe.refl _ | exact VLe.nil _ | exact VLe.untag _ _ _ | refine VLe.ag ?_ | refine VLe.tu ?_ | refine VLeL.cons ?_ ?_ | exact VLeL.nil),trivial⟩ | simp[get,Key.eq,Nm.lifts,eTms])) ?_))
   ·refine dw_seq ?_
    by_cases hlt:j<a.length
    ·have hg:=eTms_getD a j hlt
     have hih:=ih a[j] (List.getElem_mem hlt) (w3 _ (List.getElem_mem hlt)) y m
     rw[eTm_eq,eTm_eq] at hih
     have hll:(Nm.lifts y (a.take j) m).length=j:=by rw[Nm.lift_len,List.length_take];omega
     refine dwk [(41,.v (.bool true))] TG_ok hnt fun K hK=>?_;refine And.intro (dtrue (by omega)) ?_;refine hK _ _ ?_;clear hK K;refine dw_seq (dw_cond (t:=true) rfl ?_);rw[if_pos rfl];refine dw_skip (dw_seq (dw_block (dw_seq ?_)));refine dwk [(42,.q [.sl 2 (eTys a[j].binds) none,.v (.int .i64 a[j].kind),.v (.int .i64 a[j].index),.sl 4 (eTms a[j].args) none])] TG_ok hnt fun K hK=>?_;refine And.intro (⟨by omega,by rw[eTms_len];omega⟩) ?_
     refine And.intro (by rw[Int.toNat_natCast,hg,eTm_eq]) ?_;refine hK _ _ ?_;clear hK K;refine dwk [(50,.sl 4 (eTms (Nm.lifts y (a.take (j+1)) m)) (some 5))] TG_ok hnt fun K hK=>?_;refine dcl (hih) ?_;refine And.intro (⟨by rw[eTms_len,hll],by rw[eTms_len,hll];simp;omega⟩) ?_;refine And.intro (by rw[Nm.lift_take _ _ _ _ hlt,eTms_append,eTms,eTms,eTm_eq (Nm.lift y a[j] m)]) ?_
     refine hK _ _ ?_;clear hK K;refine dwk [(51,.v (.int .i64 ((j+1:Nat):Int)))] TG_ok hnt fun K hK=>?_;refine And.intro (dintE (by rw[IntWalk.i64_in _ (by omega)];omega)) ?_;refine hK _ _ ?_;clear hK K
     refine⟨j+1,by omega,(VS.toK (by omega) (by repeat first | exact trivial | refine And.intro (And.intro (by first | rfl | simp[D.ok,D.oks,D.okss,D.okm,upto,keyOk,eTms_len,hll]) (by first | exact Or.inl rfl | exact Or.inr ⟨_,rfl,(by repeat first | exact VLe.refl _ | exact VLe.nil _ | exact VLe.untag _ _ _ | refine VLe.ag ?_ | refine VLe.tu ?_ | refine VLeL.cons ?_ ?_ | exact VLeL.nil),trivial⟩ | simp[get,Key.eq,eTms_len,hll])) ?_))⟩
    ·skip
     refine dwk [(41,.v (.bool false))] TG_ok hnt fun K hK=>?_;refine And.intro (dfalse (by omega)) ?_;refine hK _ _ ?_;clear hK K;refine dw_seq (dw_cond (t:=false) rfl ?_);rw[if_neg (by simp)];refine dw_exit ?_;refine dw_seq ?_;refine dwk [] TG_ok hnt fun _ z9=>z9 _ _ ?_;refine dw_seq ?_;refine dwk [] TG_ok hnt fun _ z9=>z9 _ _ ?_;refine dw_ret ?_
     rw[List.take_of_length_le (by omega)]
     exact⟨.inr rfl,⟨_,rfl,(by repeat first | exact VLe.refl _ | exact VLe.nil _ | exact VLe.untag _ _ _ | refine VLe.ag ?_ | refine VLe.tu ?_ | refine VLeL.cons ?_ ?_ | exact VLeL.nil)⟩,nofun⟩
def TN1_50:TI:=⟨1,false,[Value.int IntKind.i64 0],[],none,8,2,none,false⟩
theorem TN1_50_ok:TypOk Tryz.prog 50 TN1_50:=by constructor <;> kernel_rfl
def TN1_305:TI:=⟨3,true,[Value.pointer none,Value.int IntKind.i64 0,Value.int IntKind.i64 0],[(0,1,false),(1,1,false),(2,1,false)],none,24,6,none,false⟩
theorem TN1_305_ok:TypOk Tryz.prog 305 TN1_305:=by constructor <;> kernel_rfl
def TN1_3:TI:=⟨1,false,[Value.int IntKind.i64 0],[],none,8,2,none,false⟩
theorem TN1_3_ok:TypOk Tryz.prog 3 TN1_3:=by constructor <;> kernel_rfl
def TN1_233:TI:=⟨1,false,[Value.pointer none],[],none,8,4,none,false⟩
theorem TN1_233_ok:TypOk Tryz.prog 233 TN1_233:=by constructor <;> kernel_rfl
def TN1_303:TI:=⟨1,false,[Value.pointer none],[],none,8,4,none,false⟩
theorem TN1_303_ok:TypOk Tryz.prog 303 TN1_303:=by constructor <;> kernel_rfl
def TN1:List (Nat×TI):=[(50,TN1_50),(305,TN1_305),(3,TN1_3),(233,TN1_233),(303,TN1_303)]
theorem TN1_ok:TabOk Tryz.prog TN1:=((((((TabOk.nil _).cons TN1_303_ok).cons TN1_233_ok).cons TN1_3_ok).cons TN1_305_ok).cons TN1_50_ok)
def kW (σ:List (Key×D)):List (Key×D)→Prop
 | []=>True
 | (k,d) :: r=>get σ k=some d∧kW σ r
theorem kW_all {σ:List (Key×D)}:∀ {W:List (Key×D)},kW σ W→∀ p∈W,get σ p.1=some p.2∨∃ d,get σ p.1=some d∧VLe d p.2∧(match p.1 with | .c _ _=>True | _=>False)
 | [],_,p,hp=>by cases hp
 | (k,d) :: r,h,p,hp=>by
  rcases List.mem_cons.1 hp with rfl | hp
  ·exact .inl h.1
  ·exact kW_all h.2 p hp
def wkE (s:Nm.St):List (Key×D):=[(.c 0 0,.o 1),(.c 0 1,.v (.int .i64 s.count)),(.c 0 2,.v (.int .i64 s.e)),(.o 1,.ob (BudJ s.left s.dry))]
structure WkOk (s:Nm.St):Prop where
 left:0≤s.left∧s.left≤1000000000
 count:0≤s.count∧s.count≤100001
 e0:s.e=0→s.count≤100000
theorem fail_d (s:Nm.St)(c:Int):CallC Tryz.prog 201 [.p 0 0,.v (.int .i64 c)] (wkE s) (wkE (Nm.fail s c)) (.tu []):=by
 obtain⟨left,dry,count,er⟩:=s
 refine call_of_dw 2 13 [] TN1_ok (by kernel_rfl) Tryz.func201 rfl Tryz.ntmps201 rfl (by simp) ?dwords ?dbody
 case dwords=>simp[wordsOk,wkE,D.ok,D.oks,rnames,inN,ckey]
 case dbody=>
  intro cx hnt hn0
  refine dw_seq ?_
  by_cases he:er=0
  ·subst he
   refine dwk [(8,.v (.bool true))] TN1_ok hnt fun K hK=>?_;refine And.intro (VLe.refl _) ?_;refine hK _ _ ?_;clear hK K;refine dw_cond (t:=true) rfl ?_;rw[if_pos rfl];refine dwk [] TN1_ok hnt fun _ z9=>z9 _ _ ?_
   exact⟨.inl rfl,⟨_,rfl,VLe.refl _⟩,kW_all (by repeat first | exact trivial | refine And.intro rfl ?_)⟩
  ·skip
   refine dwk [(8,.v (.bool false))] TN1_ok hnt fun K hK=>?_;refine And.intro (dfalse he) ?_;refine hK _ _ ?_;clear hK K;refine dw_cond (t:=false) rfl ?_;rw[if_neg (by simp)];refine dw_skip ?_
   have hf:Nm.fail ⟨left,dry,count,er⟩ c=⟨left,dry,count,er⟩:=by simp[Nm.fail,he]
   rw[hf]
   exact⟨.inl rfl,⟨_,rfl,VLe.refl _⟩,kW_all (by repeat first | exact trivial | refine And.intro rfl ?_)⟩
theorem retw {T:List (Nat×TI)}{rs:List ResultVar}{V:D}{W σ:List (Key×D)}{e:Exit}{N:Nat}(he:e=.normal∨e=.ret)(h1:resD T σ rs=some V)(h2:kW σ W):RetOk T rs V W e σ N:=⟨he,⟨V,h1,VLe.refl _⟩,kW_all h2⟩
def unitI (s s1:Nm.St):Bool→List (Key×D)
 | false=>(.t 0,.p 0 0) :: (.t 1,.v (.int .i64 1)) :: wkE s
 | true=>(.t 0,.p 0 0) :: (.t 1,.v (.int .i64 0)) :: wkE s1
set_option maxHeartbeats 1000000 in
theorem unit_d (s:Nm.St)(hs:WkOk s):CallC Tryz.prog 205 [.p 0 0,.v (.int .i64 1)] (wkE s) (wkE (Nm.unit s).2) (.v (.bool (Nm.unit s).1)):=by
 refine call_of_dw 2 45 [ResultVar.tmp 4] TN1_ok (by kernel_rfl) Tryz.func205 rfl Tryz.ntmps205 rfl (by simp) ?dwords ?dbody
 case dwords=>simp[wordsOk,wkE,D.ok,D.oks,rnames,inN,ckey]
 case dbody=>
  intro cx hnt hn0
  refine dw_seq ?_;refine dwk [] TN1_ok hnt fun _ z9=>z9 _ _ ?_;refine dw_seq (dw_block ?_)
  obtain⟨left,dry,count,er⟩:=s
  obtain⟨⟨hl1,hl2⟩,⟨hc1,hc2⟩,he0⟩:=hs
  dsimp only at hl1 hl2 hc1 hc2 he0
  have hsp:=spend_d 1 ⟨left,dry,count,er⟩ hl1 hl2
  by_cases he:er=0
  ·subst he
   have he0:=he0 rfl
   obtain⟨s1,hs1⟩:∃ s1,(Nm.unit ⟨left,dry,count,0⟩).2=s1:=⟨_,rfl⟩
   obtain⟨b1,hb1⟩:∃ b1,(Nm.unit ⟨left,dry,count,0⟩).1=b1:=⟨_,rfl⟩
   have hspe:(Nm.spend ⟨left,dry,count,0⟩).2.e=0∧(Nm.spend ⟨left,dry,count,0⟩).2.count=count:=by unfold Nm.spend;split <;> exact⟨rfl,rfl⟩
   have hb2:D.v (.bool (decide (s1.e=0)))=.v (.bool b1):=by
    rw[←hs1,←hb1]
    unfold Nm.unit
    rw[if_neg (by simp)]
    split
    ·simp
    ·split <;> rename_i h <;> rw[h] at hspe <;> simp only at hspe <;> simp[hspe.1]
   rw[hs1,hb1]
   refine dw_loop (ι:=Bool) (unitI ⟨left,dry,count,0⟩ s1) 7 (fun b=>match b with | false=>1 | true=>0) false (VS.toK (by omega) (by repeat first | exact trivial | refine And.intro (And.intro (by first | rfl | simp[D.ok,D.oks,D.okss,D.okm,upto,keyOk,unitI,wkE]) (by first | exact Or.inl rfl | exact Or.inr ⟨_,rfl,(by repeat first | exact VLe.refl _ | exact VLe.nil _ | exact VLe.untag _ _ _ | refine VLe.ag ?_ | refine VLe.tu ?_ | refine VLeL.cons ?_ ?_ | exact VLeL.nil),trivial⟩ | simp[get,Key.eq,unitI,wkE])) ?_)) fun b=>?_
   cases b with
   | false=>
    dsimp only[unitI,wkE]
    refine dw_seq ?_;refine dw_seq ?_;refine dwk [] TN1_ok hnt fun _ z9=>z9 _ _ ?_;refine dw_cond (t:=true) rfl ?_;rw[if_pos rfl];refine dw_skip ?_;refine dw_seq (dw_block (dw_seq (dw_block (dw_seq ?_))))
    by_cases hc:count=100000
    ·have hu:Nm.unit ⟨left,dry,count,0⟩=(false,⟨left,dry,count+1,2⟩):=by simp[Nm.unit,hc]
     rw[hu] at hs1
     subst hs1
     refine dwk [(16,.v (.bool true))] TN1_ok hnt fun K hK=>?_;refine And.intro (dtrue hc) ?_;refine hK _ _ ?_;clear hK K;refine dw_cond (t:=true) rfl ?_;rw[if_pos rfl]
     have hf:CallC _ _ _ _ (wkE ⟨left,dry,count,2⟩) _:=fail_d ⟨left,dry,count,0⟩ 2
     dsimp only[wkE] at hf
     refine dwk [] TN1_ok hnt fun K hK=>?_;refine dcl (hf) ?_;refine hK _ _ ?_;clear hK K;refine dwk [(37,.v (.int .i64 (count+1)))] TN1_ok hnt fun K hK=>?_;refine And.intro (dintE (IntWalk.i64_in _ (by omega))) ?_;refine hK _ _ ?_;clear hK K;refine dwk [] TN1_ok hnt fun _ z9=>z9 _ _ ?_
     refine⟨true,by decide,VS.toA⟩
    ·skip
     refine dwk [(16,.v (.bool false))] TN1_ok hnt fun K hK=>?_;refine And.intro (dfalse hc) ?_;refine hK _ _ ?_;clear hK K;refine dw_cond (t:=false) rfl ?_;rw[if_neg (by simp)];refine dw_seq ?_
     cases hb:(Nm.spend ⟨left,dry,count,0⟩).1 with
     | true=>
      rw[hb] at hsp
      have hu:Nm.unit ⟨left,dry,count,0⟩=(true,⟨(Nm.spend ⟨left,dry,count,0⟩).2.left,(Nm.spend ⟨left,dry,count,0⟩).2.dry,count+1,0⟩):=by
       unfold Nm.unit
       rw[if_neg (by simp),if_neg hc]
       split <;> rename_i h <;> rw[h] at hb hspe <;> cases hb
       obtain⟨h1,h2⟩:=hspe
       simp only at h1 h2
       simp[h,h1,h2]
      rw[hu] at hs1
      subst hs1
      refine dwk [] TN1_ok hnt fun K hK=>?_;refine dcl (hsp) ?_;refine hK _ _ ?_;clear hK K;refine dw_cond (t:=false) rfl ?_;rw[if_neg (by simp)];refine dw_skip ?_;refine dwk [(37,.v (.int .i64 (count+1)))] TN1_ok hnt fun K hK=>?_;refine And.intro (dintE (IntWalk.i64_in _ (by omega))) ?_;refine hK _ _ ?_;clear hK K;refine dwk [] TN1_ok hnt fun _ z9=>z9 _ _ ?_
      refine⟨true,by decide,VS.toA⟩
     | false=>
      rw[hb] at hsp
      have hu:Nm.unit ⟨left,dry,count,0⟩=(false,⟨(Nm.spend ⟨left,dry,count,0⟩).2.left,(Nm.spend ⟨left,dry,count,0⟩).2.dry,count+1,11⟩):=by
       unfold Nm.unit
       rw[if_neg (by simp),if_neg hc]
       split <;> rename_i h <;> rw[h] at hb hspe <;> cases hb
       obtain⟨h1,h2⟩:=hspe
       simp only at h1 h2
       simp[h,h1,h2]
      rw[hu] at hs1
      subst hs1
      refine dwk [] TN1_ok hnt fun K hK=>?_;refine dcl (hsp) ?_;refine hK _ _ ?_;clear hK K;refine dw_cond (t:=true) rfl ?_;rw[if_pos rfl]
      have hf:CallC _ _ _ _ (wkE ⟨(Nm.spend ⟨left,dry,count,0⟩).2.left,(Nm.spend ⟨left,dry,count,0⟩).2.dry,count,11⟩) _:=fail_d ⟨(Nm.spend ⟨left,dry,count,0⟩).2.left,(Nm.spend ⟨left,dry,count,0⟩).2.dry,count,0⟩ 11
      dsimp only[wkE] at hf
      refine dwk [] TN1_ok hnt fun K hK=>?_;refine dcl (hf) ?_;refine hK _ _ ?_;clear hK K;refine dwk [(37,.v (.int .i64 (count+1)))] TN1_ok hnt fun K hK=>?_;refine And.intro (dintE (IntWalk.i64_in _ (by omega))) ?_;refine hK _ _ ?_;clear hK K;refine dwk [] TN1_ok hnt fun _ z9=>z9 _ _ ?_
      refine⟨true,by decide,VS.toA⟩
   | true=>
    dsimp only[unitI,wkE]
    refine dw_seq ?_;refine dw_seq ?_;refine dwk [] TN1_ok hnt fun _ z9=>z9 _ _ ?_;refine dw_cond (t:=false) rfl ?_;rw[if_neg (by simp)];refine dw_exit ?_;refine dw_seq ?_;refine dwk [(44,.v (.bool b1))] TN1_ok hnt fun K hK=>?_;refine And.intro (VLe.of_eq hb2) ?_;refine hK _ _ ?_;clear hK K;refine dw_ret ?_
    exact retw (.inr rfl) rfl (by repeat first | exact trivial | refine And.intro rfl ?_)
  ·have hu:Nm.unit ⟨left,dry,count,er⟩=(false,⟨left,dry,count,er⟩):=by simp[Nm.unit,he]
   rw[hu]
   refine dw_loop (ι:=Bool) (unitI ⟨left,dry,count,er⟩ ⟨left,dry,count,er⟩) 7 (fun b=>match b with | false=>1 | true=>0) false VS.toA fun b=>?_
   cases b with
   | false=>
    dsimp only[unitI,wkE]
    refine dw_seq (dw_seq ?_);refine dwk [(12,.v (.bool false))] TN1_ok hnt fun K hK=>?_;refine And.intro (dfalse he) ?_;refine hK _ _ ?_;clear hK K;refine dw_cond (t:=false) rfl ?_;rw[if_neg (by simp)];refine dw_exit ?_;refine dw_seq ?_;refine dwk [(44,.v (.bool false))] TN1_ok hnt fun K hK=>?_;refine And.intro (dfalse he) ?_;refine hK _ _ ?_;clear hK K;refine dw_ret ?_
    exact retw (.inr rfl) rfl (by repeat first | exact trivial | refine And.intro rfl ?_)
   | true=>
    refine dw_seq (dw_seq ?_);refine dwk [] TN1_ok hnt fun _ z9=>z9 _ _ ?_;refine dw_cond (t:=false) rfl ?_;rw[if_neg (by simp)];refine dw_exit ?_;refine dw_seq ?_;refine dwk [(44,.v (.bool false))] TN1_ok hnt fun K hK=>?_;refine And.intro (dfalse he) ?_;refine hK _ _ ?_;clear hK K;refine dw_ret ?_
    exact retw (.inr rfl) rfl (by repeat first | exact trivial | refine And.intro rfl ?_)
def TLi_62:TI:=⟨4,true,[Value.slice none 0 0,Value.int IntKind.i64 0,Value.int IntKind.i64 0,Value.slice none 0 0],[(0,1,false),(1,2,true),(3,1,false)],none,64,6,none,false⟩
theorem TLi_62_ok:TypOk Tryz.prog 62 TLi_62:=by constructor <;> kernel_rfl
def TLi_3:TI:=⟨1,false,[Value.int IntKind.i64 0],[],none,8,2,none,false⟩
theorem TLi_3_ok:TypOk Tryz.prog 3 TLi_3:=by constructor <;> kernel_rfl
def TLi_60:TI:=⟨1,false,[Value.slice none 0 0],[],some 62,24,5,none,false⟩
theorem TLi_60_ok:TypOk Tryz.prog 60 TLi_60:=by constructor <;> kernel_rfl
def TLi_59:TI:=⟨2,true,[Value.int IntKind.i64 0,Value.int IntKind.i64 0],[(0,1,false),(1,1,false)],none,16,6,none,true⟩
theorem TLi_59_ok:TypOk Tryz.prog 59 TLi_59:=by constructor <;> kernel_rfl
def TLi_41:TI:=⟨1,false,[Value.slice none 0 0],[],some 106,24,5,none,false⟩
theorem TLi_41_ok:TypOk Tryz.prog 41 TLi_41:=by constructor <;> kernel_rfl
def TLi_106:TI:=⟨2,true,[Value.slice none 0 0,Value.int IntKind.i64 0],[(0,1,false),(1,1,false)],none,32,6,none,false⟩
theorem TLi_106_ok:TypOk Tryz.prog 106 TLi_106:=by constructor <;> kernel_rfl
def TLi:List (Nat×TI):=[(62,TLi_62),(3,TLi_3),(60,TLi_60),(59,TLi_59),(41,TLi_41),(106,TLi_106)]
theorem TLi_ok:TabOk Tryz.prog TLi:=(((((((TabOk.nil _).cons TLi_106_ok).cons TLi_41_ok).cons TLi_59_ok).cons TLi_60_ok).cons TLi_3_ok).cons TLi_62_ok)
set_option maxHeartbeats 1000000 in
theorem lifted_d:∀ (t:Tm) (_:Wide t) (y ins:Int),PureC Tryz.prog 209 [.ag (eTm t),.v (.int .i64 y),.v (.int .i64 ins)] (.ag (eTm (Nm.lift y t ins))):=by
 intro t
 induction t using Tm.ind with
 | h bs k i a ih=>
 intro hw y ins
 obtain⟨w1,w2,w3⟩:=hw.inv
 obtain⟨m,hm⟩:∃ m,IntKind.i64.wrap (ins+(bs.length:Int))=m:=⟨_,rfl⟩
 obtain⟨i',hi'⟩:∃ i',(if k=0∧m≤i then IntKind.i64.wrap (i+y) else i)=i':=⟨_,rfl⟩
 have hL:Nm.lift y (.mk bs k i a) ins=.mk bs k i' (Nm.lifts y a m):=by rw[Nm.lift_eq,wr_wrap,wr_wrap,hm,hi']
 rw[hL]
 refine call_of_dw 0 55 [ResultVar.cell 6 62] TLi_ok (by kernel_rfl) Tryz.func209 rfl Tryz.ntmps209 rfl (by simp) ?dwords ?dbody
 case dwords=>simp[wordsOk,D.ok,D.oks,eTm_ok,rnames]
 case dbody=>
  intro cx hnt hn0
  refine dw_seq ?_;refine dwk [] TLi_ok hnt fun _ z9=>z9 _ _ ?_;refine dw_seq ?_;refine dwk [(13,.v (.int .i64 bs.length)),(14,.v (.int .i64 m))] TLi_ok hnt fun K hK=>?_;refine And.intro (dintE (by rw[eTys_len])) ?_;refine And.intro (dintE hm) ?_;refine hK _ _ ?_;clear hK K
  refine dw_cut (τ:=[(.t 1,.v (.int .i64 y)),(.t 2,.v (.int .i64 m)),(.t 3,.p 0 0),(.t 6,.p 1 0),(.c 0 0,.sl 2 (eTys bs) none),(.c 0 1,.v (.int .i64 k)),(.c 0 2,.v (.int .i64 i')),(.c 0 3,.sl 4 (eTms a) none),(.c 1 0,.v (.slice none 0 0)),(.c 1 1,.v (.int .i64 0)),(.c 1 2,.v (.int .i64 0)),(.c 1 3,.v (.slice none 0 0))]) (N1:=2) ?_ ?_
  ·by_cases hk:k=0
   ·subst hk
    by_cases hi:m≤i
    ·rw[if_pos ⟨rfl,hi⟩] at hi';refine dw_seq ?_;refine dwk [(18,.v (.bool true)),(24,.v (.bool true))] TLi_ok hnt fun K hK=>?_;refine And.intro (VLe.refl _) ?_;refine And.intro (dtrue hi) ?_;refine hK _ _ ?_;clear hK K;refine dw_cond (t:=true) rfl ?_;rw[if_pos rfl];refine dwk [(30,.v (.int .i64 i'))] TLi_ok hnt fun K hK=>?_;refine And.intro (dintE hi') ?_;refine hK _ _ ?_;clear hK K
     exact cut_ok VS.toA
    ·rw[if_neg (fun h=>hi h.2)] at hi'
     subst hi'
     refine dw_seq ?_;refine dwk [(18,.v (.bool true)),(24,.v (.bool false))] TLi_ok hnt fun K hK=>?_;refine And.intro (VLe.refl _) ?_;refine And.intro (dfalse hi) ?_;refine hK _ _ ?_;clear hK K;refine dw_cond (t:=false) rfl ?_;rw[if_neg (by simp)];refine dw_skip ?_
     exact cut_ok VS.toA
   ·rw[if_neg (fun h=>hk h.1)] at hi'
    subst hi'
    refine dw_seq ?_;refine dwk [(18,.v (.bool false))] TLi_ok hnt fun K hK=>?_;refine And.intro (dfalse hk) ?_;refine hK _ _ ?_;clear hK K;refine dw_cond (t:=false) rfl ?_;rw[if_neg (by simp)];refine dw_skip ?_
    exact cut_ok VS.toA
  ·refine dw_seq ?_;refine dwk [(35,.v (.int .i64 a.length))] TLi_ok hnt fun K hK=>?_;refine And.intro (dintE (by rw[eTms_len])) ?_;refine And.intro ((by omega)) ?_;refine hK _ _ ?_;clear hK K;refine dw_seq (dw_seq ?_);refine dwk [(39,.v (.int .i64 a.length))] TLi_ok hnt fun K hK=>?_;refine And.intro (dintE (by rw[eTms_len])) ?_;refine hK _ _ ?_;clear hK K;refine dw_block ?_
   refine dw_loop (ι:=Nat) (fun j=>[(.t 40,.v (.int .i64 j)),(.t 7,.sl 4 (eTms (Nm.lifts y (a.take j) m)) (some 5)),(.r 5,.rw 62 4 j),(.t 1,.v (.int .i64 y)),(.t 2,.v (.int .i64 m)),(.t 3,.p 0 0),(.t 6,.p 1 0),(.t 38,.sl 4 (eTms a) none),(.t 39,.v (.int .i64 a.length)),(.c 0 0,.sl 2 (eTys bs) none),(.c 0 1,.v (.int .i64 k)),(.c 0 2,.v (.int .i64 i')),(.c 0 3,.sl 4 (eTms a) none),(.c 1 0,.v (.slice none 0 0)),(.c 1 1,.v (.int .i64 0)),(.c 1 2,.v (.int .i64 0)),(.c 1 3,.v (.slice none 0 0))]) 6 (fun j=>a.length-j) 0 ?_ fun j=>?_
   ·exact(VS.toK (by omega) (by repeat first | exact trivial | refine And.intro (And.intro (by first | rfl | simp[D.ok,D.oks,D.okss,D.okm,upto,keyOk,Nm.lifts,eTms]) (by first | exact Or.inl rfl | exact Or.inr ⟨_,rfl,(by repeat first | exact VLe.refl _ | exact VLe.nil _ | exact VLe.untag _ _ _ | refine VLe.ag ?_ | refine VLe.tu ?_ | refine VLeL.cons ?_ ?_ | exact VLeL.nil),trivial⟩ | simp[get,Key.eq,Nm.lifts,eTms])) ?_))
   ·refine dw_seq ?_
    by_cases hlt:j<a.length
    ·have hg:=eTms_getD a j hlt
     have hih:=ih a[j] (List.getElem_mem hlt) (w3 _ (List.getElem_mem hlt)) y m
     rw[eTm_eq,eTm_eq] at hih
     have hll:(Nm.lifts y (a.take j) m).length=j:=by rw[Nm.lift_len,List.length_take];omega
     refine dwk [(41,.v (.bool true))] TLi_ok hnt fun K hK=>?_;refine And.intro (dtrue (by omega)) ?_;refine hK _ _ ?_;clear hK K;refine dw_seq (dw_cond (t:=true) rfl ?_);rw[if_pos rfl];refine dw_skip (dw_seq (dw_block (dw_seq ?_)));refine dwk [(42,.q [.sl 2 (eTys a[j].binds) none,.v (.int .i64 a[j].kind),.v (.int .i64 a[j].index),.sl 4 (eTms a[j].args) none])] TLi_ok hnt fun K hK=>?_
     refine And.intro (⟨by omega,by rw[eTms_len];omega⟩) ?_;refine And.intro (by rw[Int.toNat_natCast,hg,eTm_eq]) ?_;refine hK _ _ ?_;clear hK K;refine dwk [(50,.sl 4 (eTms (Nm.lifts y (a.take (j+1)) m)) (some 5))] TLi_ok hnt fun K hK=>?_;refine dcl (hih) ?_;refine And.intro (⟨by rw[eTms_len,hll],by rw[eTms_len,hll];simp;omega⟩) ?_;refine And.intro (by rw[Nm.lift_take _ _ _ _ hlt,eTms_append,eTms,eTms,eTm_eq (Nm.lift y a[j] m)]) ?_
     refine hK _ _ ?_;clear hK K;refine dwk [(51,.v (.int .i64 ((j+1:Nat):Int)))] TLi_ok hnt fun K hK=>?_;refine And.intro (dintE (by rw[IntWalk.i64_in _ (by omega)];omega)) ?_;refine hK _ _ ?_;clear hK K
     refine⟨j+1,by omega,(VS.toK (by omega) (by repeat first | exact trivial | refine And.intro (And.intro (by first | rfl | simp[D.ok,D.oks,D.okss,D.okm,upto,keyOk,eTms_len,hll]) (by first | exact Or.inl rfl | exact Or.inr ⟨_,rfl,(by repeat first | exact VLe.refl _ | exact VLe.nil _ | exact VLe.untag _ _ _ | refine VLe.ag ?_ | refine VLe.tu ?_ | refine VLeL.cons ?_ ?_ | exact VLeL.nil),trivial⟩ | simp[get,Key.eq,eTms_len,hll])) ?_))⟩
    ·skip
     refine dwk [(41,.v (.bool false))] TLi_ok hnt fun K hK=>?_;refine And.intro (dfalse (by omega)) ?_;refine hK _ _ ?_;clear hK K;refine dw_seq (dw_cond (t:=false) rfl ?_);rw[if_neg (by simp)];refine dw_exit ?_;refine dw_seq ?_;refine dwk [] TLi_ok hnt fun _ z9=>z9 _ _ ?_;refine dw_seq ?_;refine dwk [] TLi_ok hnt fun _ z9=>z9 _ _ ?_;refine dw_ret ?_
     rw[List.take_of_length_le (by omega)]
     exact⟨.inr rfl,⟨_,rfl,(by repeat first | exact VLe.refl _ | exact VLe.nil _ | exact VLe.untag _ _ _ | refine VLe.ag ?_ | refine VLe.tu ?_ | refine VLeL.cons ?_ ?_ | exact VLeL.nil)⟩,nofun⟩
theorem grown_nd (t:Tm)(hw:Wide t)(y:Int):PureC Tryz.prog 206 [.ag (eTm t),.v (.int .i64 y)] (.ag (eTm (Nm.grown t y))):=by
 have hl:=lifted_d t hw y 0
 rw[eTm_eq,eTm_eq] at hl
 obtain⟨bs,k,i,a⟩:=t
 refine call_of_dw 0 11 [ResultVar.cell 4 62] TLi_ok (by kernel_rfl) Tryz.func206 rfl Tryz.ntmps206 rfl (by simp) ?dwords ?dbody
 case dwords=>simp[wordsOk,D.ok,D.oks,eTm_ok,rnames]
 case dbody=>
  intro cx hnt hn0
  refine dw_seq ?_;refine dwk [] TLi_ok hnt fun _ z9=>z9 _ _ ?_;refine dw_seq (dw_seq ?_)
  by_cases hy:y=0
  ·skip
   refine dwk [(6,.v (.bool true))] TLi_ok hnt fun K hK=>?_;refine And.intro (dtrue hy) ?_;refine hK _ _ ?_;clear hK K;refine dw_cond (t:=true) rfl ?_;rw[if_pos rfl];refine dw_seq ?_;refine dwk [] TLi_ok hnt fun _ z9=>z9 _ _ ?_;refine dw_ret ?_
   have hg:Nm.grown (.mk bs k i a) y=.mk bs k i a:=by simp[Nm.grown,hy]
   rw[hg]
   exact⟨.inr rfl,⟨_,rfl,VLe.refl _⟩,nofun⟩
  ·skip
   refine dwk [(6,.v (.bool false))] TLi_ok hnt fun K hK=>?_;refine And.intro (dfalse hy) ?_;refine hK _ _ ?_;clear hK K;refine dw_cond (t:=false) rfl ?_;rw[if_neg (by simp)];refine dw_skip ?_;refine dw_seq ?_;refine dwk [] TLi_ok hnt fun K hK=>?_;refine dcl (hl) ?_;refine hK _ _ ?_;clear hK K;refine dw_ret ?_
   have hg:Nm.grown (.mk bs k i a) y=Nm.lift y (.mk bs k i a) 0:=by simp[Nm.grown,hy]
   rw[hg]
   exact⟨.inr rfl,⟨_,rfl,VLe.refl _⟩,nofun⟩
end Go.Proofs.YtclihnccilkohaaGreat
