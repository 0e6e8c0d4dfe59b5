/-
  Deep values: a function as a whole. Deep values: types and terms, as deep values and as they lie in memory. Deep values: the walk's own words. Deep values: the walk as a proposition that reckons itself out: each step hands its yield on. Deep values: a region's walk that reckons itself out. Deep values: a contract with other names. Terms put for variables, in plain Lean: what norm.Put and subst.Apply make of terms and of a budget. A budget in memory: New, Left, Dry, take, Spend. A budget that runs dry: sync.Once, once; Spend of one unit. The budget, as a deep object. Operations of a region that may come up in any order among themselves, each of which asks nothing of the others: each is looked at once. A term, copied cell by cell: To, Of of the laws. term.turned: a term whose loose indexes a function turns. term.Copy, term.Body. A term whose loose indexes have grown: norm.lifted, subst.grown. subst.grown, walked in the deep way. Package norm, walked in the deep way. norm.lifted, walked in the deep way.
-/
import Derived.Test.YtclihnccilkohaaGreatRowAuditStepsp3
import Derived.Test.YtclihnccilkohaaGreatRowAuditStepsp1
import Derived.RegionTactic
import Derived.Test.YtclihnccilkohaaGreatProg
import Derived.Lib.Hide
import Derived.Laws.LoneSync
import Derived.Deep.RegionHeld3
import Derived.Deep.DrawnRows
import Derived.Tactics2
import Derived.Defers
import Derived.Laws.Pointers
import Derived.RegionCalls
import Derived.ChangeAlike
import Derived.Laws.NewBlocks
import Derived.OwnWalk
set_option maxRecDepth 100000
set_option maxHeartbeats 1000000
set_option linter.unusedVariables false
set_option linter.unusedSimpArgs false
namespace Go.Proofs.YtclihnccilkohaaGreat
open Go.RowKit
def Bq (T:List (Nat×TI))(σ:List (Key×D)):ResultVar→Option D
 | .tmp t=>get σ (.t t)
 | .cell x t=>(get σ (.t x)).bind (D3 T σ t)
def Fi (T:List (Nat×TI))(σ:List (Key×D)):List ResultVar→Option (List D)
 | []=>some []
 | r :: l=>match Bq T σ r with
  | some d=>(Fi T σ l).map (d :: ·)
  | none=>none
def P7 (T:List (Nat×TI))(σ:List (Key×D))(rs:List ResultVar):Option D:=match Fi T σ rs with
 | some [d]=>some d
 | some ds=>some (.tu ds)
 | none=>none
def ZQ (R:List (Key×D)):List Nat:=R.filterMap fun p=>match p.1 with | .c k _=>some k | .o k=>some k | _=>none
def YF (R:List (Key×D)):Nat→Bool:=fun k=>(ZQ R).contains k
def Wh:Nat→Bool:=fun _=>false
def UL (T:List (Nat×TI))(rs:List ResultVar)(V:D)(W:List (Key×D)):Exit→List (Key×D)→Nat→Prop:=fun e σ _=>
 (e=.normal∨e=.ret)∧(∃ V',P7 T σ rs=some V'∧Zn V' V)∧∀ p∈W,get σ p.1=some p.2∨∃ d,get σ p.1=some d∧Zn d p.2∧(match p.1 with | .c _ _=>True | _=>False)
def Y0:Nat→List D→List (Key×D)→List (Key×D)
 | _,[],R=>R
 | i,d :: l,R=>(.t i,d) :: Y0 (i+1) l R
def ZF (args:List D)(R W:List (Key×D))(V:D)(N0:Nat):Bool:=
 args.all (fun d=>d.ok (YF R) Wh)&&R.all (fun p=>p.2.ok (YF R) Wh&&XC p.1)&&W.all (fun p=>p.2.ok (YF R) Wh&&(match p.1 with | .c k _=>YF R k | .o k=>YF R k | .j=>R.any fun p=>isJ p.1 | _=>false))&&V.ok (YF R) Wh&&(ZQ R).all fun k=>decide (k<N0)
section
variable {P:Program} {T:List (Nat×TI)} {cx:Cx} {Fr Fr':Nat→Prop} {m m':Mp} {Im Im':Nat→Nat→Prop} {w w':World} {a:Act} {σ σ' τ:List (Key×D)} {N N':Nat}
theorem Fj (hT:Zh P T)(h:St cx Fr m Im w a σ){r:ResultVar}{d:D}(hd:Bq T σ r=some d):∃ v,(match r with | .tmp t=>pure (a.tmps.getD t undef) | .cell x t=>do loadVar t (←asAddr (a.tmps.getD x undef)):Sem Value).run P w=.ok v w∧ZD m Im w v d:=by
 cases r with
 | tmp t=>exact⟨_,by simp,h.tm t d hd⟩
 | cell x t=>
  obtain⟨e,h1,h2⟩:=bind_some hd
  have hx:=h.tm x e h1
  obtain⟨v,r1,r2⟩:=KW (P:=P) hT h hx h2
  refine⟨v,?_,r2⟩
  unfold D3 at h2
  split at h2
  ·cases h2
  ·split at h2
   ·obtain⟨b,hb,ex⟩:=Ss hx
    show (do loadVar t (←asAddr (a.tmps.getD x undef)):Sem Value).run P w=_
    rw[ex] at r1 ⊢
    simpa[Instr.loadAt,Instr.sureAddr,asAddr] using r1
   ·obtain⟨b,o,ex,_⟩:=R8 (bl:=0) (off:=0) hx
    show (do loadVar t (←asAddr (a.tmps.getD x undef)):Sem Value).run P w=_
    rw[ex] at r1 ⊢
    simpa[Instr.loadAt,Instr.sureAddr,asAddr] using r1
   ·show (do loadVar t (←asAddr (a.tmps.getD x undef)):Sem Value).run P w=_
    generalize a.tmps.getD x undef=xv at hx r1 ⊢
    cases hx with
    | pr _ _ _ _ _ b hh=>simpa[Instr.loadAt,Instr.sureAddr,asAddr] using r1
   ·cases h2
theorem Tk (hT:Zh P T)(h:St cx Fr m Im w a σ):∀ {rs:List ResultVar} {ds:List D},Fi T σ rs=some ds→∃ vs:List Value,(rs.mapM (fun(r:ResultVar)=>(match r with | .tmp t=>pure (a.tmps.getD t undef) | .cell x t=>do loadVar t (←asAddr (a.tmps.getD x undef)):Sem Value))).run P w=.ok vs w∧Yc m Im w vs ds
 | [],ds,hd=>by cases hd;exact⟨[],by simp,trivial⟩
 | r :: rs,ds,hd=>by
  simp only[Fi] at hd
  cases hv:Bq T σ r with
  | none=>rw[hv] at hd;cases hd
  | some d=>
   rw[hv] at hd
   cases hl:Fi T σ rs with
   | none=>rw[hl] at hd;cases hd
   | some ds'=>
    rw[hl] at hd
    cases hd
    obtain⟨v,r1,r2⟩:=Fj hT h hv
    obtain⟨vs,q1,q2⟩:=Tk hT h hl
    exact⟨v :: vs,by simp only[List.mapM_cons,Sem.run_bind,r1,Result.andThen_ok,q1,Sem.run_pure],r2,q2⟩
theorem R6 (hT:Zh P T)(h:St cx Fr m Im w a σ){fn:Func}{d:D}(hd:P7 T σ fn.results.toList=some d):∃ v,(results fn a.tmps).run P w=.ok v w∧ZD m Im w v d:=by
 unfold P7 at hd
 have hrun:∀ vs:List Value,(fn.results.toList.mapM (fun(r:ResultVar)=>(match r with | .tmp t=>pure (a.tmps.getD t undef) | .cell x t=>do loadVar t (←asAddr (a.tmps.getD x undef)):Sem Value))).run P w=.ok vs w →
   (results fn a.tmps).run P w=.ok (if h:vs.length=1 then vs[0] else .tuple vs.toArray) w:=fun vs hv=>by
  unfold results
  rw[Array.mapM_eq_mapM_toList]
  simp only[Sem.run_bind,map_eq_pure_bind,bind_assoc]
  erw [hv]
  simp
 split at hd
 ·rename_i d' hl
  cases hd
  obtain⟨vs,q1,q2⟩:=Tk hT h hl
  cases vs with
  | nil=>exact q2.elim
  | cons v vs=>
   cases vs with
   | nil=>exact⟨v,by simpa using hrun _ q1,q2.1⟩
   | cons _ _=>exact q2.2.elim
 ·rename_i ds hne hl
  cases hd
  obtain⟨vs,q1,q2⟩:=Tk hT h hl
  have hlen:=(ZW.1 q2).1
  have:¬ vs.length=1:=fun e=>by
   rw[e] at hlen
   match ds,hlen with
   | [d],_=>exact hne d rfl
  exact⟨_,by simpa[this] using hrun _ q1,SR.2 ⟨vs,rfl,q2⟩⟩
 ·cases hd
theorem U8 {R:List (Key×D)}:∀ (ds:List D) (i x:Nat) {d:D},get (Y0 i ds R) (.t x)=some d→(∃ j,x=i+j∧ds[j]?=some d)∨get R (.t x)=some d
 | [],i,x,d,h=>.inr h
 | e :: ds,i,x,d,h=>by
  simp only[Y0,get] at h
  split at h
  ·rename_i he
   have:=Key.eq_iff.1 he;cases this
   cases h
   exact .inl ⟨0,rfl,rfl⟩
  ·rcases U8 ds (i+1) x h with⟨j,h1,h2⟩ | h
   ·exact .inl ⟨j+1,by omega,by simpa using h2⟩
   ·exact .inr h
theorem Xm {R:List (Key×D)}{k:Key}(hk:∀ x,k≠.t x):∀ (ds:List D) (i:Nat),get (Y0 i ds R) k=get R k
 | [],i=>rfl
 | e :: ds,i=>by
  simp only[Y0,get]
  rw[if_neg (by rw[Key.eq_iff];exact fun e=>hk i e.symm)]
  exact Xm hk ds (i+1)
theorem XM {R:List (Key×D)}{k off:Nat}{d:D}(h:(Key.c k off,d)∈R):YF R k=true:=by
 unfold YF
 rw[List.contains_iff_mem]
 exact List.mem_filterMap.2 ⟨_,h,rfl⟩
theorem Wg {R:List (Key×D)}{k:Nat}{d:D}(h:(Key.o k,d)∈R):YF R k=true:=by
 unfold YF
 rw[List.contains_iff_mem]
 exact List.mem_filterMap.2 ⟨_,h,rfl⟩
theorem Wv {R:List (Key×D)}{k:Nat}(h:YF R k=true):(∃ off d,(Key.c k off,d)∈R)∨∃ d,(Key.o k,d)∈R:=by
 unfold YF at h
 rw[List.contains_iff_mem] at h
 obtain⟨p,hp,e⟩:=List.mem_filterMap.1 h
 obtain⟨key,d⟩:=p
 cases key with
 | c k' off=>simp at e;subst e;exact .inl ⟨off,d,hp⟩
 | o k'=>simp at e;subst e;exact .inr ⟨d,hp⟩
 | _=>cases e
theorem Z9 {f:FuncId}{fn:Func}{c:Code}{args:List D}{R W:List (Key×D)}{V:D}(N0 nt:Nat)(rs:List ResultVar)(hT:Zh P T)(hen:XI P f=true)(hf:P.funcs[f]?=some fn)(hb:fn.body=some c)(hnt:fn.ntmps=nt)(hrs:fn.results.toList=rs) 
  (hal:args.length≤nt) (hw:ZF args R W V N0=true) (h:∀ cx:Cx,cx.nt=nt→cx.n0=N0→DW P cx c (Y0 0 args R) N0 (UL T rs V W)):ZE P f args R W V:=by
 refine⟨hen,fun cx Fr m Im w vs hmem hargs hR=>?_⟩
 simp only[ZF,Bool.and_eq_true,List.all_eq_true,decide_eq_true_eq] at hw
 obtain⟨⟨⟨⟨w1,w2⟩,w3⟩,w4⟩,w5⟩:=hw
 have hin:∀ k b,YF R k=true→m.blk k=some b→Ro m R b:=fun k b hk hb=>by
  rcases Wv hk with⟨off,d,hm⟩ | ⟨d,hm⟩
  ·exact .inl ⟨k,off,d,hm,hb⟩
  ·obtain⟨b',q1,_⟩:=hR _ hm
   have:=hmem.dis k b hb
   rw[this] at q1;cases q1
 have hino:∀ k b,YF R k=true→m.obj k=some b→Ro m R b:=fun k b hk hb=>by
  rcases Wv hk with⟨off,d,hm⟩ | ⟨d,hm⟩
  ·obtain⟨b',v,q1,_⟩:=hR _ hm
   have:=hmem.dis k b' q1
   rw[this] at hb;cases hb
  ·exact .inr (.inr ⟨k,d,hm,hb⟩)
 have hlt:∀ k,YF R k=true→k<N0:=fun k hk=>w5 k (by unfold YF at hk;rwa [List.contains_iff_mem] at hk)
 have hX:∀ X J,(Key.j,D.j X J)∈R→C9 cx m Im w X J:=fun X J hm=>by
  obtain⟨X',J',e,hx⟩:=hR _ hm
  cases e;exact hx
 have hle:=Mp.cut_le m (YF R) Wh
 refine calls_of_wp hf hb ?_
 let cx':Cx:={ w0:=w,C:=Ro m R,Im0:=Im,m0:=m.cut (YF R) Wh,nt:=nt,n0:=N0,h0:=fun k b hk=>hlt k (Mp.cut_blk hk).1,h0o:=fun k b hk=>hlt k (Mp.cut_obj hk).1,h0r:=fun g R hg=>absurd (Mp.cut_row hg).1 (by simp[Wh]) }
 have hvl:vs.length=args.length:=(ZW.1 hargs).1
 have hst:St cx' (fun k=>N0≤k) (m.cut (YF R) Wh) Im w { tmps:=vs.toArray++Array.replicate (fn.ntmps-vs.toArray.size) undef,defers:=[] } (Y0 0 args R):=by
  refine⟨⟨Off.refl _ _,hmem.im,fun b o hi=>.inl hi,fun b o hi=>hi,fun k b hk=>?_,fun k b hk=>hmem.lt k b (Mp.cut_blk hk).2,fun k b o hk=>hmem.free k b o (Mp.cut_blk hk).2,fun k b o hk=>hmem.nim k b o (Mp.cut_blk hk).2,fun k k' b hk hk'=>hmem.inj k k' b (Mp.cut_blk hk).2 (Mp.cut_blk hk').2,
    fun g R' hg=>?_,fun g R' b o hg=>?_,fun g R' b k hg=>?_,fun g g' R' R'' b hg=>?_,fun k hk=>⟨?_,?_,?_⟩,fun k b hk=>hk,fun k b hk=>hk,fun k b hk=>.inl (hino k b (Mp.cut_obj hk).1 (Mp.cut_obj hk).2),fun k b hk=>hmem.olt k b (Mp.cut_obj hk).2,fun k b o hk=>hmem.onim k b o (Mp.cut_obj hk).2,fun k k' b hk hk'=>hmem.oinj k k' b (Mp.cut_obj hk).2 (Mp.cut_obj hk').2,fun k k' b hk hk'=>hmem.oblk k k' b (Mp.cut_obj hk).2 (Mp.cut_blk hk').2,fun k g R' b hk hg=>absurd (Mp.cut_row hg).1 (by simp[Wh]),fun k b hk=>?_,Z6.refl _ _,fun g R b hg=>absurd (Mp.cut_row hg).1 (by simp[Wh]),fun g R hg=>absurd (Mp.cut_row hg).1 (by simp[Wh])⟩,rfl,?_,fun x d hx=>?_,fun k off d hx=>?_,fun g d hx=>?_,fun d hx=>?_,fun k d hx=>?_⟩
  ·obtain⟨h1,h2⟩:=Mp.cut_blk hk
   exact .inl (hin k b h1 h2)
  ·exact absurd (Mp.cut_row hg).1 (by simp[Wh])
  ·exact absurd (Mp.cut_row hg).1 (by simp[Wh])
  ·exact absurd (Mp.cut_row hg).1 (by simp[Wh])
  ·exact absurd (Mp.cut_row hg).1 (by simp[Wh])
  ·by_cases hk2:YF R k=true
   ·have:=hlt k hk2;omega
   ·simp[Mp.cut,hk2]
  ·simp[Mp.cut,Wh]
  ·by_cases hk2:YF R k=true
   ·have:=hlt k hk2;omega
   ·simp[Mp.cut,hk2]
  ·have:=hmem.dis k b (Mp.cut_blk hk).2
   show (if _ then m.obj k else none)=none
   rw[this];simp
  ·simp[cx',hvl,hnt];omega
  ·rcases U8 args 0 x hx with⟨j,h1,h2⟩ | hx
   ·have hj:j<args.length:=by
     rcases Nat.lt_or_ge j args.length with h' | h'
     ·exact h'
     ·rw[List.getElem?_eq_none h'] at h2;cases h2
    rw[List.getElem?_eq_getElem hj] at h2
    cases h2
    have hr:=(ZW.1 hargs).2 j hj
    have hx':x=j:=by omega
    subst hx'
    have:(vs.toArray++Array.replicate (fn.ntmps-vs.toArray.size) undef).getD x undef=vs.getD x undef:=by
     have hx2:x<vs.length:=by omega
     rw[Array.getD_eq_getD_getElem?,Array.getElem?_append_left (by simpa using hx2),List.getD_eq_getElem?_getD]
     simp
    show ZD _ _ _ ((vs.toArray++Array.replicate (fn.ntmps-vs.toArray.size) undef).getD x undef) _
    rw[this]
    exact hr.cut (w1 _ (List.getElem_mem hj))
   ·have:=(w2 _ (YN hx)).2
    cases this
  ·rw[Xm (fun x=>by simp) args 0] at hx
   have hm:=YN hx
   obtain⟨b,v,q1,q2,q3⟩:=hR _ hm
   exact⟨b,v,by simp only[Mp.cut,XM hm,if_true];exact q1,q2,q3.cut (w2 _ hm).1⟩
  ·rw[Xm (fun x=>by simp) args 0] at hx
   have:=(w2 _ (YN hx)).2
   cases this
  ·rw[Xm (fun x=>by simp) args 0] at hx
   have hm:=YN hx
   obtain⟨X,J,e,hx⟩:=hR _ hm
   refine⟨X,J,e,{ hx with own:=fun b hb=>.inl (.inr (.inl ⟨X,J,e ▸ hm,hb⟩)),blk:=fun b k hb hk=>hx.blk b k hb (Mp.cut_blk hk).2,row:=fun b g R' hb hg=>hx.row b g R' hb (Mp.cut_row hg).2,obj:=fun b k hb hk=>hx.obj b k hb (Mp.cut_obj hk).2 }⟩
  ·rw[Xm (fun x=>by simp) args 0] at hx
   have hm:=YN hx
   obtain⟨b,q1,q2⟩:=hR _ hm
   exact⟨b,by simp only[Mp.cut,Wg hm,if_true];exact q1,q2.cut (w2 _ hm).1⟩
 have hwp:=h cx' rfl rfl _ Im w _ hst
 refine Code.wp_mono (fun e a' w' ⟨σ',N',m',Im',⟨hq1,⟨V',hq2,hq3⟩,hq4⟩,hs⟩=>?_) hwp
 obtain⟨v,r1,r2⟩:=R6 (P:=P) (fn:=fn) hT hs (by rw[hrs];exact hq2)
 have hm':∀ k b,YF R k=true→m'.blk k=some b→m.blk k=some b:=fun k b hk hb=>by
  rcases Wv hk with⟨off,d,hm⟩ | ⟨d,hm⟩
  ·obtain⟨b',_,q1,_⟩:=hR _ hm
   have:=hs.mem.m0 k b' (by show (m.cut (YF R) Wh).blk k=some b';simp[Mp.cut,hk,q1])
   rw[this] at hb;cases hb;exact q1
  ·obtain⟨b',q1,_⟩:=hR _ hm
   have:=hs.mem.m0o k b' (by show (m.cut (YF R) Wh).obj k=some b';simp[Mp.cut,hk,q1])
   rw[hs.mem.dis k b hb] at this;cases this
 have hmo':∀ k b,YF R k=true→m'.obj k=some b→m.obj k=some b:=fun k b hk hb=>by
  rcases Wv hk with⟨off,d,hm⟩ | ⟨d,hm⟩
  ·obtain⟨b',_,q1,_⟩:=hR _ hm
   have:=hs.mem.m0 k b' (by show (m.cut (YF R) Wh).blk k=some b';simp[Mp.cut,hk,q1])
   rw[hs.mem.dis k b' this] at hb;cases hb
  ·obtain⟨b',q1,_⟩:=hR _ hm
   have:=hs.mem.m0o k b' (by show (m.cut (YF R) Wh).obj k=some b';simp[Mp.cut,hk,q1])
   rw[this] at hb;cases hb;exact q1
 have hcutle:(m'.cut (YF R) Wh).le m:=⟨fun k b hk=>hm' k b (Mp.cut_blk hk).1 (Mp.cut_blk hk).2,fun g R' hg=>absurd (Mp.cut_row hg).1 (by simp[Wh]),fun k b hk=>hmo' k b (Mp.cut_obj hk).1 (Mp.cut_obj hk).2⟩
 have hrel:∀ {x d},ZD m' Im' w' x d→d.ok (YF R) Wh=true→ZD m Im' w' x d:=fun hx hd=>(hx.cut hd).mono hcutle (Z6.refl _ _) fun _ _ h=>h
 have hV:ZD m Im' w' v V:=by
  exact hrel (hq3 _ _ _ _ r2) w4
 have hnT:∀ k b,m.blk k=some b→YF R k=false→¬ Ro m R b:=fun k b hk hn ht=>by
  rcases ht with⟨k',off,d,hm,hb⟩ | ⟨X,J,hm,hb⟩ | ⟨k',d,hm,hb⟩
  ·have:=hmem.inj k k' b hk hb
   subst this
   rw[XM hm] at hn;cases hn
  ·exact(hX X J hm).blk b k hb hk
  ·exact hmem.oblk k' k b hb hk
 have hfin:∃ v' Im'',Ending.returned v=.returned v'∧Off (Ro m R) w w'∧(∀ b o,Im b o→Im'' b o)∧(∀ b o,Im'' b o→Im b o∨w.heap.size≤b)∧(∀ b o,Im'' b o→∃ v,w'.cell? ⟨b,o,none⟩=some v) ∧
   (∀ k b o,m.blk k=some b→w'.frozen? ⟨b,o,none⟩=false)∧ZD m Im'' w' v' V∧Holds cx m Im'' w' W:=by
  refine⟨v,Im',rfl,hs.mem.off,fun b o hi=>hs.mem.im0 b o hi,fun b o hi=>(hs.mem.imb b o hi).imp id fun h=>h.elim id fun h=>h.elim,hs.mem.im,fun k b o hk=>?_,hV,fun p hp=>?_⟩
  ·by_cases hn:YF R k=true
   ·have:=hs.mem.m0 k b (by show (m.cut (YF R) Wh).blk k=some b;simp[Mp.cut,hn,hk])
    exact hs.mem.free k b o this
   ·have hn:YF R k=false:=by simpa using hn
    exact(World.frozen?_of_block (a:=⟨b,o,none⟩) (hs.mem.off.block b (hmem.lt k b hk) (hnT k b hk hn))).trans (hmem.free k b o hk)
  ·have hok:=w3 p hp
   have hg:=hq4 p hp
   obtain⟨key,d⟩:=p
   cases key with
   | c k off=>
    have hk:YF R k=true:=hok.2
    rcases hg with hg | ⟨d',hg,e,_⟩
    ·obtain⟨b,x,q1,q2,q3⟩:=hs.ce k off d hg
     exact⟨b,x,hm' k b hk q1,q2,hrel q3 hok.1⟩
    ·obtain⟨b,x,q1,q2,q3⟩:=hs.ce k off d' hg
     exact⟨b,x,hm' k b hk q1,q2,hrel (e _ _ _ _ q3) hok.1⟩
   | o k=>
    have hk:YF R k=true:=hok.2
    rcases hg with hg | ⟨d',hg,e,hf⟩
    ·obtain⟨b,q1,q2⟩:=hs.ok k d hg
     exact⟨b,hmo' k b hk q1,(q2.cut hok.1).mono rfl hcutle (Z6.refl _ _) fun _ _ h=>h⟩
    ·exact hf.elim
   | j=>
    rcases hg with hg | ⟨d',hg,e,hf⟩
    ·obtain⟨X,J,e,hx⟩:=hs.jk d hg
     have hold:∀ b,X b→b<w.heap.size→∃ X0 J0,(Key.j,D.j X0 J0)∈R∧X0 b:=fun b hb hlt=>by
      rcases hx.own b hb with hc | hc
      ·rcases hc with⟨k',off,d',hm,hb'⟩ | hc | ⟨k',d',hm,hb'⟩
       ·have hk:=XM hm
        have:=hs.mem.m0 k' b (by show (m.cut (YF R) Wh).blk k'=some b;simp[Mp.cut,hk,hb'])
        exact absurd this (hx.blk b k' hb)
       ·exact hc
       ·have hk:=Wg hm
        have:=hs.mem.m0o k' b (by show (m.cut (YF R) Wh).obj k'=some b;simp[Mp.cut,hk,hb'])
        exact absurd this (hx.obj b k' hb)
      ·exact absurd hc (Nat.not_le.2 hlt)
     refine⟨X,J,e,{ hx with own:=fun b hb=>?_,blk:=fun b k hb hk=>?_,row:=fun b g R' hb hg e2=>?_,obj:=fun b k hb hk=>?_ }⟩
     ·by_cases hlt:b<w.heap.size
      ·obtain⟨X0,J0,hm,hb0⟩:=hold b hb hlt
       exact(hX X0 J0 hm).own b hb0
      ·exact .inr (Nat.le_trans hmem.off.size (Nat.le_of_not_lt hlt))
     ·obtain⟨X0,J0,hm,hb0⟩:=hold b hb (hmem.lt k b hk)
      exact(hX X0 J0 hm).blk b k hb0 hk
     ·obtain⟨xs,hxs⟩:=hmem.row g R' hg
      obtain⟨X0,J0,hm,hb0⟩:=hold b hb (Wo hxs e2).2
      exact(hX X0 J0 hm).row b g R' hb0 hg e2
     ·obtain⟨X0,J0,hm,hb0⟩:=hold b hb (hmem.olt k b hk)
      exact(hX X0 J0 hm).obj b k hb0 hk
    ·exact hf.elim
   | t x=>cases hok.2
   | r g=>cases hok.2
 rcases hq1 with rfl | rfl
 ·exact⟨hs.df,v,r1,hfin⟩
 ·exact⟨hs.df,v,r1,hfin⟩
end
mutual
def eTy:Ty→List D
 | .mk a b=>[.sl 2 (eTys a) none,.v (.int .i64 b)]
def eTys:List Ty→List (List D)
 | []=>[]
 | t :: l=>eTy t :: eTys l
end
mutual
def eTm:Tm→List D
 | .mk bs k i a=>[.sl 2 (eTys bs) none,.v (.int .i64 k),.v (.int .i64 i),.sl 4 (eTms a) none]
def eTms:List Tm→List (List D)
 | []=>[]
 | t :: l=>eTm t :: eTms l
end
theorem Xw (l:List Ty):eTys l=l.map eTy:=by
 induction l with
 | nil=>rfl
 | cons t l ih=>rw[eTys,ih];rfl
theorem YW (l:List Tm):eTms l=l.map eTm:=by
 induction l with
 | nil=>rfl
 | cons t l ih=>rw[eTms,ih];rfl
theorem Zb (t:Ty):eTy t=[.sl 2 (eTys t.args) none,.v (.int .i64 t.base)]:=by cases t;rfl
theorem Zv (t:Tm):eTm t=[.sl 2 (eTys t.binds) none,.v (.int .i64 t.kind),.v (.int .i64 t.index),.sl 4 (eTms t.args) none]:=by cases t;rfl
theorem We (t:Ty):(eTy t).length=2:=by cases t;rfl
theorem WJ (t:Tm):(eTm t).length=4:=by cases t;rfl
theorem Zr (l:List Ty):(eTys l).length=l.length:=by rw[Xw,List.length_map]
theorem Zs (l:List Tm):(eTms l).length=l.length:=by rw[YW,List.length_map]
theorem ZU (l:List Ty)(i:Nat)(h:i<l.length):(eTys l).getD i []=eTy l[i]:=by
 rw[Xw,List.getD_eq_getElem?_getD,List.getElem?_map,List.getElem?_eq_getElem h];rfl
theorem ZX (l:List Tm)(i:Nat)(h:i<l.length):(eTms l).getD i []=eTm l[i]:=by
 rw[YW,List.getD_eq_getElem?_getD,List.getElem?_map,List.getElem?_eq_getElem h];rfl
theorem X8 (l r:List Ty):eTys (l++r)=eTys l++eTys r:=by simp[Xw]
theorem YV (l r:List Tm):eTms (l++r)=eTms l++eTms r:=by simp[YW]
section
variable (f g:Nat→Bool)
@[simp] theorem PB (t:Ty):D.oks f g (eTy t)=true:=by
 induction t using Ty.ind with
 | h a b ih=>
  rw[Zb]
  simp only[D.oks,D.ok,Bool.and_true,Xw,Ty.args]
  exact D.okss_map _ _ ih
@[simp] theorem Yw (l:List Ty):D.okss f g (eTys l)=true:=by rw[Xw];exact D.okss_map _ _ fun t _=>PB f g t
@[simp] theorem Y5 (t:Tm):D.oks f g (eTm t)=true:=by
 induction t using Tm.ind with
 | h bs k i a ih=>
  rw[Zv]
  simp only[D.oks,D.ok,Bool.and_true,Tm.args,Bool.and_eq_true]
  exact⟨Yw f g _,trivial,trivial,by rw[YW];exact D.okss_map _ _ ih⟩
@[simp] theorem Yk (l:List Tm):D.okss f g (eTms l)=true:=by rw[YW];exact D.okss_map _ _ fun t _=>Y5 f g t
end
section
variable {m:Mp} {Im:Nat→Nat→Prop} {w w':World}
def JP (Im:Nat→Nat→Prop):Nat→Prop:=fun b=>∃ o,Im b o
theorem Uc {α:Type}{r:Rp α}{e:α→List D}(hlen:∀ a,(e a).length=r.n)(hr:∀ (x:List Value) (a:α),Yc m Im w x (e a)→(∀ u∈x,u.oneCell'=true)→r.R (JP Im) w x a){v:Value}{l:List α}(hn:0<r.n)(h:ZD m Im w v (.sl r.n (l.map e) none)):Yd r (JP Im) w v l:=by
 obtain⟨a,c,bl,off,X,rfl,h1,ha,hc,hn2,ho,hr2,_⟩:=XZ h
 rw[List.length_map] at h1 ha hc ho ⊢
 refine⟨a,c,bl,off,fun i=>(List.range r.n).map (X i),rfl,h1,fun h0=>⟨ha h0,?_⟩,fun i j u hi hu=>?_,fun i hi=>?_⟩
 ·exact⟨_,(hc 0 0 h0 hn).2⟩
 ·rw[List.getElem?_map] at hu
  by_cases hj:j<r.n
  ·rw[List.getElem?_range hj] at hu
   cases hu
   exact(hc i j hi hj).1
  ·rw[List.getElem?_eq_none (by simpa using hj)] at hu;cases hu
 ·refine hr _ _ (ZW.2 ⟨by simp[hlen],fun j hj=>?_⟩) fun u hu=>?_
  ·have hi':i<(l.map e).length:=by simpa using hi
   have hj':j<(l.map e)[i].length:=by simpa using hj
   have:=hr2 i hi' j hj'
   have hjn:j<r.n:=by rw[←hlen l[i]];exact hj
   simpa[List.getD_eq_getElem?_getD,List.getElem?_map,List.getElem?_range hjn] using this
  ·obtain⟨j,hj,rfl⟩:=List.mem_map.1 hu
   exact ho i j hi (List.mem_range.1 hj)
theorem X4 {α:Type}{r:Rp α}{e:α→List D}{F:Nat→Prop}(hIm:∀ b o v,F b→w.cell? ⟨b,o,none⟩=some v→Im b o)(hlen:∀ a,(e a).length=r.n)(hr:∀ (x:List Value) (a:α),r.R F w x a→Yc m Im w x (e a)){v:Value}{l:List α}(h:Yd r F w v l):ZD m Im w v (.sl r.n (l.map e) none):=by
 obtain⟨a,c,bl,off,X,rfl,h1,ha,h2,h3⟩:=h
 have hx:∀ i (hi:i<l.length),(X i).length=r.n:=fun i hi=>r.len (h3 i hi)
 have key:ZD m Im w (.slice a (l.map e).length c) (.sl r.n (l.map e) none):=by
  refine .sl a c bl off r.n (fun i j=>(X i).getD j undef) (l.map e) none (by simpa using h1) (fun h0=>(ha (by simpa using h0)).1) (fun i j hi hj=>?_) (fun i hi=>by simp[hlen]) (fun i j hi hj=>?_) (fun i hi j hj=>?_) (fun r e=>by cases e)
  ·have hi':i<l.length:=by simpa using hi
   have hj2:j<(X i).length:=by rw[hx i hi'];exact hj
   have:=h2 i j _ hi' (List.getElem?_eq_getElem hj2)
   rw[List.getD_eq_getElem?_getD,List.getElem?_eq_getElem hj2]
   exact⟨this,hIm _ _ _ (ha (by omega)).2 this⟩
  ·have hi':i<l.length:=by simpa using hi
   have hj2:j<(X i).length:=by rw[hx i hi'];exact hj
   rw[List.getD_eq_getElem?_getD,List.getElem?_eq_getElem hj2]
   exact r.one (h3 i hi') _ (List.getElem_mem _)
  ·have hi':i<l.length:=by simpa using hi
   have h4:=ZW.1 (hr _ _ (h3 i hi'))
   have hj':j<(e l[i]).length:=by simpa using hj
   have:=h4.2 j hj'
   simpa using this
 simpa using key
theorem TB:∀ (t:Ty) {x:List Value},Yc m Im w x (eTy t)→∃ s b,x=[s,b]∧Xi (JP Im) w s b t:=by
 intro t
 induction t using Ty.ind with
 | h a b ih=>
  intro x hx
  rw[Zb] at hx
  match x,hx with
  | [s,b'],⟨h1,h2,_⟩=>
   have:=ZA.1 h2
   subst this
   refine⟨s,_,rfl,KU ?_ _⟩
   have h1:ZD m Im w s (.sl 2 (a.map eTy) none):=by rw[Xw] at h1;exact h1
   obtain⟨ad,c,bl,off,X,rfl,g1,ha,hc,hn2,ho,hr2,_⟩:=XZ h1
   simp only[List.length_map,Ty.args] at g1 ha hc ho ⊢
   refine⟨ad,c,bl,off,fun i=>[X i 0,X i 1],rfl,g1,fun h0=>⟨ha h0,⟨_,(hc 0 0 h0 (by omega)).2⟩⟩,fun i j u hi hu=>?_,fun i hi=>?_⟩
   ·match j with
    | 0=>cases hu;exact(hc i 0 hi (by omega)).1
    | 1=>cases hu;exact(hc i 1 hi (by omega)).1
    | j+2=>simp at hu
   ·have hi':i<(a.map eTy).length:=by simpa using hi
    have q:(a.map eTy)[i]=eTy a[i]:=by simp
    have hl:(a.map eTy)[i].length=2:=by rw[q];exact We _
    have q0:=hr2 i hi' 0 (by omega)
    have q1:=hr2 i hi' 1 (by omega)
    refine ih a[i] (List.getElem_mem _) ?_
    rw[Zb]
    simp only[q] at q0 q1
    have e0:(eTy a[i])[0]'(by rw[We];omega)=.sl 2 (eTys a[i].args) none:=by simp[Zb]
    have e1:(eTy a[i])[1]'(by rw[We];omega)=.v (.int .i64 a[i].base):=by simp[Zb]
    rw[e0] at q0;rw[e1] at q1
    exact⟨q0,q1,trivial⟩
theorem Sr {F:Nat→Prop}(hIm:∀ b o v,F b→w.cell? ⟨b,o,none⟩=some v→Im b o):∀ (t:Ty) {s b:Value},Xi F w s b t→Yc m Im w [s,b] (eTy t):=by
 intro t
 induction t using Ty.ind with
 | h a b ih=>
  intro s b' h
  obtain⟨rfl,hs⟩:=h.inv
  rw[Zb,Xw]
  refine⟨?_,.v _,trivial⟩
  let r2:Rp {t:Ty // t∈a}:={ n:=2,R:=fun F w x t=>YO.R F w x t.1,len:=fun h=>YO.len h,one:=fun h=>YO.one h,keep:=fun h=>YO.keep h,weaken:=fun h=>YO.weaken h }
  have h2:Yd r2 F w s (a.attach):=by
   obtain⟨ad,c,bl,off,X,rfl,g1,ha,g2,g3⟩:=hs
   refine⟨ad,c,bl,off,X,by simp[Ty.args],by simpa[Ty.args] using g1,fun h0=>ha (by simpa[Ty.args] using h0),fun i j u hi hu=>g2 i j u (by simpa[Ty.args] using hi) hu,fun i hi=>?_⟩
   have hi':i<a.length:=by simpa using hi
   have:=g3 i hi'
   simpa[r2,Ty.args] using this
  have h3:=X4 (m:=m) (Im:=Im) (r:=r2) (e:=fun t=>eTy t.1) hIm (fun t=>We t.1) (fun x t hx=>by
   obtain⟨s,b,rfl,ht⟩:=hx
   exact ih t.1 t.2 ht) h2
  have e:(a.attach.map fun t=>eTy t.1)=a.map eTy:=by simp
  rw[e] at h3
  exact h3
theorem Sz:∀ (t:Tm) {x:List Value},Yc m Im w x (eTm t)→∃ b k i a,x=[b,k,i,a]∧Xv (JP Im) w b k i a t:=by
 intro t
 induction t using Tm.ind with
 | h bs k i a ih=>
  intro x hx
  rw[Zv] at hx
  match x,hx with
  | [b',k',i',a'],⟨h1,h2,h3,h4,_⟩=>
   have:=ZA.1 h2
   subst this
   have:=ZA.1 h3
   subst this
   have hb:Yd YO (JP Im) w b' bs:=Uc (r:=YO) (e:=eTy) We (fun x t hx _=>TB t hx) (by decide) (by rw[Xw] at h1;exact h1)
   refine⟨b',_,_,a',rfl,SJ hb ?_ _ _⟩
   have h4:ZD m Im w a' (.sl 4 (a.map eTm) none):=by rw[YW] at h4;exact h4
   obtain⟨ad,c,bl,off,X,rfl,g1,ha,hc,hn2,ho,hr2,_⟩:=XZ h4
   simp only[List.length_map,Tm.args] at g1 ha hc ho ⊢
   refine⟨ad,c,bl,off,fun i=>[X i 0,X i 1,X i 2,X i 3],rfl,g1,fun h0=>⟨ha h0,⟨_,(hc 0 0 h0 (by omega)).2⟩⟩,fun i j u hi hu=>?_,fun i hi=>?_⟩
   ·match j with
    | 0=>cases hu;exact(hc i 0 hi (by omega)).1
    | 1=>cases hu;exact(hc i 1 hi (by omega)).1
    | 2=>cases hu;exact(hc i 2 hi (by omega)).1
    | 3=>cases hu;exact(hc i 3 hi (by omega)).1
    | j+4=>simp at hu
   ·have hi':i<(a.map eTm).length:=by simpa using hi
    have q:(a.map eTm)[i]=eTm a[i]:=by simp
    have hl:(a.map eTm)[i].length=4:=by rw[q];exact WJ _
    have q0:=hr2 i hi' 0 (by omega)
    have q1:=hr2 i hi' 1 (by omega)
    have q2:=hr2 i hi' 2 (by omega)
    have q3:=hr2 i hi' 3 (by omega)
    refine ih a[i] (List.getElem_mem _) ?_
    rw[Zv]
    simp only[q] at q0 q1 q2 q3
    have e0:(eTm a[i])[0]'(by rw[WJ];omega)=.sl 2 (eTys a[i].binds) none:=by simp[Zv]
    have e1:(eTm a[i])[1]'(by rw[WJ];omega)=.v (.int .i64 a[i].kind):=by simp[Zv]
    have e2:(eTm a[i])[2]'(by rw[WJ];omega)=.v (.int .i64 a[i].index):=by simp[Zv]
    have e3:(eTm a[i])[3]'(by rw[WJ];omega)=.sl 4 (eTms a[i].args) none:=by simp[Zv]
    rw[e0] at q0;rw[e1] at q1;rw[e2] at q2;rw[e3] at q3
    exact⟨q0,q1,q2,q3,trivial⟩
theorem Vd {F:Nat→Prop}(hIm:∀ b o v,F b→w.cell? ⟨b,o,none⟩=some v→Im b o):∀ (t:Tm) {b k i a:Value},Xv F w b k i a t→Yc m Im w [b,k,i,a] (eTm t):=by
 intro t
 induction t using Tm.ind with
 | h bs k i a ih=>
  intro b' k' i' a' h
  obtain⟨rfl,rfl,hb,hs⟩:=h.inv
  rw[Zv,YW,Xw]
  have h1:=X4 (m:=m) (Im:=Im) (r:=YO) (e:=eTy) hIm We (fun x t hx=>by
   obtain⟨s,b,rfl,ht⟩:=hx
   exact Sr hIm t ht) hb
  refine⟨h1,.v _,.v _,?_,trivial⟩
  let r2:Rp {t:Tm // t∈a}:={ n:=4,R:=fun F w x t=>VZ.R F w x t.1,len:=fun h=>VZ.len h,one:=fun h=>VZ.one h,keep:=fun h=>VZ.keep h,weaken:=fun h=>VZ.weaken h }
  have h2:Yd r2 F w a' (a.attach):=by
   obtain⟨ad,c,bl,off,X,rfl,g1,ha,g2,g3⟩:=hs
   refine⟨ad,c,bl,off,X,by simp[Tm.args],by simpa[Tm.args] using g1,fun h0=>ha (by simpa[Tm.args] using h0),fun i j u hi hu=>g2 i j u (by simpa[Tm.args] using hi) hu,fun i hi=>?_⟩
   have hi':i<a.length:=by simpa using hi
   have:=g3 i hi'
   simpa[r2,Tm.args] using this
  have h3:=X4 (m:=m) (Im:=Im) (r:=r2) (e:=fun t=>eTm t.1) hIm (fun t=>WJ t.1) (fun x t hx=>by
   obtain⟨b,k,i,a,rfl,ht⟩:=hx
   exact ih t.1 t.2 ht) h2
  have e:(a.attach.map fun t=>eTm t.1)=a.map eTm:=by simp
  rw[e] at h3
  exact h3
end
section
variable {P:Program} {T:List (Nat×TI)} {cx:Cx} {σ:List (Key×D)} {N:Nat} {Q:Exit→List (Key×D)→Nat→Prop} {nt N1:Nat}
def KM (nt:Nat)(ops:Array Oper):Bool:=ops.all (fun o=>match o.dst with | none=>true | some d=>decide (d<nt))
def A5:Key→Prop
 | .r _=>False
 | .j=>False
 | .o _=>False
 | _=>True
def kV (N':Nat)(σ:List (Key×D)):List (Key×D)→Prop
 | []=>True
 | (k,d) :: r=>((d.ok (YM N') (YM N')&&Xx N' k)=true∧(get σ k=some d∨∃ d',get σ k=some d'∧Zn d' d∧A5 k))∧kV N' σ r
theorem PM {N':Nat}{σ:List (Key×D)}:∀ {τ:List (Key×D)},kV N' σ τ→∀ p∈τ,(p.2.ok (YM N') (YM N')&&Xx N' p.1)=true∧(get σ p.1=some p.2∨∃ d',get σ p.1=some d'∧Zn d' p.2∧A5 p.1)
 | [],_,p,hp=>by cases hp
 | (k,d) :: r,h,p,hp=>by
  rcases List.mem_cons.1 hp with rfl | hp
  ·exact h.1
  ·exact PM h.2 p hp
theorem VS.toK {cx:Cx}{σ τ:List (Key×D)}{N N':Nat}(hN:cx.n0≤N')(h:kV N' σ τ):VS cx σ N τ N':=
 VS.to hN (List.all_eq_true.2 fun p hp=>(PM h p hp).1) fun p hp=>by
  rcases(PM h p hp).2 with h1 | ⟨d',h1,h2,h3⟩
  ·exact .inl h1
  ·refine .inr ⟨d',h1,h2,?_⟩
   obtain⟨k,d⟩:=p
   cases k <;> first | trivial | exact h3
def AF (cx:Cx)(τ:List (Key×D))(N1:Nat):Exit→List (Key×D)→Nat→Prop
 | .normal,σ,N=>VS cx σ N τ N1
 | _,_,_=>False
theorem Ym {τ:List (Key×D)}{N1:Nat}(h:VS cx σ N τ N1):AF cx τ N1 .normal σ N:=h
theorem XW {x y:Code}{τ:List (Key×D)}{N1:Nat}(h:DW P cx x σ N (AF cx τ N1))(h2:DW P cx y τ N1 Q):DW P cx (.seq x y) σ N Q:=
 Zz (h.mono fun e σ' N' hh=>by
  cases e with
  | normal=>exact h2.vs hh
  | _=>exact hh.elim)
def AE {ι:Type}(cx:Cx)(τ:ι→List (Key×D))(N1:Nat)(Q:Exit→List (Key×D)→Nat→Prop):Exit→List (Key×D)→Nat→Prop
 | .normal,σ,N=>∃ i,VS cx σ N (τ i) N1
 | e,σ,N=>Q e σ N
theorem KK {ι:Type}{τ:ι→List (Key×D)}{N1:Nat}(i:ι)(h:VS cx σ N (τ i) N1):AE cx τ N1 Q .normal σ N:=⟨i,h⟩
theorem Ck {ι:Type}{x y:Code}(τ:ι→List (Key×D))(N1:Nat)(h:DW P cx x σ N (AE cx τ N1 Q))(h2:∀ i,DW P cx y (τ i) N1 Q):DW P cx (.seq x y) σ N Q:=
 Zz (h.mono fun e σ' N' hh=>by
  cases e with
  | normal=>obtain⟨i,hv⟩:=hh;exact(h2 i).vs hv
  | _=>exact hh)
end
abbrev XF:=List (Key×D)
def T1 (σ:XF)(k:Key)(c:D→Prop):Prop:=match get σ k with
 | some d=>c d
 | none=>False
def W0 (σ:XF)(x:Operand)(c:D→Prop):Prop:=match x with
 | .tmp t=>T1 σ (.t t) c
 | .const v=>c (.v v)
 | .func f=>c (.fn f [])
 | .global _=>False
def J3 (σ:XF):List Operand→(List D→Prop)→Prop
 | [],c=>c []
 | x :: r,c=>W0 σ x fun d=>J3 σ r fun l=>c (d :: l)
def SK (σ:XF)(k:Nat):Nat→Nat→(List D→Prop)→Prop
 | _,0,c=>c []
 | o,n+1,c=>T1 σ (.c k o) fun d=>SK σ k (o+1) n fun l=>c (d :: l)
def Sh:Nat→List D→(List D→Prop)→Prop
 | 0,_,c=>c []
 | n+1,d :: l,c=>Sh n l fun r=>c (d :: r)
 | _+1,[],_=>False
def Sf:Nat→List D→(List D→Prop)→Prop
 | 0,l,c=>c l
 | n+1,_ :: l,c=>Sf n l c
 | _+1,[],_=>False
def kT (T:List (Nat×TI))(t:Nat)(c:TI→Prop):Prop:=match YP T t with
 | some ti=>c ti
 | none=>False
def kOf (ti:TI)(l:List D)(c:D→Prop):Prop:=match ti.ag with
 | true=>(match Nat.beq l.length ti.sz with | true=>c (.ag l) | false=>False)
 | false=>(match l with | [d]=>c d | _=>False)
def BW (ti:TI)(r:List D)(j n:Nat)(c:D→Prop):Prop:=match ti.ag with
 | true=>(match Nat.beq j 0&&Nat.beq ti.sz n with | true=>c (.ag r) | false=>c (.ag ((r.drop j).take ti.sz)))
 | false=>(match Nat.beq ti.sz 1 with | true=>c (r.getD j (.v undef)) | false=>False)
def kld (T:List (Nat×TI))(σ:XF)(t:Nat)(x:D)(c:D→Prop):Prop:=kT T t fun ti=>match x with
 | .p k o=>SK σ k o ti.sz fun l=>kOf ti l c
 | .q l=>Sh ti.sz l fun l=>kOf ti l c
 | .pr g len n i j=>T1 σ (.r g) fun d=>(match d with
  | .rp _ n' l=>(match Nat.beq n' n&&Nat.ble (j+ti.sz) n with
   | true=>(l.length=len∧i<len∧(l.getD i []).length=n)∧BW ti (l.getD i []) j n c
   | false=>False)
  | _=>False)
 | _=>False
def FG (T:List (Nat×TI))(t:Nat)(x:D)(f:Nat)(c:D→Prop):Prop:=kT T t fun ti=>match x,ti.fs[f]? with
 | .ag l,some (off,sz,ag)=>Sf off l fun l=>Sh sz l fun l=>(match ag with | true=>c (.ag l) | false=>(match l with | [d]=>c d | _=>False))
 | _,_=>False
def FF (T:List (Nat×TI))(t:Nat)(x:D)(f:Nat)(c:D→Prop):Prop:=kT T t fun ti=>match x,ti.fs[f]? with
 | .p k o,some (off,_,_)=>c (.p k (o+off))
 | .q l,some (off,_,_)=>Sf off l fun l=>c (.q l)
 | .pr g len n i j,some (off,_,_)=>c (.pr g len n i (j+off))
 | _,_=>False
def FI (T:List (Nat×TI))(t:Nat)(x y:D)(c:D→Prop):Prop:=kT T t fun ti=>match ti.el with
 | none=>False
 | some e=>kT T e fun te=>match x,y with
  | .sl n l _,.v (.int _ i)=>(match Nat.beq te.sz n&&Nat.ble 1 n with | true=>(0≤i∧i<(l.length:Int))∧c (.q (l.getD i.toNat [])) | false=>False)
  | .ps g len,.v (.int _ i)=>(match Nat.ble 1 te.sz with | true=>(0≤i∧i<(len:Int))∧c (.pr g len te.sz i.toNat 0) | false=>False)
  | _,_=>False
def AY (T:List (Nat×TI))(t:Nat)(x:D)(c:D→Prop):Prop:=kT T t fun ti=>match x with
 | .sl _ l _=>(match Nat.beq ti.kd 5 with | true=>c (.v (.int .i64 l.length)) | false=>False)
 | .v (.slice _ n _)=>(match Nat.beq ti.kd 5 with | true=>c (.v (.int .i64 n)) | false=>False)
 | .v (.string s)=>(match Nat.beq ti.kd 3 with | true=>c (.v (.int .i64 s.size)) | false=>False)
 | .ps _ len=>(match Nat.beq ti.kd 5 with | true=>c (.v (.int .i64 len)) | false=>False)
 | _=>False
def Cv (σ:XF)(x:Option Operand)(c:Option Int→Prop):Prop:=match x with
 | none=>c none
 | some x=>W0 σ x fun d=>(match d with | .v (.int .i64 i)=>c (some i) | _=>False)
def BX (lo hi mx:Option Int)(n:Nat)(c:Prop):Prop:=match lo,hi,mx with
 | none,none,none=>c
 | some l,none,none=>(0≤l∧l≤n)∧c
 | none,some h,none=>(0≤h∧h≤n)∧c
 | some l,some h,none=>(0≤l∧l≤h∧h≤n)∧c
 | none,some h,some m=>(0≤h∧h=m∧m≤n)∧c
 | some l,some h,some m=>(0≤l∧l≤h∧h=m∧m≤n)∧c
 | _,none,some _=>False
def ksl (T:List (Nat×TI))(t:Nat)(x:D)(lo hi mx:Option Int)(c:D→Prop):Prop:=kT T t fun ti=>match ti.el with
 | none=>False
 | some E=>kT T E fun te=>match x with
  | .sl n l _=>(match Nat.beq te.sz n with
   | true=>BX lo hi mx l.length (c (match mx with | none=>.sl n ((l.take (hi.getD l.length).toNat).drop (lo.getD 0).toNat) none | some _=>.cl n ((l.take (hi.getD l.length).toNat).drop (lo.getD 0).toNat)))
   | false=>False)
  | .v (.slice none 0 0)=>BX lo hi mx 0 (c (.v (.slice none 0 0)))
  | .ps g len=>(match lo,hi,mx with
   | some i,none,none=>(match Nat.ble 1 te.sz with | true=>(0≤i∧i≤(len:Int))∧c (.pt g len te.sz i.toNat) | false=>False)
   | _,_,_=>False)
  | _=>False
def An (ti:TI)(d:D)(c:List D→Prop):Prop:=match XD ti d with
 | some l=>c l
 | none=>False
def FA:List D→List D→(List D→Prop)→Prop
 | [],r,c=>c r
 | d :: l,r,c=>FA l r fun x=>c (d :: x)
def PR (ti:TI)(f:Nat)(d:D)(c:Nat→Nat→List D→Prop):Prop:=match ti.fs[f]? with
 | none=>False
 | some (off,sz,ag)=>match ag with
  | true=>(match d with | .ag ds=>(match Nat.beq ds.length sz with | true=>c off sz ds | false=>False) | _=>False)
  | false=>(match Nat.beq sz 1&&d.one with | true=>c off sz [d] | false=>False)
def FH (ti:TI):List D→List (Nat×Operand)→List D→(List D→Prop)→Prop
 | l,[],_,c=>c l
 | _,_ :: _,[],_=>False
 | l,(f,_) :: ps,d :: ds,c=>PR ti f d fun off sz vs=>Sh off l fun l1=>Sf (off+sz) l fun l2=>FA vs l2 fun l3=>FA l1 l3 fun l4=>FH ti l4 ps ds c
def kzs:List Value→(List D→Prop)→Prop
 | [],c=>c []
 | v :: l,c=>kzs l fun r=>c (.v v :: r)
def FB (T:List (Nat×TI))(σ:XF)(t:Nat)(parts:List (Nat×Operand))(c:D→Prop):Prop:=kT T t fun ti=>match Nat.beq ti.kd 6 with
 | false=>False
 | true=>J3 σ (parts.map (·.2)) fun ds=>kzs ti.z fun z=>FH ti z parts ds fun l=>c (.ag l)
def AU (T:List (Nat×TI))(t:Nat)(op:BinOp)(x y:D)(c:D→Prop):Prop:=kT T t fun ti=>match ET ti op x y with
 | some d=>c d
 | none=>False
def PQ {α:Type}(x:Option α)(c:α→Prop):Prop:=match x with
 | some d=>c d
 | none=>False
theorem Wu {α:Type}{x:Option α}{c:α→Prop}(h:PQ x c):∃ d,x=some d∧c d:=by
 cases x with
 | none=>exact h.elim
 | some d=>exact⟨d,rfl,h⟩
section sound
variable {σ:XF} {T:List (Nat×TI)}
theorem Xn {k:Key}{c:D→Prop}(h:T1 σ k c):∃ d,get σ k=some d∧c d:=by
 unfold T1 at h
 cases hg:get σ k with
 | none=>rw[hg] at h;exact h.elim
 | some d=>rw[hg] at h;exact⟨d,rfl,h⟩
theorem ZV {x:Operand}{c:D→Prop}(h:W0 σ x c):∃ d,ev σ x=some d∧c d:=by
 cases x with
 | tmp t=>exact Xn h
 | const v=>exact⟨_,rfl,h⟩
 | func f=>exact⟨_,rfl,h⟩
 | global g=>exact h.elim
theorem W8:∀ {xs:List Operand} {c:List D→Prop},J3 σ xs c→∃ ds,evs σ xs=some ds∧c ds
 | [],c,h=>⟨[],rfl,h⟩
 | x :: xs,c,h=>by
  obtain⟨d,h1,h2⟩:=ZV h
  obtain⟨ds,h3,h4⟩:=W8 h2
  exact⟨d :: ds,by simp[evs,h1,h3],h4⟩
theorem Vn {k:Nat}:∀ {n o:Nat} {c:List D→Prop},SK σ k o n c→∃ l,cellsAt σ k o n=some l∧c l
 | 0,_,c,h=>⟨[],rfl,h⟩
 | n+1,o,c,h=>by
  obtain⟨d,h1,h2⟩:=Xn h
  obtain⟨l,h3,h4⟩:=Vn h2
  exact⟨d :: l,by simp[cellsAt,h1,h3],h4⟩
theorem WN:∀ {n:Nat} {l:List D} {c:List D→Prop},Sh n l c→n≤l.length∧c (l.take n)
 | 0,l,c,h=>⟨Nat.zero_le _,by simpa[Sh] using h⟩
 | n+1,d :: l,c,h=>by
  obtain⟨h1,h2⟩:=WN (n:=n) (l:=l) h
  exact⟨by simp;omega,by simpa using h2⟩
 | _+1,[],_,h=>h.elim
theorem WM:∀ {n:Nat} {l:List D} {c:List D→Prop},Sf n l c→n≤l.length∧c (l.drop n)
 | 0,l,c,h=>⟨Nat.zero_le _,by simpa[Sf] using h⟩
 | n+1,d :: l,c,h=>by
  obtain⟨h1,h2⟩:=WM (n:=n) (l:=l) h
  exact⟨by simp;omega,by simpa using h2⟩
 | _+1,[],_,h=>h.elim
theorem Va:∀ {l r:List D} {c:List D→Prop},FA l r c→c (l++r)
 | [],_,_,h=>h
 | _ :: l,r,c,h=>Va (l:=l) (r:=r) h
theorem Tc:∀ {l:List Value} {c:List D→Prop},kzs l c→c (l.map .v)
 | [],_,h=>h
 | _ :: l,c,h=>Tc (l:=l) h
theorem Yl {t:Nat}{c:TI→Prop}(h:kT T t c):∃ ti,YP T t=some ti∧c ti:=by
 unfold kT at h
 cases hg:YP T t with
 | none=>rw[hg] at h;exact h.elim
 | some d=>rw[hg] at h;exact⟨d,rfl,h⟩
theorem RK {ti:TI}{l:List D}{c:D→Prop}(h:kOf ti l c):∃ d,Wx ti l=some d∧c d:=by
 unfold kOf at h
 unfold Wx
 cases hag:ti.ag with
 | true=>
  rw[hag] at h
  cases hl:Nat.beq l.length ti.sz with
  | true=>
   rw[hl] at h
   exact⟨.ag l,by simp[Nat.eq_of_beq_eq_true hl],h⟩
  | false=>rw[hl] at h;exact h.elim
 | false=>
  rw[hag] at h
  match l,h with
  | [d],h=>exact⟨d,by simp,h⟩
theorem J7 {ti:TI}{r:List D}{j n:Nat}{c:D→Prop}(hr:r.length=n)(hj:j+ti.sz≤n)(h:BW ti r j n c):∃ d,Wx ti ((r.drop j).take ti.sz)=some d∧c d:=by
 unfold BW at h
 unfold Wx
 have hl:((r.drop j).take ti.sz).length=ti.sz:=by simp;omega
 cases hag:ti.ag with
 | true=>
  rw[hag] at h
  dsimp only at h ⊢
  split at h
  ·rename_i hb
   simp only[Bool.and_eq_true] at hb
   have e1:=Nat.eq_of_beq_eq_true hb.1
   have e2:=Nat.eq_of_beq_eq_true hb.2
   refine⟨_,?_,h⟩
   subst e1
   rw[List.drop_zero,e2,←hr,List.take_length]
   simp
  ·refine⟨_,?_,h⟩
   simp[hl]
 | false=>
  rw[hag] at h
  dsimp only at h ⊢
  split at h
  ·rename_i hb
   have e1:=Nat.eq_of_beq_eq_true hb
   have hlt:j<r.length:=by omega
   rw[e1,List.drop_eq_getElem_cons hlt,List.take_succ_cons]
   refine⟨_,?_,h⟩
   simp[List.getD_eq_getElem?_getD,List.getElem?_eq_getElem hlt]
  ·exact h.elim
theorem FK {t:Nat}{x:D}{c:D→Prop}(h:kld T σ t x c):∃ e,D3 T σ t x=some e∧c e:=by
 obtain⟨ti,h1,h⟩:=Yl h
 unfold D3
 rw[h1]
 split at h
 ·obtain⟨l,h2,h3⟩:=Vn h
  obtain⟨d,h4,h5⟩:=RK h3
  exact⟨d,by simp[h2,h4],h5⟩
 ·obtain⟨h2,h3⟩:=WN h
  obtain⟨d,h4,h5⟩:=RK h3
  exact⟨d,by simp[h2,h4],h5⟩
 ·obtain⟨d,h2,h⟩:=Xn h
  split at h
  ·split at h
   ·rename_i hb
    simp only[Bool.and_eq_true] at hb
    have e1:=Nat.eq_of_beq_eq_true hb.1
    have e2:=Nat.le_of_ble_eq_true hb.2
    obtain⟨⟨a1,a2,a3⟩,h⟩:=h
    obtain⟨e,h4,h5⟩:=J7 a3 e2 h
    refine⟨e,?_,h5⟩
    simp only[h2]
    rw[if_pos ⟨e1,a1,a2,e2⟩]
    exact h4
   ·exact h.elim
  ·exact h.elim
 ·exact h.elim
theorem RO {t:Nat}{x:D}{f:Nat}{c:D→Prop}(h:FG T t x f c):∃ e,T9 T t x f=some e∧c e:=by
 obtain⟨ti,h1,h⟩:=Yl h
 unfold T9
 rw[h1]
 split at h
 ·rename_i l off sz ag _ _
  have hf:ti.fs[f]?=some (off,sz,ag):=by assumption
  obtain⟨h2,h3⟩:=WM h
  obtain⟨h4,h5⟩:=WN h3
  rw[List.length_drop] at h4
  have hle:off+sz≤l.length:=by omega
  cases ag with
  | true=>exact⟨_,by simp[hf,hle],h5⟩
  | false=>
   cases sz with
   | zero=>exact h5.elim
   | succ n=>
    have hlt:off<l.length:=by omega
    rw[List.drop_eq_getElem_cons hlt,List.take_succ_cons] at h5
    simp only at h5
    split at h5
    ·rename_i d he
     injection he with e1 e2
     exact⟨d,by simp[hf,hle,hlt,e1],h5⟩
    ·exact h5.elim
 ·exact h.elim
theorem RN {t:Nat}{x:D}{f:Nat}{c:D→Prop}(h:FF T t x f c):∃ e,TU T t x f=some e∧c e:=by
 obtain⟨ti,h1,h⟩:=Yl h
 unfold TU
 rw[h1]
 split at h
 ·rename_i k o off a b _ _
  have hf:ti.fs[f]?=some (off,a,b):=by assumption
  exact⟨_,by simp[hf],h⟩
 ·rename_i l off a b _ _
  have hf:ti.fs[f]?=some (off,a,b):=by assumption
  obtain⟨h2,h3⟩:=WM h
  exact⟨_,by simp[hf,h2],h3⟩
 ·rename_i g len n i j off a b _ _
  have hf:ti.fs[f]?=some (off,a,b):=by assumption
  exact⟨_,by simp[hf],h⟩
 ·exact h.elim
theorem RP {t:Nat}{x y:D}{c:D→Prop}(h:FI T t x y c):∃ e,T5 T t x y=some e∧c e:=by
 obtain⟨ti,h1,h⟩:=Yl h
 unfold T5
 rw[h1]
 cases hel:ti.el with
 | none=>rw[hel] at h;exact h.elim
 | some e=>
  rw[hel] at h
  obtain⟨te,h2,h⟩:=Yl h
  simp only[hel,h2]
  split at h
  ·split at h
   ·rename_i hb
    simp only[Bool.and_eq_true] at hb
    have e1:=Nat.eq_of_beq_eq_true hb.1
    have e2:=Nat.le_of_ble_eq_true hb.2
    refine⟨_,?_,h.2⟩
    dsimp only
    rw[if_pos (by simp[e1];omega),if_pos h.1]
   ·exact h.elim
  ·split at h
   ·rename_i hb
    have e2:=Nat.le_of_ble_eq_true hb
    exact⟨_,if_pos ⟨by omega,h.1.1,h.1.2⟩,h.2⟩
   ·exact h.elim
  ·exact h.elim
theorem U7 {x:Option Operand}{c:Option Int→Prop}(h:Cv σ x c):∃ i,evI σ x=some i∧c i:=by
 cases x with
 | none=>exact⟨none,rfl,h⟩
 | some x=>
  obtain⟨d,h1,h⟩:=ZV h
  split at h
  ·exact⟨_,by simp[evI,h1],h⟩
  ·exact h.elim
theorem Sd {lo hi mx:Option Int}{n:Nat}{c:Prop}(h:BX lo hi mx n c):(0≤lo.getD 0∧lo.getD 0≤hi.getD n∧hi.getD n≤mx.getD n∧(mx.isSome→hi.isSome)∧mx.getD n≤n)∧(∀ m',mx=some m'→m'=hi.getD n)∧c:=by
 match lo,hi,mx,h with
 | none,none,none,h=>exact⟨⟨Int.le_refl _,by simp,by simp,by simp,by simp⟩,nofun,h⟩
 | some l,none,none,h=>exact⟨⟨h.1.1,h.1.2,by simp,by simp,by simp⟩,nofun,h.2⟩
 | none,some k,none,h=>exact⟨⟨Int.le_refl _,h.1.1,h.1.2,by simp,by simp⟩,nofun,h.2⟩
 | some l,some k,none,h=>exact⟨⟨h.1.1,h.1.2.1,h.1.2.2,by simp,by simp⟩,nofun,h.2⟩
 | none,some k,some m,h=>exact⟨⟨Int.le_refl _,h.1.1,Int.le_of_eq h.1.2.1,by simp,h.1.2.2⟩,(fun m' e=>by cases e;exact h.1.2.1.symm),h.2⟩
 | some l,some k,some m,h=>exact⟨⟨h.1.1,h.1.2.1,Int.le_of_eq h.1.2.2.1,by simp,h.1.2.2.2⟩,(fun m' e=>by cases e;exact h.1.2.2.1.symm),h.2⟩
 | none,none,some m,h=>exact h.elim
 | some l,none,some m,h=>exact h.elim
theorem FN {t:Nat}{x:D}{lo hi mx:Option Int}{c:D→Prop}(h:ksl T t x lo hi mx c):∃ e,Tq T t x lo hi mx=some e∧c e:=by
 obtain⟨ti,h1,h⟩:=Yl h
 unfold Tq
 rw[h1]
 cases hel:ti.el with
 | none=>rw[hel] at h;exact h.elim
 | some e=>
  rw[hel] at h
  obtain⟨te,h2,h⟩:=Yl h
  simp only[hel,h2]
  split at h
  ·split at h
   ·rename_i hb
    obtain⟨⟨q1,q2,q3,q4,q5⟩,q6,h⟩:=Sd h
    refine⟨_,?_,h⟩
    dsimp only
    rw[if_pos ⟨Nat.eq_of_beq_eq_true hb,q1,q2,q3,q4,q5⟩]
    cases mx with
    | none=>rfl
    | some m=>dsimp only;rw[if_pos (q6 m rfl)]
   ·exact h.elim
  ·obtain⟨⟨q1,q2,q3,q4,q5⟩,_,h⟩:=Sd h
   have z:((0:Nat):Int)=0:=rfl
   rw[z] at q2 q3 q5
   exact⟨_,if_pos ⟨by omega,by omega,by omega,q4⟩,h⟩
  ·split at h
   ·split at h
    ·rename_i hb
     have:=Nat.le_of_ble_eq_true hb
     exact⟨_,if_pos ⟨by omega,h.1.1,h.1.2⟩,h.2⟩
    ·exact h.elim
   ·exact h.elim
  ·exact h.elim
theorem J2 {t:Nat}{x:D}{c:D→Prop}(h:AY T t x c):∃ e,FP T t x=some e∧c e:=by
 obtain⟨ti,h1,h⟩:=Yl h
 unfold FP
 rw[h1]
 split at h
 ·split at h
  ·rename_i hb;exact⟨_,by simp[Nat.eq_of_beq_eq_true hb],h⟩
  ·exact h.elim
 ·split at h
  ·rename_i hb;exact⟨_,by simp[Nat.eq_of_beq_eq_true hb],h⟩
  ·exact h.elim
 ·split at h
  ·rename_i hb;exact⟨_,by simp[Nat.eq_of_beq_eq_true hb],h⟩
  ·exact h.elim
 ·split at h
  ·rename_i hb;exact⟨_,by simp[Nat.eq_of_beq_eq_true hb],h⟩
  ·exact h.elim
 ·exact h.elim
theorem RQ {ti:TI}{f:Nat}{d:D}{c:Nat→Nat→List D→Prop}(h:PR ti f d c):∃ off sz ag ds,ti.fs[f]?=some (off,sz,ag)∧RY sz ag d=some ds∧c off sz ds:=by
 unfold PR at h
 split at h
 ·exact h.elim
 ·rename_i off sz ag hf
  cases ag with
  | true=>
   simp only at h
   split at h
   ·rename_i ds
    split at h
    ·rename_i hb;exact⟨off,sz,true,ds,hf,by simp[RY,Nat.eq_of_beq_eq_true hb],h⟩
    ·exact h.elim
   ·exact h.elim
  | false=>
   simp only at h
   split at h
   ·rename_i hb
    simp only[Bool.and_eq_true] at hb
    exact⟨off,sz,false,[d],hf,by simp[RY,Nat.eq_of_beq_eq_true hb.1,hb.2],h⟩
   ·exact h.elim
theorem T2 {ti:TI}:∀ {l:List D} {ps:List (Nat×Operand)} {ds:List D} {c:List D→Prop},FH ti l ps ds c→∃ l',UN ti l ((ps.map (·.1)).zip ds)=some l'∧c l'
 | l,[],ds,c,h=>⟨l,by simp[UN],by cases ds <;> exact h⟩
 | l,_ :: _,[],c,h=>h.elim
 | l,(f,x) :: ps,d :: ds,c,h=>by
  obtain⟨off,sz,ag,vs,h1,h2,h3⟩:=RQ h
  obtain⟨h4,h5⟩:=WN h3
  obtain⟨h6,h7⟩:=WM h5
  obtain⟨l',h8,h9⟩:=T2 (Va (Va h7))
  refine⟨l',?_,h9⟩
  simp only[List.map_cons,List.zip_cons_cons,UN,h1,h2]
  rw[if_pos h6,List.append_assoc]
  exact h8
theorem RL {t:Nat}{parts:List (Nat×Operand)}{c:D→Prop}(h:FB T σ t parts c):∃ e,UV T σ t parts=some e∧c e:=by
 obtain⟨ti,h1,h⟩:=Yl h
 unfold UV
 rw[h1]
 split at h
 ·exact h.elim
 ·rename_i hb
  obtain⟨ds,h2,h3⟩:=W8 h
  obtain⟨l,h4,h5⟩:=T2 (Tc h3)
  exact⟨.ag l,by simp[Nat.eq_of_beq_eq_true hb,h2,h4],h5⟩
theorem J5 {t:Nat}{op:BinOp}{x y:D}{c:D→Prop}(h:AU T t op x y c):∃ e,ES T t op (some x) (some y)=some e∧c e:=by
 obtain⟨ti,h1,h⟩:=Yl h
 cases hb:ET ti op x y with
 | none=>rw[hb] at h;exact h.elim
 | some e=>rw[hb] at h;exact⟨e,by simp[ES,h1,hb],h⟩
end sound
def B8 (T:List (Nat×TI))(σ:XF)(o:Op)(c:D→Prop)(other:Prop):Prop:=match o with
 | .move x=>W0 σ x c
 | .assign x=>W0 σ x c
 | .pick x y z=>W0 σ x fun d=>(match d with | .v (.bool t)=>(match t with | true=>W0 σ y c | false=>W0 σ z c) | _=>False)
 | .load t x=>W0 σ x fun d=>kld T σ t d c
 | .nilCheck x=>W0 σ x fun d=>PQ (Bf d) c
 | .binOp op t x y _=>W0 σ x fun d=>W0 σ y fun e=>AU T t op d e c
 | .unOp op _ x=>W0 σ x fun d=>PQ (unD op d) c
 | .convert s t x=>W0 σ x fun d=>PQ (KI T s t d) c
 | .field t x f=>W0 σ x fun d=>FG T t d f c
 | .fieldAddr t x f=>W0 σ x fun d=>FF T t d f c
 | .indexAddr t x y=>W0 σ x fun d=>W0 σ y fun e=>FI T t d e c
 | .extract x i=>W0 σ x fun d=>PQ (TT d i) c
 | .makeFunc f first caps=>(match f,first.toList with | .func f,[]=>J3 σ caps.toList fun ds=>c (.fn f ds) | _,_=>False)
 | .build t parts=>FB T σ t parts.toList c
 | .slice t x lo hi mx=>W0 σ x fun d=>Cv σ lo fun lo=>Cv σ hi fun hi=>Cv σ mx fun mx=>ksl T t d lo hi mx c
 | .call cl=>(match cl.callee,cl.args.toList,cl.argTypes.toList with
  | .builtin .len,[x],[t]=>W0 σ x fun d=>AY T t d c
  | .builtin .min,[x,y],[_,_]=>W0 σ x fun d=>W0 σ y fun e=>PQ (Be d e) c
  | .builtin .max,[x,y],[_,_]=>W0 σ x fun d=>W0 σ y fun e=>PQ (Ba d e) c
  | _,_,_=>other)
 | _=>other
theorem Jd {T:List (Nat×TI)}{σ:XF}{o:Oper}{c:D→Prop}{other:Prop}(h:B8 T σ o.op c other):(∃ V,VY T σ o=some V∧c V)∨other:=by
 unfold B8 at h
 unfold VY
 split at h
 ·rename_i x ho;rw[ho];exact .inl (ZV h)
 ·rename_i x ho;rw[ho];exact .inl (ZV h)
 ·rename_i x y z ho
  rw[ho]
  obtain⟨d,h1,h2⟩:=ZV h
  split at h2
  ·rename_i t
   cases t with
   | true=>obtain⟨e,h3,h4⟩:=ZV h2;exact .inl ⟨e,by simp[RZ,h1,h3],h4⟩
   | false=>obtain⟨e,h3,h4⟩:=ZV h2;exact .inl ⟨e,by simp[RZ,h1,h3],h4⟩
  ·exact h2.elim
 ·rename_i t x ho
  rw[ho]
  obtain⟨d,h1,h2⟩:=ZV h
  obtain⟨e,h3,h4⟩:=FK h2
  exact .inl ⟨e,by simp[h1,h3],h4⟩
 ·rename_i x ho
  rw[ho]
  obtain⟨d,h1,h2⟩:=ZV h
  obtain⟨e,h3,h4⟩:=Wu h2
  exact .inl ⟨e,by simp[h1,h3],h4⟩
 ·rename_i op t x y _ ho
  rw[ho]
  obtain⟨d,h1,h2⟩:=ZV h
  obtain⟨e,h3,h4⟩:=ZV h2
  obtain⟨f,h5,h6⟩:=J5 h4
  exact .inl ⟨f,by simp[h1,h3,h5],h6⟩
 ·rename_i op t x ho
  rw[ho]
  obtain⟨d,h1,h2⟩:=ZV h
  obtain⟨e,h3,h4⟩:=Wu h2
  exact .inl ⟨e,by simp[h1,h3],h4⟩
 ·rename_i t t2 x ho
  rw[ho]
  obtain⟨d,h1,h2⟩:=ZV h
  obtain⟨e,h3,h4⟩:=Wu h2
  exact .inl ⟨e,by simp[h1,h3],h4⟩
 ·rename_i t x f ho
  rw[ho]
  obtain⟨d,h1,h2⟩:=ZV h
  obtain⟨e,h3,h4⟩:=RO h2
  exact .inl ⟨e,by simp[h1,h3],h4⟩
 ·rename_i t x f ho
  rw[ho]
  obtain⟨d,h1,h2⟩:=ZV h
  obtain⟨e,h3,h4⟩:=RN h2
  exact .inl ⟨e,by simp[h1,h3],h4⟩
 ·rename_i t x y ho
  rw[ho]
  obtain⟨d,h1,h2⟩:=ZV h
  obtain⟨e,h3,h4⟩:=ZV h2
  obtain⟨f,h5,h6⟩:=RP h4
  exact .inl ⟨f,by simp[h1,h3,h5],h6⟩
 ·rename_i x i ho
  rw[ho]
  obtain⟨d,h1,h2⟩:=ZV h
  obtain⟨e,h3,h4⟩:=Wu h2
  exact .inl ⟨e,by simp[h1,h3],h4⟩
 ·rename_i f first caps ho
  rw[ho]
  split at h
  ·rename_i f' hf
   obtain⟨ds,h1,h2⟩:=W8 h
   exact .inl ⟨_,by simp[UF,hf,h1],h2⟩
  ·exact h.elim
 ·rename_i t parts ho
  rw[ho]
  obtain⟨e,h1,h2⟩:=RL h
  exact .inl ⟨e,h1,h2⟩
 ·rename_i t x lo hi mx ho
  rw[ho]
  obtain⟨d,h1,h⟩:=ZV h
  obtain⟨i,h2,h⟩:=U7 h
  obtain⟨j,h3,h⟩:=U7 h
  obtain⟨k,h4,h⟩:=U7 h
  obtain⟨e,h5,h⟩:=FN h
  exact .inl ⟨e,by simp only[slD,h1,h2,h3,h4];exact h5,h⟩
 ·rename_i cl ho
  rw[ho]
  split at h
  ·rename_i x t h1 h2 h3
   obtain⟨d,q1,q2⟩:=ZV h
   obtain⟨e,q3,q4⟩:=J2 q2
   exact .inl ⟨e,by simp[h1,h2,h3,q1,q3],q4⟩
  ·rename_i x y t t' h1 h2 h3
   obtain⟨d,q1,h⟩:=ZV h
   obtain⟨e,q2,h⟩:=ZV h
   obtain⟨f,q3,h⟩:=Wu h
   exact .inl ⟨f,by simp[h1,h2,h3,q1,q2,q3],h⟩
  ·rename_i x y t t' h1 h2 h3
   obtain⟨d,q1,h⟩:=ZV h
   obtain⟨e,q2,h⟩:=ZV h
   obtain⟨f,q3,h⟩:=Wu h
   exact .inl ⟨f,by simp[h1,h2,h3,q1,q2,q3],h⟩
  ·exact .inr h
 ·exact .inr h
theorem U3 {T:List (Nat×TI)}{σ:XF}{nm:Nat}{o:Oper}{V:D}{W:List (Key×D)}{R:List Key}(h:K6 T σ nm o=some (V,W,R)):VY T σ o=none:=by
 unfold K6 at h
 unfold VY
 split at h
 ·rename_i t ho;rw[ho]
 ·rename_i t x ho;rw[ho]
 ·rename_i t x y ho;rw[ho]
 ·rename_i t len parts ho;rw[ho]
 ·rename_i t l x ho;rw[ho]
 ·rename_i ho;rw[ho]
 ·rename_i ho;rw[ho]
 ·rename_i ho;rw[ho]
 ·rename_i ho;rw[ho]
 ·rename_i cl ho
  rw[ho]
  split at h
  ·rename_i x y t t' h1 h2 h3;simp[h1]
  ·rename_i x t h1 h2 h3;simp[h1]
  ·cases h
 ·cases h
theorem SO {T:List (Nat×TI)}{σ:XF}{nm:Nat}{o:Oper}{r:FuncId×List D}(h:Vv σ o=some r):VY T σ o=none∧K6 T σ nm o=none:=by
 unfold Vv at h
 split at h
 ·rename_i cl ho
  split at h
  ·rename_i x hc
   unfold VY K6
   rw[ho]
   simp[hc]
  ·cases h
 ·cases h
def CP:List Nat:=[0,1,2,3,4,5,6,7,8,9,10,11,12,13,14,15,16,17,18,19,20,21,22,23,24,25,26,27,28,29,30,31,32,33,34,35,36,37,38,39,40,41,42,43,44,45,46,47,48,49,50,51,52,53,54,55,56,57,58,59,60,61,62,63,64,65,66,67,68,69,70,71,72,73,74,75,76,77,78,79,80,81,82,83,84,85,86,87,88,89,90,91,92,93,94,95,96,97,98,99,100,101,102,103,104,105,106,107,108,109,110,111,112,113,114,115,116,117,118,119,120,121,122,123,124,125,126,127,128,129,130,131,132,133,134,135,136,137,138,139,140,141,142,143,144,145,146,147,148,149,150,151,152,153,154,155,156,157,158,159,160,161,162,163,164,165,166,167,168,169,170,171,172,173,174,175,176,177,178,179,180,181,182,183,184,185,186,187,188,189,190,191,192,193,194,195,196,197,198,199,200,201,202,203,204,205,206,207,208,209,210,211,212,213,214,215,216,217,218,219,220,221,222,223,224,225,226,227,228,229,230,231,232,233,234,235,236,237,238,239,240,241,242,243,244,245,246,247,248,249,250,251,252,253,254,255]
set_option maxRecDepth 100000 in
theorem F8:CP=List.range 256:=by decide
def Cw (n:Nat)(c:Nat→Prop):Prop:=match CP[n]? with
 | some k=>c k
 | none=>False
theorem Sg {n:Nat}{c:Nat→Prop}(h:Cw n c):c n:=by
 unfold Cw at h
 rw[F8] at h
 by_cases hn:n<256
 ·rw[List.getElem?_range hn] at h;exact h
 ·rw[List.getElem?_eq_none (by simpa using hn)] at h;exact h.elim
def AW (k:Nat):Nat→List D→(List (Key×D)→Prop)→Prop
 | _,[],c=>c []
 | o,d :: l,c=>Cw o fun o=>AW k (o+1) l fun r=>c ((.c k o,d) :: r)
theorem Ug {k:Nat}:∀ {l:List D} {o:Nat} {c:List (Key×D)→Prop},AW k o l c→c (cellsOf k o l)
 | [],_,_,h=>h
 | d :: l,o,c,h=>by
  have h:=Sg h
  exact Ug (l:=l) h
def FM (te:TI):List D→(List (List D)→Prop)→Prop
 | [],c=>c []
 | d :: l,c=>An te d fun x=>FM te l fun r=>c (x :: r)
theorem Uh {ti:TI}{d:D}{c:List D→Prop}(h:An ti d c):∃ l,XD ti d=some l∧c l:=by
 unfold An at h
 cases hg:XD ti d with
 | none=>rw[hg] at h;exact h.elim
 | some l=>rw[hg] at h;exact⟨l,rfl,h⟩
theorem Tb {te:TI}:∀ {l:List D} {c:List (List D)→Prop},FM te l c→∃ rows,Vr te l=some rows∧c rows
 | [],_,h=>⟨[],rfl,h⟩
 | d :: l,c,h=>by
  obtain⟨x,h1,h2⟩:=Uh h
  obtain⟨rows,h3,h4⟩:=Tb h2
  exact⟨x :: rows,by simp[Vr,h1,h3],h4⟩
def BZ (n:Nat)(y:D)(c:List (List D)→Prop):Prop:=match y with
 | .sl n' l _=>(match Nat.beq n' n with | true=>c l | false=>False)
 | .v (.slice _ 0 _)=>c []
 | _=>False
theorem Jc {n:Nat}{y:D}{c:List (List D)→Prop}(h:BZ n y c):∃ l,Tr n y=some l∧c l:=by
 unfold BZ at h
 unfold Tr
 split at h
 ·split at h
  ·rename_i hb;exact⟨_,by simp[Nat.eq_of_beq_eq_true hb],h⟩
  ·exact h.elim
 ·exact⟨_,rfl,h⟩
 ·exact h.elim
def AT (T:List (Nat×TI))(σ:XF)(nm:Nat)(t:Nat)(x y:D)(c:D→List (Key×D)→List Key→Prop):Prop:=kT T t fun ti=>match ti.el with
 | none=>False
 | some E=>kT T E fun te=>BZ te.sz y fun l2=>match Nat.ble 1 te.sz&&Nat.ble te.bys 1000 with
  | false=>False
  | true=>match x with
   | .v (.slice none 0 0)=>l2.length≤1000000∧c (.sl te.sz l2 (some nm)) [(.r nm,.rw E te.sz l2.length)] []
   | .sl n l (some g)=>T1 σ (.r g) fun d=>match d with
    | .rw E' n' len=>(match Nat.beq E' E&&Nat.beq n' te.sz&&Nat.beq n te.sz with
     | true=>(len=l.length∧l.length+l2.length≤1000000)∧c (.sl n (l++l2) (some g)) [(.r g,.rw E n (l++l2).length)] [.r g]
     | false=>False)
    | _=>False
   | .ps g len=>T1 σ (.r g) fun d=>(match d with
    | .rp E' n' l=>(match Nat.beq E' E&&Nat.beq n' te.sz with
     | true=>(len=l.length∧l.length+l2.length≤1000000)∧c (.ps g (len+l2.length)) [(.r g,.rp E' n' (l++l2))] [.r g]
     | false=>False)
    | .rw E' n' 0=>(match Nat.beq E' E&&Nat.beq n' te.sz&&Nat.beq len 0 with
     | true=>(l2.length≤1000000)∧c (.ps g l2.length) [(.r g,.rp E' n' l2)] [.r g]
     | false=>False)
    | _=>False)
   | .cl n l=>(match Nat.beq n te.sz with
    | true=>(0<l2.length∧l.length+l2.length≤1000000)∧c (.sl n (l++l2) (some nm)) [(.r nm,.rw E n (l++l2).length)] []
    | false=>False)
   | _=>False
theorem J6 {T:List (Nat×TI)}{σ:XF}{nm t:Nat}{x y:D}{c:D→List (Key×D)→List Key→Prop}(h:AT T σ nm t x y c):∃ V W R,JN T σ nm t x y=some (V,W,R)∧c V W R:=by
 obtain⟨ti,h1,h⟩:=Yl h
 unfold JN
 rw[h1]
 cases hE:ti.el with
 | none=>rw[hE] at h;exact h.elim
 | some E=>
  rw[hE] at h
  obtain⟨te,h2,h⟩:=Yl h
  obtain⟨l2,h3,h⟩:=Jc h
  split at h
  ·exact h.elim
  ·rename_i hb
   simp only[Bool.and_eq_true] at hb
   have b1:=Nat.le_of_ble_eq_true hb.1
   have b2:=Nat.le_of_ble_eq_true hb.2
   simp only[hE,h2,h3]
   rw[if_pos ⟨by omega,b2⟩]
   split at h
   ·rw[if_pos h.1];exact⟨_,_,_,rfl,h.2⟩
   ·obtain⟨d,h4,h⟩:=Xn h
    split at h
    ·split at h
     ·rename_i hc
      simp only[Bool.and_eq_true] at hc
      have c1:=Nat.eq_of_beq_eq_true hc.1.1
      have c2:=Nat.eq_of_beq_eq_true hc.1.2
      have c3:=Nat.eq_of_beq_eq_true hc.2
      simp only[h4]
      rw[if_pos ⟨c1,c2,c3,h.1.1,h.1.2⟩]
      exact⟨_,_,_,rfl,h.2⟩
     ·exact h.elim
    ·exact h.elim
   ·obtain⟨d,h4,h⟩:=Xn h
    split at h
    ·split at h
     ·rename_i hc
      simp only[Bool.and_eq_true] at hc
      have c1:=Nat.eq_of_beq_eq_true hc.1
      have c2:=Nat.eq_of_beq_eq_true hc.2
      simp only[h4]
      rw[if_pos ⟨c1,c2,h.1.1,h.1.2⟩]
      exact⟨_,_,_,rfl,h.2⟩
     ·exact h.elim
    ·split at h
     ·rename_i hc
      simp only[Bool.and_eq_true] at hc
      have c1:=Nat.eq_of_beq_eq_true hc.1.1
      have c2:=Nat.eq_of_beq_eq_true hc.1.2
      have c3:=Nat.eq_of_beq_eq_true hc.2
      simp only[h4]
      rw[if_pos ⟨c1,c2,c3,h.1⟩]
      exact⟨_,_,_,rfl,h.2⟩
     ·exact h.elim
    ·exact h.elim
   ·split at h
    ·rename_i hc
     dsimp only
     rw[if_pos ⟨Nat.eq_of_beq_eq_true hc,h.1.1,h.1.2⟩];exact⟨_,_,_,rfl,h.2⟩
    ·exact h.elim
   ·exact h.elim
def AV (T:List (Nat×TI))(σ:XF)(t:Nat)(x:D)(c:D→List (Key×D)→List Key→Prop):Prop:=kT T t fun ti=>match ti.el,x with
 | some E,.pt g len n lo=>kT T E fun te=>T1 σ (.r g) fun d=>(match d with
  | .rp E' n' l=>(match Nat.beq E' E&&Nat.beq n' n&&Nat.beq te.sz n&&Nat.ble 1 n with
   | true=>(l.length=len∧lo≤len)∧c (.tu []) [(.r g,.rp E' n' (l.take lo++List.replicate (len-lo) (te.z.map .v)))] [.r g]
   | false=>False)
  | _=>False)
 | _,_=>False
theorem J4 {T:List (Nat×TI)}{σ:XF}{t:Nat}{x:D}{c:D→List (Key×D)→List Key→Prop}(h:AV T σ t x c):∃ V W R,JT T σ t x=some (V,W,R)∧c V W R:=by
 obtain⟨ti,h1,h⟩:=Yl h
 unfold JT
 rw[h1]
 split at h
 ·rename_i E g len n lo hel _
  obtain⟨te,h2,h⟩:=Yl h
  obtain⟨d,h3,h⟩:=Xn h
  split at h
  ·split at h
   ·rename_i hb
    simp only[Bool.and_eq_true] at hb
    have b1:=Nat.eq_of_beq_eq_true hb.1.1.1
    have b2:=Nat.eq_of_beq_eq_true hb.1.1.2
    have b3:=Nat.eq_of_beq_eq_true hb.1.2
    have b4:=Nat.le_of_ble_eq_true hb.2
    simp only[hel,h2,h3]
    rw[if_pos ⟨b1,b2,b3,by omega,h.1.1,h.1.2⟩]
    exact⟨_,_,_,rfl,h.2⟩
   ·exact h.elim
  ·exact h.elim
 ·exact h.elim
def klk (T:List (Nat×TI))(σ:XF)(t:Nat)(x y:D)(ok:Bool)(c:D→List (Key×D)→List Key→Prop):Prop:=kT T t fun ti=>match x,y,ti.mv with
 | .mo k,.v (.int .i64 n),some e=>kT T e fun te=>T1 σ (.o k) fun d=>(match d with | .mp l=>c (CN te l n ok) [] [.o k] | _=>False)
 | _,_,_=>False
def B9 (T:List (Nat×TI))(σ:XF)(t:Nat)(x y z:D)(c:D→List (Key×D)→List Key→Prop):Prop:=kT T t fun ti=>match x,y,ti.mv with
 | .mo k,.v (.int .i64 n),some _=>T1 σ (.o k) fun d=>(match d with | .mp l=>c (.v undef) [(.o k,.mp (SN l n z))] [.o k] | _=>False)
 | _,_,_=>False
theorem FL {T:List (Nat×TI)}{σ:XF}{t:Nat}{x y:D}{ok:Bool}{c:D→List (Key×D)→List Key→Prop}(h:klk T σ t x y ok c):∃ V W R,A9 T σ t (some x) (some y) ok=some (V,W,R)∧c V W R:=by
 obtain⟨ti,h1,h⟩:=Yl h
 unfold A9
 simp only[h1]
 split at h
 ·obtain⟨te,h2,h⟩:=Yl h
  obtain⟨d,h3,h⟩:=Xn h
  split at h
  ·exact⟨_,_,_,by simp[*],h⟩
  ·exact h.elim
 ·exact h.elim
theorem Si {T:List (Nat×TI)}{σ:XF}{t:Nat}{x y z:D}{c:D→List (Key×D)→List Key→Prop}(h:B9 T σ t x y z c):∃ V W R,Rl T σ t (some x) (some y) (some z)=some (V,W,R)∧c V W R:=by
 obtain⟨ti,h1,h⟩:=Yl h
 unfold Rl
 simp only[h1]
 split at h
 ·obtain⟨d,h3,h⟩:=Xn h
  split at h
  ·exact⟨_,_,_,by simp[*],h⟩
  ·exact h.elim
 ·exact h.elim
def BY (T:List (Nat×TI))(σ:XF)(nm:Nat)(o:Op)(c:D→List (Key×D)→List Key→Prop)(other:Prop):Prop:=match o with
 | .alloc t=>kT T t fun ti=>kzs ti.z fun z=>AW nm 0 z fun W=>c (.p nm 0) W []
 | .box t x=>kT T t fun ti=>W0 σ x fun d=>An ti d fun l=>AW nm 0 l fun W=>c (.p nm 0) W []
 | .store t x y=>kT T t fun ti=>W0 σ x fun d=>(match d with
  | .p k off=>W0 σ y fun e=>An ti e fun l=>SK σ k off ti.sz fun _=>AW k off l fun W=>c (.v undef) W ((List.range ti.sz).map fun i=>.c k (off+i))
  | .pr g len n i j=>T1 σ (.r g) fun d=>(match d with
   | .rp E n' l=>(match Nat.beq n' n&&Nat.ble (j+ti.sz) n with
    | true=>(l.length=len∧i<len)∧W0 σ y fun e=>An ti e fun cs=>c (.v undef) [(.r g,.rp E n (l.set i (U2 (l.getD i []) j n cs)))] [.r g]
    | false=>False)
   | _=>False)
  | _=>False)
 | .buildSlice t len parts=>kT T t fun ti=>(match ti.el with
  | none=>False
  | some E=>kT T E fun te=>(match parts.toList.length==len&&Uf 0 (parts.toList.map (·.1))&&decide (0<te.sz)&&decide (len * te.sz≤16777216) with
   | true=>J3 σ (parts.toList.map (·.2)) fun ds=>FM te ds fun rows=>c (.sl te.sz rows (some nm)) [(.r nm,.rw E te.sz len)] []
   | false=>False))
 | .makeSlice t l x=>kT T t fun ti=>(match ti.el with
  | none=>False
  | some E=>kT T E fun te=>W0 σ l fun d=>W0 σ x fun e=>(match d,e with
   | .v (.int .i64 0),.v (.int .i64 n)=>(match Nat.ble 1 te.sz&&Nat.ble te.bys 1000 with
    | true=>(0≤n∧n≤1000000)∧c (.sl te.sz [] (some nm)) [(.r nm,.rw E te.sz 0)] []
    | false=>False)
   | _,_=>False))
 | .lookup t x y ok=>W0 σ x fun d=>W0 σ y fun e=>klk T σ t d e ok c
 | .mapUpdate t x y z=>W0 σ x fun d=>W0 σ y fun e=>W0 σ z fun f=>B9 T σ t d e f c
 | .insert t x y z=>W0 σ x fun d=>W0 σ y fun e=>W0 σ z fun f=>B9 T σ t d e f c
 | .makeMap _ r=>(match r with | none=>c (.mo nm) [(.o nm,.mp [])] [] | some _=>False)
 | .call cl=>(match cl.callee,cl.args.toList,cl.argTypes.toList with
  | .builtin .append,[x,y],[t,t']=>(match Nat.beq t t' with
   | true=>W0 σ x fun d=>W0 σ y fun e=>AT T σ nm t d e c
   | false=>False)
  | .builtin .clear,[x],[t]=>W0 σ x fun d=>AV T σ t d c
  | _,_,_=>other)
 | _=>other
theorem J1 {T:List (Nat×TI)}{σ:XF}{nm:Nat}{o:Oper}{c:D→List (Key×D)→List Key→Prop}{other:Prop}(h:BY T σ nm o.op c other):(∃ V W R,K6 T σ nm o=some (V,W,R)∧c V W R)∨other:=by
 unfold BY at h
 unfold K6
 split at h
 ·rename_i t ho
  rw[ho]
  obtain⟨ti,h1,h⟩:=Yl h
  exact .inl ⟨_,_,_,by simp[h1],Ug (Tc h)⟩
 ·rename_i t x ho
  rw[ho]
  obtain⟨ti,h1,h⟩:=Yl h
  obtain⟨d,h2,h⟩:=ZV h
  obtain⟨l,h3,h⟩:=Uh h
  exact .inl ⟨_,_,_,by simp[h1,h2,h3],Ug h⟩
 ·rename_i t x y ho
  rw[ho]
  obtain⟨ti,h1,h⟩:=Yl h
  obtain⟨d,h2,h⟩:=ZV h
  split at h
  ·obtain⟨e,h3,h⟩:=ZV h
   obtain⟨l,h4,h⟩:=Uh h
   obtain⟨l0,h5,h⟩:=Vn h
   exact .inl ⟨_,_,_,by simp[h1,h2,h3,h4,h5],Ug h⟩
  ·obtain⟨d,h3,h⟩:=Xn h
   split at h
   ·split at h
    ·rename_i hb
     simp only[Bool.and_eq_true] at hb
     have e1:=Nat.eq_of_beq_eq_true hb.1
     have e2:=Nat.le_of_ble_eq_true hb.2
     obtain⟨⟨a1,a2⟩,h⟩:=h
     obtain⟨e,h4,h⟩:=ZV h
     obtain⟨cs,h5,h⟩:=Uh h
     refine .inl ⟨_,_,_,?_,h⟩
     simp only[h1,h2,h3,Option.bind_some]
     rw[if_pos ⟨e1,a1,a2,e2⟩,h4]
     simp[h5]
    ·exact h.elim
   ·exact h.elim
  ·exact h.elim
 ·rename_i t len parts ho
  rw[ho]
  obtain⟨ti,h1,h⟩:=Yl h
  cases hE:ti.el with
  | none=>rw[hE] at h;exact h.elim
  | some E=>
   rw[hE] at h
   obtain⟨te,h2,h⟩:=Yl h
   split at h
   ·rename_i hc
    obtain⟨ds,h3,h⟩:=W8 h
    obtain⟨rows,h4,h⟩:=Tb h
    refine .inl ⟨_,_,_,?_,h⟩
    unfold EX
    simp only[h1,hE,h2,hc,h3,h4,if_true,Option.map_some]
   ·exact h.elim
 ·rename_i t l x ho
  rw[ho]
  obtain⟨ti,h1,h⟩:=Yl h
  cases hE:ti.el with
  | none=>rw[hE] at h;exact h.elim
  | some E=>
   rw[hE] at h
   obtain⟨te,h2,h⟩:=Yl h
   obtain⟨d,h3,h⟩:=ZV h
   obtain⟨e,h4,h⟩:=ZV h
   split at h
   ·split at h
    ·rename_i hb
     simp only[Bool.and_eq_true] at hb
     refine .inl ⟨_,_,_,?_,h.2⟩
     unfold K7
     simp only[h1,hE,h2,h3,h4]
     rw[if_pos ⟨by have:=Nat.le_of_ble_eq_true hb.1;omega,Nat.le_of_ble_eq_true hb.2,h.1.1,h.1.2⟩]
    ·exact h.elim
   ·exact h.elim
 ·rename_i t x y ok ho
  rw[ho]
  obtain⟨d,h1,h⟩:=ZV h
  obtain⟨e,h2,h⟩:=ZV h
  obtain⟨V,W,R,h3,h⟩:=FL h
  exact .inl ⟨V,W,R,by simp only[h1,h2];exact h3,h⟩
 ·rename_i t x y z ho
  rw[ho]
  obtain⟨d,h1,h⟩:=ZV h
  obtain⟨e,h2,h⟩:=ZV h
  obtain⟨f,h3,h⟩:=ZV h
  obtain⟨V,W,R,h4,h⟩:=Si h
  exact .inl ⟨V,W,R,by simp only[h1,h2,h3];exact h4,h⟩
 ·rename_i t x y z ho
  rw[ho]
  obtain⟨d,h1,h⟩:=ZV h
  obtain⟨e,h2,h⟩:=ZV h
  obtain⟨f,h3,h⟩:=ZV h
  obtain⟨V,W,R,h4,h⟩:=Si h
  exact .inl ⟨V,W,R,by simp only[h1,h2,h3];exact h4,h⟩
 ·rename_i t r ho
  rw[ho]
  split at h
  ·exact .inl ⟨_,_,_,rfl,h⟩
  ·exact h.elim
 ·rename_i cl ho
  rw[ho]
  split at h
  ·rename_i x y t t' h1 h2 h3
   split at h
   ·rename_i hb
    have:=Nat.eq_of_beq_eq_true hb
    subst this
    obtain⟨d,q1,q2⟩:=ZV h
    obtain⟨e,q3,q4⟩:=ZV q2
    obtain⟨V,W,R,q5,q6⟩:=J6 q4
    exact .inl ⟨V,W,R,by simp[h1,h2,h3,q1,q3,q5],q6⟩
   ·exact h.elim
  ·rename_i x t h1 h2 h3
   obtain⟨d,q1,q2⟩:=ZV h
   obtain⟨V,W,R,q5,q6⟩:=J4 q2
   exact .inl ⟨V,W,R,by simp[h1,h2,h3,q1,q5],q6⟩
  ·exact .inr h
 ·exact .inr h
def Ao:List (Nat×D)→Option Tmp→D→(D→Prop)→Prop
 | [],_,V,c=>c V
 | _ :: _,none,V,c=>c V
 | (t,V') :: r,some d,V,c=>match Nat.beq t d with
  | true=>Zn V V'∧c V'
  | false=>Ao r (some d) V c
theorem Uj:∀ {ov:List (Nat×D)} {dst:Option Tmp} {V:D} {c:D→Prop},Ao ov dst V c→∃ V',Zn V V'∧c V'
 | [],_,_,_,h=>⟨_,Zn.refl _,h⟩
 | _ :: _,none,_,_,h=>⟨_,Zn.refl _,h⟩
 | (t,V') :: r,some d,V,c,h=>by
  unfold Ao at h
  split at h
  ·exact⟨V',h.1,h.2⟩
  ·exact Uj h
def KV (σ:XF):List (Key×D)→(XF→Prop)→Prop
 | [],c=>c σ
 | (k,d) :: r,c=>KV ((k,d) :: σ) r c
theorem VL:∀ {W:List (Key×D)} {σ:XF} {c:XF→Prop},KV σ W c→c (Y9 σ W)
 | [],_,_,h=>h
 | (k,d) :: W,σ,c,h=>VL (W:=W) h
def FE (σ:XF)(dst:Option Tmp)(V:D)(c:XF→Prop):Prop:=match dst with
 | none=>c σ
 | some d=>c ((.t d,V) :: σ)
theorem Vb {σ:XF}{dst:Option Tmp}{V:D}{c:XF→Prop}(h:FE σ dst V c):c (Y9 σ (dW dst V)):=by
 cases dst with
 | none=>exact h
 | some d=>exact h
def kR (σ:XF):List (Key×D)→Prop
 | []=>True
 | (k,d) :: r=>(get σ k=some d∧KG k=true)∧kR σ r
theorem Ez {σ:XF}:∀ {R:List (Key×D)},kR σ R→∀ p∈R,get σ p.1=some p.2∧KG p.1=true
 | [],_,p,hp=>by cases hp
 | (k,d) :: r,h,p,hp=>by
  rcases List.mem_cons.1 hp with rfl | hp
  ·exact h.1
  ·exact Ez h.2 p hp
def T3 (R:List (Key×D)):XF→(XF→Prop)→Prop
 | [],c=>c []
 | (k,d) :: σ,c=>match Ys R k with
  | true=>T3 R σ c
  | false=>T3 R σ fun s=>c ((k,d) :: s)
def FD (R:List (Key×D))(σ:XF)(c:XF→Prop):Prop:=match R with
 | []=>c σ
 | r :: l=>T3 (r :: l) σ c
theorem Vo {R:List (Key×D)}:∀ {σ:XF} {c:XF→Prop},T3 R σ c→c (Xf R σ)
 | [],_,h=>h
 | (k,d) :: σ,c,h=>by
  unfold T3 at h
  unfold Xf
  rw[List.filter_cons]
  split at h
  ·rename_i e;simp only[e];exact Vo h
  ·rename_i e;simp only[e];exact Vo (c:=fun s=>c ((k,d) :: s)) h
theorem RM {R:List (Key×D)}{σ:XF}{c:XF→Prop}(h:FD R σ c):c (Xf R σ):=by
 cases R with
 | nil=>rw[Xu];exact h
 | cons r l=>exact Vo h
def FC (σ:XF)(o:Op)(c:FuncId→List D→Prop):Prop:=match o with
 | .call cl=>(match cl.callee with
  | .value x=>W0 σ x fun d=>(match d with
   | .fn f caps=>J3 σ cl.args.toList fun ars=>FA ars caps fun ars=>c f ars
   | _=>False)
  | _=>False)
 | _=>False
theorem PO {σ:XF}{o:Oper}{c:FuncId→List D→Prop}(h:FC σ o.op c):∃ f ars,Vv σ o=some (f,ars)∧c f ars:=by
 unfold FC at h
 unfold Vv
 split at h
 ·rename_i cl ho
  try rw[ho]
  split at h
  ·rename_i x hc
   obtain⟨d,h1,h⟩:=ZV h
   split at h
   ·obtain⟨ars,h2,h⟩:=W8 h
    exact⟨_,_,by simp[hc,h1,h2],Va h⟩
   ·exact h.elim
  ·exact h.elim
 ·exact h.elim
def AZ (draw:Bool)(e:US)(lg:List US)(c:List US→Prop):Prop:=match draw with
 | true=>c (e :: lg)
 | false=>c lg
def D2 (P:Program)(T:List (Nat×TI))(ops:Array Oper)(nm:Nat)(draw:Bool)(ov:List (Nat×D)):List Oper→Nat→XF→List US→(XF→List US→Prop)→Prop
 | [],_,σ,lg,K=>K σ lg
 | o :: r,i,σ,lg,K=>
  match gd ops σ o.guard with
  | none=>False
  | some false=>FE σ o.dst (.v undef) fun σ'=>AZ draw (gr ops o.guard,[],dk o.dst) lg fun lg=>D2 P T ops nm draw ov r (i+1) σ' lg K
  | some true=>
   B8 T σ o.op (fun V=>Ao ov o.dst V fun V=>FE σ o.dst V fun σ'=>AZ draw (gr ops o.guard++TA o++CO T σ o,[],dk o.dst) lg fun lg=>D2 P T ops nm draw ov r (i+1) σ' lg K)
    (Cw (nm+i) fun k=>BY T σ k o.op (fun V W R=>Ao ov o.dst V fun V=>KV σ W fun σ1=>FE σ1 o.dst V fun σ'=>AZ draw (gr ops o.guard++TA o++R,[],W.map (·.1)++dk o.dst) lg fun lg=>D2 P T ops nm draw ov r (i+1) σ' lg K)
     (FC σ o.op fun f ars=>∃ R W V,Pa P f ars R k W V∧kR σ R∧Ao ov o.dst V fun V=>FD R σ fun σ0=>KV σ0 W fun σ1=>FE σ1 o.dst V fun σ'=>AZ draw (gr ops o.guard++TA o++R.map (·.1),R,W.map (·.1)++dk o.dst) lg fun lg=>D2 P T ops nm draw ov r (i+1) σ' lg K))
theorem UB {P:Program}{T:List (Nat×TI)}{ops:Array Oper}{nm:Nat}{draw:Bool}{ov:List (Nat×D)}{K K2:XF→List US→Prop}(hK:∀ σ' lg lg',(draw=true→lg=lg')→K σ' lg→K2 σ' lg'):
  ∀ (os:List Oper) (i:Nat) (σ:XF) (lg lg':List US),(draw=true→lg=lg')→D2 P T ops nm draw ov os i σ lg K→Kf P T ops nm os i σ lg' K2
 | [],_,σ,lg,lg',hl,h=>hK σ lg lg' hl h
 | o :: r,i,σ,lg,lg',hl,h=>by
  have hlg:∀ (e:US) (σ':XF),(AZ draw e lg fun lg=>D2 P T ops nm draw ov r (i+1) σ' lg K)→Kf P T ops nm r (i+1) σ' (e :: lg') K2:=fun e σ' h=>by
   cases draw with
   | true=>exact UB hK r _ _ _ _ (fun _=>by rw[hl rfl]) h
   | false=>exact UB hK r _ _ _ _ (fun e=>by cases e) h
  rw[Kf]
  rw[D2] at h
  cases hg:gd ops σ o.guard with
  | none=>rw[hg] at h;exact h.elim
  | some b=>
   rw[hg] at h
   cases b with
   | false=>exact hlg _ _ (Vb h)
   | true=>
    simp only at h ⊢
    rcases Jd h with⟨V,h1,h⟩ | h
    ·rw[h1];obtain⟨V',hle,h⟩:=Uj h;exact⟨V',hle,hlg _ _ (Vb h)⟩
    ·rcases J1 (Sg h) with⟨V,W,R,h1,h⟩ | h
     ·cases hp:VY T σ o with
      | some V'=>
       exfalso
       have:VY T σ o=none:=U3 h1
       rw[this] at hp;cases hp
      | none=>
       simp only[h1]
       obtain⟨V',hle,h⟩:=Uj h
       refine⟨V',hle,?_⟩
       rw[X5]
       exact hlg _ _ (Vb (VL h))
     ·obtain⟨f,ars,h1,h⟩:=PO h
      obtain⟨R,W,V,h2,h3,h⟩:=h
      obtain⟨n1,n2⟩:=SO (nm:=nm+i) (T:=T) h1
      simp only[n1,n2,h1]
      obtain⟨V',hle,h⟩:=Uj h
      refine⟨R,W,V,h2,Ez h3,V',hle,?_⟩
      rw[X5]
      exact hlg _ _ (Vb (VL (RM h)))
section
variable {P:Program} {T:List (Nat×TI)} {cx:Cx} {σ:List (Key×D)} {N:Nat} {Q:Exit→List (Key×D)→Nat→Prop} {nt N1:Nat}
theorem Zb9 (ov:List (Nat×D))(hT:Zh P T)(hm:P.follows .mixedOrders=true)(hnt:cx.nt=nt){id:Nat}{ops:Array Oper}(hd:KM nt ops=true)(hN:N+ops.size=N1)(h:∀ K:XF→List US→Prop,(∀ σ' lg,Q .normal σ' N1→K σ' lg)→D2 P T ops N false ov ops.toList 0 σ [] K):DW P cx (.region id ops false) σ N Q:=
 S5 hT hm (by rw[hnt];exact hd) (UB (K:=fun σ' _=>Q .normal σ' N1) (fun σ' lg lg' _ hk=>⟨fun e=>(by cases e),hN ▸ hk⟩) _ _ _ _ _ (fun e=>by cases e) (h _ fun _ _ h=>h))
theorem AH (ov:List (Nat×D))(hT:Zh P T)(hm:P.follows .mixedOrders=true)(hnt:cx.nt=nt){id:Nat}{ops:Array Oper}(hd:KM nt ops=true)(hN:N+ops.size=N1)(h:∀ K:XF→List US→Prop,(∀ σ' lg,JS ops lg=true→Q .normal σ' N1→K σ' lg)→D2 P T ops N true ov ops.toList 0 σ [] K):DW P cx (.region id ops true) σ N Q:=
 S5 hT hm (by rw[hnt];exact hd) (UB (K:=fun σ' lg=>JS ops lg=true∧Q .normal σ' N1) (fun σ' lg lg' e hk=>by
  rw[←e rfl];exact⟨fun _=>hk.1,hN ▸ hk.2⟩) _ _ _ _ _ (fun _=>rfl) (h _ fun _ _ h1 h2=>⟨h1,h2⟩))
end
theorem ZZ {p:Prop}[Decidable p](h:p):Zn (.v (.bool (decide p))) (.v (.bool true)):=.of_eq (by simp[h])
theorem Zf {p:Prop}[Decidable p](h:¬ p):Zn (.v (.bool (decide p))) (.v (.bool false)):=.of_eq (by simp[h])
theorem Zq {a b:Int}(h:a=b):Zn (.v (.int .i64 a)) (.v (.int .i64 b)):=.of_eq (by rw[h])
/-! what a walk's steps are proved by, unless it says so -/
theorem YD {x:D}(h:Zn x (.v (.bool true)):=by first | exact ZZ (by omega) | exact Zn.of_eq (by simp[*];done) | exact ZZ (by first | omega | (simp only[List.length_append,List.length_take,List.length_cons,List.length_nil,Zs,Zr];omega) | assumption | (simp_all;done)) | exact Zn.of_eq (by simp_all;done)):Zn x (.v (.bool true)):=h
theorem Xq {x:D}(h:Zn x (.v (.bool false)):=by first | exact Zf (by omega) | exact Zn.of_eq (by simp[*];done) | exact Zf (by first | omega | (simp only[List.length_append,List.length_take,List.length_cons,List.length_nil,Zs,Zr];omega) | assumption | (simp_all;done)) | exact Zn.of_eq (by simp_all;done)):Zn x (.v (.bool false)):=h
theorem XR {x:D}{b:Int}(h:Zn x (.v (.int .i64 b)):=by exact Zq (by first | omega | exact IntWalk.i64_in _ (by omega) | (rw[IntWalk.i64_in _ (by omega)];omega) | (simp only[List.length_append,List.length_take,List.length_cons,List.length_nil,Zs,Zr];omega) | assumption | (simp_all;done))):Zn x (.v (.int .i64 b)):=h
theorem Xl {x y:D}(h:Zn x y:=by repeat first | exact Zn.refl _ | exact Zn.nil _ | exact Zn.untag _ _ _ | refine Zn.ag ?_ | refine Zn.tu ?_ | refine ZS.cons ?_ ?_ | exact ZS.nil):Zn x y:=h
theorem Xg {l:List (List D)}{n j:Nat}(hl:l.length=n)(hj:j<n:=by omega):0≤((j:Nat):Int)∧((j:Nat):Int)<((l.length:Nat):Int):=⟨by omega,by omega⟩
theorem Xh {l:List (List D)}{n j:Nat}{r r':List D}(h:∀ _:j<n,l.getD j []=r)(e:r=r')(hj:j<n:=by omega):Zn (.q (l.getD (Int.toNat ((j:Nat):Int)) [])) (.q r'):=Zn.of_eq (by rw[Int.toNat_natCast,h hj,e])
theorem Ze {P:Program}{f:FuncId}{ars:List D}{nm:Nat}{σ:XF}{R W:List (Key×D)}{V:D}{c:List (Key×D)→List (Key×D)→D→Prop}(h:ZE P f ars R W V)(hk:c R W V)(hR:kR σ R:=by repeat first | exact trivial | refine And.intro ⟨rfl,rfl⟩ ?_):∃ R W V,Pa P f ars R nm W V∧kR σ R∧c R W V:=⟨R,W,V,.inl h,hR,hk⟩
theorem Al {P:Program}{f:FuncId}{ars:List D}{nm:Nat}{σ:XF}{R W:List (Key×D)}{V:D}{c:List (Key×D)→List (Key×D)→D→Prop}(h:Wa P f ars R nm W V)(hk:c R W V)(hR:kR σ R:=by repeat first | exact trivial | refine And.intro ⟨rfl,rfl⟩ ?_):∃ R W V,Pa P f ars R nm W V∧kR σ R∧c R W V:=⟨R,W,V,.inr h,hR,hk⟩
section
variable {P:Program} {T:List (Nat×TI)} {cx:Cx} {σ τ:List (Key×D)} {N:Nat} {Q:Exit→List (Key×D)→Nat→Prop} {nt N1:Nat}
theorem Zx (ov:List (Nat×D))(hT:Zh P T)(hnt:cx.nt=nt){id:Nat}{ops:Array Oper}(h:∀ K:XF→List US→Prop,(∀ σ' lg,Q .normal σ' N1→K σ' lg)→D2 P T ops N false ov ops.toList 0 σ [] K)(hm:P.follows .mixedOrders=true:=by kernel_rfl)(hd:KM nt ops=true:=by kernel_rfl)(hN:N+ops.size=N1:=by simp only[List.size_toArray,List.length_cons,List.length_nil,Nat.reduceAdd];rfl):DW P cx (.region id ops false) σ N Q:=Zb9 ov hT hm hnt hd hN h
theorem ZP (ov:List (Nat×D))(hT:Zh P T)(hnt:cx.nt=nt){id:Nat}{ops:Array Oper}(h:∀ K:XF→List US→Prop,(∀ σ' lg,JS ops lg=true→Q .normal σ' N1→K σ' lg)→D2 P T ops N true ov ops.toList 0 σ [] K)(hm:P.follows .mixedOrders=true:=by kernel_rfl)(hd:KM nt ops=true:=by kernel_rfl)(hN:N+ops.size=N1:=by simp only[List.size_toArray,List.length_cons,List.length_nil,Nat.reduceAdd];rfl):DW P cx (.region id ops true) σ N Q:=AH ov hT hm hnt hd hN h
theorem VS.toA (hN:cx.n0≤N1:=by omega)(h:kV N1 σ τ:=by repeat first | exact trivial | refine And.intro (And.intro (by first | rfl | simp[D.ok,D.oks,D.okss,D.okm,YM,Xx]) (by first | exact Or.inl rfl | (refine Or.inr ⟨_,rfl,?_,trivial⟩;repeat first | exact Zn.refl _ | exact Zn.nil _ | exact Zn.untag _ _ _ | refine Zn.ag ?_ | refine Zn.tu ?_ | refine ZS.cons ?_ ?_ | exact ZS.nil;done) | (simp[get,Key.eq];done))) ?_):VS cx σ N τ N1:=VS.toK hN h
theorem Zm {f:FuncId}{fn:Func}{c:Code}{args:List D}{R W:List (Key×D)}{V:D}(N0 nt:Nat)(rs:List ResultVar)(hT:Zh P T)(hf:P.funcs[f]?=some fn)(hb:fn.body=some c)(hnt:fn.ntmps=nt)(hrs:fn.results.toList=rs)(h:∀ cx:Cx,cx.nt=nt→cx.n0=N0→DW P cx c (Y0 0 args R) N0 (UL T rs V W))(hw:ZF args R W V N0=true:=by simp[ZF,D.ok,D.oks,D.okss,ZQ,YF,XC])(hen:XI P f=true:=by kernel_rfl)(hal:args.length≤nt:=by simp):ZE P f args R W V:=Z9 N0 nt rs hT hen hf hb hnt hrs hal hw h
end
mutual
def D.ren (ρ:Nat→Nat):D→D
 | .v x=>.v x
 | .sl n l g=>.sl n (D.renss ρ l) g
 | .p k off=>.p (ρ k) off
 | .q l=>.q (D.rens ρ l)
 | .ag l=>.ag (D.rens ρ l)
 | .tu l=>.tu (D.rens ρ l)
 | .fn f l=>.fn f (D.rens ρ l)
 | .rw a b c=>.rw a b c
 | .o k=>.o (ρ k)
 | .mo k=>.mo (ρ k)
 | .mp l=>.mp (D.renm ρ l)
 | .ob J=>.ob J
 | .j X J=>.j X J
 | .cl n l=>.cl n (D.renss ρ l)
 | .rp E n l=>.rp E n (D.renss ρ l)
 | .ps g len=>.ps g len
 | .pr g len n i0 j0=>.pr g len n i0 j0
 | .pt g len n lo=>.pt g len n lo
 | .mq bm es clock l=>.mq bm es clock (D.renm ρ l)
 | .it k bm es clock rem last=>.it (ρ k) bm es clock rem last
def D.rens (ρ:Nat→Nat):List D→List D
 | []=>[]
 | d :: l=>D.ren ρ d :: D.rens ρ l
def D.renss (ρ:Nat→Nat):List (List D)→List (List D)
 | []=>[]
 | d :: l=>D.rens ρ d :: D.renss ρ l
def D.renm (ρ:Nat→Nat):List (Int×D)→List (Int×D)
 | []=>[]
 | (i,d) :: l=>(i,D.ren ρ d) :: D.renm ρ l
end
theorem D.rens_map (ρ:Nat→Nat):∀ l:List D,D.rens ρ l=l.map (D.ren ρ)
 | []=>rfl
 | d :: l=>by rw[D.rens,D.rens_map ρ l,List.map_cons]
theorem D.renss_map (ρ:Nat→Nat):∀ l:List (List D),D.renss ρ l=l.map (D.rens ρ)
 | []=>rfl
 | d :: l=>by rw[D.renss,D.renss_map ρ l,List.map_cons]
theorem D.renm_map (ρ:Nat→Nat):∀ l:List (Int×D),D.renm ρ l=l.map fun p=>(p.1,p.2.ren ρ)
 | []=>rfl
 | (i,d) :: l=>by rw[D.renm,D.renm_map ρ l,List.map_cons]
/-! what has no names stays as it is -/
mutual
theorem D.ren_id {f g:Nat→Bool}{ρ:Nat→Nat}(hf:∀ k,f k=true→ρ k=k):∀ d:D,d.ok f g=true→d.ren ρ=d
 | .v _,_=>rfl
 | .sl n l r,h=>by simp only[D.ok,Bool.and_eq_true] at h;rw[D.ren,D.renss_id hf l h.1]
 | .p k off,h=>by simp only[D.ok] at h;rw[D.ren,hf k h]
 | .q l,h=>by simp only[D.ok] at h;rw[D.ren,D.rens_id hf l h]
 | .ag l,h=>by simp only[D.ok] at h;rw[D.ren,D.rens_id hf l h]
 | .tu l,h=>by simp only[D.ok] at h;rw[D.ren,D.rens_id hf l h]
 | .fn _ l,h=>by simp only[D.ok] at h;rw[D.ren,D.rens_id hf l h]
 | .rw _ _ _,_=>rfl
 | .o k,h=>by simp only[D.ok] at h;rw[D.ren,hf k h]
 | .mo k,h=>by simp only[D.ok] at h;rw[D.ren,hf k h]
 | .mp l,h=>by simp only[D.ok] at h;rw[D.ren,D.renm_id hf l h]
 | .ob _,_=>rfl
 | .j _ _,_=>rfl
 | .cl n l,h=>by simp only[D.ok] at h;rw[D.ren,D.renss_id hf l h]
 | .rp E n l,h=>by simp only[D.ok] at h;rw[D.ren,D.renss_id hf l h]
 | .ps _ _,_=>rfl
 | .pr _ _ _ _ _,_=>rfl
 | .pt _ _ _ _,_=>rfl
 | .mq _ _ _ l,h=>by simp only[D.ok] at h;rw[D.ren,D.renm_id hf l h]
 | .it k _ _ _ _ _,h=>by simp only[D.ok] at h;rw[D.ren,hf k h]
theorem D.rens_id {f g:Nat→Bool}{ρ:Nat→Nat}(hf:∀ k,f k=true→ρ k=k):∀ l:List D,D.oks f g l=true→D.rens ρ l=l
 | [],_=>rfl
 | d :: l,h=>by simp only[D.oks,Bool.and_eq_true] at h;rw[D.rens,D.ren_id hf d h.1,D.rens_id hf l h.2]
theorem D.renss_id {f g:Nat→Bool}{ρ:Nat→Nat}(hf:∀ k,f k=true→ρ k=k):∀ l:List (List D),D.okss f g l=true→D.renss ρ l=l
 | [],_=>rfl
 | d :: l,h=>by simp only[D.okss,Bool.and_eq_true] at h;rw[D.renss,D.rens_id hf d h.1,D.renss_id hf l h.2]
theorem D.renm_id {f g:Nat→Bool}{ρ:Nat→Nat}(hf:∀ k,f k=true→ρ k=k):∀ l:List (Int×D),D.okm f g l=true→D.renm ρ l=l
 | [],_=>rfl
 | (i,d) :: l,h=>by simp only[D.okm,Bool.and_eq_true] at h;rw[D.renm,D.ren_id hf d h.1,D.renm_id hf l h.2]
end
def Key.ren (ρ:Nat→Nat):Key→Key
 | .c k off=>.c (ρ k) off
 | .o k=>.o (ρ k)
 | k=>k
def Wy (ρ:Nat→Nat)(p:Key×D):Key×D:=(p.1.ren ρ,p.2.ren ρ)
section
variable {P:Program} {m m':Mp} {Im Im':Nat→Nat→Prop} {w w':World} {ρ:Nat→Nat} {f:Nat→Bool}
def Mp.ren (m:Mp)(ρ:Nat→Nat)(f:Nat→Bool):Mp:=⟨fun k=>if f k then m.blk (ρ k) else none,fun _=>none,fun k=>if f k then m.obj (ρ k) else none⟩
theorem Mp.ren_blk {k b:Nat}(h:(m.ren ρ f).blk k=some b):f k=true∧m.blk (ρ k)=some b:=by
 by_cases hk:f k=true
 ·exact⟨hk,by simpa[Mp.ren,hk] using h⟩
 ·simp[Mp.ren,hk] at h
theorem Mp.ren_obj {k b:Nat}(h:(m.ren ρ f).obj k=some b):f k=true∧m.obj (ρ k)=some b:=by
 by_cases hk:f k=true
 ·exact⟨hk,by simpa[Mp.ren,hk] using h⟩
 ·simp[Mp.ren,hk] at h
theorem ZD.unren {x:Value}{d e:D}(h:ZD m Im w x e)(he:d.ren ρ=e)(hd:d.ok f Wh=true):ZD (m.ren ρ f) Im w x d:=by
 induction h generalizing d with
 | v x=>cases d <;> simp only[D.ren] at he <;> cases he;exact .v x
 | p k off b h=>
  cases d <;> simp only[D.ren] at he <;> cases he
  simp only[D.ok] at hd
  exact .p _ _ b (by simp only[Mp.ren,hd,if_true];exact h)
 | o k b h=>
  cases d <;> simp only[D.ren] at he <;> cases he
  simp only[D.ok] at hd
  exact .o _ b (by simp only[Mp.ren,hd,if_true];exact h)
 | mo k b h=>
  cases d <;> simp only[D.ren] at he <;> cases he
  simp only[D.ok] at hd
  exact .mo _ b (by simp only[Mp.ren,hd,if_true];exact h)
 | q bl off X l h hr ih=>
  cases d <;> simp only[D.ren] at he <;> cases he
  rename_i l0
  simp only[D.ok] at hd
  have hl:(D.rens ρ l0).length=l0.length:=by rw[D.rens_map];simp
  refine .q bl off X l0 (fun i hi=>h i (by omega)) fun i hi=>?_
  exact ih i (by omega) (by simp[D.rens_map]) (D.oks_get hd i hi)
 | ag cs l hn hr ih=>
  cases d <;> simp only[D.ren] at he <;> cases he
  rename_i l0
  simp only[D.ok] at hd
  have hl:(D.rens ρ l0).length=l0.length:=by rw[D.rens_map];simp
  exact .ag cs l0 (by omega) fun i hi=>ih i (by omega) (by simp[D.rens_map]) (D.oks_get hd i hi)
 | tu cs l hn hr ih=>
  cases d <;> simp only[D.ren] at he <;> cases he
  rename_i l0
  simp only[D.ok] at hd
  have hl:(D.rens ρ l0).length=l0.length:=by rw[D.rens_map];simp
  exact .tu cs l0 (by omega) fun i hi=>ih i (by omega) (by simp[D.rens_map]) (D.oks_get hd i hi)
 | fn g cs l hn hr ih=>
  cases d <;> simp only[D.ren] at he <;> cases he
  rename_i l0
  simp only[D.ok] at hd
  have hl:(D.rens ρ l0).length=l0.length:=by rw[D.rens_map];simp
  exact .fn g cs l0 (by omega) fun i hi=>ih i (by omega) (by simp[D.rens_map]) (D.oks_get hd i hi)
 | sl a c bl off n X l g h1 ha hc hn ho hr hg ih=>
  cases d <;> simp only[D.ren] at he <;> cases he
  rename_i l0
  simp only[D.ok,Bool.and_eq_true] at hd
  have hl:(D.renss ρ l0).length=l0.length:=by rw[D.renss_map];simp
  have hl2:∀ i (hi:i<l0.length),((D.renss ρ l0)[i]'(by omega))=D.rens ρ l0[i]:=fun i hi=>by simp[D.renss_map]
  have hl3:∀ i (hi:i<l0.length),((D.renss ρ l0)[i]'(by omega)).length=l0[i].length:=fun i hi=>by rw[hl2 i hi,D.rens_map];simp
  rw[hl] at h1 ha ⊢
  refine .sl a c bl off n X l0 g h1 ha (fun i j hi hj=>hc i j (by omega) hj) (fun i hi=>by rw[←hl3 i hi];exact hn i (by omega)) (fun i j hi hj=>ho i j (by omega) hj)
   (fun i hi j hj=>ih i (by omega) j (by rw[hl3 i hi];exact hj) (by simp[D.renss_map,D.rens_map]) (D.oks_get (D.okss_get hd.1 i hi) j hj)) fun r e=>?_
  have:=hd.2
  subst e
  simp[Wh] at this
 | cl a n l h ih=>
  cases d <;> simp only[D.ren] at he <;> cases he
  rename_i l0
  have hl:(D.renss ρ l0).length=l0.length:=by rw[D.renss_map];simp
  have:=ih (d:=.sl n l0 none) (by rw[D.ren]) (by simp only[D.ok] at hd ⊢;simp[hd])
  rw[hl] at this ⊢
  exact .cl a n l0 this
 | ps a c g len ha hcp h=>
  cases d <;> simp only[D.ren] at he <;> cases he
  simp[D.ok,Wh] at hd
 | pt a c g len n lo h=>
  cases d <;> simp only[D.ren] at he <;> cases he
  simp[D.ok,Wh] at hd
 | pr g len n i j b h=>
  cases d <;> simp only[D.ren] at he <;> cases he
  simp[D.ok,Wh] at hd
theorem ZD.ren {x:Value}{d:D}(h:ZD m' Im w x d)(hb:∀ k b,m'.blk k=some b→m.blk (ρ k)=some b)(ho':∀ k b,m'.obj k=some b→m.obj (ρ k)=some b)(hrow:∀ r,m'.row r=none):ZD m Im w x (d.ren ρ):=by
 induction h with
 | v x=>exact .v x
 | p k off b h=>exact .p _ off b (hb k b h)
 | o k b h=>exact .o _ b (ho' k b h)
 | mo k b h=>exact .mo _ b (ho' k b h)
 | q bl off X l h hr ih=>
  rw[D.ren,D.rens_map]
  exact .q bl off X _ (fun i hi=>h i (by simpa using hi)) fun i hi=>by rw[List.getElem_map];exact ih i (by simpa using hi)
 | ag cs l hn hr ih=>
  rw[D.ren,D.rens_map]
  exact .ag cs _ (by simpa using hn) fun i hi=>by rw[List.getElem_map];exact ih i (by simpa using hi)
 | tu cs l hn hr ih=>
  rw[D.ren,D.rens_map]
  exact .tu cs _ (by simpa using hn) fun i hi=>by rw[List.getElem_map];exact ih i (by simpa using hi)
 | fn g cs l hn hr ih=>
  rw[D.ren,D.rens_map]
  exact .fn g cs _ (by simpa using hn) fun i hi=>by rw[List.getElem_map];exact ih i (by simpa using hi)
 | sl a c bl off n X l g h1 ha hc hn ho hr hg ih=>
  rw[D.ren,D.renss_map]
  have hl:(l.map (D.rens ρ)).length=l.length:=by simp
  rw[←hl] at h1 ha ⊢
  refine .sl a c bl off n X _ g h1 ha (fun i j hi hj=>hc i j (by omega) hj) (fun i hi=>by rw[List.getElem_map,D.rens_map,List.length_map];exact hn i (by omega)) (fun i j hi hj=>ho i j (by omega) hj)
   (fun i hi j hj=>?_) fun r e=>?_
  ·have:(l.map (D.rens ρ))[i]=(l[i]'(by omega)).map (D.ren ρ):=by simp[D.rens_map]
   simp only[this,List.getElem_map]
   exact ih i (by omega) j (by rw[List.getElem_map,D.rens_map,List.length_map] at hj;exact hj)
  ·obtain⟨R,q,_⟩:=hg r e
   rw[hrow r] at q;cases q
 | cl a n l h ih=>
  have hl:(D.renss ρ l).length=l.length:=by rw[D.renss_map];simp
  simp only[D.ren] at ih ⊢
  rw[←hl] at ih ⊢
  exact .cl a n _ ih
 | ps a c g len ha hcp h=>
  obtain⟨R,q,_⟩:=h
  rw[hrow g] at q;cases q
 | pt a c g len n lo h=>
  obtain⟨R,q,_⟩:=h
  rw[hrow g] at q;cases q
 | pr g len n i j b h=>
  obtain⟨R,q,_⟩:=h
  rw[hrow g] at q;cases q
theorem XB.unren {b:Nat}{d e:D}(h:XB m Im w b e)(he:d.ren ρ=e)(hd:d.ok f Wh=true):XB (m.ren ρ f) Im w b d:=by
 cases h with
 | mp es clock l h1 h2 h3 h4 h5=>
  cases d <;> simp only[D.ren] at he <;> cases he
  rename_i l0
  simp only[D.ok] at hd
  have hl:(D.renm ρ l0).length=l0.length:=by rw[D.renm_map];simp
  refine .mp es clock l0 h1 (by omega) (fun i hi=>?_) (fun i hi v hv=>?_) h5
  ·have:=h3 i (by omega);simpa[D.renm_map] using this
  ·exact(h4 i (by omega) v hv).unren (by simp[D.renm_map]) (D.okm_get hd i hi)
 | mq es clock l h1 h2 h3 h4 h5=>
  cases d <;> simp only[D.ren] at he <;> cases he
  rename_i l0
  simp only[D.ok] at hd
  have hl:(D.renm ρ l0).length=l0.length:=by rw[D.renm_map];simp
  refine .mq es clock l0 h1 (by omega) (fun i hi=>?_) (fun i hi v hv=>?_) h5
  ·have:=h3 i (by omega);simpa[D.renm_map] using this
  ·exact(h4 i (by omega) v hv).unren (by simp[D.renm_map]) (D.okm_get hd i hi)
 | it k bm es clock rem last seen h1 h2 h3 h4 h5 h6=>
  cases d <;> simp only[D.ren] at he <;> cases he
  simp only[D.ok] at hd
  exact .it _ bm es clock rem last seen (by simp only[Mp.ren,hd,if_true];exact h1) h2 h3 h4 h5 h6
 | ob J h hs=>
  cases d <;> simp only[D.ren] at he <;> cases he
  exact .ob J h hs
theorem XB.ren {b:Nat}{d:D}(h:XB m' Im w b d)(hb:∀ k b,m'.blk k=some b→m.blk (ρ k)=some b)(ho':∀ k b,m'.obj k=some b→m.obj (ρ k)=some b)(hrow:∀ r,m'.row r=none):XB m Im w b (d.ren ρ):=by
 cases h with
 | mp es clock l h1 h2 h3 h4 h5=>
  rw[D.ren,D.renm_map]
  exact .mp es clock _ h1 (by simpa using h2) (fun i hi=>by simpa using h3 i (by simpa using hi)) (fun i hi v hv=>by
   have:=(h4 i (by simpa using hi) v hv).ren hb ho' hrow
   simpa using this) h5
 | mq es clock l h1 h2 h3 h4 h5=>
  rw[D.ren,D.renm_map]
  exact .mq es clock _ h1 (by simpa using h2) (fun i hi=>by simpa using h3 i (by simpa using hi)) (fun i hi v hv=>by
   have:=(h4 i (by simpa using hi) v hv).ren hb ho' hrow
   simpa using this) h5
 | it k bm es clock rem last seen h1 h2 h3 h4 h5 h6=>exact .it _ bm es clock rem last seen (ho' k bm h1) h2 h3 h4 h5 h6
 | ob J h hs=>exact .ob J h hs
def Vq (args:List D)(R W:List (Key×D))(V:D):Bool:=
 args.all (fun d=>d.ok (YF R) Wh)&&R.all (fun p=>p.2.ok (YF R) Wh&&XC p.1)&&W.all (fun p=>p.2.ok (YF R) Wh&&(match p.1 with | .c k _=>YF R k | .o k=>YF R k | .j=>R.any fun p=>isJ p.1 | _=>false))&&V.ok (YF R) Wh
theorem ZE.ren {g:FuncId}{args:List D}{R W:List (Key×D)}{V:D}(h:ZE P g args R W V)(ρ:Nat→Nat)(hw:Vq args R W V=true)(hinj:∀ k∈ZQ R,∀ k'∈ZQ R,ρ k=ρ k'→k=k'):
  ZE P g (args.map (D.ren ρ)) (R.map (Wy ρ)) (W.map (Wy ρ)) (V.ren ρ):=by
 refine⟨h.1,fun cx Fr m Im w vs hmem hargs hR=>?_⟩
 simp only[Vq,Bool.and_eq_true,List.all_eq_true] at hw
 obtain⟨⟨⟨w1,w2⟩,w3⟩,w4⟩:=hw
 have hinj:∀ k k',YF R k=true→YF R k'=true→ρ k=ρ k'→k=k':=fun k k' hk hk'=>by
  unfold YF at hk hk'
  rw[List.contains_iff_mem] at hk hk'
  exact hinj k hk k' hk'
 have hmemR:∀ p∈R,Wy ρ p∈R.map (Wy ρ):=fun p hp=>List.mem_map.2 ⟨p,hp,rfl⟩
 have hTb:∀ k b,YF R k=true→m.blk (ρ k)=some b→Ro m (R.map (Wy ρ)) b:=fun k b hk hb=>by
  rcases Wv hk with⟨off,d,hm⟩ | ⟨d,hm⟩
  ·exact .inl ⟨ρ k,off,d.ren ρ,hmemR _ hm,hb⟩
  ·obtain⟨b',q1,_⟩:=hR _ (hmemR _ hm)
   have:=hmem.dis _ b hb
   rw[this] at q1;cases q1
 have hTo:∀ k b,YF R k=true→m.obj (ρ k)=some b→Ro m (R.map (Wy ρ)) b:=fun k b hk hb=>by
  rcases Wv hk with⟨off,d,hm⟩ | ⟨d,hm⟩
  ·obtain⟨b',v,q1,_⟩:=hR _ (hmemR _ hm)
   have:=hmem.dis _ b' q1
   rw[this] at hb;cases hb
  ·exact .inr (.inr ⟨ρ k,d.ren ρ,hmemR _ hm,hb⟩)
 have hX:∀ X J,(Key.j,D.j X J)∈R→C9 cx m Im w X J:=fun X J hm=>by
  obtain⟨X',J',e,hx⟩:=hR _ (hmemR _ hm)
  have e:D.j X J=D.j X' J':=e
  cases e;exact hx
 let m':=m.ren ρ (YF R)
 let cx':Cx:={ w0:=w,C:=Ro m (R.map (Wy ρ)),Im0:=Im,m0:=⟨fun _=>none,fun _=>none,fun _=>none⟩,nt:=0,n0:=0,h0:=(fun k b hk=>by cases hk),h0o:=(fun k b hk=>by cases hk) }
 have hmem':XO cx' (fun _=>False) m' Im w:={
  off:=Off.refl _ _,im:=hmem.im,imb:=fun b o hi=>.inl hi,im0:=fun b o hi=>hi
  own:=fun k b hk=>.inl (hTb k b (Mp.ren_blk hk).1 (Mp.ren_blk hk).2)
  lt:=fun k b hk=>hmem.lt _ b (Mp.ren_blk hk).2
  free:=fun k b o hk=>hmem.free _ b o (Mp.ren_blk hk).2
  nim:=fun k b o hk=>hmem.nim _ b o (Mp.ren_blk hk).2
  inj:=fun k k' b hk hk'=>hinj k k' (Mp.ren_blk hk).1 (Mp.ren_blk hk').1 (hmem.inj _ _ b (Mp.ren_blk hk).2 (Mp.ren_blk hk').2)
  row:=fun g R hg=>by cases hg
  k0:=Z6.refl _ _
  rown:=fun g R b hg=>by cases hg
  m0r:=fun g R hg=>by cases hg
  rIm:=fun g R b o hg=>by cases hg
  rblk:=fun g R b k hg=>by cases hg
  rinj:=fun g g' R R' b hg=>by cases hg
  fr:=fun k hk=>hk.elim
  m0:=fun k b hk=>by cases hk
  m0o:=fun k b hk=>by cases hk
  oown:=fun k b hk=>.inl (hTo k b (Mp.ren_obj hk).1 (Mp.ren_obj hk).2)
  olt:=fun k b hk=>hmem.olt _ b (Mp.ren_obj hk).2
  onim:=fun k b o hk=>hmem.onim _ b o (Mp.ren_obj hk).2
  oinj:=fun k k' b hk hk'=>hinj k k' (Mp.ren_obj hk).1 (Mp.ren_obj hk').1 (hmem.oinj _ _ b (Mp.ren_obj hk).2 (Mp.ren_obj hk').2)
  oblk:=fun k k' b hk hk'=>hmem.oblk _ _ b (Mp.ren_obj hk).2 (Mp.ren_blk hk').2
  orow:=fun k g R b hk hg=>by cases hg
  dis:=fun k b hk=>by
   have:=hmem.dis _ b (Mp.ren_blk hk).2
   show (if _ then m.obj (ρ k) else none)=none
   rw[this];simp }
 have hargs':Yc m' Im w vs args:=by
  rw[ZW] at hargs ⊢
  refine⟨by simpa using hargs.1,fun i hi=>?_⟩
  exact(hargs.2 i (by simpa using hi)).unren (by simp) (w1 _ (List.getElem_mem hi))
 have hR':Holds cx' m' Im w R:=fun p hp=>by
  have hh:=hR _ (hmemR _ hp)
  have hok:=w2 p hp
  obtain⟨key,d⟩:=p
  cases key with
  | c k off=>
   obtain⟨b,v,q1,q2,q3⟩:=hh
   have hk:=XM hp
   exact⟨b,v,by show (if YF R k then m.blk (ρ k) else none)=_;rw[if_pos hk];exact q1,q2,q3.unren rfl hok.1⟩
  | o k=>
   obtain⟨b,q1,q2⟩:=hh
   have hk:=Wg hp
   exact⟨b,by show (if YF R k then m.obj (ρ k) else none)=_;rw[if_pos hk];exact q1,q2.unren rfl hok.1⟩
  | j=>
   obtain⟨X,J,e,hx⟩:=hh
   cases d <;> simp only[Wy,D.ren] at e <;> cases e
   exact⟨X,J,rfl,{ hx with own:=fun b hb=>.inl (.inr (.inl ⟨X,J,hmemR _ hp,hb⟩)),blk:=fun b k hb hk=>hx.blk b _ hb (Mp.ren_blk hk).2,row:=(fun b g R hb hg=>by cases hg),obj:=fun b k hb hk=>hx.obj b _ hb (Mp.ren_obj hk).2 }⟩
  | t x=>cases hok.2
  | r g=>cases hok.2
 have hTch:∀ b,Ro m' R b→Ro m (R.map (Wy ρ)) b:=fun b hb=>by
  rcases hb with⟨k,off,d,hm,hb⟩ | ⟨X,J,hm,hb⟩ | ⟨k,d,hm,hb⟩
  ·exact .inl ⟨ρ k,off,d.ren ρ,hmemR _ hm,(Mp.ren_blk hb).2⟩
  ·exact .inr (.inl ⟨X,J,hmemR _ hm,hb⟩)
  ·exact .inr (.inr ⟨ρ k,d.ren ρ,hmemR _ hm,(Mp.ren_obj hb).2⟩)
 refine(h.2 cx' _ m' Im w vs hmem' hargs' hR').mono ?_
 rintro e w' ⟨v,Im',rfl,q1,q2,q3,q4,q5,q6,q7⟩
 have hoff:Off (Ro m (R.map (Wy ρ))) w w':=⟨q1.os,q1.tape,q1.output,q1.size,fun b hb hn=>q1.block b hb fun ht=>hn (hTch b ht)⟩
 refine⟨v,Im',rfl,hoff,q2,q3,q4,fun k b o hk=>?_,q6.ren (fun k b hk=>(Mp.ren_blk hk).2) (fun k b hk=>(Mp.ren_obj hk).2) (fun _=>rfl),fun p hp=>?_⟩
 ·by_cases hb:Ro m' R b
  ·rcases hb with⟨k',off,d,hm,hb⟩ | ⟨X,J,hm,hb⟩ | ⟨k',d,hm,hb⟩
   ·exact q5 k' b o hb
   ·exact absurd hk ((hX X J hm).blk b k hb)
   ·exact absurd hk (hmem.oblk _ k b (Mp.ren_obj hb).2)
  ·exact(World.frozen?_of_block (a:=⟨b,o,none⟩) (q1.block b (hmem.lt k b hk) hb)).trans (hmem.free k b o hk)
 ·obtain⟨p0,hp0,rfl⟩:=List.mem_map.1 hp
  have hh:=q7 p0 hp0
  have hok:=w3 p0 hp0
  obtain⟨key,d⟩:=p0
  cases key with
  | c k off=>
   obtain⟨b,x,r1,r2,r3⟩:=hh
   exact⟨b,x,(Mp.ren_blk r1).2,r2,r3.ren (fun k b hk=>(Mp.ren_blk hk).2) (fun k b hk=>(Mp.ren_obj hk).2) (fun _=>rfl)⟩
  | o k=>
   obtain⟨b,r1,r2⟩:=hh
   exact⟨b,(Mp.ren_obj r1).2,r2.ren (fun k b hk=>(Mp.ren_blk hk).2) (fun k b hk=>(Mp.ren_obj hk).2) (fun _=>rfl)⟩
  | j=>
   obtain⟨X,J,e,hx⟩:=hh
   have e:d=.j X J:=e
   subst e
   have hold:∀ b,X b→b<w.heap.size→∃ X0 J0,(Key.j,D.j X0 J0)∈R∧X0 b:=fun b hb hlt=>by
    rcases hx.own b hb with hc | hc
    ·have hc:Ro m (R.map (Wy ρ)) b:=hc
     rcases hc with⟨k',off,d',hm,hb'⟩ | ⟨X0,J0,hm,hb'⟩ | ⟨k',d',hm,hb'⟩
     ·obtain⟨⟨key,d0⟩,hm0,e0⟩:=List.mem_map.1 hm
      cases key with
      | c k0 o0=>
       simp only[Wy,Key.ren] at e0
       cases e0
       refine absurd ?_ (hx.blk b k0 hb)
       show (if YF R k0 then m.blk (ρ k0) else none)=_
       rw[if_pos (XM hm0)];exact hb'
      | _=>simp[Wy,Key.ren] at e0
     ·obtain⟨⟨key,d0⟩,hm0,e0⟩:=List.mem_map.1 hm
      cases key <;> simp only[Wy,Key.ren,Prod.mk.injEq,reduceCtorEq,false_and] at e0
      have e0:=e0.2
      cases d0 <;> simp only[D.ren] at e0 <;> cases e0
      exact⟨X0,J0,hm0,hb'⟩
     ·obtain⟨⟨key,d0⟩,hm0,e0⟩:=List.mem_map.1 hm
      cases key with
      | o k0=>
       simp only[Wy,Key.ren] at e0
       cases e0
       refine absurd ?_ (hx.obj b k0 hb)
       show (if YF R k0 then m.obj (ρ k0) else none)=_
       rw[if_pos (Wg hm0)];exact hb'
      | _=>simp[Wy,Key.ren] at e0
    ·exact absurd hc (Nat.not_le.2 hlt)
   refine⟨X,J,rfl,{ hx with own:=fun b hb=>?_,blk:=fun b k hb hk=>?_,row:=fun b g R' hb hg e2=>?_,obj:=fun b k hb hk=>?_ }⟩
   ·by_cases hlt:b<w.heap.size
    ·obtain⟨X0,J0,hm,hb0⟩:=hold b hb hlt
     exact(hX X0 J0 hm).own b hb0
    ·exact .inr (Nat.le_trans hmem.off.size (Nat.le_of_not_lt hlt))
   ·obtain⟨X0,J0,hm,hb0⟩:=hold b hb (hmem.lt k b hk)
    exact(hX X0 J0 hm).blk b k hb0 hk
   ·obtain⟨xs,hxs⟩:=hmem.row g R' hg
    obtain⟨X0,J0,hm,hb0⟩:=hold b hb (Wo hxs e2).2
    exact(hX X0 J0 hm).row b g R' hb0 hg e2
   ·obtain⟨X0,J0,hm,hb0⟩:=hold b hb (hmem.olt k b hk)
    exact(hX X0 J0 hm).obj b k hb0 hk
  | t x=>cases hok.2
  | r g=>cases hok.2
end
end Go.Proofs.YtclihnccilkohaaGreat
namespace Go.Proofs.YtclihnccilkohaaGreat
namespace Nm
abbrev wr (x:Int):Int:=RowKit.wrap64 x
def tz:Tm:=.mk [] 0 0 []
structure St where
 left:Int
 dry:Bool
 count:Int
 e:Int
deriving DecidableEq
def spend (s:St):Bool×St:=
 if s.dry=true∨s.left<1 then (false,{ s with left:=0,dry:=true }) else (true,{ s with left:=s.left-1 })
def fail (s:St)(c:Int):St:=if s.e=0 then { s with e:=c } else s
def unit (s:St):Bool×St:=
 if s.e≠0 then (false,s)
 else if s.count=100000 then (false,{ s with count:=s.count+1,e:=2 })
 else match spend s with
  | (false,s')=>(false,{ s' with count:=s'.count+1,e:=11 })
  | (true,s')=>(true,{ s' with count:=s'.count+1 })
mutual
def lift (by_:Int):Tm→Int→Tm
 | .mk b k i a,ins=>.mk b k (if k=0∧wr (ins+b.length)≤i then wr (i+by_) else i) (lifts by_ a (wr (ins+b.length)))
def lifts (by_:Int):List Tm→Int→List Tm
 | [],_=>[]
 | t :: l,ins=>lift by_ t ins :: lifts by_ l ins
end
theorem lift_eq (y:Int)(b:List Ty)(k i:Int)(a:List Tm)(ins:Int):lift y (.mk b k i a) ins=.mk b k (if k=0∧wr (ins+b.length)≤i then wr (i+y) else i) (lifts y a (wr (ins+b.length))):=by rw[lift]
theorem lifts_map (y:Int)(l:List Tm)(ins:Int):lifts y l ins=l.map fun t=>lift y t ins:=by
 induction l with
 | nil=>rfl
 | cons t l ih=>rw[lifts,ih];rfl
def grown (t:Tm)(y:Int):Tm:=if y=0 then t else lift y t 0
def seqM (g:Tm→St→Tm×St):List Tm→St→List Tm×St
 | [],s=>([],s)
 | t :: l,s=>((g t s).1 :: (seqM g l (g t s).2).1,(seqM g l (g t s).2).2)
theorem seqM_append (g:Tm→St→Tm×St)(l r:List Tm)(s:St):seqM g (l++r) s=((seqM g l s).1++(seqM g r (seqM g l s).2).1,(seqM g r (seqM g l s).2).2):=by
 induction l generalizing s with
 | nil=>simp[seqM]
 | cons t l ih=>simp[seqM,ih]
theorem seqM_take (g:Tm→St→Tm×St)(l:List Tm)(j:Nat)(h:j<l.length)(s:St):seqM g (l.take (j+1)) s=((seqM g (l.take j) s).1++[(g l[j] (seqM g (l.take j) s).2).1],(g l[j] (seqM g (l.take j) s).2).2):=by
 rw[List.take_succ_eq_append_getElem h,seqM_append];rfl
theorem seqM_length (g:Tm→St→Tm×St)(l:List Tm)(s:St):(seqM g l s).1.length=l.length:=by
 induction l generalizing s with
 | nil=>rfl
 | cons t l ih=>simp[seqM,ih]
abbrev Thr:=List Tm→Nat→Tm→Int→St→Tm×St
def putW (thr:Thr)(t:Tm)(xs:List Tm)(s:St):Tm×St:=
 if s.e≠0∨xs.length>t.binds.length then (tz,fail s 1)
 else
  let r:=thr xs t.binds.length (.mk [] t.kind t.index t.args) 0 s
  (.mk (t.binds.drop xs.length) r.1.kind r.1.index r.1.args,r.2)
def hit (thr:Thr)(xs:List Tm)(n:Nat)(t:Tm)(ins:Int)(args:List Tm)(s:St):Tm×St:=
 if t.kind≠0∨t.index<ins then (.mk t.binds t.kind t.index args,s)
 else
  let i:=wr (t.index-ins)
  if i<(n:Int)-xs.length then (.mk t.binds t.kind t.index args,s)
  else if (n:Int)≤i then (.mk t.binds t.kind (wr (t.index-xs.length)) args,s)
  else
   let u:=grown (xs.getD ((n:Int)-1-i).toNat tz) (wr (wr (ins+n)-xs.length))
   if u.binds.length≠args.length then (tz,fail s 1)
   else
    let r:=putW thr u args s
    (.mk t.binds r.1.kind r.1.index r.1.args,r.2)
def through:Nat→Thr
 | 0=>fun _ _ _ _ s=>(tz,s)
 | f+1=>fun xs n t ins s=>
  if (unit s).1=true then
   let q:=seqM (fun a s=>through f xs n a (wr (ins+t.binds.length)) s) t.args (unit s).2
   hit (through f) xs n t (wr (ins+t.binds.length)) q.1 q.2
  else (tz,(unit s).2)
def put (f:Nat):Tm→List Tm→St→Tm×St:=putW (through f)
def done (p:Tm×St):Tm×St:=
 let s:=if p.2.e=0∧¬ (p.1.size≤5000∧p.1.depth≤60) then fail p.2 2 else p.2
 if s.e≠0 then (tz,s) else (p.1,s)
def Put (t:Tm)(xs:List Tm)(left:Int)(dry:Bool):Tm×St:=done (put 100001 t xs ⟨left,dry,0,0⟩)
end Nm
namespace Sb
open Go.Proofs.YtclihnccilkohaaGreat.Nm
abbrev Pair:=Int×Tm
def right (s:List Pair):Bool:=decide (s.Pairwise fun a b=>a.1<b.1)
def find (s:List Pair)(m:Int):Option Tm:=(s.find? fun p=>p.1==m).map (·.2)
def replaced (t u:Tm)(s:Nm.St):Tm×Nm.St:=
 if u.binds.length≠t.args.length then (tz,{ s with e:=1 })
 else
  let r:=Put u t.args s.left s.dry
  if r.2.e≠0 then (tz,{ s with left:=r.2.left,dry:=r.2.dry,e:=r.2.e }) else (.mk t.binds r.1.kind r.1.index r.1.args,{ s with left:=r.2.left,dry:=r.2.dry })
mutual
def through (l:List Pair):Tm→Int→Nm.St→Tm×Nm.St
 | .mk b k i a,ins,s=>
  if s.e≠0 then (tz,s)
  else if (spend s).1=false then (tz,{ (spend s).2 with e:=11 })
  else
   let q:=throughs l a (wr (ins+b.length)) (spend s).2
   if k≠2∨q.2.e≠0 then (.mk b k i q.1,q.2)
   else match find l i with
    | none=>(.mk b k i q.1,q.2)
    | some u=>replaced (.mk b k i q.1) (lift (wr (ins+b.length)) u 0) q.2
def throughs (l:List Pair):List Tm→Int→Nm.St→List Tm×Nm.St
 | [],_,s=>([],s)
 | t :: r,ins,s=>((through l t ins s).1 :: (throughs l r ins (through l t ins s).2).1,(throughs l r ins (through l t ins s).2).2)
end
theorem throughs_seq (l:List Pair)(a:List Tm)(ins:Int)(s:Nm.St):throughs l a ins s=seqM (fun t s=>through l t ins s) a s:=by
 induction a generalizing s with
 | nil=>rfl
 | cons t a ih=>rw[throughs,ih];rfl
def apply (l:List Pair)(t:Tm)(left:Int)(dry:Bool):Tm×Nm.St:=
 if right l=false then (tz,⟨left,dry,0,1⟩)
 else
  let r:=through l t 0 ⟨left,dry,0,0⟩
  let s:=if r.2.e=0∧¬ (r.1.size≤5000∧r.1.depth≤60) then { r.2 with e:=2 } else r.2
  if s.e≠0 then (tz,s) else (r.1,s)
def kA:Ty:=.mk [] 0
end Sb
end Go.Proofs.YtclihnccilkohaaGreat
namespace Go.Proofs.YtclihnccilkohaaGreat
open Go.RowKit
theorem B5 (w:World)(b o:Nat)(x:Int)(hc:w.cell? ⟨b,o,none⟩=some (.int .i64 x)):
  Calls Tryz.prog 187 #[.pointer (some ⟨b,o,none⟩)] w fun e w'=>e=.returned (.int .i64 x)∧w'=w:=by
 have hl:=run_call_load (P:=Tryz.prog) Tryz.func196 (by kernel_rfl) (by kernel_rfl) (by kernel_rfl) .i64 (by kernel_rfl) hc
 go_enter Tryz.func187,Tryz.ntmps187
 go_wp2_with fail
 go_ret
 exact⟨rfl,rfl⟩
theorem DX (w:World)(b o:Nat)(x y:Int)(hc:w.cell? ⟨b,o,none⟩=some (.int .i64 x))(hf:w.frozen? ⟨b,o,none⟩=false):
  Calls Tryz.prog 150 #[.pointer (some ⟨b,o,none⟩),.int .i64 y] w fun e w'=>e=.returned (.tuple #[])∧w'=w.setCell ⟨b,o,none⟩ (.int .i64 y):=by
 have hs:=run_call_store (P:=Tryz.prog) Tryz.func161 (by kernel_rfl) (by kernel_rfl) (by kernel_rfl) (by kernel_rfl) (k:=.i64) (y:=y) hc hf
 go_enter Tryz.func150,Tryz.ntmps150
 go_wp2_with fail
 go_end0
 exact⟨rfl,rfl⟩
theorem CM (w:World)(b o:Nat)(x y:Int)(hc:w.cell? ⟨b,o,none⟩=some (.int .i64 x))(hf:w.frozen? ⟨b,o,none⟩=false):
  Calls Tryz.prog 188 #[.pointer (some ⟨b,o,none⟩),.int .i64 y] w fun e w'=>(∃ r,e=.returned (.int .i64 r))∧w'=w.setCell ⟨b,o,none⟩ (.int .i64 (IntKind.i64.wrap (x+y))):=by
 have hs:=run_call_add (P:=Tryz.prog) Tryz.func197 (by kernel_rfl) (by kernel_rfl) (by kernel_rfl) .i64 (by kernel_rfl) (y:=y) (s:=IntKind.i64.wrap (x+y)) hc hf (by simp[go_sem])
 go_enter Tryz.func188,Tryz.ntmps188
 go_wp2_with fail
 go_ret
 exact⟨⟨_,rfl⟩,by rw[IntWalk.i64_left]⟩
theorem KY (w:World)(b o:Nat)(x:Int)(hc:w.cell? ⟨b,o,none⟩=some (.int .u32 x)):
  Calls Tryz.prog 186 #[.pointer (some ⟨b,o,none⟩)] w fun e w'=>e=.returned (.bool (x != 0))∧w'=w:=by
 have hl:=run_call_load (P:=Tryz.prog) Tryz.func195 (by kernel_rfl) (by kernel_rfl) (by kernel_rfl) .u32 (by kernel_rfl) hc
 go_enter Tryz.func186,Tryz.ntmps186
 go_wp2_with fail
 go_ret
 exact⟨rfl,rfl⟩
def bi (d:Bool):Int:=if d=true then 1 else 0
def On (left used:Int)(dry:Bool):Array Value:=#[.int .i64 left,.int .i64 used,.int .u32 (bi dry),.int .i32 0,.int .u32 0,.int .u32 (bi dry)]
def XP (w:World)(b:Nat)(left:Int)(dry:Bool):Prop:=∃ used,Blk w b (On left used dry) 261
theorem A7 (w:World)(n:Int)(h0:0≤n):Calls Tryz.prog 141 #[.int .i64 n] w fun e w'=>e=.returned (.pointer (some ⟨w.heap.size,0,none⟩))∧XP w' w.heap.size n false∧Below w.heap.size w w':=by
 have z0:=Blk.new w (On 0 0 false) 261 rfl
 go_enter Tryz.func141,Tryz.ntmps141
 go_wp2_with fail
 have hmx:max n 0=n:=by omega
 try simp only[hmx]
 refine(DX _ _ _ 0 n (z0.cell rfl) (z0.free 0)).mono ?_
 rintro e w' ⟨rfl,rfl⟩
 go_wp2_with fail
 go_ret
 exact⟨rfl,⟨0,Blk.new w (On n 0 false) 261 rfl⟩,(Below.refl _ _).alloc (Nat.le_refl _) _⟩
theorem B7 {w:World}{b:Nat}{left:Int}{dry:Bool}(h:XP w b left dry):Calls Tryz.prog 175 #[.pointer (some ⟨b,0,none⟩)] w fun e w'=>e=.returned (.int .i64 left)∧w'=w:=by
 obtain⟨used,h⟩:=h
 have hcon:=B5 w b 0 left (h.cell rfl)
 go_enter Tryz.func175,Tryz.ntmps175
 go_wp2_with fail
 refine hcon.mono ?_
 rintro e w' ⟨rfl,rfl⟩
 go_wp2_with fail
 go_ret
 exact⟨rfl,rfl⟩
theorem AG {w:World}{b:Nat}{left:Int}{dry:Bool}(h:XP w b left dry):Calls Tryz.prog 174 #[.pointer (some ⟨b,0,none⟩)] w fun e w'=>e=.returned (.bool dry)∧w'=w:=by
 obtain⟨used,h⟩:=h
 have hcon:=KY w b 5 (bi dry) (h.cell rfl)
 have hd:(bi dry != 0)=dry:=by cases dry <;> rfl
 rw[hd] at hcon
 go_enter Tryz.func174,Tryz.ntmps174
 go_wp2_with fail
 refine hcon.mono ?_
 rintro e w' ⟨rfl,rfl⟩
 go_wp2_with fail
 go_ret
 exact⟨rfl,rfl⟩
theorem GH {w:World}{b:Nat}{left:Int}{dry:Bool}(h:XP w b left dry)(n:Int)(h0:0≤n)(h1:n≤left)(h2:left≤1000000000):Calls Tryz.prog 176 #[.pointer (some ⟨b,0,none⟩),.int .i64 n] w fun e w'=>e=.returned (.tuple #[])∧XP w' b (left-n) dry∧(∀ B,B≤b→Below B w w')∧∀ k,k≠b→w'.heap[k]?=w.heap[k]?:=by
 obtain⟨used,h⟩:=h
 have hn:IntKind.i64.wrap (-n)=-n:=IntWalk.i64_in _ (by omega)
 have hl:IntKind.i64.wrap (left + -n)=left-n:=by rw[IntWalk.i64_in _ (by omega)];omega
 have hcon:=CM w b 0 left (-n) (h.cell rfl) (h.free 0)
 rw[hl] at hcon
 have h':=h.set 0 (.int .i64 (left-n))
 have hcon2:=CM _ b 1 used n (h'.cell rfl) (h'.free 1)
 have h'':=h'.set 1 (.int .i64 (IntKind.i64.wrap (used+n)))
 clear hl
 go_enter Tryz.func176,Tryz.ntmps176
 go_wp2_with fail
 refine hcon.mono ?_
 rintro e w' ⟨⟨r,rfl⟩,rfl⟩
 go_wp2_with fail
 refine hcon2.mono ?_
 rintro e w' ⟨⟨r2,rfl⟩,rfl⟩
 go_wp2_with fail
 go_end0
 exact⟨rfl,⟨_,h''⟩,fun B hB=>((Below.refl B w).setCell (p:=⟨b,0,none⟩) hB _).setCell (p:=⟨b,1,none⟩) hB _,fun k hk=>(Below.heap_setCell _ ⟨b,1,none⟩ _ _ hk).trans (Below.heap_setCell _ ⟨b,0,none⟩ _ _ hk)⟩
theorem Up (w:World):(callFunc 210 #[]).run Tryz.prog w=.ok (.value (.tuple #[])) w:=run_call_mark0 Tryz.func210 (by kernel_rfl) (by kernel_rfl) (by kernel_rfl) .disable (by kernel_rfl) w
theorem UQ (w:World):(callFunc 212 #[]).run Tryz.prog w=.ok (.value (.tuple #[])) w:=run_call_mark0 Tryz.func212 (by kernel_rfl) (by kernel_rfl) (by kernel_rfl) .enable (by kernel_rfl) w
theorem SQ (a:Addr)(w:World):(callFunc 213 #[.pointer (some a)]).run Tryz.prog w=.ok (.value (.tuple #[])) w:=run_call_marked Tryz.func213 (by kernel_rfl) (by kernel_rfl) (by kernel_rfl) .acquire (by kernel_rfl) a w
theorem Uq (a:Addr)(w:World):(callFunc 215 #[.pointer (some a)]).run Tryz.prog w=.ok (.value (.tuple #[])) w:=run_call_marked Tryz.func215 (by kernel_rfl) (by kernel_rfl) (by kernel_rfl) .releaseMerge (by kernel_rfl) a w
theorem CD (a:Addr)(x:Value)(w:World)(hc:w.cell? a=some x)(hz:w.frozen? a=false):
  Calls Tryz.prog 191 #[.pointer (some a),.bool true] w fun e w'=>e=.returned (.tuple #[])∧w'=w.drew.setCell a (.int .u32 1):=by
 have hc':w.drew.cell? a=some x:=by go_simp
 have hz':w.drew.frozen? a=false:=by go_simp
 have hst:=run_call_store (P:=Tryz.prog) Tryz.func199 (by kernel_rfl) (by kernel_rfl) (by kernel_rfl) (by kernel_rfl) (k:=.u32) (y:=1) hc' hz'
 go_enter Tryz.func191,Tryz.ntmps191
 go_wp2
 go_region_calls
 all_goals (go_end0;exact⟨rfl,rfl⟩)
theorem Tt (a:Addr)(x:Value)(u:FrameMode)(w:World)(hc:w.cell? a=some x)(hz:w.frozen? a=false):
  CallsD Tryz.prog 191 #[.pointer (some a),.bool true] u w fun e u' w'=>u'=u∧(e=.returned (.tuple #[])∧w'=w.drew.setCell a (.int .u32 1)):=by
 have hc':w.drew.cell? a=some x:=by go_simp
 have hz':w.drew.frozen? a=false:=by go_simp
 have hst:=run_call_store (P:=Tryz.prog) Tryz.func199 (by kernel_rfl) (by kernel_rfl) (by kernel_rfl) (by kernel_rfl) (k:=.u32) (y:=1) hc' hz'
 go_enter_d Tryz.func191,Tryz.ntmps191
 go_wp2
 go_region_calls
 all_goals (go_end0;exact⟨rfl,rfl⟩)
set_option maxRecDepth 100000 in
set_option maxHeartbeats 1600000 in
theorem UK (a:Addr)(u:FrameMode)(w:World)(hc:w.cell? a=some (.int .i32 1))(hz:w.frozen? a=false):
  CallsD Tryz.prog 204 #[.pointer (some a)] u w fun e u' w'=>u'=u∧(e=.returned (.tuple #[])∧w'=w.setCell a (.int .i32 0)):=by
 have hd:=Up
 have he:=UQ
 have hr:=Uq
 have hadd:=run_call_add (P:=Tryz.prog) Tryz.func216 (by kernel_rfl) (by kernel_rfl) (by kernel_rfl) .i32 (by kernel_rfl) (y:=-1) (s:=0) hc hz (by simp[go_sem];rfl)
 have hcv:=run_convert_to_unsafe (P:=Tryz.prog) (src:=322) (dst:=326) Tryz.underlying322 Tryz.underlying326 (by kernel_rfl) hc
 go_enter_d Tryz.func204,Tryz.ntmps204
 go_wp2
 go_end0
 go_wp2
 go_end0
 exact⟨rfl,rfl⟩
set_option maxRecDepth 100000 in
set_option maxHeartbeats 1600000 in
theorem Jg (a:Addr)(w:World)(hc:w.cell? a=some (.int .i32 0))(hz:w.frozen? a=false):
  Calls Tryz.prog 203 #[.pointer (some a)] w fun e w'=>e=.returned (.tuple #[])∧w'=w.setCell a (.int .i32 1):=by
 have hd:=Up
 have he:=UQ
 have ha:=SQ
 have hcas:=run_call_cas_hit (P:=Tryz.prog) Tryz.func211 (by kernel_rfl) (by kernel_rfl) (by kernel_rfl) .i32 (by kernel_rfl) (y:=1) hc hz
 have hc':(w.setCell a (.int .i32 1)).cell? a=some (.int .i32 1):=World.cell?_setCell_same w a _ hc
 have hcv:=run_convert_to_unsafe (P:=Tryz.prog) (src:=322) (dst:=326) Tryz.underlying322 Tryz.underlying326 (by kernel_rfl) hc'
 go_enter Tryz.func203,Tryz.ntmps203
 go_wp2
 first | go_end0 | (simp only[Exit.inBlock,Exit.then];refine bodyPost_ret (results_none rfl _ _ _) rfl ?_) | refine bodyPost_ret (results_none rfl _ _ _) rfl ?_
 go_wp2
 go_end0
 exact⟨rfl,rfl⟩
theorem BE (pl:Addr)(b:Nat)(x:Value)(w:World)(hp:w.cell? pl=some (.pointer (some ⟨b,0,none⟩)))(hc:w.cell? ⟨b,5,none⟩=some x)(hz:w.frozen? ⟨b,5,none⟩=false):
  Calls Tryz.prog 190 #[.pointer (some pl)] w fun e w'=>e=.returned (.tuple #[])∧w'=w.drew.setCell ⟨b,5,none⟩ (.int .u32 1):=by
 have hcon:=CD ⟨b,5,none⟩ x w hc hz
 go_enter Tryz.func190,Tryz.ntmps190
 go_wp2_with fail
 refine hcon.mono ?_
 rintro e w' ⟨rfl,rfl⟩
 go_wp2_with fail
 go_end0
 exact⟨rfl,rfl⟩
set_option maxRecDepth 100000 in
set_option maxHeartbeats 1600000 in
theorem CA {w:World}{b:Nat}{left used:Int}{pl:Addr}(hpb:¬ b=pl.block)(hp:w.cell? pl=some (.pointer (some ⟨b,0,none⟩)))(hb:Blk w b (On left used false) 261):
  Calls Tryz.prog 198 #[.pointer (some ⟨b,2,none⟩),.func (.func 190) #[] #[.pointer (some pl)]] w fun e w'=>e=.returned (.tuple #[]) ∧
   w'=((((w.setCell ⟨b,3,none⟩ (.int .i32 1)).drew.setCell ⟨b,5,none⟩ (.int .u32 1)).drew.setCell ⟨b,2,none⟩ (.int .u32 1)).setCell ⟨b,3,none⟩ (.int .i32 0)):=by
 have hnot:∀ (x:Bool) (w:World),(Op.unary .not (.bool x)).run Tryz.prog w=.ok (.bool (!x)) w:=fun _ _=>rfl
 have b1:=hb.set 3 (.int .i32 1)
 have hp1:(w.setCell ⟨b,3,none⟩ (.int .i32 1)).cell? pl=some (.pointer (some ⟨b,0,none⟩)):=(World.cell?_setCell_other _ ⟨b,3,none⟩ pl _ (fun h=>hpb (by rw[←h]))).trans hp
 go_enter_defers Tryz.func198,Tryz.ntmps198
 go_wp2_with fail
 refine(Jg ⟨b,3,none⟩ _ (hb.cell rfl) (hb.free 3)).mono ?_
 rintro e w' ⟨rfl,rfl⟩
 go_wp2_with fail
 refine(KY _ b 2 0 (b1.cell rfl)).mono ?_
 rintro e w' ⟨rfl,rfl⟩
 go_wp2_with fail
 refine(BE pl b (.int .u32 0) _ hp1 (b1.cell rfl) (b1.free 5)).mono ?_
 rintro e w' ⟨rfl,rfl⟩
 have b2:=b1.drew.set 5 (.int .u32 1)
 go_wp2_with fail
 refine leaves_cons (f:=191) (args:=#[.pointer (some ⟨b,2,none⟩),.bool true]) (by simp) (by simp[go_sem]) ?_
 refine(Tt ⟨b,2,none⟩ (.int .u32 0) .returning _ (b2.cell rfl) (b2.free 2)).mono ?_
 rintro e u' w'' ⟨rfl,rfl,rfl⟩
 have b3:=b2.drew.set 2 (.int .u32 1)
 refine leaves_cons (f:=204) (args:=#[.pointer (some ⟨b,3,none⟩)]) (by simp[settle]) (by simp[go_sem]) ?_
 refine(UK ⟨b,3,none⟩ _ _ (b3.cell rfl) (b3.free 3)).mono ?_
 rintro e u' w'' ⟨rfl,rfl,rfl⟩
 simp[Leaves,settle,results,Tryz.results198]
theorem Ea {w:World}{b:Nat}{left used:Int}{pl:Addr}(hpb:¬ b=pl.block)(hp:w.cell? pl=some (.pointer (some ⟨b,0,none⟩)))(hb:Blk w b (On left used false) 261):
  Calls Tryz.prog 189 #[.pointer (some ⟨b,2,none⟩),.func (.func 190) #[] #[.pointer (some pl)]] w fun e w'=>e=.returned (.tuple #[]) ∧
   w'=((((w.setCell ⟨b,3,none⟩ (.int .i32 1)).drew.setCell ⟨b,5,none⟩ (.int .u32 1)).drew.setCell ⟨b,2,none⟩ (.int .u32 1)).setCell ⟨b,3,none⟩ (.int .i32 0)):=by
 have hnot:∀ (x:Bool) (w:World),(Op.unary .not (.bool x)).run Tryz.prog w=.ok (.bool (!x)) w:=fun _ _=>rfl
 have hcon:=KY w b 2 0 (hb.cell rfl)
 have hcon2:=CA hpb hp hb
 go_enter Tryz.func189,Tryz.ntmps189
 go_wp2_with fail
 refine hcon.mono ?_
 rintro e w' ⟨rfl,rfl⟩
 go_wp2_with fail
 refine hcon2.mono ?_
 rintro e w' ⟨rfl,rfl⟩
 go_wp2_with fail
 go_end0
 exact⟨rfl,rfl⟩
theorem E0 {w:World}{b:Nat}{left used:Int}(fv:Value)(hb:Blk w b (On left used true) 261):
  Calls Tryz.prog 189 #[.pointer (some ⟨b,2,none⟩),fv] w fun e w'=>e=.returned (.tuple #[])∧w'=w:=by
 have hnot:∀ (x:Bool) (w:World),(Op.unary .not (.bool x)).run Tryz.prog w=.ok (.bool (!x)) w:=fun _ _=>rfl
 have hcon:=KY w b 2 1 (hb.cell rfl)
 go_enter Tryz.func189,Tryz.ntmps189
 go_wp2_with fail
 refine hcon.mono ?_
 rintro e w' ⟨rfl,rfl⟩
 go_wp2_with fail
 go_end0
 exact⟨rfl,rfl⟩
theorem KL {w:World}{b:Nat}{left:Int}{dry:Bool}(h:XP w b left dry):
  Calls Tryz.prog 177 #[.pointer (some ⟨b,0,none⟩)] w fun e w'=>e=.returned (.tuple #[])∧XP w' b left true∧Off (fun k=>k=b) w w':=by
 have hmf:∀ (fn:Fn) (first cap:Array Value) (w:World),(Instr.makeFunc fn first cap).run Tryz.prog w=.ok (.func fn first cap) w:=fun _ _ _ _=>rfl
 obtain⟨used,h⟩:=h
 have hlt:=h.lt
 obtain⟨wB,hwB⟩:∃ wB,w.alloc (.cells #[.pointer (some ⟨b,0,none⟩)] 233)=wB:=⟨_,rfl⟩
 have B0:Off (fun k=>k=b) w wB:=by rw[←hwB];exact(Off.refl _ _).alloc _
 have x0:Blk wB w.heap.size #[.pointer (some ⟨b,0,none⟩)] 233:=by rw[←hwB];exact Blk.new _ _ _ rfl
 have h1:Blk wB b (On left used dry) 261:=by rw[←hwB];exact h.alloc _
 have c0:wB.cell? ⟨w.heap.size,0,none⟩=some (.pointer (some ⟨b,0,none⟩)):=x0.cell rfl
 clear h x0
 cases dry
 ·have hcon:=Ea (pl:=⟨w.heap.size,0,none⟩) (show ¬ b=w.heap.size by omega) c0 h1
  go_enter Tryz.func177,Tryz.ntmps177
  go_wp2_with fail
  try rw[hwB]
  refine hcon.mono ?_
  rintro e w' ⟨rfl,rfl⟩
  go_wp2_with fail
  go_end0
  have h2:=(((h1.set 3 (.int .i32 1)).drew.set 5 (.int .u32 1)).drew.set 2 (.int .u32 1)).set 3 (.int .i32 0)
  exact⟨rfl,⟨used,h2⟩,((((B0.set ⟨b,3,none⟩ _ (.inl rfl)).drew.set ⟨b,5,none⟩ _ (.inl rfl)).drew.set ⟨b,2,none⟩ _ (.inl rfl)).set ⟨b,3,none⟩ _ (.inl rfl))⟩
 ·have hcon:=E0 (.func (.func 190) #[] #[.pointer (some ⟨w.heap.size,0,none⟩)]) h1
  go_enter Tryz.func177,Tryz.ntmps177
  go_wp2_with fail
  try rw[hwB]
  refine hcon.mono ?_
  rintro e w' ⟨rfl,rfl⟩
  go_wp2_with fail
  go_end0
  exact⟨rfl,⟨used,h1⟩,B0⟩
open Go.Proofs.YtclihnccilkohaaGreat.Nm in
set_option maxHeartbeats 1600000 in
theorem DS {w:World}{b:Nat}{s:Nm.St}(h:XP w b s.left s.dry)(h0:0≤s.left)(h1:s.left≤1000000000):
  Calls Tryz.prog 157 #[.pointer (some ⟨b,0,none⟩),.int .i64 1] w fun e w'=>e=.returned (.bool (spend s).1)∧XP w' b (spend s).2.left (spend s).2.dry∧Off (fun k=>k=b) w w':=by
 obtain⟨left,dry,count,er⟩:=s
 dsimp only at *
 have hd:=AG h
 have hl:=B7 h
 have hnot:∀ (x:Bool) (w:World),(Op.unary .not (.bool x)).run Tryz.prog w=.ok (.bool (!x)) w:=fun _ _=>rfl
 by_cases hc:dry=false∧1≤left
 ·obtain⟨rfl,hc⟩:=hc
  have hg:¬ (1:Int)>left:=by omega
  have hs:Hid (spend ⟨left,false,count,er⟩=(true,⟨left-1,false,count,er⟩)):=by
   show _=_;unfold spend;rw[if_neg (by simp;omega)]
  have ht:=GH h 1 (by omega) hc h1
  rw[hs.out]
  dsimp only
  clear h
  go_enter Tryz.func157,Tryz.ntmps157
  go_wp2_with fail
  refine hd.mono ?_
  rintro e w1 ⟨rfl,rfl⟩
  go_wp2_with fail
  refine hl.mono ?_
  rintro e w1 ⟨rfl,rfl⟩
  go_wp2_with fail
  refine ht.mono ?_
  rintro e w2 ⟨rfl,hB,hbl,hbk⟩
  go_wp2_with fail
  go_ret
  have hz:=hbl 0 (Nat.zero_le _)
  exact⟨rfl,hB,⟨hz.os,hz.tape,hz.output,hz.size,fun k _ hk=>hbk k hk⟩⟩
 ·have hs:Hid (spend ⟨left,dry,count,er⟩=(false,⟨0,true,count,er⟩)):=by
   show _=_;unfold spend
   rw[if_pos]
   cases dry
   ·right;show left<1;simp at hc;omega
   ·left;rfl
  have ht:=GH h left h0 (Int.le_refl _) h1
  rw[Int.sub_self] at ht
  rw[hs.out]
  dsimp only
  cases dry
  ·have hg:(1:Int)>left:=by simp at hc;omega
   clear h hc
   go_enter Tryz.func157,Tryz.ntmps157
   go_wp2_with fail
   refine hd.mono ?_
   rintro e w1 ⟨rfl,rfl⟩
   go_wp2_with fail
   refine hl.mono ?_
   rintro e w1 ⟨rfl,rfl⟩
   go_wp2_with fail
   refine hl.mono ?_
   rintro e w1 ⟨rfl,rfl⟩
   go_wp2_with fail
   refine ht.mono ?_
   rintro e w2 ⟨rfl,hB,hbl,hbk⟩
   go_wp2_with fail
   refine(KL hB).mono ?_
   rintro e w3 ⟨rfl,hB3,hO3⟩
   go_wp2_with fail
   go_ret
   have hz:=hbl 0 (Nat.zero_le _)
   exact⟨rfl,hB3,Off.trans ⟨hz.os,hz.tape,hz.output,hz.size,fun k _ hk=>hbk k hk⟩ hO3⟩
  ·clear h hc
   go_enter Tryz.func157,Tryz.ntmps157
   go_wp2_with fail
   refine hd.mono ?_
   rintro e w1 ⟨rfl,rfl⟩
   go_wp2_with fail
   refine hl.mono ?_
   rintro e w1 ⟨rfl,rfl⟩
   go_wp2_with fail
   refine ht.mono ?_
   rintro e w2 ⟨rfl,hB,hbl,hbk⟩
   go_wp2_with fail
   refine(KL hB).mono ?_
   rintro e w3 ⟨rfl,hB3,hO3⟩
   go_wp2_with fail
   go_ret
   have hz:=hbl 0 (Nat.zero_le _)
   exact⟨rfl,hB3,Off.trans ⟨hz.os,hz.tape,hz.output,hz.size,fun k _ hk=>hbk k hk⟩ hO3⟩
end Go.Proofs.YtclihnccilkohaaGreat
namespace Go.Proofs.YtclihnccilkohaaGreat
open Go.RowKit
def Ve (left:Int)(dry:Bool):Nat→World→Prop:=fun b w=>XP w b left dry
theorem XP.sameD {w w':World}{b:Nat}{left:Int}{dry:Bool}(h:XP w b left dry)(hb:w'.heap[b]?=w.heap[b]?):XP w' b left dry:=by
 obtain⟨u,h⟩:=h;exact⟨u,h.same hb⟩
theorem XP.ltD {w:World}{b:Nat}{left:Int}{dry:Bool}(h:XP w b left dry):b<w.heap.size:=by
 obtain⟨u,h⟩:=h;exact h.lt
theorem XP.ob {m:Mp}{Im:Nat→Nat→Prop}{w:World}{b:Nat}{left:Int}{dry:Bool}(h:XP w b left dry):XB m Im w b (.ob (Ve left dry)):=
 .ob _ h fun _ hb=>XP.sameD h hb
theorem DG {m:Mp}{Im:Nat→Nat→Prop}{w:World}{b:Nat}{J:Nat→World→Prop}(h:XB m Im w b (.ob J)):J b w:=by
 cases h with | ob J h hs=>exact h
theorem Bp {m:Mp}{Im:Nat→Nat→Prop}{w:World}{x:Value}{k:Nat}(h:ZD m Im w x (.o k)):∃ b,x=.pointer (some ⟨b,0,none⟩)∧m.obj k=some b:=by
 cases h with | o k b h=>exact⟨b,rfl,h⟩
theorem JQ {P:Program}{f:FuncId}(hf:XI P f=true){k:Nat}{ds:List D}{J J':Nat→World→Prop}{V:Value}(hs:∀ b w w',J' b w→w'.heap[b]?=w.heap[b]?→J' b w') 
  (h:∀ (m:Mp) (Im:Nat→Nat→Prop) (w:World) (b:Nat) (vs:List Value),J b w→Yc m Im w vs ds→Calls P f (.pointer (some ⟨b,0,none⟩) :: vs).toArray w fun e w'=>e=.returned V∧J' b w'∧Off (fun x=>x=b) w w') :
  ZE P f (.o k :: ds) [(.o k,.ob J)] [(.o k,.ob J')] (.v V):=by
 refine⟨hf,fun cx Fr m Im w vs hmem hargs hR=>?_⟩
 obtain⟨b,q1,q2⟩:=hR (.o k,.ob J) (by simp)
 cases vs with
 | nil=>exact hargs.elim
 | cons x vs=>
  obtain⟨b',rfl,q3⟩:=Bp hargs.1
  rw[q1] at q3;cases q3
  refine(h m Im w b vs (DG q2) hargs.2).mono ?_
  rintro e w' ⟨rfl,h1,h2⟩
  have hki:Z6 Im w w':=fun c o v hi hv=>(World.cell?_of_block (a:=⟨c,o,none⟩) (h2.block c (Ya hv) fun e=>by subst e;exact hmem.onim k c o q1 hi)).trans hv
  refine⟨V,Im,rfl,⟨h2.os,h2.tape,h2.output,h2.size,fun c hc hn=>h2.block c hc fun e=>hn ?_⟩,fun _ _ h=>h,fun _ _ h=>.inl h,fun c o hi=>?_,fun k' c o hk=>?_,.v _,fun p hp=>?_⟩
  ·subst e;exact .inr (.inr ⟨k,.ob J,by simp,q1⟩)
  ·obtain⟨v,hv⟩:=hmem.im c o hi;exact⟨v,hki c o v hi hv⟩
  ·exact(World.frozen?_of_block (a:=⟨c,o,none⟩) (h2.block c (hmem.lt k' c hk) fun e=>by subst e;exact hmem.oblk k k' c q1 hk)).trans (hmem.free k' c o hk)
  ·simp only[List.mem_singleton] at hp
   subst hp
   exact⟨b,q1,.ob _ h1 fun w2 hb=>hs b w' w2 h1 hb⟩
theorem Kc (k:Nat)(s:Nm.St)(h0:0≤s.left)(h1:s.left≤1000000000):ZE Tryz.prog 157 [.o k,.v (.int .i64 1)] [(.o k,.ob (Ve s.left s.dry))] [(.o k,.ob (Ve (Nm.spend s).2.left (Nm.spend s).2.dry))] (.v (.bool (Nm.spend s).1)):=by
 refine JQ (by kernel_rfl) (fun b w w' h hb=>XP.sameD h hb) fun m Im w b vs hJ hv=>?_
 match vs,hv with
 | [x],hv=>
  have:=ZA.1 hv.1;subst this
  exact DS hJ h0 h1
theorem CQ (n:Int)(h0:0≤n)(nm:Nat):Wa Tryz.prog 141 [.v (.int .i64 n)] [] nm [(.o nm,.ob (Ve n false))] (.o nm):=by
 refine⟨by kernel_rfl,fun cx Fr m Im w a σ vs hn hs hv _=>?_⟩
 match vs,hv with
 | [x],hv=>
  have:=ZA.1 hv.1;subst this
  refine(A7 w n h0).mono ?_
  rintro e w' ⟨rfl,h1,h2⟩
  rw[Xu]
  obtain⟨r1,r2⟩:=hs.newObjB hn h2 (Nat.le_refl _) h1.ltD (d:=.ob (Ve n false)) fun m'=>h1.ob
  exact⟨_,m.setO nm w.heap.size,Im,rfl,r1,.o nm _ (by simp[Mp.setO])⟩
section
variable {P:Program} {ops:Array Oper} {Q:Exit→Act→World→Prop} {md:Region.Mode} {S:World→Prop}
end
namespace Tm
variable {σ:Type} (f:σ→Int→σ×Int)
end Tm
inductive ZB:Tm→Prop where
 | mk (b:List Ty) (k i:Int) (a:List Tm):b.length≤100000→a.length≤100000→(∀ t∈a,ZB t)→ZB (.mk b k i a)
theorem ZB.inv {b:List Ty}{k i:Int}{a:List Tm}(h:ZB (.mk b k i a)):b.length≤100000∧a.length≤100000∧∀ t∈a,ZB t:=by
 cases h with
 | mk _ _ _ _ h1 h2 h3=>exact⟨h1,h2,h3⟩
theorem Nm.lift_len (y:Int)(l:List Tm)(m:Int):(Nm.lifts y l m).length=l.length:=by rw[Nm.lifts_map];simp
theorem Nm.lift_take (y:Int)(l:List Tm)(m:Int)(j:Nat)(h:j<l.length):Nm.lifts y (l.take (j+1)) m=Nm.lifts y (l.take j) m++[Nm.lift y l[j] m]:=by
 rw[Nm.lifts_map,Nm.lifts_map,List.take_succ_eq_append_getElem h,List.map_append];rfl
theorem ZB.lift {t:Tm}(y:Int)(h:ZB t):∀ m,ZB (Nm.lift y t m):=by
 induction h with
 | mk b k i a h1 h2 h3 ih=>
  intro m
  rw[Nm.lift_eq]
  refine .mk _ _ _ _ h1 (by rw[Nm.lift_len];exact h2) fun t ht=>?_
  rw[Nm.lifts_map] at ht
  obtain⟨u,hu,rfl⟩:=List.mem_map.1 ht
  exact ih u hu _
def TG_62:TI:=⟨4,true,[Value.slice none 0 0,Value.int IntKind.i64 0,Value.int IntKind.i64 0,Value.slice none 0 0],[(0,1,false),(1,2,true),(3,1,false)],none,64,6,none,false⟩
theorem Dm:TypOk Tryz.prog 62 TG_62:=by constructor <;> kernel_rfl
def TG_3:TI:=⟨1,false,[Value.int IntKind.i64 0],[],none,8,2,none,false⟩
theorem CY:TypOk Tryz.prog 3 TG_3:=by constructor <;> kernel_rfl
def TG_60:TI:=⟨1,false,[Value.slice none 0 0],[],some 62,24,5,none,false⟩
theorem Dl:TypOk Tryz.prog 60 TG_60:=by constructor <;> kernel_rfl
def TG_59:TI:=⟨2,true,[Value.int IntKind.i64 0,Value.int IntKind.i64 0],[(0,1,false),(1,1,false)],none,16,6,none,true⟩
theorem Dk:TypOk Tryz.prog 59 TG_59:=by constructor <;> kernel_rfl
def TG_41:TI:=⟨1,false,[Value.slice none 0 0],[],some 106,24,5,none,false⟩
theorem Dj:TypOk Tryz.prog 41 TG_41:=by constructor <;> kernel_rfl
def TG_106:TI:=⟨2,true,[Value.slice none 0 0,Value.int IntKind.i64 0],[(0,1,false),(1,1,false)],none,32,6,none,false⟩
theorem Gw:TypOk Tryz.prog 106 TG_106:=by constructor <;> kernel_rfl
def TG:List (Nat×TI):=[(62,TG_62),(3,TG_3),(60,TG_60),(59,TG_59),(41,TG_41),(106,TG_106)]
theorem Wz:Zh Tryz.prog TG:=(((((((Zh.nil _).cons Gw).cons Dj).cons Dk).cons Dl).cons CY).cons Dm)
theorem Yh (x:Int):Nm.wr x=IntKind.i64.wrap x:=by rw[IntKind.wrap_i64];unfold Nm.wr RowKit.wrap64;rfl
set_option maxHeartbeats 1000000 in
theorem Ct:∀ (t:Tm) (_:ZB t) (y ins:Int),Zd Tryz.prog 160 [.ag (eTm t),.v (.int .i64 y),.v (.int .i64 ins)] (.ag (eTm (Nm.lift y t ins))):=by
 intro t
 induction t using Tm.ind with
 | h bs k i a ih=>
 intro hw y ins
 obtain⟨w1,w2,w3⟩:=hw.inv
 obtain⟨m,hm⟩:∃ m,IntKind.i64.wrap (ins+(bs.length:Int))=m:=⟨_,rfl⟩
 obtain⟨i',hi'⟩:∃ i',(if k=0∧m≤i then IntKind.i64.wrap (i+y) else i)=i':=⟨_,rfl⟩
 have hL:Nm.lift y (.mk bs k i a) ins=.mk bs k i' (Nm.lifts y a m):=by rw[Nm.lift_eq,Yh,Yh,hm,hi']
 rw[hL]
 refine Z9 0 55 [ResultVar.cell 6 62] Wz (by kernel_rfl) Tryz.func160 rfl Tryz.ntmps160 rfl (by simp) ?dwords ?dbody
 case dwords=>simp[ZF,D.ok,D.oks,Y5,ZQ]
 case dbody=>
  intro cx hnt hn0
  refine Zz ?_;refine Zx [] Wz hnt fun _ z9=>z9 _ _ ?_;refine Zz ?_;refine Zx [(13,.v (.int .i64 bs.length)),(14,.v (.int .i64 m))] Wz hnt fun K hK=>?_;refine And.intro (Zq (by rw[Zr])) ?_;refine And.intro (Zq hm) ?_;refine hK _ _ ?_;clear hK K
  refine XW (τ:=[(.t 1,.v (.int .i64 y)),(.t 2,.v (.int .i64 m)),(.t 3,.p 0 0),(.t 6,.p 1 0),(.c 0 0,.sl 2 (eTys bs) none),(.c 0 1,.v (.int .i64 k)),(.c 0 2,.v (.int .i64 i')),(.c 0 3,.sl 4 (eTms a) none),(.c 1 0,.v (.slice none 0 0)),(.c 1 1,.v (.int .i64 0)),(.c 1 2,.v (.int .i64 0)),(.c 1 3,.v (.slice none 0 0))]) (N1:=2) ?_ ?_
  ·by_cases hk:k=0
   ·subst hk
    by_cases hi:m≤i
    ·rw[if_pos ⟨rfl,hi⟩] at hi';refine Zz ?_;refine Zx [(18,.v (.bool true)),(24,.v (.bool true))] Wz hnt fun K hK=>?_;refine And.intro (Zn.refl _) ?_;refine And.intro (ZZ hi) ?_;refine hK _ _ ?_;clear hK K;refine Zy (t:=true) rfl ?_;rw[if_pos rfl];refine Zx [(30,.v (.int .i64 i'))] Wz hnt fun K hK=>?_;refine And.intro (Zq hi') ?_;refine hK _ _ ?_;clear hK K
     exact Ym VS.toA
    ·rw[if_neg (fun h=>hi h.2)] at hi'
     subst hi'
     refine Zz ?_;refine Zx [(18,.v (.bool true)),(24,.v (.bool false))] Wz hnt fun K hK=>?_;refine And.intro (Zn.refl _) ?_;refine And.intro (Zf hi) ?_;refine hK _ _ ?_;clear hK K;refine Zy (t:=false) rfl ?_;rw[if_neg (by simp)];refine Zw ?_
     exact Ym VS.toA
   ·rw[if_neg (fun h=>hk h.1)] at hi'
    subst hi'
    refine Zz ?_;refine Zx [(18,.v (.bool false))] Wz hnt fun K hK=>?_;refine And.intro (Zf hk) ?_;refine hK _ _ ?_;clear hK K;refine Zy (t:=false) rfl ?_;rw[if_neg (by simp)];refine Zw ?_
    exact Ym VS.toA
  ·refine Zz ?_;refine Zx [(35,.v (.int .i64 a.length))] Wz hnt fun K hK=>?_;refine And.intro (Zq (by rw[Zs])) ?_;refine And.intro ((by omega)) ?_;refine hK _ _ ?_;clear hK K;refine Zz (Zz ?_);refine Zx [(39,.v (.int .i64 a.length))] Wz hnt fun K hK=>?_;refine And.intro (Zq (by rw[Zs])) ?_;refine hK _ _ ?_;clear hK K;refine Zt ?_
   refine Z4 (ι:=Nat) (fun j=>[(.t 40,.v (.int .i64 j)),(.t 7,.sl 4 (eTms (Nm.lifts y (a.take j) m)) (some 5)),(.r 5,.rw 62 4 j),(.t 1,.v (.int .i64 y)),(.t 2,.v (.int .i64 m)),(.t 3,.p 0 0),(.t 6,.p 1 0),(.t 38,.sl 4 (eTms a) none),(.t 39,.v (.int .i64 a.length)),(.c 0 0,.sl 2 (eTys bs) none),(.c 0 1,.v (.int .i64 k)),(.c 0 2,.v (.int .i64 i')),(.c 0 3,.sl 4 (eTms a) none),(.c 1 0,.v (.slice none 0 0)),(.c 1 1,.v (.int .i64 0)),(.c 1 2,.v (.int .i64 0)),(.c 1 3,.v (.slice none 0 0))]) 6 (fun j=>a.length-j) 0 ?_ fun j=>?_
   ·exact(VS.toK (by omega) (by repeat first | exact trivial | refine And.intro (And.intro (by first | rfl | simp[D.ok,D.oks,D.okss,D.okm,YM,Xx,Nm.lifts,eTms]) (by first | exact Or.inl rfl | exact Or.inr ⟨_,rfl,(by repeat first | exact Zn.refl _ | exact Zn.nil _ | exact Zn.untag _ _ _ | refine Zn.ag ?_ | refine Zn.tu ?_ | refine ZS.cons ?_ ?_ | exact ZS.nil),trivial⟩ | simp[get,Key.eq,Nm.lifts,eTms])) ?_))
   ·refine Zz ?_
    by_cases hlt:j<a.length
    ·have hg:=ZX a j hlt
     have hih:=ih a[j] (List.getElem_mem hlt) (w3 _ (List.getElem_mem hlt)) y m
     rw[Zv,Zv] at hih
     have hll:(Nm.lifts y (a.take j) m).length=j:=by rw[Nm.lift_len,List.length_take];omega
     refine Zx [(41,.v (.bool true))] Wz hnt fun K hK=>?_;refine And.intro (ZZ (by omega)) ?_;refine hK _ _ ?_;clear hK K;refine Zz (Zy (t:=true) rfl ?_);rw[if_pos rfl];refine Zw (Zz (Zt (Zz ?_)));refine Zx [(42,.q [.sl 2 (eTys a[j].binds) none,.v (.int .i64 a[j].kind),.v (.int .i64 a[j].index),.sl 4 (eTms a[j].args) none])] Wz hnt fun K hK=>?_;refine And.intro (⟨by omega,by rw[Zs];omega⟩) ?_
     refine And.intro (by rw[Int.toNat_natCast,hg,Zv]) ?_;refine hK _ _ ?_;clear hK K;refine Zx [(50,.sl 4 (eTms (Nm.lifts y (a.take (j+1)) m)) (some 5))] Wz hnt fun K hK=>?_;refine Ze (hih) ?_;refine And.intro (⟨by rw[Zs,hll],by rw[Zs,hll];simp;omega⟩) ?_;refine And.intro (by rw[Nm.lift_take _ _ _ _ hlt,YV,eTms,eTms,Zv (Nm.lift y a[j] m)]) ?_
     refine hK _ _ ?_;clear hK K;refine Zx [(51,.v (.int .i64 ((j+1:Nat):Int)))] Wz hnt fun K hK=>?_;refine And.intro (Zq (by rw[IntWalk.i64_in _ (by omega)];omega)) ?_;refine hK _ _ ?_;clear hK K
     refine⟨j+1,by omega,(VS.toK (by omega) (by repeat first | exact trivial | refine And.intro (And.intro (by first | rfl | simp[D.ok,D.oks,D.okss,D.okm,YM,Xx,Zs,hll]) (by first | exact Or.inl rfl | exact Or.inr ⟨_,rfl,(by repeat first | exact Zn.refl _ | exact Zn.nil _ | exact Zn.untag _ _ _ | refine Zn.ag ?_ | refine Zn.tu ?_ | refine ZS.cons ?_ ?_ | exact ZS.nil),trivial⟩ | simp[get,Key.eq,Zs,hll])) ?_))⟩
    ·skip
     refine Zx [(41,.v (.bool false))] Wz hnt fun K hK=>?_;refine And.intro (Zf (by omega)) ?_;refine hK _ _ ?_;clear hK K;refine Zz (Zy (t:=false) rfl ?_);rw[if_neg (by simp)];refine Zc ?_;refine Zz ?_;refine Zx [] Wz hnt fun _ z9=>z9 _ _ ?_;refine Zz ?_;refine Zx [] Wz hnt fun _ z9=>z9 _ _ ?_;refine Zu ?_
     rw[List.take_of_length_le (by omega)]
     exact⟨.inr rfl,⟨_,rfl,(by repeat first | exact Zn.refl _ | exact Zn.nil _ | exact Zn.untag _ _ _ | refine Zn.ag ?_ | refine Zn.tu ?_ | refine ZS.cons ?_ ?_ | exact ZS.nil)⟩,nofun⟩
def TN1_50:TI:=⟨1,false,[Value.int IntKind.i64 0],[],none,8,2,none,false⟩
theorem HL:TypOk Tryz.prog 50 TN1_50:=by constructor <;> kernel_rfl
def TN1_305:TI:=⟨3,true,[Value.pointer none,Value.int IntKind.i64 0,Value.int IntKind.i64 0],[(0,1,false),(1,1,false),(2,1,false)],none,24,6,none,false⟩
theorem NQ:TypOk Tryz.prog 305 TN1_305:=by constructor <;> kernel_rfl
def TN1_3:TI:=⟨1,false,[Value.int IntKind.i64 0],[],none,8,2,none,false⟩
theorem Dt:TypOk Tryz.prog 3 TN1_3:=by constructor <;> kernel_rfl
def TN1_233:TI:=⟨1,false,[Value.pointer none],[],none,8,4,none,false⟩
theorem NO:TypOk Tryz.prog 233 TN1_233:=by constructor <;> kernel_rfl
def TN1_303:TI:=⟨1,false,[Value.pointer none],[],none,8,4,none,false⟩
theorem NP:TypOk Tryz.prog 303 TN1_303:=by constructor <;> kernel_rfl
def TN1:List (Nat×TI):=[(50,TN1_50),(305,TN1_305),(3,TN1_3),(233,TN1_233),(303,TN1_303)]
theorem Y3:Zh Tryz.prog TN1:=((((((Zh.nil _).cons NP).cons NO).cons Dt).cons NQ).cons HL)
def kW (σ:List (Key×D)):List (Key×D)→Prop
 | []=>True
 | (k,d) :: r=>get σ k=some d∧kW σ r
theorem T4 {σ:List (Key×D)}:∀ {W:List (Key×D)},kW σ W→∀ p∈W,get σ p.1=some p.2∨∃ d,get σ p.1=some d∧Zn d p.2∧(match p.1 with | .c _ _=>True | _=>False)
 | [],_,p,hp=>by cases hp
 | (k,d) :: r,h,p,hp=>by
  rcases List.mem_cons.1 hp with rfl | hp
  ·exact .inl h.1
  ·exact T4 h.2 p hp
def WT (s:Nm.St):List (Key×D):=[(.c 0 0,.o 1),(.c 0 1,.v (.int .i64 s.count)),(.c 0 2,.v (.int .i64 s.e)),(.o 1,.ob (Ve s.left s.dry))]
structure YE (s:Nm.St):Prop where
 left:0≤s.left∧s.left≤1000000000
 count:0≤s.count∧s.count≤100001
 e0:s.e=0→s.count≤100000
theorem TV (s:Nm.St)(c:Int):ZE Tryz.prog 201 [.p 0 0,.v (.int .i64 c)] (WT s) (WT (Nm.fail s c)) (.tu []):=by
 obtain⟨left,dry,count,er⟩:=s
 refine Z9 2 13 [] Y3 (by kernel_rfl) Tryz.func201 rfl Tryz.ntmps201 rfl (by simp) ?dwords ?dbody
 case dwords=>simp[ZF,WT,D.ok,D.oks,ZQ,YF,XC]
 case dbody=>
  intro cx hnt hn0
  refine Zz ?_
  by_cases he:er=0
  ·subst he
   refine Zx [(8,.v (.bool true))] Y3 hnt fun K hK=>?_;refine And.intro (Zn.refl _) ?_;refine hK _ _ ?_;clear hK K;refine Zy (t:=true) rfl ?_;rw[if_pos rfl];refine Zx [] Y3 hnt fun _ z9=>z9 _ _ ?_
   exact⟨.inl rfl,⟨_,rfl,Zn.refl _⟩,T4 (by repeat first | exact trivial | refine And.intro rfl ?_)⟩
  ·skip
   refine Zx [(8,.v (.bool false))] Y3 hnt fun K hK=>?_;refine And.intro (Zf he) ?_;refine hK _ _ ?_;clear hK K;refine Zy (t:=false) rfl ?_;rw[if_neg (by simp)];refine Zw ?_
   have hf:Nm.fail ⟨left,dry,count,er⟩ c=⟨left,dry,count,er⟩:=by simp[Nm.fail,he]
   rw[hf]
   exact⟨.inl rfl,⟨_,rfl,Zn.refl _⟩,T4 (by repeat first | exact trivial | refine And.intro rfl ?_)⟩
theorem Br {T:List (Nat×TI)}{rs:List ResultVar}{V:D}{W σ:List (Key×D)}{e:Exit}{N:Nat}(he:e=.normal∨e=.ret)(h1:P7 T σ rs=some V)(h2:kW σ W):UL T rs V W e σ N:=⟨he,⟨V,h1,Zn.refl _⟩,T4 h2⟩
def Tw (s s1:Nm.St):Bool→List (Key×D)
 | false=>(.t 0,.p 0 0) :: (.t 1,.v (.int .i64 1)) :: WT s
 | true=>(.t 0,.p 0 0) :: (.t 1,.v (.int .i64 0)) :: WT s1
set_option maxHeartbeats 1000000 in
theorem CI (s:Nm.St)(hs:YE s):ZE Tryz.prog 205 [.p 0 0,.v (.int .i64 1)] (WT s) (WT (Nm.unit s).2) (.v (.bool (Nm.unit s).1)):=by
 refine Z9 2 45 [ResultVar.tmp 4] Y3 (by kernel_rfl) Tryz.func205 rfl Tryz.ntmps205 rfl (by simp) ?dwords ?dbody
 case dwords=>simp[ZF,WT,D.ok,D.oks,ZQ,YF,XC]
 case dbody=>
  intro cx hnt hn0
  refine Zz ?_;refine Zx [] Y3 hnt fun _ z9=>z9 _ _ ?_;refine Zz (Zt ?_)
  obtain⟨left,dry,count,er⟩:=s
  obtain⟨⟨hl1,hl2⟩,⟨hc1,hc2⟩,he0⟩:=hs
  dsimp only at hl1 hl2 hc1 hc2 he0
  have hsp:=Kc 1 ⟨left,dry,count,er⟩ hl1 hl2
  by_cases he:er=0
  ·subst he
   have he0:=he0 rfl
   obtain⟨s1,hs1⟩:∃ s1,(Nm.unit ⟨left,dry,count,0⟩).2=s1:=⟨_,rfl⟩
   obtain⟨b1,hb1⟩:∃ b1,(Nm.unit ⟨left,dry,count,0⟩).1=b1:=⟨_,rfl⟩
   have hspe:(Nm.spend ⟨left,dry,count,0⟩).2.e=0∧(Nm.spend ⟨left,dry,count,0⟩).2.count=count:=by unfold Nm.spend;split <;> exact⟨rfl,rfl⟩
   have hb2:D.v (.bool (decide (s1.e=0)))=.v (.bool b1):=by
    rw[←hs1,←hb1]
    unfold Nm.unit
    rw[if_neg (by simp)]
    split
    ·simp
    ·split <;> rename_i h <;> rw[h] at hspe <;> simp only at hspe <;> simp[hspe.1]
   rw[hs1,hb1]
   refine Z4 (ι:=Bool) (Tw ⟨left,dry,count,0⟩ s1) 7 (fun b=>match b with | false=>1 | true=>0) false (VS.toK (by omega) (by repeat first | exact trivial | refine And.intro (And.intro (by first | rfl | simp[D.ok,D.oks,D.okss,D.okm,YM,Xx,Tw,WT]) (by first | exact Or.inl rfl | exact Or.inr ⟨_,rfl,(by repeat first | exact Zn.refl _ | exact Zn.nil _ | exact Zn.untag _ _ _ | refine Zn.ag ?_ | refine Zn.tu ?_ | refine ZS.cons ?_ ?_ | exact ZS.nil),trivial⟩ | simp[get,Key.eq,Tw,WT])) ?_)) fun b=>?_
   cases b with
   | false=>
    dsimp only[Tw,WT]
    refine Zz ?_;refine Zz ?_;refine Zx [] Y3 hnt fun _ z9=>z9 _ _ ?_;refine Zy (t:=true) rfl ?_;rw[if_pos rfl];refine Zw ?_;refine Zz (Zt (Zz (Zt (Zz ?_))))
    by_cases hc:count=100000
    ·have hu:Nm.unit ⟨left,dry,count,0⟩=(false,⟨left,dry,count+1,2⟩):=by simp[Nm.unit,hc]
     rw[hu] at hs1
     subst hs1
     refine Zx [(16,.v (.bool true))] Y3 hnt fun K hK=>?_;refine And.intro (ZZ hc) ?_;refine hK _ _ ?_;clear hK K;refine Zy (t:=true) rfl ?_;rw[if_pos rfl]
     have hf:ZE _ _ _ _ (WT ⟨left,dry,count,2⟩) _:=TV ⟨left,dry,count,0⟩ 2
     dsimp only[WT] at hf
     refine Zx [] Y3 hnt fun K hK=>?_;refine Ze (hf) ?_;refine hK _ _ ?_;clear hK K;refine Zx [(37,.v (.int .i64 (count+1)))] Y3 hnt fun K hK=>?_;refine And.intro (Zq (IntWalk.i64_in _ (by omega))) ?_;refine hK _ _ ?_;clear hK K;refine Zx [] Y3 hnt fun _ z9=>z9 _ _ ?_
     refine⟨true,by decide,VS.toA⟩
    ·skip
     refine Zx [(16,.v (.bool false))] Y3 hnt fun K hK=>?_;refine And.intro (Zf hc) ?_;refine hK _ _ ?_;clear hK K;refine Zy (t:=false) rfl ?_;rw[if_neg (by simp)];refine Zz ?_
     cases hb:(Nm.spend ⟨left,dry,count,0⟩).1 with
     | true=>
      rw[hb] at hsp
      have hu:Nm.unit ⟨left,dry,count,0⟩=(true,⟨(Nm.spend ⟨left,dry,count,0⟩).2.left,(Nm.spend ⟨left,dry,count,0⟩).2.dry,count+1,0⟩):=by
       unfold Nm.unit
       rw[if_neg (by simp),if_neg hc]
       split <;> rename_i h <;> rw[h] at hb hspe <;> cases hb
       obtain⟨h1,h2⟩:=hspe
       simp only at h1 h2
       simp[h,h1,h2]
      rw[hu] at hs1
      subst hs1
      refine Zx [] Y3 hnt fun K hK=>?_;refine Ze (hsp) ?_;refine hK _ _ ?_;clear hK K;refine Zy (t:=false) rfl ?_;rw[if_neg (by simp)];refine Zw ?_;refine Zx [(37,.v (.int .i64 (count+1)))] Y3 hnt fun K hK=>?_;refine And.intro (Zq (IntWalk.i64_in _ (by omega))) ?_;refine hK _ _ ?_;clear hK K;refine Zx [] Y3 hnt fun _ z9=>z9 _ _ ?_
      refine⟨true,by decide,VS.toA⟩
     | false=>
      rw[hb] at hsp
      have hu:Nm.unit ⟨left,dry,count,0⟩=(false,⟨(Nm.spend ⟨left,dry,count,0⟩).2.left,(Nm.spend ⟨left,dry,count,0⟩).2.dry,count+1,11⟩):=by
       unfold Nm.unit
       rw[if_neg (by simp),if_neg hc]
       split <;> rename_i h <;> rw[h] at hb hspe <;> cases hb
       obtain⟨h1,h2⟩:=hspe
       simp only at h1 h2
       simp[h,h1,h2]
      rw[hu] at hs1
      subst hs1
      refine Zx [] Y3 hnt fun K hK=>?_;refine Ze (hsp) ?_;refine hK _ _ ?_;clear hK K;refine Zy (t:=true) rfl ?_;rw[if_pos rfl]
      have hf:ZE _ _ _ _ (WT ⟨(Nm.spend ⟨left,dry,count,0⟩).2.left,(Nm.spend ⟨left,dry,count,0⟩).2.dry,count,11⟩) _:=TV ⟨(Nm.spend ⟨left,dry,count,0⟩).2.left,(Nm.spend ⟨left,dry,count,0⟩).2.dry,count,0⟩ 11
      dsimp only[WT] at hf
      refine Zx [] Y3 hnt fun K hK=>?_;refine Ze (hf) ?_;refine hK _ _ ?_;clear hK K;refine Zx [(37,.v (.int .i64 (count+1)))] Y3 hnt fun K hK=>?_;refine And.intro (Zq (IntWalk.i64_in _ (by omega))) ?_;refine hK _ _ ?_;clear hK K;refine Zx [] Y3 hnt fun _ z9=>z9 _ _ ?_
      refine⟨true,by decide,VS.toA⟩
   | true=>
    dsimp only[Tw,WT]
    refine Zz ?_;refine Zz ?_;refine Zx [] Y3 hnt fun _ z9=>z9 _ _ ?_;refine Zy (t:=false) rfl ?_;rw[if_neg (by simp)];refine Zc ?_;refine Zz ?_;refine Zx [(44,.v (.bool b1))] Y3 hnt fun K hK=>?_;refine And.intro (Zn.of_eq hb2) ?_;refine hK _ _ ?_;clear hK K;refine Zu ?_
    exact Br (.inr rfl) rfl (by repeat first | exact trivial | refine And.intro rfl ?_)
  ·have hu:Nm.unit ⟨left,dry,count,er⟩=(false,⟨left,dry,count,er⟩):=by simp[Nm.unit,he]
   rw[hu]
   refine Z4 (ι:=Bool) (Tw ⟨left,dry,count,er⟩ ⟨left,dry,count,er⟩) 7 (fun b=>match b with | false=>1 | true=>0) false VS.toA fun b=>?_
   cases b with
   | false=>
    dsimp only[Tw,WT]
    refine Zz (Zz ?_);refine Zx [(12,.v (.bool false))] Y3 hnt fun K hK=>?_;refine And.intro (Zf he) ?_;refine hK _ _ ?_;clear hK K;refine Zy (t:=false) rfl ?_;rw[if_neg (by simp)];refine Zc ?_;refine Zz ?_;refine Zx [(44,.v (.bool false))] Y3 hnt fun K hK=>?_;refine And.intro (Zf he) ?_;refine hK _ _ ?_;clear hK K;refine Zu ?_
    exact Br (.inr rfl) rfl (by repeat first | exact trivial | refine And.intro rfl ?_)
   | true=>
    refine Zz (Zz ?_);refine Zx [] Y3 hnt fun _ z9=>z9 _ _ ?_;refine Zy (t:=false) rfl ?_;rw[if_neg (by simp)];refine Zc ?_;refine Zz ?_;refine Zx [(44,.v (.bool false))] Y3 hnt fun K hK=>?_;refine And.intro (Zf he) ?_;refine hK _ _ ?_;clear hK K;refine Zu ?_
    exact Br (.inr rfl) rfl (by repeat first | exact trivial | refine And.intro rfl ?_)
def TLi_62:TI:=⟨4,true,[Value.slice none 0 0,Value.int IntKind.i64 0,Value.int IntKind.i64 0,Value.slice none 0 0],[(0,1,false),(1,2,true),(3,1,false)],none,64,6,none,false⟩
theorem HJ:TypOk Tryz.prog 62 TLi_62:=by constructor <;> kernel_rfl
def TLi_3:TI:=⟨1,false,[Value.int IntKind.i64 0],[],none,8,2,none,false⟩
theorem Dq:TypOk Tryz.prog 3 TLi_3:=by constructor <;> kernel_rfl
def TLi_60:TI:=⟨1,false,[Value.slice none 0 0],[],some 62,24,5,none,false⟩
theorem HI:TypOk Tryz.prog 60 TLi_60:=by constructor <;> kernel_rfl
def TLi_59:TI:=⟨2,true,[Value.int IntKind.i64 0,Value.int IntKind.i64 0],[(0,1,false),(1,1,false)],none,16,6,none,true⟩
theorem HH:TypOk Tryz.prog 59 TLi_59:=by constructor <;> kernel_rfl
def TLi_41:TI:=⟨1,false,[Value.slice none 0 0],[],some 106,24,5,none,false⟩
theorem HF:TypOk Tryz.prog 41 TLi_41:=by constructor <;> kernel_rfl
def TLi_106:TI:=⟨2,true,[Value.slice none 0 0,Value.int IntKind.i64 0],[(0,1,false),(1,1,false)],none,32,6,none,false⟩
theorem NN:TypOk Tryz.prog 106 TLi_106:=by constructor <;> kernel_rfl
def TLi:List (Nat×TI):=[(62,TLi_62),(3,TLi_3),(60,TLi_60),(59,TLi_59),(41,TLi_41),(106,TLi_106)]
theorem YZ:Zh Tryz.prog TLi:=(((((((Zh.nil _).cons NN).cons HF).cons HH).cons HI).cons Dq).cons HJ)
set_option maxHeartbeats 1000000 in
theorem FR:∀ (t:Tm) (_:ZB t) (y ins:Int),Zd Tryz.prog 209 [.ag (eTm t),.v (.int .i64 y),.v (.int .i64 ins)] (.ag (eTm (Nm.lift y t ins))):=by
 intro t
 induction t using Tm.ind with
 | h bs k i a ih=>
 intro hw y ins
 obtain⟨w1,w2,w3⟩:=hw.inv
 obtain⟨m,hm⟩:∃ m,IntKind.i64.wrap (ins+(bs.length:Int))=m:=⟨_,rfl⟩
 obtain⟨i',hi'⟩:∃ i',(if k=0∧m≤i then IntKind.i64.wrap (i+y) else i)=i':=⟨_,rfl⟩
 have hL:Nm.lift y (.mk bs k i a) ins=.mk bs k i' (Nm.lifts y a m):=by rw[Nm.lift_eq,Yh,Yh,hm,hi']
 rw[hL]
 refine Z9 0 55 [ResultVar.cell 6 62] YZ (by kernel_rfl) Tryz.func209 rfl Tryz.ntmps209 rfl (by simp) ?dwords ?dbody
 case dwords=>simp[ZF,D.ok,D.oks,Y5,ZQ]
 case dbody=>
  intro cx hnt hn0
  refine Zz ?_;refine Zx [] YZ hnt fun _ z9=>z9 _ _ ?_;refine Zz ?_;refine Zx [(13,.v (.int .i64 bs.length)),(14,.v (.int .i64 m))] YZ hnt fun K hK=>?_;refine And.intro (Zq (by rw[Zr])) ?_;refine And.intro (Zq hm) ?_;refine hK _ _ ?_;clear hK K
  refine XW (τ:=[(.t 1,.v (.int .i64 y)),(.t 2,.v (.int .i64 m)),(.t 3,.p 0 0),(.t 6,.p 1 0),(.c 0 0,.sl 2 (eTys bs) none),(.c 0 1,.v (.int .i64 k)),(.c 0 2,.v (.int .i64 i')),(.c 0 3,.sl 4 (eTms a) none),(.c 1 0,.v (.slice none 0 0)),(.c 1 1,.v (.int .i64 0)),(.c 1 2,.v (.int .i64 0)),(.c 1 3,.v (.slice none 0 0))]) (N1:=2) ?_ ?_
  ·by_cases hk:k=0
   ·subst hk
    by_cases hi:m≤i
    ·rw[if_pos ⟨rfl,hi⟩] at hi';refine Zz ?_;refine Zx [(18,.v (.bool true)),(24,.v (.bool true))] YZ hnt fun K hK=>?_;refine And.intro (Zn.refl _) ?_;refine And.intro (ZZ hi) ?_;refine hK _ _ ?_;clear hK K;refine Zy (t:=true) rfl ?_;rw[if_pos rfl];refine Zx [(30,.v (.int .i64 i'))] YZ hnt fun K hK=>?_;refine And.intro (Zq hi') ?_;refine hK _ _ ?_;clear hK K
     exact Ym VS.toA
    ·rw[if_neg (fun h=>hi h.2)] at hi'
     subst hi'
     refine Zz ?_;refine Zx [(18,.v (.bool true)),(24,.v (.bool false))] YZ hnt fun K hK=>?_;refine And.intro (Zn.refl _) ?_;refine And.intro (Zf hi) ?_;refine hK _ _ ?_;clear hK K;refine Zy (t:=false) rfl ?_;rw[if_neg (by simp)];refine Zw ?_
     exact Ym VS.toA
   ·rw[if_neg (fun h=>hk h.1)] at hi'
    subst hi'
    refine Zz ?_;refine Zx [(18,.v (.bool false))] YZ hnt fun K hK=>?_;refine And.intro (Zf hk) ?_;refine hK _ _ ?_;clear hK K;refine Zy (t:=false) rfl ?_;rw[if_neg (by simp)];refine Zw ?_
    exact Ym VS.toA
  ·refine Zz ?_;refine Zx [(35,.v (.int .i64 a.length))] YZ hnt fun K hK=>?_;refine And.intro (Zq (by rw[Zs])) ?_;refine And.intro ((by omega)) ?_;refine hK _ _ ?_;clear hK K;refine Zz (Zz ?_);refine Zx [(39,.v (.int .i64 a.length))] YZ hnt fun K hK=>?_;refine And.intro (Zq (by rw[Zs])) ?_;refine hK _ _ ?_;clear hK K;refine Zt ?_
   refine Z4 (ι:=Nat) (fun j=>[(.t 40,.v (.int .i64 j)),(.t 7,.sl 4 (eTms (Nm.lifts y (a.take j) m)) (some 5)),(.r 5,.rw 62 4 j),(.t 1,.v (.int .i64 y)),(.t 2,.v (.int .i64 m)),(.t 3,.p 0 0),(.t 6,.p 1 0),(.t 38,.sl 4 (eTms a) none),(.t 39,.v (.int .i64 a.length)),(.c 0 0,.sl 2 (eTys bs) none),(.c 0 1,.v (.int .i64 k)),(.c 0 2,.v (.int .i64 i')),(.c 0 3,.sl 4 (eTms a) none),(.c 1 0,.v (.slice none 0 0)),(.c 1 1,.v (.int .i64 0)),(.c 1 2,.v (.int .i64 0)),(.c 1 3,.v (.slice none 0 0))]) 6 (fun j=>a.length-j) 0 ?_ fun j=>?_
   ·exact(VS.toK (by omega) (by repeat first | exact trivial | refine And.intro (And.intro (by first | rfl | simp[D.ok,D.oks,D.okss,D.okm,YM,Xx,Nm.lifts,eTms]) (by first | exact Or.inl rfl | exact Or.inr ⟨_,rfl,(by repeat first | exact Zn.refl _ | exact Zn.nil _ | exact Zn.untag _ _ _ | refine Zn.ag ?_ | refine Zn.tu ?_ | refine ZS.cons ?_ ?_ | exact ZS.nil),trivial⟩ | simp[get,Key.eq,Nm.lifts,eTms])) ?_))
   ·refine Zz ?_
    by_cases hlt:j<a.length
    ·have hg:=ZX a j hlt
     have hih:=ih a[j] (List.getElem_mem hlt) (w3 _ (List.getElem_mem hlt)) y m
     rw[Zv,Zv] at hih
     have hll:(Nm.lifts y (a.take j) m).length=j:=by rw[Nm.lift_len,List.length_take];omega
     refine Zx [(41,.v (.bool true))] YZ hnt fun K hK=>?_;refine And.intro (ZZ (by omega)) ?_;refine hK _ _ ?_;clear hK K;refine Zz (Zy (t:=true) rfl ?_);rw[if_pos rfl];refine Zw (Zz (Zt (Zz ?_)));refine Zx [(42,.q [.sl 2 (eTys a[j].binds) none,.v (.int .i64 a[j].kind),.v (.int .i64 a[j].index),.sl 4 (eTms a[j].args) none])] YZ hnt fun K hK=>?_
     refine And.intro (⟨by omega,by rw[Zs];omega⟩) ?_;refine And.intro (by rw[Int.toNat_natCast,hg,Zv]) ?_;refine hK _ _ ?_;clear hK K;refine Zx [(50,.sl 4 (eTms (Nm.lifts y (a.take (j+1)) m)) (some 5))] YZ hnt fun K hK=>?_;refine Ze (hih) ?_;refine And.intro (⟨by rw[Zs,hll],by rw[Zs,hll];simp;omega⟩) ?_;refine And.intro (by rw[Nm.lift_take _ _ _ _ hlt,YV,eTms,eTms,Zv (Nm.lift y a[j] m)]) ?_
     refine hK _ _ ?_;clear hK K;refine Zx [(51,.v (.int .i64 ((j+1:Nat):Int)))] YZ hnt fun K hK=>?_;refine And.intro (Zq (by rw[IntWalk.i64_in _ (by omega)];omega)) ?_;refine hK _ _ ?_;clear hK K
     refine⟨j+1,by omega,(VS.toK (by omega) (by repeat first | exact trivial | refine And.intro (And.intro (by first | rfl | simp[D.ok,D.oks,D.okss,D.okm,YM,Xx,Zs,hll]) (by first | exact Or.inl rfl | exact Or.inr ⟨_,rfl,(by repeat first | exact Zn.refl _ | exact Zn.nil _ | exact Zn.untag _ _ _ | refine Zn.ag ?_ | refine Zn.tu ?_ | refine ZS.cons ?_ ?_ | exact ZS.nil),trivial⟩ | simp[get,Key.eq,Zs,hll])) ?_))⟩
    ·skip
     refine Zx [(41,.v (.bool false))] YZ hnt fun K hK=>?_;refine And.intro (Zf (by omega)) ?_;refine hK _ _ ?_;clear hK K;refine Zz (Zy (t:=false) rfl ?_);rw[if_neg (by simp)];refine Zc ?_;refine Zz ?_;refine Zx [] YZ hnt fun _ z9=>z9 _ _ ?_;refine Zz ?_;refine Zx [] YZ hnt fun _ z9=>z9 _ _ ?_;refine Zu ?_
     rw[List.take_of_length_le (by omega)]
     exact⟨.inr rfl,⟨_,rfl,(by repeat first | exact Zn.refl _ | exact Zn.nil _ | exact Zn.untag _ _ _ | refine Zn.ag ?_ | refine Zn.tu ?_ | refine ZS.cons ?_ ?_ | exact ZS.nil)⟩,nofun⟩
theorem Eu (t:Tm)(hw:ZB t)(y:Int):Zd Tryz.prog 206 [.ag (eTm t),.v (.int .i64 y)] (.ag (eTm (Nm.grown t y))):=by
 have hl:=FR t hw y 0
 rw[Zv,Zv] at hl
 obtain⟨bs,k,i,a⟩:=t
 refine Z9 0 11 [ResultVar.cell 4 62] YZ (by kernel_rfl) Tryz.func206 rfl Tryz.ntmps206 rfl (by simp) ?dwords ?dbody
 case dwords=>simp[ZF,D.ok,D.oks,Y5,ZQ]
 case dbody=>
  intro cx hnt hn0
  refine Zz ?_;refine Zx [] YZ hnt fun _ z9=>z9 _ _ ?_;refine Zz (Zz ?_)
  by_cases hy:y=0
  ·skip
   refine Zx [(6,.v (.bool true))] YZ hnt fun K hK=>?_;refine And.intro (ZZ hy) ?_;refine hK _ _ ?_;clear hK K;refine Zy (t:=true) rfl ?_;rw[if_pos rfl];refine Zz ?_;refine Zx [] YZ hnt fun _ z9=>z9 _ _ ?_;refine Zu ?_
   have hg:Nm.grown (.mk bs k i a) y=.mk bs k i a:=by simp[Nm.grown,hy]
   rw[hg]
   exact⟨.inr rfl,⟨_,rfl,Zn.refl _⟩,nofun⟩
  ·skip
   refine Zx [(6,.v (.bool false))] YZ hnt fun K hK=>?_;refine And.intro (Zf hy) ?_;refine hK _ _ ?_;clear hK K;refine Zy (t:=false) rfl ?_;rw[if_neg (by simp)];refine Zw ?_;refine Zz ?_;refine Zx [] YZ hnt fun K hK=>?_;refine Ze (hl) ?_;refine hK _ _ ?_;clear hK K;refine Zu ?_
   have hg:Nm.grown (.mk bs k i a) y=Nm.lift y (.mk bs k i a) 0:=by simp[Nm.grown,hy]
   rw[hg]
   exact⟨.inr rfl,⟨_,rfl,Zn.refl _⟩,nofun⟩
end Go.Proofs.YtclihnccilkohaaGreat
