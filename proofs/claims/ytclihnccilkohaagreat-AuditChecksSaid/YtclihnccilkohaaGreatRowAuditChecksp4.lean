/-
  Parts of the proof.
-/
import Derived.Test.YtclihnccilkohaaGreatRowAuditChecksp3
import Derived.Test.YtclihnccilkohaaGreatRowAuditChecksp1
import Derived.RegionTactic
import Derived.Test.YtclihnccilkohaaGreatProg
import Derived.Lib.Hide
import Derived.Laws.LoneSync
import Derived.Deep.RegionHeld3
import Derived.Deep.DrawnRows
import Derived.Tactics2
import Derived.Defers
import Derived.Laws.Pointers
import Derived.RegionCalls
import Derived.ChangeAlike
import Derived.Laws.NewBlocks
import Derived.OwnWalk
set_option maxRecDepth 100000
set_option maxHeartbeats 1000000
set_option linter.unusedVariables false
set_option linter.unusedSimpArgs false
namespace Go.Proofs.YtclihnccilkohaaGreat
open Go.RowKit
def Ik (T:List (Nat×TI))(σ:List (Key×D)):ResultVar->Option D
 | .tmp t=>get σ (.t t)
 | .cell x t=>(get σ (.t x)).bind (K8 T σ t)
def MH (T:List (Nat×TI))(σ:List (Key×D)):List ResultVar->Option (List D)
 | []=>some []
 | r :: l=>match Ik T σ r with
  | some d=>(MH T σ l).map (d :: ·)
  | none=>none
def PH (T:List (Nat×TI))(σ:List (Key×D))(rs:List ResultVar):Option D:=match MH T σ rs with
 | some [d]=>some d
 | some ds=>some (.tu ds)
 | none=>none
def ZM (R:List (Key×D)):List Nat:=R.filterMap λ p=>match p.1 with | .c k _=>some k | .o k=>some k | _=>none
def Xa (R:List (Key×D)):Nat->Bool:=λ k=>(ZM R).contains k
def Vt:Nat->Bool:=λ _=>false
def TN (T:List (Nat×TI))(rs:List ResultVar)(V:D)(W:List (Key×D)):Exit->List (Key×D)->Nat->Prop:=λ e σ _=>
 (e=.normal∨e=.ret)/\(∃ V',PH T σ rs=some V'/\Zm V' V)/\∀ p∈W,get σ p.1=some p.2∨∃ d,get σ p.1=some d/\Zm d p.2/\(match p.1 with | .c _ _=>True | _=>False)
def YQ:Nat->List D->List (Key×D)->List (Key×D)
 | _,[],R=>R
 | i,d :: l,R=>(.t i,d) :: YQ (i+1) l R
def ZA (args:List D)(R W:List (Key×D))(V:D)(N0:Nat):Bool:=
 args.all (λ d=>d.ok (Xa R) Vt)&&R.all (λ p=>p.2.ok (Xa R) Vt&&WO p.1)&&W.all (λ p=>p.2.ok (Xa R) Vt&&(match p.1 with | .c k _=>Xa R k | .o k=>Xa R k | .j=>R.any λ p=>GK p.1 | _=>false))&&V.ok (Xa R) Vt&&(ZM R).all λ k=>decide (k<N0)
section
variable {P:Program} {T:List (Nat×TI)} {cx:Cx} {Fr Fr':Nat->Prop} {m m':Mp} {Im Im':Nat->Nat->Prop} {w w':World} {a:Act} {σ σ' τ:List (Key×D)} {N N':Nat}
theorem MI (hT:Zd P T)(h:St cx Fr m Im w a σ){r:ResultVar}{d:D}(hd:Ik T σ r=some d):∃ v,(match r with | .tmp t=>pure (a.tmps.getD t undef) | .cell x t=>do loadVar t (<-asAddr (a.tmps.getD x undef)):Sem Value).run P w=.ok v w/\Yz m Im w v d:=by
 cases r with
 | tmp t=>exact⟨_,by simp,h.tm t d hd⟩
 | cell x t=>
  obtain⟨e,h1,h2⟩:=bind_some hd
  have hx:=h.tm x e h1
  obtain⟨v,r1,r2⟩:=Nw (P:=P) hT h hx h2
  refine⟨v,?_,r2⟩
  unfold K8 at h2
  split at h2
  ·cases h2
  split at h2
  ·obtain⟨b,hb,ex⟩:=Re hx
   show (do loadVar t (<-asAddr (a.tmps.getD x undef)):Sem Value).run P w=_
   rw[ex] at r1 ⊢
   simpa[Instr.loadAt,Instr.sureAddr,asAddr] using r1
  ·obtain⟨b,o,ex,_⟩:=QK (bl:=0) (off:=0) hx
   show (do loadVar t (<-asAddr (a.tmps.getD x undef)):Sem Value).run P w=_
   rw[ex] at r1 ⊢
   simpa[Instr.loadAt,Instr.sureAddr,asAddr] using r1
  ·show (do loadVar t (<-asAddr (a.tmps.getD x undef)):Sem Value).run P w=_
   generalize a.tmps.getD x undef=xv at hx r1 ⊢
   cases hx with
   | pr _ _ _ _ _ b hh=>simpa[Instr.loadAt,Instr.sureAddr,asAddr] using r1
  cases h2
theorem Sh (hT:Zd P T)(h:St cx Fr m Im w a σ):∀ {rs:List ResultVar} {ds:List D},MH T σ rs=some ds->∃ vs:List Value,(rs.mapM (fun(r:ResultVar)=>(match r with | .tmp t=>pure (a.tmps.getD t undef) | .cell x t=>do loadVar t (<-asAddr (a.tmps.getD x undef)):Sem Value))).run P w=.ok vs w/\YU m Im w vs ds
 | [],ds,hd=>by cases hd;exact⟨[],by simp,trivial⟩
 | r :: rs,ds,hd=>by
  simp only[MH] at hd
  cases hv:Ik T σ r with
  | none=>rw[hv] at hd;cases hd
  | some d=>
   rw[hv] at hd
   cases hl:MH T σ rs with
   | none=>rw[hl] at hd;cases hd
   | some ds'=>
    rw[hl] at hd
    cases hd
    obtain⟨v,r1,r2⟩:=MI hT h hv
    obtain⟨vs,q1,q2⟩:=Sh hT h hl
    exact⟨v :: vs,by simp only[List.mapM_cons,Sem.run_bind,r1,Result.andThen_ok,q1,Sem.run_pure],r2,q2⟩
theorem QM (hT:Zd P T)(h:St cx Fr m Im w a σ){fn:Func}{d:D}(hd:PH T σ fn.results.toList=some d):∃ v,(results fn a.tmps).run P w=.ok v w/\Yz m Im w v d:=by
 unfold PH at hd
 have hrun:∀ vs:List Value,(fn.results.toList.mapM (fun(r:ResultVar)=>(match r with | .tmp t=>pure (a.tmps.getD t undef) | .cell x t=>do loadVar t (<-asAddr (a.tmps.getD x undef)):Sem Value))).run P w=.ok vs w ->
   (results fn a.tmps).run P w=.ok (if h:vs.length=1 then vs[0] else .tuple vs.toArray) w:=λ vs hv=>by
  unfold results
  rw[Array.mapM_eq_mapM_toList]
  simp only[Sem.run_bind,map_eq_pure_bind,bind_assoc]
  erw [hv]
  simp
 split at hd
 ·rename_i d' hl
  cases hd
  obtain⟨vs,q1,q2⟩:=Sh hT h hl
  cases vs with
  | nil=>exact q2.elim
  | cons v vs=>
   cases vs with
   | nil=>exact⟨v,by simpa using hrun _ q1,q2.1⟩
   | cons _ _=>exact q2.2.elim
 ·rename_i ds hne hl
  cases hd
  obtain⟨vs,q1,q2⟩:=Sh hT h hl
  have hlen:=(ZS.1 q2).1
  have:¬ vs.length=1:=λ e=>by
   rw[e] at hlen
   match ds,hlen with
   | [d],_=>exact hne d rfl
  exact⟨_,by simpa[this] using hrun _ q1,Qy.2 ⟨vs,rfl,q2⟩⟩
 cases hd
theorem T6 {R:List (Key×D)}:∀ (ds:List D) (i x:Nat) {d:D},get (YQ i ds R) (.t x)=some d->(∃ j,x=i+j/\ds[j]?=some d)∨get R (.t x)=some d
 | [],i,x,d,h=>.inr h
 | e :: ds,i,x,d,h=>by
  simp only[YQ,get] at h
  split at h
  ·rename_i he
   have:=Key.eq_iff.1 he;cases this
   cases h
   exact .inl ⟨0,rfl,rfl⟩
  rcases T6 ds (i+1) x h with⟨j,h1,h2⟩ | h
  ·exact .inl ⟨j+1,by omega,by simpa using h2⟩
  exact .inr h
theorem XE {R:List (Key×D)}{k:Key}(hk:∀ x,k≠.t x):∀ (ds:List D) (i:Nat),get (YQ i ds R) k=get R k
 | [],i=>rfl
 | e :: ds,i=>by
  simp only[YQ,get]
  rw[if_neg (by rw[Key.eq_iff];exact λ e=>hk i e.symm)]
  exact XE hk ds (i+1)
theorem W5 {R:List (Key×D)}{k off:Nat}{d:D}(h:(Key.c k off,d)∈R):Xa R k=true:=by
 unfold Xa
 rw[List.contains_iff_mem]
 exact List.mem_filterMap.2 ⟨_,h,rfl⟩
theorem Vs {R:List (Key×D)}{k:Nat}{d:D}(h:(Key.o k,d)∈R):Xa R k=true:=by
 unfold Xa
 rw[List.contains_iff_mem]
 exact List.mem_filterMap.2 ⟨_,h,rfl⟩
theorem WE {R:List (Key×D)}{k:Nat}(h:Xa R k=true):(∃ off d,(Key.c k off,d)∈R)∨∃ d,(Key.o k,d)∈R:=by
 unfold Xa at h
 rw[List.contains_iff_mem] at h
 obtain⟨p,hp,e⟩:=List.mem_filterMap.1 h
 obtain⟨key,d⟩:=p
 cases key with
 | c k' off=>simp at e;subst e;exact .inl ⟨off,d,hp⟩
 | o k'=>simp at e;subst e;exact .inr ⟨d,hp⟩
 | _=>cases e
theorem ZX {f:FuncId}{fn:Func}{c:Code}{args:List D}{R W:List (Key×D)}{V:D}(N0 nt:Nat)(rs:List ResultVar)(hT:Zd P T)(hen:WV P f=true)(hf:P.funcs[f]?=some fn)(hb:fn.body=some c)(hnt:fn.ntmps=nt)(hrs:fn.results.toList=rs) 
  (hal:args.length<=nt) (hw:ZA args R W V N0=true) (h:∀ cx:Cx,cx.nt=nt->cx.n0=N0->DW P cx c (YQ 0 args R) N0 (TN T rs V W)):ZB P f args R W V:=by
 refine⟨hen,λ cx Fr m Im w vs hmem hargs hR=>?_⟩
 simp only[ZA,Bool.and_eq_true,List.all_eq_true,decide_eq_true_eq] at hw
 obtain⟨⟨⟨⟨w1,w2⟩,w3⟩,w4⟩,w5⟩:=hw
 have hin:∀ k b,Xa R k=true->m.blk k=some b->Q1 m R b:=λ k b hk hb=>by
  rcases WE hk with⟨off,d,hm⟩ | ⟨d,hm⟩
  ·exact .inl ⟨k,off,d,hm,hb⟩
  obtain⟨b',q1,_⟩:=hR _ hm
  have:=hmem.dis k b hb
  rw[this] at q1;cases q1
 have hino:∀ k b,Xa R k=true->m.obj k=some b->Q1 m R b:=λ k b hk hb=>by
  rcases WE hk with⟨off,d,hm⟩ | ⟨d,hm⟩
  ·obtain⟨b',v,q1,_⟩:=hR _ hm
   have:=hmem.dis k b' q1
   rw[this] at hb;cases hb
  exact .inr (.inr ⟨k,d,hm,hb⟩)
 have hlt:∀ k,Xa R k=true->k<N0:=λ k hk=>w5 k (by unfold Xa at hk;rwa [List.contains_iff_mem] at hk)
 have hX:∀ X J,(Key.j,D.j X J)∈R->JX cx m Im w X J:=λ X J hm=>by
  obtain⟨X',J',e,hx⟩:=hR _ hm
  cases e;exact hx
 have hle:=Mp.cut_le m (Xa R) Vt
 refine calls_of_wp hf hb ?_
 let cx':Cx:={ w0:=w,C:=Q1 m R,Im0:=Im,m0:=m.cut (Xa R) Vt,nt:=nt,n0:=N0,h0:=λ k b hk=>hlt k (Mp.cut_blk hk).1,h0o:=λ k b hk=>hlt k (Mp.cut_obj hk).1,h0r:=λ g R hg=>absurd (Mp.cut_row hg).1 (by simp[Vt]) }
 have hvl:vs.length=args.length:=(ZS.1 hargs).1
 have hst:St cx' (λ k=>N0<=k) (m.cut (Xa R) Vt) Im w { tmps:=vs.toArray++Array.replicate (fn.ntmps-vs.toArray.size) undef,defers:=[] } (YQ 0 args R):=by
  refine⟨⟨Off.refl _ _,hmem.im,λ b o hi=>.inl hi,λ b o hi=>hi,λ k b hk=>?_,λ k b hk=>hmem.lt k b (Mp.cut_blk hk).2,λ k b o hk=>hmem.free k b o (Mp.cut_blk hk).2,λ k b o hk=>hmem.nim k b o (Mp.cut_blk hk).2,λ k k' b hk hk'=>hmem.inj k k' b (Mp.cut_blk hk).2 (Mp.cut_blk hk').2,
    λ g R' hg=>?_,λ g R' b o hg=>?_,λ g R' b k hg=>?_,λ g g' R' R'' b hg=>?_,λ k hk=>⟨?_,?_,?_⟩,λ k b hk=>hk,λ k b hk=>hk,λ k b hk=>.inl (hino k b (Mp.cut_obj hk).1 (Mp.cut_obj hk).2),λ k b hk=>hmem.olt k b (Mp.cut_obj hk).2,λ k b o hk=>hmem.onim k b o (Mp.cut_obj hk).2,λ k k' b hk hk'=>hmem.oinj k k' b (Mp.cut_obj hk).2 (Mp.cut_obj hk').2,λ k k' b hk hk'=>hmem.oblk k k' b (Mp.cut_obj hk).2 (Mp.cut_blk hk').2,λ k g R' b hk hg=>absurd (Mp.cut_row hg).1 (by simp[Vt]),λ k b hk=>?_,Z8.refl _ _,λ g R b hg=>absurd (Mp.cut_row hg).1 (by simp[Vt]),λ g R hg=>absurd (Mp.cut_row hg).1 (by simp[Vt])⟩,rfl,?_,λ x d hx=>?_,λ k off d hx=>?_,λ g d hx=>?_,λ d hx=>?_,λ k d hx=>?_⟩
  ·obtain⟨h1,h2⟩:=Mp.cut_blk hk
   exact .inl (hin k b h1 h2)
  ·exact absurd (Mp.cut_row hg).1 (by simp[Vt])
  ·exact absurd (Mp.cut_row hg).1 (by simp[Vt])
  ·exact absurd (Mp.cut_row hg).1 (by simp[Vt])
  ·exact absurd (Mp.cut_row hg).1 (by simp[Vt])
  ·by_cases hk2:Xa R k=true
   ·have:=hlt k hk2;omega
   simp[Mp.cut,hk2]
  ·simp[Mp.cut,Vt]
  ·by_cases hk2:Xa R k=true
   ·have:=hlt k hk2;omega
   simp[Mp.cut,hk2]
  ·have:=hmem.dis k b (Mp.cut_blk hk).2
   show (if _ then m.obj k else none)=none
   rw[this];simp
  ·simp[cx',hvl,hnt];omega
  ·rcases T6 args 0 x hx with⟨j,h1,h2⟩ | hx
   ·have hj:j<args.length:=by
     rcases Nat.lt_or_ge j args.length with h' | h'
     ·exact h'
     rw[List.getElem?_eq_none h'] at h2;cases h2
    rw[List.getElem?_eq_getElem hj] at h2
    cases h2
    have hr:=(ZS.1 hargs).2 j hj
    have hx':x=j:=by omega
    subst hx'
    have:(vs.toArray++Array.replicate (fn.ntmps-vs.toArray.size) undef).getD x undef=vs.getD x undef:=by
     have hx2:x<vs.length:=by omega
     rw[Array.getD_eq_getD_getElem?,Array.getElem?_append_left (by simpa using hx2),List.getD_eq_getElem?_getD]
     simp
    show Yz _ _ _ ((vs.toArray++Array.replicate (fn.ntmps-vs.toArray.size) undef).getD x undef) _
    rw[this]
    exact hr.cut (w1 _ (List.getElem_mem hj))
   ·have:=(w2 _ (Xm hx)).2
    cases this
  ·rw[XE (λ x=>by simp) args 0] at hx
   have hm:=Xm hx
   obtain⟨b,v,q1,q2,q3⟩:=hR _ hm
   exact⟨b,v,by simp only[Mp.cut,W5 hm,if_true];exact q1,q2,q3.cut (w2 _ hm).1⟩
  ·rw[XE (λ x=>by simp) args 0] at hx
   have:=(w2 _ (Xm hx)).2
   cases this
  ·rw[XE (λ x=>by simp) args 0] at hx
   have hm:=Xm hx
   obtain⟨X,J,e,hx⟩:=hR _ hm
   refine⟨X,J,e,{ hx with own:=λ b hb=>.inl (.inr (.inl ⟨X,J,e ▸ hm,hb⟩)),blk:=λ b k hb hk=>hx.blk b k hb (Mp.cut_blk hk).2,row:=λ b g R' hb hg=>hx.row b g R' hb (Mp.cut_row hg).2,obj:=λ b k hb hk=>hx.obj b k hb (Mp.cut_obj hk).2 }⟩
  rw[XE (λ x=>by simp) args 0] at hx
  have hm:=Xm hx
  obtain⟨b,q1,q2⟩:=hR _ hm
  exact⟨b,by simp only[Mp.cut,Vs hm,if_true];exact q1,q2.cut (w2 _ hm).1⟩
 have hwp:=h cx' rfl rfl _ Im w _ hst
 refine Code.wp_mono (λ e a' w' ⟨σ',N',m',Im',⟨hq1,⟨V',hq2,hq3⟩,hq4⟩,hs⟩=>?_) hwp
 obtain⟨v,r1,r2⟩:=QM (P:=P) (fn:=fn) hT hs (by rw[hrs];exact hq2)
 have hm':∀ k b,Xa R k=true->m'.blk k=some b->m.blk k=some b:=λ k b hk hb=>by
  rcases WE hk with⟨off,d,hm⟩ | ⟨d,hm⟩
  ·obtain⟨b',_,q1,_⟩:=hR _ hm
   have:=hs.mem.m0 k b' (by show (m.cut (Xa R) Vt).blk k=some b';simp[Mp.cut,hk,q1])
   rw[this] at hb;cases hb;exact q1
  obtain⟨b',q1,_⟩:=hR _ hm
  have:=hs.mem.m0o k b' (by show (m.cut (Xa R) Vt).obj k=some b';simp[Mp.cut,hk,q1])
  rw[hs.mem.dis k b hb] at this;cases this
 have hmo':∀ k b,Xa R k=true->m'.obj k=some b->m.obj k=some b:=λ k b hk hb=>by
  rcases WE hk with⟨off,d,hm⟩ | ⟨d,hm⟩
  ·obtain⟨b',_,q1,_⟩:=hR _ hm
   have:=hs.mem.m0 k b' (by show (m.cut (Xa R) Vt).blk k=some b';simp[Mp.cut,hk,q1])
   rw[hs.mem.dis k b' this] at hb;cases hb
  obtain⟨b',q1,_⟩:=hR _ hm
  have:=hs.mem.m0o k b' (by show (m.cut (Xa R) Vt).obj k=some b';simp[Mp.cut,hk,q1])
  rw[this] at hb;cases hb;exact q1
 have hcutle:(m'.cut (Xa R) Vt).le m:=⟨λ k b hk=>hm' k b (Mp.cut_blk hk).1 (Mp.cut_blk hk).2,λ g R' hg=>absurd (Mp.cut_row hg).1 (by simp[Vt]),λ k b hk=>hmo' k b (Mp.cut_obj hk).1 (Mp.cut_obj hk).2⟩
 have hrel:∀ {x d},Yz m' Im' w' x d->d.ok (Xa R) Vt=true->Yz m Im' w' x d:=λ hx hd=>(hx.cut hd).mono hcutle (Z8.refl _ _) λ _ _ h=>h
 have hV:Yz m Im' w' v V:=by
  exact hrel (hq3 _ _ _ _ r2) w4
 have hnT:∀ k b,m.blk k=some b->Xa R k=false->¬ Q1 m R b:=λ k b hk hn ht=>by
  rcases ht with⟨k',off,d,hm,hb⟩ | ⟨X,J,hm,hb⟩ | ⟨k',d,hm,hb⟩
  ·have:=hmem.inj k k' b hk hb
   subst this
   rw[W5 hm] at hn;cases hn
  ·exact(hX X J hm).blk b k hb hk
  exact hmem.oblk k' k b hb hk
 have hfin:∃ v' Im'',Ending.returned v=.returned v'/\Off (Q1 m R) w w'/\(∀ b o,Im b o->Im'' b o)/\(∀ b o,Im'' b o->Im b o∨w.heap.size<=b)/\(∀ b o,Im'' b o->∃ v,w'.cell? ⟨b,o,none⟩=some v) /\
   (∀ k b o,m.blk k=some b->w'.frozen? ⟨b,o,none⟩=false)/\Yz m Im'' w' v' V/\Holds cx m Im'' w' W:=by
  refine⟨v,Im',rfl,hs.mem.off,λ b o hi=>hs.mem.im0 b o hi,λ b o hi=>(hs.mem.imb b o hi).imp id λ h=>h.elim id λ h=>h.elim,hs.mem.im,λ k b o hk=>?_,hV,λ p hp=>?_⟩
  ·by_cases hn:Xa R k=true
   ·have:=hs.mem.m0 k b (by show (m.cut (Xa R) Vt).blk k=some b;simp[Mp.cut,hn,hk])
    exact hs.mem.free k b o this
   have hn:Xa R k=false:=by simpa using hn
   exact(World.frozen?_of_block (a:=⟨b,o,none⟩) (hs.mem.off.block b (hmem.lt k b hk) (hnT k b hk hn))).trans (hmem.free k b o hk)
  have hok:=w3 p hp
  have hg:=hq4 p hp
  obtain⟨key,d⟩:=p
  cases key with
  | c k off=>
   have hk:Xa R k=true:=hok.2
   rcases hg with hg | ⟨d',hg,e,_⟩
   ·obtain⟨b,x,q1,q2,q3⟩:=hs.ce k off d hg
    exact⟨b,x,hm' k b hk q1,q2,hrel q3 hok.1⟩
   obtain⟨b,x,q1,q2,q3⟩:=hs.ce k off d' hg
   exact⟨b,x,hm' k b hk q1,q2,hrel (e _ _ _ _ q3) hok.1⟩
  | o k=>
   have hk:Xa R k=true:=hok.2
   rcases hg with hg | ⟨d',hg,e,hf⟩
   ·obtain⟨b,q1,q2⟩:=hs.ok k d hg
    exact⟨b,hmo' k b hk q1,(q2.cut hok.1).mono rfl hcutle (Z8.refl _ _) λ _ _ h=>h⟩
   exact hf.elim
  | j=>
   rcases hg with hg | ⟨d',hg,e,hf⟩
   ·obtain⟨X,J,e,hx⟩:=hs.jk d hg
    have hold:∀ b,X b->b<w.heap.size->∃ X0 J0,(Key.j,D.j X0 J0)∈R/\X0 b:=λ b hb hlt=>by
     rcases hx.own b hb with hc | hc
     ·rcases hc with⟨k',off,d',hm,hb'⟩ | hc | ⟨k',d',hm,hb'⟩
      ·have hk:=W5 hm
       have:=hs.mem.m0 k' b (by show (m.cut (Xa R) Vt).blk k'=some b;simp[Mp.cut,hk,hb'])
       exact absurd this (hx.blk b k' hb)
      ·exact hc
      have hk:=Vs hm
      have:=hs.mem.m0o k' b (by show (m.cut (Xa R) Vt).obj k'=some b;simp[Mp.cut,hk,hb'])
      exact absurd this (hx.obj b k' hb)
     exact absurd hc (Nat.not_le.2 hlt)
    refine⟨X,J,e,{ hx with own:=λ b hb=>?_,blk:=λ b k hb hk=>?_,row:=λ b g R' hb hg e2=>?_,obj:=λ b k hb hk=>?_ }⟩
    ·by_cases hlt:b<w.heap.size
     ·obtain⟨X0,J0,hm,hb0⟩:=hold b hb hlt
      exact(hX X0 J0 hm).own b hb0
     exact .inr (Nat.le_trans hmem.off.size (Nat.le_of_not_lt hlt))
    ·obtain⟨X0,J0,hm,hb0⟩:=hold b hb (hmem.lt k b hk)
     exact(hX X0 J0 hm).blk b k hb0 hk
    ·obtain⟨xs,hxs⟩:=hmem.row g R' hg
     obtain⟨X0,J0,hm,hb0⟩:=hold b hb (Vz hxs e2).2
     exact(hX X0 J0 hm).row b g R' hb0 hg e2
    obtain⟨X0,J0,hm,hb0⟩:=hold b hb (hmem.olt k b hk)
    exact(hX X0 J0 hm).obj b k hb0 hk
   exact hf.elim
  | t x=>cases hok.2
  | r g=>cases hok.2
 rcases hq1 with rfl | rfl
 ·exact⟨hs.df,v,r1,hfin⟩
 exact⟨hs.df,v,r1,hfin⟩
end
mutual
def eTy:Ty->List D
 | .mk a b=>[.sl 2 (eTys a) none,.v (.int .i64 b)]
def eTys:List Ty->List (List D)
 | []=>[]
 | t :: l=>eTy t :: eTys l
end
mutual
def eTm:Tm->List D
 | .mk bs k i a=>[.sl 2 (eTys bs) none,.v (.int .i64 k),.v (.int .i64 i),.sl 4 (eTms a) none]
def eTms:List Tm->List (List D)
 | []=>[]
 | t :: l=>eTm t :: eTms l
end
theorem X8 (l:List Ty):eTys l=l.map eTy:=by
 induction l with
 | nil=>rfl
 | cons t l ih=>rw[eTys,ih];rfl
theorem Xw (l:List Tm):eTms l=l.map eTm:=by
 induction l with
 | nil=>rfl
 | cons t l ih=>rw[eTms,ih];rfl
theorem Zc (t:Ty):eTy t=[.sl 2 (eTys t.args) none,.v (.int .i64 t.base)]:=by cases t;rfl
theorem Zu (t:Tm):eTm t=[.sl 2 (eTys t.binds) none,.v (.int .i64 t.kind),.v (.int .i64 t.index),.sl 4 (eTms t.args) none]:=by cases t;rfl
theorem Vq (t:Ty):(eTy t).length=2:=by cases t;rfl
theorem VQ (t:Tm):(eTm t).length=4:=by cases t;rfl
theorem Zs (l:List Ty):(eTys l).length=l.length:=by rw[X8,List.length_map]
theorem Zq (l:List Tm):(eTms l).length=l.length:=by rw[Xw,List.length_map]
theorem ZV (l:List Ty)(i:Nat)(h:i<l.length):(eTys l).getD i []=eTy l[i]:=by
 rw[X8,List.getD_eq_getElem?_getD,List.getElem?_map,List.getElem?_eq_getElem h];rfl
theorem ZT (l:List Tm)(i:Nat)(h:i<l.length):(eTms l).getD i []=eTm l[i]:=by
 rw[Xw,List.getD_eq_getElem?_getD,List.getElem?_map,List.getElem?_eq_getElem h];rfl
theorem Wn (l r:List Ty):eTys (l++r)=eTys l++eTys r:=by simp[X8]
theorem Xv (l r:List Tm):eTms (l++r)=eTms l++eTms r:=by simp[Xw]
section
variable (f g:Nat->Bool)
@[simp] theorem Oa (t:Ty):D.oks f g (eTy t)=true:=by
 induction t using Ty.ind with
 | h a b ih=>
  rw[Zc]
  simp only[D.oks,D.ok,Bool.and_true,X8,Ty.args]
  exact D.okss_map _ _ ih
@[simp] theorem Yi (l:List Ty):D.okss f g (eTys l)=true:=by rw[X8];exact D.okss_map _ _ λ t _=>Oa f g t
@[simp] theorem YK (t:Tm):D.oks f g (eTm t)=true:=by
 induction t using Tm.ind with
 | h bs k i a ih=>
  rw[Zu]
  simp only[D.oks,D.ok,Bool.and_true,Tm.args,Bool.and_eq_true]
  exact⟨Yi f g _,trivial,trivial,by rw[Xw];exact D.okss_map _ _ ih⟩
@[simp] theorem Y8 (l:List Tm):D.okss f g (eTms l)=true:=by rw[Xw];exact D.okss_map _ _ λ t _=>YK f g t
end
section
variable {m:Mp} {Im:Nat->Nat->Prop} {w w':World}
def Ma (Im:Nat->Nat->Prop):Nat->Prop:=λ b=>∃ o,Im b o
theorem Te {α:Type}{r:Rp α}{e:α->List D}(hlen:∀ a,(e a).length=r.n)(hr:∀ (x:List Value) (a:α),YU m Im w x (e a)->(∀ u∈x,u.oneCell'=true)->r.R (Ma Im) w x a){v:Value}{l:List α}(hn:0<r.n)(h:Yz m Im w v (.sl r.n (l.map e) none)):Y6 r (Ma Im) w v l:=by
 obtain⟨a,c,bl,off,X,rfl,h1,ha,hc,hn2,ho,hr2,_⟩:=Wk h
 rw[List.length_map] at h1 ha hc ho ⊢
 refine⟨a,c,bl,off,λ i=>(List.range r.n).map (X i),rfl,h1,λ h0=>⟨ha h0,?_⟩,λ i j u hi hu=>?_,λ i hi=>?_⟩
 ·exact⟨_,(hc 0 0 h0 hn).2⟩
 ·rw[List.getElem?_map] at hu
  by_cases hj:j<r.n
  ·rw[List.getElem?_range hj] at hu
   cases hu
   exact(hc i j hi hj).1
  rw[List.getElem?_eq_none (by simpa using hj)] at hu;cases hu
 refine hr _ _ (ZS.2 ⟨by simp[hlen],λ j hj=>?_⟩) λ u hu=>?_
 ·have hi':i<(l.map e).length:=by simpa using hi
  have hj':j<(l.map e)[i].length:=by simpa using hj
  have:=hr2 i hi' j hj'
  have hjn:j<r.n:=by rw[<-hlen l[i]];exact hj
  simpa[List.getD_eq_getElem?_getD,List.getElem?_map,List.getElem?_range hjn] using this
 obtain⟨j,hj,rfl⟩:=List.mem_map.1 hu
 exact ho i j hi (List.mem_range.1 hj)
theorem X9 {α:Type}{r:Rp α}{e:α->List D}{F:Nat->Prop}(hIm:∀ b o v,F b->w.cell? ⟨b,o,none⟩=some v->Im b o)(hlen:∀ a,(e a).length=r.n)(hr:∀ (x:List Value) (a:α),r.R F w x a->YU m Im w x (e a)){v:Value}{l:List α}(h:Y6 r F w v l):Yz m Im w v (.sl r.n (l.map e) none):=by
 obtain⟨a,c,bl,off,X,rfl,h1,ha,h2,h3⟩:=h
 have hx:∀ i (hi:i<l.length),(X i).length=r.n:=λ i hi=>r.len (h3 i hi)
 have key:Yz m Im w (.slice a (l.map e).length c) (.sl r.n (l.map e) none):=by
  refine .sl a c bl off r.n (λ i j=>(X i).getD j undef) (l.map e) none (by simpa using h1) (λ h0=>(ha (by simpa using h0)).1) (λ i j hi hj=>?_) (λ i hi=>by simp[hlen]) (λ i j hi hj=>?_) (λ i hi j hj=>?_) (λ r e=>by cases e)
  ·have hi':i<l.length:=by simpa using hi
   have hj2:j<(X i).length:=by rw[hx i hi'];exact hj
   have:=h2 i j _ hi' (List.getElem?_eq_getElem hj2)
   rw[List.getD_eq_getElem?_getD,List.getElem?_eq_getElem hj2]
   exact⟨this,hIm _ _ _ (ha (by omega)).2 this⟩
  ·have hi':i<l.length:=by simpa using hi
   have hj2:j<(X i).length:=by rw[hx i hi'];exact hj
   rw[List.getD_eq_getElem?_getD,List.getElem?_eq_getElem hj2]
   exact r.one (h3 i hi') _ (List.getElem_mem _)
  have hi':i<l.length:=by simpa using hi
  have h4:=ZS.1 (hr _ _ (h3 i hi'))
  have hj':j<(e l[i]).length:=by simpa using hj
  have:=h4.2 j hj'
  simpa using this
 simpa using key
theorem Rm:∀ (t:Ty) {x:List Value},YU m Im w x (eTy t)->∃ s b,x=[s,b]/\Xj (Ma Im) w s b t:=by
 intro t
 induction t using Ty.ind with
 | h a b ih=>
  intro x hx
  rw[Zc] at hx
  match x,hx with
  | [s,b'],⟨h1,h2,_⟩=>
   have:=Yr.1 h2
   subst this
   refine⟨s,_,rfl,Nu ?_ _⟩
   have h1:Yz m Im w s (.sl 2 (a.map eTy) none):=by rw[X8] at h1;exact h1
   obtain⟨ad,c,bl,off,X,rfl,g1,ha,hc,hn2,ho,hr2,_⟩:=Wk h1
   simp only[List.length_map,Ty.args] at g1 ha hc ho ⊢
   refine⟨ad,c,bl,off,λ i=>[X i 0,X i 1],rfl,g1,λ h0=>⟨ha h0,⟨_,(hc 0 0 h0 (by omega)).2⟩⟩,λ i j u hi hu=>?_,λ i hi=>?_⟩
   ·match j with
    | 0=>cases hu;exact(hc i 0 hi (by omega)).1
    | 1=>cases hu;exact(hc i 1 hi (by omega)).1
    | j+2=>simp at hu
   ·have hi':i<(a.map eTy).length:=by simpa using hi
    have q:(a.map eTy)[i]=eTy a[i]:=by simp
    have hl:(a.map eTy)[i].length=2:=by rw[q];exact Vq _
    have q0:=hr2 i hi' 0 (by omega)
    have q1:=hr2 i hi' 1 (by omega)
    refine ih a[i] (List.getElem_mem _) ?_
    rw[Zc]
    simp only[q] at q0 q1
    have e0:(eTy a[i])[0]'(by rw[Vq];omega)=.sl 2 (eTys a[i].args) none:=by simp[Zc]
    have e1:(eTy a[i])[1]'(by rw[Vq];omega)=.v (.int .i64 a[i].base):=by simp[Zc]
    rw[e0] at q0;rw[e1] at q1
    exact⟨q0,q1,trivial⟩
theorem Rc {F:Nat->Prop}(hIm:∀ b o v,F b->w.cell? ⟨b,o,none⟩=some v->Im b o):∀ (t:Ty) {s b:Value},Xj F w s b t->YU m Im w [s,b] (eTy t):=by
 intro t
 induction t using Ty.ind with
 | h a b ih=>
  intro s b' h
  obtain⟨rfl,hs⟩:=h.inv
  rw[Zc,X8]
  refine⟨?_,.v _,trivial⟩
  let r2:Rp {t:Ty // t∈a}:={ n:=2,R:=λ F w x t=>YD.R F w x t.1,len:=λ h=>YD.len h,one:=λ h=>YD.one h,keep:=λ h=>YD.keep h,weaken:=λ h=>YD.weaken h }
  have h2:Y6 r2 F w s (a.attach):=by
   obtain⟨ad,c,bl,off,X,rfl,g1,ha,g2,g3⟩:=hs
   refine⟨ad,c,bl,off,X,by simp[Ty.args],by simpa[Ty.args] using g1,λ h0=>ha (by simpa[Ty.args] using h0),λ i j u hi hu=>g2 i j u (by simpa[Ty.args] using hi) hu,λ i hi=>?_⟩
   have hi':i<a.length:=by simpa using hi
   have:=g3 i hi'
   simpa[r2,Ty.args] using this
  have h3:=X9 (m:=m) (Im:=Im) (r:=r2) (e:=λ t=>eTy t.1) hIm (λ t=>Vq t.1) (λ x t hx=>by
   obtain⟨s,b,rfl,ht⟩:=hx
   exact ih t.1 t.2 ht) h2
  have e:(a.attach.map λ t=>eTy t.1)=a.map eTy:=by simp
  rw[e] at h3
  exact h3
theorem Rk:∀ (t:Tm) {x:List Value},YU m Im w x (eTm t)->∃ b k i a,x=[b,k,i,a]/\XS (Ma Im) w b k i a t:=by
 intro t
 induction t using Tm.ind with
 | h bs k i a ih=>
  intro x hx
  rw[Zu] at hx
  match x,hx with
  | [b',k',i',a'],⟨h1,h2,h3,h4,_⟩=>
   have:=Yr.1 h2
   subst this
   have:=Yr.1 h3
   subst this
   have hb:Y6 YD (Ma Im) w b' bs:=Te (r:=YD) (e:=eTy) Vq (λ x t hx _=>Rm t hx) (by decide) (by rw[X8] at h1;exact h1)
   refine⟨b',_,_,a',rfl,Qq hb ?_ _ _⟩
   have h4:Yz m Im w a' (.sl 4 (a.map eTm) none):=by rw[Xw] at h4;exact h4
   obtain⟨ad,c,bl,off,X,rfl,g1,ha,hc,hn2,ho,hr2,_⟩:=Wk h4
   simp only[List.length_map,Tm.args] at g1 ha hc ho ⊢
   refine⟨ad,c,bl,off,λ i=>[X i 0,X i 1,X i 2,X i 3],rfl,g1,λ h0=>⟨ha h0,⟨_,(hc 0 0 h0 (by omega)).2⟩⟩,λ i j u hi hu=>?_,λ i hi=>?_⟩
   ·match j with
    | 0=>cases hu;exact(hc i 0 hi (by omega)).1
    | 1=>cases hu;exact(hc i 1 hi (by omega)).1
    | 2=>cases hu;exact(hc i 2 hi (by omega)).1
    | 3=>cases hu;exact(hc i 3 hi (by omega)).1
    | j+4=>simp at hu
   ·have hi':i<(a.map eTm).length:=by simpa using hi
    have q:(a.map eTm)[i]=eTm a[i]:=by simp
    have hl:(a.map eTm)[i].length=4:=by rw[q];exact VQ _
    have q0:=hr2 i hi' 0 (by omega)
    have q1:=hr2 i hi' 1 (by omega)
    have q2:=hr2 i hi' 2 (by omega)
    have q3:=hr2 i hi' 3 (by omega)
    refine ih a[i] (List.getElem_mem _) ?_
    rw[Zu]
    simp only[q] at q0 q1 q2 q3
    have e0:(eTm a[i])[0]'(by rw[VQ];omega)=.sl 2 (eTys a[i].binds) none:=by simp[Zu]
    have e1:(eTm a[i])[1]'(by rw[VQ];omega)=.v (.int .i64 a[i].kind):=by simp[Zu]
    have e2:(eTm a[i])[2]'(by rw[VQ];omega)=.v (.int .i64 a[i].index):=by simp[Zu]
    have e3:(eTm a[i])[3]'(by rw[VQ];omega)=.sl 4 (eTms a[i].args) none:=by simp[Zu]
    rw[e0] at q0;rw[e1] at q1;rw[e2] at q2;rw[e3] at q3
    exact⟨q0,q1,q2,q3,trivial⟩
theorem Wb {F:Nat->Prop}(hIm:∀ b o v,F b->w.cell? ⟨b,o,none⟩=some v->Im b o):∀ (t:Tm) {b k i a:Value},XS F w b k i a t->YU m Im w [b,k,i,a] (eTm t):=by
 intro t
 induction t using Tm.ind with
 | h bs k i a ih=>
  intro b' k' i' a' h
  obtain⟨rfl,rfl,hb,hs⟩:=h.inv
  rw[Zu,Xw,X8]
  have h1:=X9 (m:=m) (Im:=Im) (r:=YD) (e:=eTy) hIm Vq (λ x t hx=>by
   obtain⟨s,b,rfl,ht⟩:=hx
   exact Rc hIm t ht) hb
  refine⟨h1,.v _,.v _,?_,trivial⟩
  let r2:Rp {t:Tm // t∈a}:={ n:=4,R:=λ F w x t=>U6.R F w x t.1,len:=λ h=>U6.len h,one:=λ h=>U6.one h,keep:=λ h=>U6.keep h,weaken:=λ h=>U6.weaken h }
  have h2:Y6 r2 F w a' (a.attach):=by
   obtain⟨ad,c,bl,off,X,rfl,g1,ha,g2,g3⟩:=hs
   refine⟨ad,c,bl,off,X,by simp[Tm.args],by simpa[Tm.args] using g1,λ h0=>ha (by simpa[Tm.args] using h0),λ i j u hi hu=>g2 i j u (by simpa[Tm.args] using hi) hu,λ i hi=>?_⟩
   have hi':i<a.length:=by simpa using hi
   have:=g3 i hi'
   simpa[r2,Tm.args] using this
  have h3:=X9 (m:=m) (Im:=Im) (r:=r2) (e:=λ t=>eTm t.1) hIm (λ t=>VQ t.1) (λ x t hx=>by
   obtain⟨b,k,i,a,rfl,ht⟩:=hx
   exact ih t.1 t.2 ht) h2
  have e:(a.attach.map λ t=>eTm t.1)=a.map eTm:=by simp
  rw[e] at h3
  exact h3
end
section
variable {P:Program} {T:List (Nat×TI)} {cx:Cx} {σ:List (Key×D)} {N:Nat} {Q:Exit->List (Key×D)->Nat->Prop} {nt N1:Nat}
def Nk (nt:Nat)(ops:Array Oper):Bool:=ops.all (λ o=>match o.dst with | none=>true | some d=>decide (d<nt))
def HF:Key->Prop
 | .r _=>False
 | .j=>False
 | .o _=>False
 | _=>True
def kV (N':Nat)(σ:List (Key×D)):List (Key×D)->Prop
 | []=>True
 | (k,d) :: r=>((d.ok (Xi N') (Xi N')&&X7 N' k)=true/\(get σ k=some d∨∃ d',get σ k=some d'/\Zm d' d/\HF k))/\kV N' σ r
theorem On {N':Nat}{σ:List (Key×D)}:∀ {τ:List (Key×D)},kV N' σ τ->∀ p∈τ,(p.2.ok (Xi N') (Xi N')&&X7 N' p.1)=true/\(get σ p.1=some p.2∨∃ d',get σ p.1=some d'/\Zm d' p.2/\HF p.1)
 | [],_,p,hp=>by cases hp
 | (k,d) :: r,h,p,hp=>by
  rcases List.mem_cons.1 hp with rfl | hp
  ·exact h.1
  exact On h.2 p hp
theorem VS.toK {cx:Cx}{σ τ:List (Key×D)}{N N':Nat}(hN:cx.n0<=N')(h:kV N' σ τ):VS cx σ N τ N':=
 VS.to hN (List.all_eq_true.2 λ p hp=>(On h p hp).1) λ p hp=>by
  rcases(On h p hp).2 with h1 | ⟨d',h1,h2,h3⟩
  ·exact .inl h1
  refine .inr ⟨d',h1,h2,?_⟩
  obtain⟨k,d⟩:=p
  cases k <;> first | trivial | exact h3
def Gd (cx:Cx)(τ:List (Key×D))(N1:Nat):Exit->List (Key×D)->Nat->Prop
 | .normal,σ,N=>VS cx σ N τ N1
 | _,_,_=>False
theorem Y4 {τ:List (Key×D)}{N1:Nat}(h:VS cx σ N τ N1):Gd cx τ N1 .normal σ N:=h
theorem Wi {x y:Code}{τ:List (Key×D)}{N1:Nat}(h:DW P cx x σ N (Gd cx τ N1))(h2:DW P cx y τ N1 Q):DW P cx (.seq x y) σ N Q:=
 Zz (h.mono λ e σ' N' hh=>by
  cases e with
  | normal=>exact h2.vs hh
  | _=>exact hh.elim)
def Gc {ι:Type}(cx:Cx)(τ:ι->List (Key×D))(N1:Nat)(Q:Exit->List (Key×D)->Nat->Prop):Exit->List (Key×D)->Nat->Prop
 | .normal,σ,N=>∃ i,VS cx σ N (τ i) N1
 | e,σ,N=>Q e σ N
theorem Ni {ι:Type}{τ:ι->List (Key×D)}{N1:Nat}(i:ι)(h:VS cx σ N (τ i) N1):Gc cx τ N1 Q .normal σ N:=⟨i,h⟩
theorem Jf {ι:Type}{x y:Code}(τ:ι->List (Key×D))(N1:Nat)(h:DW P cx x σ N (Gc cx τ N1 Q))(h2:∀ i,DW P cx y (τ i) N1 Q):DW P cx (.seq x y) σ N Q:=
 Zz (h.mono λ e σ' N' hh=>by
  cases e with
  | normal=>obtain⟨i,hv⟩:=hh;exact(h2 i).vs hv
  | _=>exact hh)
end
abbrev WR:=List (Key×D)
def S5 (σ:WR)(k:Key)(c:D->Prop):Prop:=match get σ k with
 | some d=>c d
 | none=>False
def Vm (σ:WR)(x:Operand)(c:D->Prop):Prop:=match x with
 | .tmp t=>S5 σ (.t t) c
 | .const v=>c (.v v)
 | .func f=>c (.fn f [])
 | .global _=>False
def Mt (σ:WR):List Operand->(List D->Prop)->Prop
 | [],c=>c []
 | x :: r,c=>Vm σ x λ d=>Mt σ r λ l=>c (d :: l)
def Qr (σ:WR)(k:Nat):Nat->Nat->(List D->Prop)->Prop
 | _,0,c=>c []
 | o,n+1,c=>S5 σ (.c k o) λ d=>Qr σ k (o+1) n λ l=>c (d :: l)
def R9:Nat->List D->(List D->Prop)->Prop
 | 0,_,c=>c []
 | n+1,d :: l,c=>R9 n l λ r=>c (d :: r)
 | _+1,[],_=>False
def RY:Nat->List D->(List D->Prop)->Prop
 | 0,l,c=>c l
 | n+1,_ :: l,c=>RY n l c
 | _+1,[],_=>False
def kT (T:List (Nat×TI))(t:Nat)(c:TI->Prop):Prop:=match Xn T t with
 | some ti=>c ti
 | none=>False
def GZ (ti:TI)(l:List D)(c:D->Prop):Prop:=match ti.ag with
 | true=>(match Nat.beq l.length ti.sz with | true=>c (.ag l) | false=>False)
 | false=>(match l with | [d]=>c d | _=>False)
def IU (ti:TI)(r:List D)(j n:Nat)(c:D->Prop):Prop:=match ti.ag with
 | true=>(match Nat.beq j 0&&Nat.beq ti.sz n with | true=>c (.ag r) | false=>c (.ag ((r.drop j).take ti.sz)))
 | false=>(match Nat.beq ti.sz 1 with | true=>c (r.getD j (.v undef)) | false=>False)
def Fy (T:List (Nat×TI))(σ:WR)(t:Nat)(x:D)(c:D->Prop):Prop:=kT T t λ ti=>match x with
 | .p k o=>Qr σ k o ti.sz λ l=>GZ ti l c
 | .q l=>R9 ti.sz l λ l=>GZ ti l c
 | .pr g len n i j=>S5 σ (.r g) λ d=>(match d with
  | .rp _ n' l=>(match Nat.beq n' n&&Nat.ble (j+ti.sz) n with
   | true=>(l.length=len/\i<len/\(l.getD i []).length=n)/\IU ti (l.getD i []) j n c
   | false=>False)
  | _=>False)
 | _=>False
def L9 (T:List (Nat×TI))(t:Nat)(x:D)(f:Nat)(c:D->Prop):Prop:=kT T t λ ti=>match x,ti.fs[f]? with
 | .ag l,some (off,sz,ag)=>RY off l λ l=>R9 sz l λ l=>(match ag with | true=>c (.ag l) | false=>(match l with | [d]=>c d | _=>False))
 | _,_=>False
def LZ (T:List (Nat×TI))(t:Nat)(x:D)(f:Nat)(c:D->Prop):Prop:=kT T t λ ti=>match x,ti.fs[f]? with
 | .p k o,some (off,_,_)=>c (.p k (o+off))
 | .q l,some (off,_,_)=>RY off l λ l=>c (.q l)
 | .pr g len n i j,some (off,_,_)=>c (.pr g len n i (j+off))
 | _,_=>False
def L7 (T:List (Nat×TI))(t:Nat)(x y:D)(c:D->Prop):Prop:=kT T t λ ti=>match ti.el with
 | none=>False
 | some e=>kT T e λ te=>match x,y with
  | .sl n l _,.v (.int _ i)=>(match Nat.beq te.sz n&&Nat.ble 1 n with | true=>(0<=i/\i<(l.length:Int))/\c (.q (l.getD i.toNat [])) | false=>False)
  | .ps g len,.v (.int _ i)=>(match Nat.ble 1 te.sz with | true=>(0<=i/\i<(len:Int))/\c (.pr g len te.sz i.toNat 0) | false=>False)
  | _,_=>False
def Gy (T:List (Nat×TI))(t:Nat)(x:D)(c:D->Prop):Prop:=kT T t λ ti=>match x with
 | .sl _ l _=>(match Nat.beq ti.kd 5 with | true=>c (.v (.int .i64 l.length)) | false=>False)
 | .v (.slice _ n _)=>(match Nat.beq ti.kd 5 with | true=>c (.v (.int .i64 n)) | false=>False)
 | .v (.string s)=>(match Nat.beq ti.kd 3 with | true=>c (.v (.int .i64 s.size)) | false=>False)
 | .ps _ len=>(match Nat.beq ti.kd 5 with | true=>c (.v (.int .i64 len)) | false=>False)
 | _=>False
def Jr (σ:WR)(x:Option Operand)(c:Option Int->Prop):Prop:=match x with
 | none=>c none
 | some x=>Vm σ x λ d=>(match d with | .v (.int .i64 i)=>c (some i) | _=>False)
def IV (lo hi mx:Option Int)(n:Nat)(c:Prop):Prop:=match lo,hi,mx with
 | none,none,none=>c
 | some l,none,none=>(0<=l/\l<=n)/\c
 | none,some h,none=>(0<=h/\h<=n)/\c
 | some l,some h,none=>(0<=l/\l<=h/\h<=n)/\c
 | none,some h,some m=>(0<=h/\h=m/\m<=n)/\c
 | some l,some h,some m=>(0<=l/\l<=h/\h=m/\m<=n)/\c
 | _,none,some _=>False
def GA (T:List (Nat×TI))(t:Nat)(x:D)(lo hi mx:Option Int)(c:D->Prop):Prop:=kT T t λ ti=>match ti.el with
 | none=>False
 | some E=>kT T E λ te=>match x with
  | .sl n l _=>(match Nat.beq te.sz n with
   | true=>IV lo hi mx l.length (c (match mx with | none=>.sl n ((l.take (hi.getD l.length).toNat).drop (lo.getD 0).toNat) none | some _=>.cl n ((l.take (hi.getD l.length).toNat).drop (lo.getD 0).toNat)))
   | false=>False)
  | .v (.slice none 0 0)=>IV lo hi mx 0 (c (.v (.slice none 0 0)))
  | .ps g len=>(match lo,hi,mx with
   | some i,none,none=>(match Nat.ble 1 te.sz with | true=>(0<=i/\i<=(len:Int))/\c (.pt g len te.sz i.toNat) | false=>False)
   | _,_,_=>False)
  | _=>False
def H4 (ti:TI)(d:D)(c:List D->Prop):Prop:=match WP ti d with
 | some l=>c l
 | none=>False
def LU:List D->List D->(List D->Prop)->Prop
 | [],r,c=>c r
 | d :: l,r,c=>LU l r λ x=>c (d :: x)
def Ou (ti:TI)(f:Nat)(d:D)(c:Nat->Nat->List D->Prop):Prop:=match ti.fs[f]? with
 | none=>False
 | some (off,sz,ag)=>match ag with
  | true=>(match d with | .ag ds=>(match Nat.beq ds.length sz with | true=>c off sz ds | false=>False) | _=>False)
  | false=>(match Nat.beq sz 1&&d.one with | true=>c off sz [d] | false=>False)
def L8 (ti:TI):List D->List (Nat×Operand)->List D->(List D->Prop)->Prop
 | l,[],_,c=>c l
 | _,_ :: _,[],_=>False
 | l,(f,_) :: ps,d :: ds,c=>Ou ti f d λ off sz vs=>R9 off l λ l1=>RY (off+sz) l λ l2=>LU vs l2 λ l3=>LU l1 l3 λ l4=>L8 ti l4 ps ds c
def G9:List Value->(List D->Prop)->Prop
 | [],c=>c []
 | v :: l,c=>G9 l λ r=>c (.v v :: r)
def LV (T:List (Nat×TI))(σ:WR)(t:Nat)(parts:List (Nat×Operand))(c:D->Prop):Prop:=kT T t λ ti=>match Nat.beq ti.kd 6 with
 | false=>False
 | true=>Mt σ (parts.map (·.2)) λ ds=>G9 ti.z λ z=>L8 ti z parts ds λ l=>c (.ag l)
def Gu (T:List (Nat×TI))(t:Nat)(op:BinOp)(x y:D)(c:D->Prop):Prop:=kT T t λ ti=>match Kh ti op x y with
 | some d=>c d
 | none=>False
def Ot {α:Type}(x:Option α)(c:α->Prop):Prop:=match x with
 | some d=>c d
 | none=>False
theorem WD {α:Type}{x:Option α}{c:α->Prop}(h:Ot x c):∃ d,x=some d/\c d:=by
 cases x with
 | none=>exact h.elim
 | some d=>exact⟨d,rfl,h⟩
section sound
variable {σ:WR} {T:List (Nat×TI)}
theorem XF {k:Key}{c:D->Prop}(h:S5 σ k c):∃ d,get σ k=some d/\c d:=by
 unfold S5 at h
 cases hg:get σ k with
 | none=>rw[hg] at h;exact h.elim
 | some d=>rw[hg] at h;exact⟨d,rfl,h⟩
theorem ZR {x:Operand}{c:D->Prop}(h:Vm σ x c):∃ d,ev σ x=some d/\c d:=by
 cases x with
 | tmp t=>exact XF h
 | const v=>exact⟨_,rfl,h⟩
 | func f=>exact⟨_,rfl,h⟩
 | global g=>exact h.elim
theorem Vd:∀ {xs:List Operand} {c:List D->Prop},Mt σ xs c->∃ ds,evs σ xs=some ds/\c ds
 | [],c,h=>⟨[],rfl,h⟩
 | x :: xs,c,h=>by
  obtain⟨d,h1,h2⟩:=ZR h
  obtain⟨ds,h3,h4⟩:=Vd h2
  exact⟨d :: ds,by simp[evs,h1,h3],h4⟩
theorem Up {k:Nat}:∀ {n o:Nat} {c:List D->Prop},Qr σ k o n c->∃ l,cellsAt σ k o n=some l/\c l
 | 0,_,c,h=>⟨[],rfl,h⟩
 | n+1,o,c,h=>by
  obtain⟨d,h1,h2⟩:=XF h
  obtain⟨l,h3,h4⟩:=Up h2
  exact⟨d :: l,by simp[cellsAt,h1,h3],h4⟩
theorem VV:∀ {n:Nat} {l:List D} {c:List D->Prop},R9 n l c->n<=l.length/\c (l.take n)
 | 0,l,c,h=>⟨Nat.zero_le _,by simpa[R9] using h⟩
 | n+1,d :: l,c,h=>by
  obtain⟨h1,h2⟩:=VV (n:=n) (l:=l) h
  exact⟨by simp;omega,by simpa using h2⟩
 | _+1,[],_,h=>h.elim
theorem VU:∀ {n:Nat} {l:List D} {c:List D->Prop},RY n l c->n<=l.length/\c (l.drop n)
 | 0,l,c,h=>⟨Nat.zero_le _,by simpa[RY] using h⟩
 | n+1,d :: l,c,h=>by
  obtain⟨h1,h2⟩:=VU (n:=n) (l:=l) h
  exact⟨by simp;omega,by simpa using h2⟩
 | _+1,[],_,h=>h.elim
theorem U0:∀ {l r:List D} {c:List D->Prop},LU l r c->c (l++r)
 | [],_,_,h=>h
 | _ :: l,r,c,h=>U0 (l:=l) (r:=r) h
theorem S1:∀ {l:List Value} {c:List D->Prop},G9 l c->c (l.map .v)
 | [],_,h=>h
 | _ :: l,c,h=>S1 (l:=l) h
theorem Y7 {t:Nat}{c:TI->Prop}(h:kT T t c):∃ ti,Xn T t=some ti/\c ti:=by
 unfold kT at h
 cases hg:Xn T t with
 | none=>rw[hg] at h;exact h.elim
 | some d=>rw[hg] at h;exact⟨d,rfl,h⟩
theorem Pt {ti:TI}{l:List D}{c:D->Prop}(h:GZ ti l c):∃ d,WI ti l=some d/\c d:=by
 unfold GZ at h
 unfold WI
 cases hag:ti.ag with
 | true=>
  rw[hag] at h
  cases hl:Nat.beq l.length ti.sz with
  | true=>
   rw[hl] at h
   exact⟨.ag l,by simp[Nat.eq_of_beq_eq_true hl],h⟩
  | false=>rw[hl] at h;exact h.elim
 | false=>
  rw[hag] at h
  match l,h with
  | [d],h=>exact⟨d,by simp,h⟩
theorem Mo {ti:TI}{r:List D}{j n:Nat}{c:D->Prop}(hr:r.length=n)(hj:j+ti.sz<=n)(h:IU ti r j n c):∃ d,WI ti ((r.drop j).take ti.sz)=some d/\c d:=by
 unfold IU at h
 unfold WI
 have hl:((r.drop j).take ti.sz).length=ti.sz:=by simp;omega
 cases hag:ti.ag with
 | true=>
  rw[hag] at h
  dsimp only at h ⊢
  split at h
  ·rename_i hb
   simp only[Bool.and_eq_true] at hb
   have e1:=Nat.eq_of_beq_eq_true hb.1
   have e2:=Nat.eq_of_beq_eq_true hb.2
   refine⟨_,?_,h⟩
   subst e1
   rw[List.drop_zero,e2,<-hr,List.take_length]
   simp
  refine⟨_,?_,h⟩
  simp[hl]
 | false=>
  rw[hag] at h
  dsimp only at h ⊢
  split at h
  ·rename_i hb
   have e1:=Nat.eq_of_beq_eq_true hb
   have hlt:j<r.length:=by omega
   rw[e1,List.drop_eq_getElem_cons hlt,List.take_succ_cons]
   refine⟨_,?_,h⟩
   simp[List.getD_eq_getElem?_getD,List.getElem?_eq_getElem hlt]
  exact h.elim
theorem L5 {t:Nat}{x:D}{c:D->Prop}(h:Fy T σ t x c):∃ e,K8 T σ t x=some e/\c e:=by
 obtain⟨ti,h1,h⟩:=Y7 h
 unfold K8
 rw[h1]
 split at h
 ·obtain⟨l,h2,h3⟩:=Up h
  obtain⟨d,h4,h5⟩:=Pt h3
  exact⟨d,by simp[h2,h4],h5⟩
 ·obtain⟨h2,h3⟩:=VV h
  obtain⟨d,h4,h5⟩:=Pt h3
  exact⟨d,by simp[h2,h4],h5⟩
 ·obtain⟨d,h2,h⟩:=XF h
  split at h
  ·split at h
   ·rename_i hb
    simp only[Bool.and_eq_true] at hb
    have e1:=Nat.eq_of_beq_eq_true hb.1
    have e2:=Nat.le_of_ble_eq_true hb.2
    obtain⟨⟨a1,a2,a3⟩,h⟩:=h
    obtain⟨e,h4,h5⟩:=Mo a3 e2 h
    refine⟨e,?_,h5⟩
    simp only[h2]
    rw[if_pos ⟨e1,a1,a2,e2⟩]
    exact h4
   exact h.elim
  exact h.elim
 exact h.elim
theorem Px {t:Nat}{x:D}{f:Nat}{c:D->Prop}(h:L9 T t x f c):∃ e,SW T t x f=some e/\c e:=by
 obtain⟨ti,h1,h⟩:=Y7 h
 unfold SW
 rw[h1]
 split at h
 ·rename_i l off sz ag _ _
  have hf:ti.fs[f]?=some (off,sz,ag):=by assumption
  obtain⟨h2,h3⟩:=VU h
  obtain⟨h4,h5⟩:=VV h3
  rw[List.length_drop] at h4
  have hle:off+sz<=l.length:=by omega
  cases ag with
  | true=>exact⟨_,by simp[hf,hle],h5⟩
  | false=>
   cases sz with
   | zero=>exact h5.elim
   | succ n=>
    have hlt:off<l.length:=by omega
    rw[List.drop_eq_getElem_cons hlt,List.take_succ_cons] at h5
    simp only at h5
    split at h5
    ·rename_i d he
     injection he with e1 e2
     exact⟨d,by simp[hf,hle,hlt,e1],h5⟩
    exact h5.elim
 exact h.elim
theorem Pw {t:Nat}{x:D}{f:Nat}{c:D->Prop}(h:LZ T t x f c):∃ e,SP T t x f=some e/\c e:=by
 obtain⟨ti,h1,h⟩:=Y7 h
 unfold SP
 rw[h1]
 split at h
 ·rename_i k o off a b _ _
  have hf:ti.fs[f]?=some (off,a,b):=by assumption
  exact⟨_,by simp[hf],h⟩
 ·rename_i l off a b _ _
  have hf:ti.fs[f]?=some (off,a,b):=by assumption
  obtain⟨h2,h3⟩:=VU h
  exact⟨_,by simp[hf,h2],h3⟩
 ·rename_i g len n i j off a b _ _
  have hf:ti.fs[f]?=some (off,a,b):=by assumption
  exact⟨_,by simp[hf],h⟩
 exact h.elim
theorem Py {t:Nat}{x y:D}{c:D->Prop}(h:L7 T t x y c):∃ e,S9 T t x y=some e/\c e:=by
 obtain⟨ti,h1,h⟩:=Y7 h
 unfold S9
 rw[h1]
 cases hel:ti.el with
 | none=>rw[hel] at h;exact h.elim
 | some e=>
  rw[hel] at h
  obtain⟨te,h2,h⟩:=Y7 h
  simp only[hel,h2]
  split at h
  ·split at h
   ·rename_i hb
    simp only[Bool.and_eq_true] at hb
    have e1:=Nat.eq_of_beq_eq_true hb.1
    have e2:=Nat.le_of_ble_eq_true hb.2
    refine⟨_,?_,h.2⟩
    dsimp only
    rw[if_pos (by simp[e1];omega),if_pos h.1]
   exact h.elim
  ·split at h
   ·rename_i hb
    have e2:=Nat.le_of_ble_eq_true hb
    exact⟨_,if_pos ⟨by omega,h.1.1,h.1.2⟩,h.2⟩
   exact h.elim
  exact h.elim
theorem T5 {x:Option Operand}{c:Option Int->Prop}(h:Jr σ x c):∃ i,evI σ x=some i/\c i:=by
 cases x with
 | none=>exact⟨none,rfl,h⟩
 | some x=>
  obtain⟨d,h1,h⟩:=ZR h
  split at h
  ·exact⟨_,by simp[evI,h1],h⟩
  exact h.elim
theorem RW {lo hi mx:Option Int}{n:Nat}{c:Prop}(h:IV lo hi mx n c):(0<=lo.getD 0/\lo.getD 0<=hi.getD n/\hi.getD n<=mx.getD n/\(mx.isSome->hi.isSome)/\mx.getD n<=n)/\(∀ m',mx=some m'->m'=hi.getD n)/\c:=by
 match lo,hi,mx,h with
 | none,none,none,h=>exact⟨⟨Int.le_refl _,by simp,by simp,by simp,by simp⟩,nofun,h⟩
 | some l,none,none,h=>exact⟨⟨h.1.1,h.1.2,by simp,by simp,by simp⟩,nofun,h.2⟩
 | none,some k,none,h=>exact⟨⟨Int.le_refl _,h.1.1,h.1.2,by simp,by simp⟩,nofun,h.2⟩
 | some l,some k,none,h=>exact⟨⟨h.1.1,h.1.2.1,h.1.2.2,by simp,by simp⟩,nofun,h.2⟩
 | none,some k,some m,h=>exact⟨⟨Int.le_refl _,h.1.1,Int.le_of_eq h.1.2.1,by simp,h.1.2.2⟩,(λ m' e=>by cases e;exact h.1.2.1.symm),h.2⟩
 | some l,some k,some m,h=>exact⟨⟨h.1.1,h.1.2.1,Int.le_of_eq h.1.2.2.1,by simp,h.1.2.2.2⟩,(λ m' e=>by cases e;exact h.1.2.2.1.symm),h.2⟩
 | none,none,some m,h=>exact h.elim
 | some l,none,some m,h=>exact h.elim
theorem La {t:Nat}{x:D}{lo hi mx:Option Int}{c:D->Prop}(h:GA T t x lo hi mx c):∃ e,Sn T t x lo hi mx=some e/\c e:=by
 obtain⟨ti,h1,h⟩:=Y7 h
 unfold Sn
 rw[h1]
 cases hel:ti.el with
 | none=>rw[hel] at h;exact h.elim
 | some e=>
  rw[hel] at h
  obtain⟨te,h2,h⟩:=Y7 h
  simp only[hel,h2]
  split at h
  ·split at h
   ·rename_i hb
    obtain⟨⟨q1,q2,q3,q4,q5⟩,q6,h⟩:=RW h
    refine⟨_,?_,h⟩
    dsimp only
    rw[if_pos ⟨Nat.eq_of_beq_eq_true hb,q1,q2,q3,q4,q5⟩]
    cases mx with
    | none=>rfl
    | some m=>dsimp only;rw[if_pos (q6 m rfl)]
   exact h.elim
  ·obtain⟨⟨q1,q2,q3,q4,q5⟩,_,h⟩:=RW h
   have z:((0:Nat):Int)=0:=rfl
   rw[z] at q2 q3 q5
   exact⟨_,if_pos ⟨by omega,by omega,by omega,q4⟩,h⟩
  ·split at h
   ·split at h
    ·rename_i hb
     have:=Nat.le_of_ble_eq_true hb
     exact⟨_,if_pos ⟨by omega,h.1.1,h.1.2⟩,h.2⟩
    exact h.elim
   exact h.elim
  exact h.elim
theorem Mu {t:Nat}{x:D}{c:D->Prop}(h:Gy T t x c):∃ e,Lc T t x=some e/\c e:=by
 obtain⟨ti,h1,h⟩:=Y7 h
 unfold Lc
 rw[h1]
 split at h
 ·split at h
  ·rename_i hb;exact⟨_,by simp[Nat.eq_of_beq_eq_true hb],h⟩
  exact h.elim
 ·split at h
  ·rename_i hb;exact⟨_,by simp[Nat.eq_of_beq_eq_true hb],h⟩
  exact h.elim
 ·split at h
  ·rename_i hb;exact⟨_,by simp[Nat.eq_of_beq_eq_true hb],h⟩
  exact h.elim
 ·split at h
  ·rename_i hb;exact⟨_,by simp[Nat.eq_of_beq_eq_true hb],h⟩
  exact h.elim
 exact h.elim
theorem Pz {ti:TI}{f:Nat}{d:D}{c:Nat->Nat->List D->Prop}(h:Ou ti f d c):∃ off sz ag ds,ti.fs[f]?=some (off,sz,ag)/\QH sz ag d=some ds/\c off sz ds:=by
 unfold Ou at h
 split at h
 ·exact h.elim
 rename_i off sz ag hf
 cases ag with
 | true=>
  simp only at h
  split at h
  ·rename_i ds
   split at h
   ·rename_i hb;exact⟨off,sz,true,ds,hf,by simp[QH,Nat.eq_of_beq_eq_true hb],h⟩
   exact h.elim
  exact h.elim
 | false=>
  simp only at h
  split at h
  ·rename_i hb
   simp only[Bool.and_eq_true] at hb
   exact⟨off,sz,false,[d],hf,by simp[QH,Nat.eq_of_beq_eq_true hb.1,hb.2],h⟩
  exact h.elim
theorem S6 {ti:TI}:∀ {l:List D} {ps:List (Nat×Operand)} {ds:List D} {c:List D->Prop},L8 ti l ps ds c->∃ l',TR ti l ((ps.map (·.1)).zip ds)=some l'/\c l'
 | l,[],ds,c,h=>⟨l,by simp[TR],by cases ds <;> exact h⟩
 | l,_ :: _,[],c,h=>h.elim
 | l,(f,x) :: ps,d :: ds,c,h=>by
  obtain⟨off,sz,ag,vs,h1,h2,h3⟩:=Pz h
  obtain⟨h4,h5⟩:=VV h3
  obtain⟨h6,h7⟩:=VU h5
  obtain⟨l',h8,h9⟩:=S6 (U0 (U0 h7))
  refine⟨l',?_,h9⟩
  simp only[List.map_cons,List.zip_cons_cons,TR,h1,h2]
  rw[if_pos h6,List.append_assoc]
  exact h8
theorem Pu {t:Nat}{parts:List (Nat×Operand)}{c:D->Prop}(h:LV T σ t parts c):∃ e,TZ T σ t parts=some e/\c e:=by
 obtain⟨ti,h1,h⟩:=Y7 h
 unfold TZ
 rw[h1]
 split at h
 ·exact h.elim
 rename_i hb
 obtain⟨ds,h2,h3⟩:=Vd h
 obtain⟨l,h4,h5⟩:=S6 (S1 h3)
 exact⟨.ag l,by simp[Nat.eq_of_beq_eq_true hb,h2,h4],h5⟩
theorem Mr {t:Nat}{op:BinOp}{x y:D}{c:D->Prop}(h:Gu T t op x y c):∃ e,Kg T t op (some x) (some y)=some e/\c e:=by
 obtain⟨ti,h1,h⟩:=Y7 h
 cases hb:Kh ti op x y with
 | none=>rw[hb] at h;exact h.elim
 | some e=>rw[hb] at h;exact⟨e,by simp[Kg,h1,hb],h⟩
end sound
def IZ (T:List (Nat×TI))(σ:WR)(o:Op)(c:D->Prop)(other:Prop):Prop:=match o with
 | .move x=>Vm σ x c
 | .assign x=>Vm σ x c
 | .pick x y z=>Vm σ x λ d=>(match d with | .v (.bool t)=>(match t with | true=>Vm σ y c | false=>Vm σ z c) | _=>False)
 | .load t x=>Vm σ x λ d=>Fy T σ t d c
 | .nilCheck x=>Vm σ x λ d=>Ot (I2 d) c
 | .binOp op t x y _=>Vm σ x λ d=>Vm σ y λ e=>Gu T t op d e c
 | .unOp op _ x=>Vm σ x λ d=>Ot (G4 op d) c
 | .convert s t x=>Vm σ x λ d=>Ot (Ng T s t d) c
 | .field t x f=>Vm σ x λ d=>L9 T t d f c
 | .fieldAddr t x f=>Vm σ x λ d=>LZ T t d f c
 | .indexAddr t x y=>Vm σ x λ d=>Vm σ y λ e=>L7 T t d e c
 | .extract x i=>Vm σ x λ d=>Ot (SO d i) c
 | .makeFunc f first caps=>(match f,first.toList with | .func f,[]=>Mt σ caps.toList λ ds=>c (.fn f ds) | _,_=>False)
 | .build t parts=>LV T σ t parts.toList c
 | .slice t x lo hi mx=>Vm σ x λ d=>Jr σ lo λ lo=>Jr σ hi λ hi=>Jr σ mx λ mx=>GA T t d lo hi mx c
 | .call cl=>(match cl.callee,cl.args.toList,cl.argTypes.toList with
  | .builtin .len,[x],[t]=>Vm σ x λ d=>Gy T t d c
  | .builtin .min,[x,y],[_,_]=>Vm σ x λ d=>Vm σ y λ e=>Ot (I3 d e) c
  | .builtin .max,[x,y],[_,_]=>Vm σ x λ d=>Vm σ y λ e=>Ot (I5 d e) c
  | _,_,_=>other)
 | _=>other
theorem NA {T:List (Nat×TI)}{σ:WR}{o:Oper}{c:D->Prop}{other:Prop}(h:IZ T σ o.op c other):(∃ V,U7 T σ o=some V/\c V)∨other:=by
 unfold IZ at h
 unfold U7
 split at h
 ·rename_i x ho;rw[ho];exact .inl (ZR h)
 ·rename_i x ho;rw[ho];exact .inl (ZR h)
 ·rename_i x y z ho
  rw[ho]
  obtain⟨d,h1,h2⟩:=ZR h
  split at h2
  ·rename_i t
   cases t with
   | true=>obtain⟨e,h3,h4⟩:=ZR h2;exact .inl ⟨e,by simp[QI,h1,h3],h4⟩
   | false=>obtain⟨e,h3,h4⟩:=ZR h2;exact .inl ⟨e,by simp[QI,h1,h3],h4⟩
  exact h2.elim
 ·rename_i t x ho
  rw[ho]
  obtain⟨d,h1,h2⟩:=ZR h
  obtain⟨e,h3,h4⟩:=L5 h2
  exact .inl ⟨e,by simp[h1,h3],h4⟩
 ·rename_i x ho
  rw[ho]
  obtain⟨d,h1,h2⟩:=ZR h
  obtain⟨e,h3,h4⟩:=WD h2
  exact .inl ⟨e,by simp[h1,h3],h4⟩
 ·rename_i op t x y _ ho
  rw[ho]
  obtain⟨d,h1,h2⟩:=ZR h
  obtain⟨e,h3,h4⟩:=ZR h2
  obtain⟨f,h5,h6⟩:=Mr h4
  exact .inl ⟨f,by simp[h1,h3,h5],h6⟩
 ·rename_i op t x ho
  rw[ho]
  obtain⟨d,h1,h2⟩:=ZR h
  obtain⟨e,h3,h4⟩:=WD h2
  exact .inl ⟨e,by simp[h1,h3],h4⟩
 ·rename_i t t2 x ho
  rw[ho]
  obtain⟨d,h1,h2⟩:=ZR h
  obtain⟨e,h3,h4⟩:=WD h2
  exact .inl ⟨e,by simp[h1,h3],h4⟩
 ·rename_i t x f ho
  rw[ho]
  obtain⟨d,h1,h2⟩:=ZR h
  obtain⟨e,h3,h4⟩:=Px h2
  exact .inl ⟨e,by simp[h1,h3],h4⟩
 ·rename_i t x f ho
  rw[ho]
  obtain⟨d,h1,h2⟩:=ZR h
  obtain⟨e,h3,h4⟩:=Pw h2
  exact .inl ⟨e,by simp[h1,h3],h4⟩
 ·rename_i t x y ho
  rw[ho]
  obtain⟨d,h1,h2⟩:=ZR h
  obtain⟨e,h3,h4⟩:=ZR h2
  obtain⟨f,h5,h6⟩:=Py h4
  exact .inl ⟨f,by simp[h1,h3,h5],h6⟩
 ·rename_i x i ho
  rw[ho]
  obtain⟨d,h1,h2⟩:=ZR h
  obtain⟨e,h3,h4⟩:=WD h2
  exact .inl ⟨e,by simp[h1,h3],h4⟩
 ·rename_i f first caps ho
  rw[ho]
  split at h
  ·rename_i f' hf
   obtain⟨ds,h1,h2⟩:=Vd h
   exact .inl ⟨_,by simp[TE,hf,h1],h2⟩
  exact h.elim
 ·rename_i t parts ho
  rw[ho]
  obtain⟨e,h1,h2⟩:=Pu h
  exact .inl ⟨e,h1,h2⟩
 ·rename_i t x lo hi mx ho
  rw[ho]
  obtain⟨d,h1,h⟩:=ZR h
  obtain⟨i,h2,h⟩:=T5 h
  obtain⟨j,h3,h⟩:=T5 h
  obtain⟨k,h4,h⟩:=T5 h
  obtain⟨e,h5,h⟩:=La h
  exact .inl ⟨e,by simp only[G6,h1,h2,h3,h4];exact h5,h⟩
 ·rename_i cl ho
  rw[ho]
  split at h
  ·rename_i x t h1 h2 h3
   obtain⟨d,q1,q2⟩:=ZR h
   obtain⟨e,q3,q4⟩:=Mu q2
   exact .inl ⟨e,by simp[h1,h2,h3,q1,q3],q4⟩
  ·rename_i x y t t' h1 h2 h3
   obtain⟨d,q1,h⟩:=ZR h
   obtain⟨e,q2,h⟩:=ZR h
   obtain⟨f,q3,h⟩:=WD h
   exact .inl ⟨f,by simp[h1,h2,h3,q1,q2,q3],h⟩
  ·rename_i x y t t' h1 h2 h3
   obtain⟨d,q1,h⟩:=ZR h
   obtain⟨e,q2,h⟩:=ZR h
   obtain⟨f,q3,h⟩:=WD h
   exact .inl ⟨f,by simp[h1,h2,h3,q1,q2,q3],h⟩
  exact .inr h
 exact .inr h
theorem T1 {T:List (Nat×TI)}{σ:WR}{nm:Nat}{o:Oper}{V:D}{W:List (Key×D)}{R:List Key}(h:OD T σ nm o=some (V,W,R)):U7 T σ o=none:=by
 unfold OD at h
 unfold U7
 split at h
 ·rename_i t ho;rw[ho]
 ·rename_i t x ho;rw[ho]
 ·rename_i t x y ho;rw[ho]
 ·rename_i t len parts ho;rw[ho]
 ·rename_i t l x ho;rw[ho]
 ·rename_i ho;rw[ho]
 ·rename_i ho;rw[ho]
 ·rename_i ho;rw[ho]
 ·rename_i ho;rw[ho]
 ·rename_i cl ho
  rw[ho]
  split at h
  ·rename_i x y t t' h1 h2 h3;simp[h1]
  ·rename_i x t h1 h2 h3;simp[h1]
  cases h
 cases h
theorem Qv {T:List (Nat×TI)}{σ:WR}{nm:Nat}{o:Oper}{r:FuncId×List D}(h:VB σ o=some r):U7 T σ o=none/\OD T σ nm o=none:=by
 unfold VB at h
 split at h
 ·rename_i cl ho
  split at h
  ·rename_i x hc
   unfold U7 OD
   rw[ho]
   simp[hc]
  cases h
 cases h
def JM:List Nat:=[0,1,2,3,4,5,6,7,8,9,10,11,12,13,14,15,16,17,18,19,20,21,22,23,24,25,26,27,28,29,30,31,32,33,34,35,36,37,38,39,40,41,42,43,44,45,46,47,48,49,50,51,52,53,54,55,56,57,58,59,60,61,62,63,64,65,66,67,68,69,70,71,72,73,74,75,76,77,78,79,80,81,82,83,84,85,86,87,88,89,90,91,92,93,94,95,96,97,98,99,100,101,102,103,104,105,106,107,108,109,110,111,112,113,114,115,116,117,118,119,120,121,122,123,124,125,126,127,128,129,130,131,132,133,134,135,136,137,138,139,140,141,142,143,144,145,146,147,148,149,150,151,152,153,154,155,156,157,158,159,160,161,162,163,164,165,166,167,168,169,170,171,172,173,174,175,176,177,178,179,180,181,182,183,184,185,186,187,188,189,190,191,192,193,194,195,196,197,198,199,200,201,202,203,204,205,206,207,208,209,210,211,212,213,214,215,216,217,218,219,220,221,222,223,224,225,226,227,228,229,230,231,232,233,234,235,236,237,238,239,240,241,242,243,244,245,246,247,248,249,250,251,252,253,254,255]
set_option maxRecDepth 100000 in
theorem Lp:JM=List.range 256:=by decide
def Js (n:Nat)(c:Nat->Prop):Prop:=match JM[n]? with
 | some k=>c k
 | none=>False
theorem RZ {n:Nat}{c:Nat->Prop}(h:Js n c):c n:=by
 unfold Js at h
 rw[Lp] at h
 by_cases hn:n<256
 ·rw[List.getElem?_range hn] at h;exact h
 rw[List.getElem?_eq_none (by simpa using hn)] at h;exact h.elim
def Gw (k:Nat):Nat->List D->(List (Key×D)->Prop)->Prop
 | _,[],c=>c []
 | o,d :: l,c=>Js o λ o=>Gw k (o+1) l λ r=>c ((.c k o,d) :: r)
theorem Tn {k:Nat}:∀ {l:List D} {o:Nat} {c:List (Key×D)->Prop},Gw k o l c->c (cellsOf k o l)
 | [],_,_,h=>h
 | d :: l,o,c,h=>by
  have h:=RZ h
  exact Tn (l:=l) h
def L3 (te:TI):List D->(List (List D)->Prop)->Prop
 | [],c=>c []
 | d :: l,c=>H4 te d λ x=>L3 te l λ r=>c (x :: r)
theorem Tp {ti:TI}{d:D}{c:List D->Prop}(h:H4 ti d c):∃ l,WP ti d=some l/\c l:=by
 unfold H4 at h
 cases hg:WP ti d with
 | none=>rw[hg] at h;exact h.elim
 | some l=>rw[hg] at h;exact⟨l,rfl,h⟩
theorem S2 {te:TI}:∀ {l:List D} {c:List (List D)->Prop},L3 te l c->∃ rows,Uu te l=some rows/\c rows
 | [],_,h=>⟨[],rfl,h⟩
 | d :: l,c,h=>by
  obtain⟨x,h1,h2⟩:=Tp h
  obtain⟨rows,h3,h4⟩:=S2 h2
  exact⟨x :: rows,by simp[Uu,h1,h3],h4⟩
def IX (n:Nat)(y:D)(c:List (List D)->Prop):Prop:=match y with
 | .sl n' l _=>(match Nat.beq n' n with | true=>c l | false=>False)
 | .v (.slice _ 0 _)=>c []
 | _=>False
theorem Mz {n:Nat}{y:D}{c:List (List D)->Prop}(h:IX n y c):∃ l,Sq n y=some l/\c l:=by
 unfold IX at h
 unfold Sq
 split at h
 ·split at h
  ·rename_i hb;exact⟨_,by simp[Nat.eq_of_beq_eq_true hb],h⟩
  exact h.elim
 ·exact⟨_,rfl,h⟩
 exact h.elim
def Gt (T:List (Nat×TI))(σ:WR)(nm:Nat)(t:Nat)(x y:D)(c:D->List (Key×D)->List Key->Prop):Prop:=kT T t λ ti=>match ti.el with
 | none=>False
 | some E=>kT T E λ te=>IX te.sz y λ l2=>match Nat.ble 1 te.sz&&Nat.ble te.bys 1000 with
  | false=>False
  | true=>match x with
   | .v (.slice none 0 0)=>l2.length<=1000000/\c (.sl te.sz l2 (some nm)) [(.r nm,.rw E te.sz l2.length)] []
   | .sl n l (some g)=>S5 σ (.r g) λ d=>match d with
    | .rw E' n' len=>(match Nat.beq E' E&&Nat.beq n' te.sz&&Nat.beq n te.sz with
     | true=>(len=l.length/\l.length+l2.length<=1000000)/\c (.sl n (l++l2) (some g)) [(.r g,.rw E n (l++l2).length)] [.r g]
     | false=>False)
    | _=>False
   | .ps g len=>S5 σ (.r g) λ d=>(match d with
    | .rp E' n' l=>(match Nat.beq E' E&&Nat.beq n' te.sz with
     | true=>(len=l.length/\l.length+l2.length<=1000000)/\c (.ps g (len+l2.length)) [(.r g,.rp E' n' (l++l2))] [.r g]
     | false=>False)
    | .rw E' n' 0=>(match Nat.beq E' E&&Nat.beq n' te.sz&&Nat.beq len 0 with
     | true=>(l2.length<=1000000)/\c (.ps g l2.length) [(.r g,.rp E' n' l2)] [.r g]
     | false=>False)
    | _=>False)
   | .cl n l=>(match Nat.beq n te.sz with
    | true=>(0<l2.length/\l.length+l2.length<=1000000)/\c (.sl n (l++l2) (some nm)) [(.r nm,.rw E n (l++l2).length)] []
    | false=>False)
   | _=>False
theorem Mq {T:List (Nat×TI)}{σ:WR}{nm t:Nat}{x y:D}{c:D->List (Key×D)->List Key->Prop}(h:Gt T σ nm t x y c):∃ V W R,M1 T σ nm t x y=some (V,W,R)/\c V W R:=by
 obtain⟨ti,h1,h⟩:=Y7 h
 unfold M1
 rw[h1]
 cases hE:ti.el with
 | none=>rw[hE] at h;exact h.elim
 | some E=>
  rw[hE] at h
  obtain⟨te,h2,h⟩:=Y7 h
  obtain⟨l2,h3,h⟩:=Mz h
  split at h
  ·exact h.elim
  rename_i hb
  simp only[Bool.and_eq_true] at hb
  have b1:=Nat.le_of_ble_eq_true hb.1
  have b2:=Nat.le_of_ble_eq_true hb.2
  simp only[hE,h2,h3]
  rw[if_pos ⟨by omega,b2⟩]
  split at h
  ·rw[if_pos h.1];exact⟨_,_,_,rfl,h.2⟩
  ·obtain⟨d,h4,h⟩:=XF h
   split at h
   ·split at h
    ·rename_i hc
     simp only[Bool.and_eq_true] at hc
     have c1:=Nat.eq_of_beq_eq_true hc.1.1
     have c2:=Nat.eq_of_beq_eq_true hc.1.2
     have c3:=Nat.eq_of_beq_eq_true hc.2
     simp only[h4]
     rw[if_pos ⟨c1,c2,c3,h.1.1,h.1.2⟩]
     exact⟨_,_,_,rfl,h.2⟩
    exact h.elim
   exact h.elim
  ·obtain⟨d,h4,h⟩:=XF h
   split at h
   ·split at h
    ·rename_i hc
     simp only[Bool.and_eq_true] at hc
     have c1:=Nat.eq_of_beq_eq_true hc.1
     have c2:=Nat.eq_of_beq_eq_true hc.2
     simp only[h4]
     rw[if_pos ⟨c1,c2,h.1.1,h.1.2⟩]
     exact⟨_,_,_,rfl,h.2⟩
    exact h.elim
   ·split at h
    ·rename_i hc
     simp only[Bool.and_eq_true] at hc
     have c1:=Nat.eq_of_beq_eq_true hc.1.1
     have c2:=Nat.eq_of_beq_eq_true hc.1.2
     have c3:=Nat.eq_of_beq_eq_true hc.2
     simp only[h4]
     rw[if_pos ⟨c1,c2,c3,h.1⟩]
     exact⟨_,_,_,rfl,h.2⟩
    exact h.elim
   exact h.elim
  ·split at h
   ·rename_i hc
    dsimp only
    rw[if_pos ⟨Nat.eq_of_beq_eq_true hc,h.1.1,h.1.2⟩];exact⟨_,_,_,rfl,h.2⟩
   exact h.elim
  exact h.elim
def Gv (T:List (Nat×TI))(σ:WR)(t:Nat)(x:D)(c:D->List (Key×D)->List Key->Prop):Prop:=kT T t λ ti=>match ti.el,x with
 | some E,.pt g len n lo=>kT T E λ te=>S5 σ (.r g) λ d=>(match d with
  | .rp E' n' l=>(match Nat.beq E' E&&Nat.beq n' n&&Nat.beq te.sz n&&Nat.ble 1 n with
   | true=>(l.length=len/\lo<=len)/\c (.tu []) [(.r g,.rp E' n' (l.take lo++List.replicate (len-lo) (te.z.map .v)))] [.r g]
   | false=>False)
  | _=>False)
 | _,_=>False
theorem Ms {T:List (Nat×TI)}{σ:WR}{t:Nat}{x:D}{c:D->List (Key×D)->List Key->Prop}(h:Gv T σ t x c):∃ V W R,Mf T σ t x=some (V,W,R)/\c V W R:=by
 obtain⟨ti,h1,h⟩:=Y7 h
 unfold Mf
 rw[h1]
 split at h
 ·rename_i E g len n lo hel _
  obtain⟨te,h2,h⟩:=Y7 h
  obtain⟨d,h3,h⟩:=XF h
  split at h
  ·split at h
   ·rename_i hb
    simp only[Bool.and_eq_true] at hb
    have b1:=Nat.eq_of_beq_eq_true hb.1.1.1
    have b2:=Nat.eq_of_beq_eq_true hb.1.1.2
    have b3:=Nat.eq_of_beq_eq_true hb.1.2
    have b4:=Nat.le_of_ble_eq_true hb.2
    simp only[hel,h2,h3]
    rw[if_pos ⟨b1,b2,b3,by omega,h.1.1,h.1.2⟩]
    exact⟨_,_,_,rfl,h.2⟩
   exact h.elim
  exact h.elim
 exact h.elim
def Fz (T:List (Nat×TI))(σ:WR)(t:Nat)(x y:D)(ok:Bool)(c:D->List (Key×D)->List Key->Prop):Prop:=kT T t λ ti=>match x,y,ti.mv with
 | .mo k,.v (.int .i64 n),some e=>kT T e λ te=>S5 σ (.o k) λ d=>(match d with | .mp l=>c (JJ te l n ok) [] [.o k] | _=>False)
 | _,_,_=>False
def IY (T:List (Nat×TI))(σ:WR)(t:Nat)(x y z:D)(c:D->List (Key×D)->List Key->Prop):Prop:=kT T t λ ti=>match x,y,ti.mv with
 | .mo k,.v (.int .i64 n),some _=>S5 σ (.o k) λ d=>(match d with | .mp l=>c (.v undef) [(.o k,.mp (Qu l n z))] [.o k] | _=>False)
 | _,_,_=>False
theorem L4 {T:List (Nat×TI)}{σ:WR}{t:Nat}{x y:D}{ok:Bool}{c:D->List (Key×D)->List Key->Prop}(h:Fz T σ t x y ok c):∃ V W R,HA T σ t (some x) (some y) ok=some (V,W,R)/\c V W R:=by
 obtain⟨ti,h1,h⟩:=Y7 h
 unfold HA
 simp only[h1]
 split at h
 ·obtain⟨te,h2,h⟩:=Y7 h
  obtain⟨d,h3,h⟩:=XF h
  split at h
  ·exact⟨_,_,_,by simp[*],h⟩
  exact h.elim
 exact h.elim
theorem R8 {T:List (Nat×TI)}{σ:WR}{t:Nat}{x y z:D}{c:D->List (Key×D)->List Key->Prop}(h:IY T σ t x y z c):∃ V W R,Q5 T σ t (some x) (some y) (some z)=some (V,W,R)/\c V W R:=by
 obtain⟨ti,h1,h⟩:=Y7 h
 unfold Q5
 simp only[h1]
 split at h
 ·obtain⟨d,h3,h⟩:=XF h
  split at h
  ·exact⟨_,_,_,by simp[*],h⟩
  exact h.elim
 exact h.elim
def IW (T:List (Nat×TI))(σ:WR)(nm:Nat)(o:Op)(c:D->List (Key×D)->List Key->Prop)(other:Prop):Prop:=match o with
 | .alloc t=>kT T t λ ti=>G9 ti.z λ z=>Gw nm 0 z λ W=>c (.p nm 0) W []
 | .box t x=>kT T t λ ti=>Vm σ x λ d=>H4 ti d λ l=>Gw nm 0 l λ W=>c (.p nm 0) W []
 | .store t x y=>kT T t λ ti=>Vm σ x λ d=>(match d with
  | .p k off=>Vm σ y λ e=>H4 ti e λ l=>Qr σ k off ti.sz λ _=>Gw k off l λ W=>c (.v undef) W ((List.range ti.sz).map λ i=>.c k (off+i))
  | .pr g len n i j=>S5 σ (.r g) λ d=>(match d with
   | .rp E n' l=>(match Nat.beq n' n&&Nat.ble (j+ti.sz) n with
    | true=>(l.length=len/\i<len)/\Vm σ y λ e=>H4 ti e λ cs=>c (.v undef) [(.r g,.rp E n (l.set i (T0 (l.getD i []) j n cs)))] [.r g]
    | false=>False)
   | _=>False)
  | _=>False)
 | .buildSlice t len parts=>kT T t λ ti=>(match ti.el with
  | none=>False
  | some E=>kT T E λ te=>(match parts.toList.length==len&&Tl 0 (parts.toList.map (·.1))&&decide (0<te.sz)&&decide (len * te.sz<=16777216) with
   | true=>Mt σ (parts.toList.map (·.2)) λ ds=>L3 te ds λ rows=>c (.sl te.sz rows (some nm)) [(.r nm,.rw E te.sz len)] []
   | false=>False))
 | .makeSlice t l x=>kT T t λ ti=>(match ti.el with
  | none=>False
  | some E=>kT T E λ te=>Vm σ l λ d=>Vm σ x λ e=>(match d,e with
   | .v (.int .i64 0),.v (.int .i64 n)=>(match Nat.ble 1 te.sz&&Nat.ble te.bys 1000 with
    | true=>(0<=n/\n<=1000000)/\c (.sl te.sz [] (some nm)) [(.r nm,.rw E te.sz 0)] []
    | false=>False)
   | _,_=>False))
 | .lookup t x y ok=>Vm σ x λ d=>Vm σ y λ e=>Fz T σ t d e ok c
 | .mapUpdate t x y z=>Vm σ x λ d=>Vm σ y λ e=>Vm σ z λ f=>IY T σ t d e f c
 | .insert t x y z=>Vm σ x λ d=>Vm σ y λ e=>Vm σ z λ f=>IY T σ t d e f c
 | .makeMap _ r=>(match r with | none=>c (.mo nm) [(.o nm,.mp [])] [] | some _=>False)
 | .call cl=>(match cl.callee,cl.args.toList,cl.argTypes.toList with
  | .builtin .append,[x,y],[t,t']=>(match Nat.beq t t' with
   | true=>Vm σ x λ d=>Vm σ y λ e=>Gt T σ nm t d e c
   | false=>False)
  | .builtin .clear,[x],[t]=>Vm σ x λ d=>Gv T σ t d c
  | _,_,_=>other)
 | _=>other
theorem Mv {T:List (Nat×TI)}{σ:WR}{nm:Nat}{o:Oper}{c:D->List (Key×D)->List Key->Prop}{other:Prop}(h:IW T σ nm o.op c other):(∃ V W R,OD T σ nm o=some (V,W,R)/\c V W R)∨other:=by
 unfold IW at h
 unfold OD
 split at h
 ·rename_i t ho
  rw[ho]
  obtain⟨ti,h1,h⟩:=Y7 h
  exact .inl ⟨_,_,_,by simp[h1],Tn (S1 h)⟩
 ·rename_i t x ho
  rw[ho]
  obtain⟨ti,h1,h⟩:=Y7 h
  obtain⟨d,h2,h⟩:=ZR h
  obtain⟨l,h3,h⟩:=Tp h
  exact .inl ⟨_,_,_,by simp[h1,h2,h3],Tn h⟩
 ·rename_i t x y ho
  rw[ho]
  obtain⟨ti,h1,h⟩:=Y7 h
  obtain⟨d,h2,h⟩:=ZR h
  split at h
  ·obtain⟨e,h3,h⟩:=ZR h
   obtain⟨l,h4,h⟩:=Tp h
   obtain⟨l0,h5,h⟩:=Up h
   exact .inl ⟨_,_,_,by simp[h1,h2,h3,h4,h5],Tn h⟩
  ·obtain⟨d,h3,h⟩:=XF h
   split at h
   ·split at h
    ·rename_i hb
     simp only[Bool.and_eq_true] at hb
     have e1:=Nat.eq_of_beq_eq_true hb.1
     have e2:=Nat.le_of_ble_eq_true hb.2
     obtain⟨⟨a1,a2⟩,h⟩:=h
     obtain⟨e,h4,h⟩:=ZR h
     obtain⟨cs,h5,h⟩:=Tp h
     refine .inl ⟨_,_,_,?_,h⟩
     simp only[h1,h2,h3,Option.bind_some]
     rw[if_pos ⟨e1,a1,a2,e2⟩,h4]
     simp[h5]
    exact h.elim
   exact h.elim
  exact h.elim
 ·rename_i t len parts ho
  rw[ho]
  obtain⟨ti,h1,h⟩:=Y7 h
  cases hE:ti.el with
  | none=>rw[hE] at h;exact h.elim
  | some E=>
   rw[hE] at h
   obtain⟨te,h2,h⟩:=Y7 h
   split at h
   ·rename_i hc
    obtain⟨ds,h3,h⟩:=Vd h
    obtain⟨rows,h4,h⟩:=S2 h
    refine .inl ⟨_,_,_,?_,h⟩
    unfold Kl
    simp only[h1,hE,h2,hc,h3,h4,if_true,Option.map_some]
   exact h.elim
 ·rename_i t l x ho
  rw[ho]
  obtain⟨ti,h1,h⟩:=Y7 h
  cases hE:ti.el with
  | none=>rw[hE] at h;exact h.elim
  | some E=>
   rw[hE] at h
   obtain⟨te,h2,h⟩:=Y7 h
   obtain⟨d,h3,h⟩:=ZR h
   obtain⟨e,h4,h⟩:=ZR h
   split at h
   ·split at h
    ·rename_i hb
     simp only[Bool.and_eq_true] at hb
     refine .inl ⟨_,_,_,?_,h.2⟩
     unfold OC
     simp only[h1,hE,h2,h3,h4]
     rw[if_pos ⟨by have:=Nat.le_of_ble_eq_true hb.1;omega,Nat.le_of_ble_eq_true hb.2,h.1.1,h.1.2⟩]
    exact h.elim
   exact h.elim
 ·rename_i t x y ok ho
  rw[ho]
  obtain⟨d,h1,h⟩:=ZR h
  obtain⟨e,h2,h⟩:=ZR h
  obtain⟨V,W,R,h3,h⟩:=L4 h
  exact .inl ⟨V,W,R,by simp only[h1,h2];exact h3,h⟩
 ·rename_i t x y z ho
  rw[ho]
  obtain⟨d,h1,h⟩:=ZR h
  obtain⟨e,h2,h⟩:=ZR h
  obtain⟨f,h3,h⟩:=ZR h
  obtain⟨V,W,R,h4,h⟩:=R8 h
  exact .inl ⟨V,W,R,by simp only[h1,h2,h3];exact h4,h⟩
 ·rename_i t x y z ho
  rw[ho]
  obtain⟨d,h1,h⟩:=ZR h
  obtain⟨e,h2,h⟩:=ZR h
  obtain⟨f,h3,h⟩:=ZR h
  obtain⟨V,W,R,h4,h⟩:=R8 h
  exact .inl ⟨V,W,R,by simp only[h1,h2,h3];exact h4,h⟩
 ·rename_i t r ho
  rw[ho]
  split at h
  ·exact .inl ⟨_,_,_,rfl,h⟩
  exact h.elim
 ·rename_i cl ho
  rw[ho]
  split at h
  ·rename_i x y t t' h1 h2 h3
   split at h
   ·rename_i hb
    have:=Nat.eq_of_beq_eq_true hb
    subst this
    obtain⟨d,q1,q2⟩:=ZR h
    obtain⟨e,q3,q4⟩:=ZR q2
    obtain⟨V,W,R,q5,q6⟩:=Mq q4
    exact .inl ⟨V,W,R,by simp[h1,h2,h3,q1,q3,q5],q6⟩
   exact h.elim
  ·rename_i x t h1 h2 h3
   obtain⟨d,q1,q2⟩:=ZR h
   obtain⟨V,W,R,q5,q6⟩:=Ms q2
   exact .inl ⟨V,W,R,by simp[h1,h2,h3,q1,q5],q6⟩
  exact .inr h
 exact .inr h
def H3:List (Nat×D)->Option Tmp->D->(D->Prop)->Prop
 | [],_,V,c=>c V
 | _ :: _,none,V,c=>c V
 | (t,V') :: r,some d,V,c=>match Nat.beq t d with
  | true=>Zm V V'/\c V'
  | false=>H3 r (some d) V c
theorem Tr:∀ {ov:List (Nat×D)} {dst:Option Tmp} {V:D} {c:D->Prop},H3 ov dst V c->∃ V',Zm V V'/\c V'
 | [],_,_,_,h=>⟨_,Zm.refl _,h⟩
 | _ :: _,none,_,_,h=>⟨_,Zm.refl _,h⟩
 | (t,V') :: r,some d,V,c,h=>by
  unfold H3 at h
  split at h
  ·exact⟨V',h.1,h.2⟩
  exact Tr h
def Nv (σ:WR):List (Key×D)->(WR->Prop)->Prop
 | [],c=>c σ
 | (k,d) :: r,c=>Nv ((k,d) :: σ) r c
theorem UU:∀ {W:List (Key×D)} {σ:WR} {c:WR->Prop},Nv σ W c->c (YC σ W)
 | [],_,_,h=>h
 | (k,d) :: W,σ,c,h=>UU (W:=W) h
def LY (σ:WR)(dst:Option Tmp)(V:D)(c:WR->Prop):Prop:=match dst with
 | none=>c σ
 | some d=>c ((.t d,V) :: σ)
theorem Ua {σ:WR}{dst:Option Tmp}{V:D}{c:WR->Prop}(h:LY σ dst V c):c (YC σ (dW dst V)):=by
 cases dst with
 | none=>exact h
 | some d=>exact h
def kR (σ:WR):List (Key×D)->Prop
 | []=>True
 | (k,d) :: r=>(get σ k=some d/\Nd k=true)/\kR σ r
theorem LT {σ:WR}:∀ {R:List (Key×D)},kR σ R->∀ p∈R,get σ p.1=some p.2/\Nd p.1=true
 | [],_,p,hp=>by cases hp
 | (k,d) :: r,h,p,hp=>by
  rcases List.mem_cons.1 hp with rfl | hp
  ·exact h.1
  exact LT h.2 p hp
def S7 (R:List (Key×D)):WR->(WR->Prop)->Prop
 | [],c=>c []
 | (k,d) :: σ,c=>match Yf R k with
  | true=>S7 R σ c
  | false=>S7 R σ λ s=>c ((k,d) :: s)
def LX (R:List (Key×D))(σ:WR)(c:WR->Prop):Prop:=match R with
 | []=>c σ
 | r :: l=>S7 (r :: l) σ c
theorem Uq {R:List (Key×D)}:∀ {σ:WR} {c:WR->Prop},S7 R σ c->c (Wy R σ)
 | [],_,h=>h
 | (k,d) :: σ,c,h=>by
  unfold S7 at h
  unfold Wy
  rw[List.filter_cons]
  split at h
  ·rename_i e;simp only[e];exact Uq h
  rename_i e;simp only[e];exact Uq (c:=λ s=>c ((k,d) :: s)) h
theorem Pv {R:List (Key×D)}{σ:WR}{c:WR->Prop}(h:LX R σ c):c (Wy R σ):=by
 cases R with
 | nil=>rw[XY];exact h
 | cons r l=>exact Uq h
def LW (σ:WR)(o:Op)(c:FuncId->List D->Prop):Prop:=match o with
 | .call cl=>(match cl.callee with
  | .value x=>Vm σ x λ d=>(match d with
   | .fn f caps=>Mt σ cl.args.toList λ ars=>LU ars caps λ ars=>c f ars
   | _=>False)
  | _=>False)
 | _=>False
theorem Oo {σ:WR}{o:Oper}{c:FuncId->List D->Prop}(h:LW σ o.op c):∃ f ars,VB σ o=some (f,ars)/\c f ars:=by
 unfold LW at h
 unfold VB
 split at h
 ·rename_i cl ho
  try rw[ho]
  split at h
  ·rename_i x hc
   obtain⟨d,h1,h⟩:=ZR h
   split at h
   ·obtain⟨ars,h2,h⟩:=Vd h
    exact⟨_,_,by simp[hc,h1,h2],U0 h⟩
   exact h.elim
  exact h.elim
 exact h.elim
def Gz (draw:Bool)(e:TW)(lg:List TW)(c:List TW->Prop):Prop:=match draw with
 | true=>c (e :: lg)
 | false=>c lg
def K6 (P:Program)(T:List (Nat×TI))(ops:Array Oper)(nm:Nat)(draw:Bool)(ov:List (Nat×D)):List Oper->Nat->WR->List TW->(WR->List TW->Prop)->Prop
 | [],_,σ,lg,K=>K σ lg
 | o :: r,i,σ,lg,K=>
  match gd ops σ o.guard with
  | none=>False
  | some false=>LY σ o.dst (.v undef) λ σ'=>Gz draw (gr ops o.guard,[],dk o.dst) lg λ lg=>K6 P T ops nm draw ov r (i+1) σ' lg K
  | some true=>
   IZ T σ o.op (λ V=>H3 ov o.dst V λ V=>LY σ o.dst V λ σ'=>Gz draw (gr ops o.guard++Rl o++JL T σ o,[],dk o.dst) lg λ lg=>K6 P T ops nm draw ov r (i+1) σ' lg K)
    (Js (nm+i) λ k=>IW T σ k o.op (λ V W R=>H3 ov o.dst V λ V=>Nv σ W λ σ1=>LY σ1 o.dst V λ σ'=>Gz draw (gr ops o.guard++Rl o++R,[],W.map (·.1)++dk o.dst) lg λ lg=>K6 P T ops nm draw ov r (i+1) σ' lg K)
     (LW σ o.op λ f ars=>∃ R W V,PR P f ars R k W V/\kR σ R/\H3 ov o.dst V λ V=>LX R σ λ σ0=>Nv σ0 W λ σ1=>LY σ1 o.dst V λ σ'=>Gz draw (gr ops o.guard++Rl o++R.map (·.1),R,W.map (·.1)++dk o.dst) lg λ lg=>K6 P T ops nm draw ov r (i+1) σ' lg K))
theorem TA {P:Program}{T:List (Nat×TI)}{ops:Array Oper}{nm:Nat}{draw:Bool}{ov:List (Nat×D)}{K K2:WR->List TW->Prop}(hK:∀ σ' lg lg',(draw=true->lg=lg')->K σ' lg->K2 σ' lg'):
  ∀ (os:List Oper) (i:Nat) (σ:WR) (lg lg':List TW),(draw=true->lg=lg')->K6 P T ops nm draw ov os i σ lg K->OS P T ops nm os i σ lg' K2
 | [],_,σ,lg,lg',hl,h=>hK σ lg lg' hl h
 | o :: r,i,σ,lg,lg',hl,h=>by
  have hlg:∀ (e:TW) (σ':WR),(Gz draw e lg λ lg=>K6 P T ops nm draw ov r (i+1) σ' lg K)->OS P T ops nm r (i+1) σ' (e :: lg') K2:=λ e σ' h=>by
   cases draw with
   | true=>exact TA hK r _ _ _ _ (λ _=>by rw[hl rfl]) h
   | false=>exact TA hK r _ _ _ _ (λ e=>by cases e) h
  rw[OS]
  rw[K6] at h
  cases hg:gd ops σ o.guard with
  | none=>rw[hg] at h;exact h.elim
  | some b=>
   rw[hg] at h
   cases b with
   | false=>exact hlg _ _ (Ua h)
   | true=>
    simp only at h ⊢
    rcases NA h with⟨V,h1,h⟩ | h
    ·rw[h1];obtain⟨V',hle,h⟩:=Tr h;exact⟨V',hle,hlg _ _ (Ua h)⟩
    rcases Mv (RZ h) with⟨V,W,R,h1,h⟩ | h
    ·cases hp:U7 T σ o with
     | some V'=>
      exfalso
      have:U7 T σ o=none:=T1 h1
      rw[this] at hp;cases hp
     | none=>
      simp only[h1]
      obtain⟨V',hle,h⟩:=Tr h
      refine⟨V',hle,?_⟩
      rw[Wq]
      exact hlg _ _ (Ua (UU h))
    ·obtain⟨f,ars,h1,h⟩:=Oo h
     obtain⟨R,W,V,h2,h3,h⟩:=h
     obtain⟨n1,n2⟩:=Qv (nm:=nm+i) (T:=T) h1
     simp only[n1,n2,h1]
     obtain⟨V',hle,h⟩:=Tr h
     refine⟨R,W,V,h2,LT h3,V',hle,?_⟩
     rw[Wq]
     exact hlg _ _ (Ua (UU (Pv h)))
section
variable {P:Program} {T:List (Nat×TI)} {cx:Cx} {σ:List (Key×D)} {N:Nat} {Q:Exit->List (Key×D)->Nat->Prop} {nt N1:Nat}
theorem GE (ov:List (Nat×D))(hT:Zd P T)(hm:P.follows .mixedOrders=true)(hnt:cx.nt=nt){id:Nat}{ops:Array Oper}(hd:Nk nt ops=true)(hN:N+ops.size=N1)(h:∀ K:WR->List TW->Prop,(∀ σ' lg,Q .normal σ' N1->K σ' lg)->K6 P T ops N false ov ops.toList 0 σ [] K):DW P cx (.region id ops false) σ N Q:=
 RN hT hm (by rw[hnt];exact hd) (TA (K:=λ σ' _=>Q .normal σ' N1) (λ σ' lg lg' _ hk=>⟨λ e=>(by cases e),hN ▸ hk⟩) _ _ _ _ _ (λ e=>by cases e) (h _ λ _ _ h=>h))
theorem Gf (ov:List (Nat×D))(hT:Zd P T)(hm:P.follows .mixedOrders=true)(hnt:cx.nt=nt){id:Nat}{ops:Array Oper}(hd:Nk nt ops=true)(hN:N+ops.size=N1)(h:∀ K:WR->List TW->Prop,(∀ σ' lg,Me ops lg=true->Q .normal σ' N1->K σ' lg)->K6 P T ops N true ov ops.toList 0 σ [] K):DW P cx (.region id ops true) σ N Q:=
 RN hT hm (by rw[hnt];exact hd) (TA (K:=λ σ' lg=>Me ops lg=true/\Q .normal σ' N1) (λ σ' lg lg' e hk=>by
  rw[<-e rfl];exact⟨λ _=>hk.1,hN ▸ hk.2⟩) _ _ _ _ _ (λ _=>rfl) (h _ λ _ _ h1 h2=>⟨h1,h2⟩))
end
theorem Z7 {p:Prop}[Decidable p](h:p):Zm (.v (.bool (decide p))) (.v (.bool true)):=.of_eq (by simp[h])
theorem Ze {p:Prop}[Decidable p](h:¬ p):Zm (.v (.bool (decide p))) (.v (.bool false)):=.of_eq (by simp[h])
theorem Zr {a b:Int}(h:a=b):Zm (.v (.int .i64 a)) (.v (.int .i64 b)):=.of_eq (by rw[h])
/-! what a walk's steps are proved by, unless it says so -/
theorem Xd {x:D}(h:Zm x (.v (.bool true)):=by first | exact Z7 (by omega) | exact Zm.of_eq (by simp[*];done) | exact Z7 (by first | omega | (simp only[List.length_append,List.length_take,List.length_cons,List.length_nil,Zq,Zs];omega) | assumption | (simp_all;done)) | exact Zm.of_eq (by simp_all;done)):Zm x (.v (.bool true)):=h
theorem X5 {x:D}(h:Zm x (.v (.bool false)):=by first | exact Ze (by omega) | exact Zm.of_eq (by simp[*];done) | exact Ze (by first | omega | (simp only[List.length_append,List.length_take,List.length_cons,List.length_nil,Zq,Zs];omega) | assumption | (simp_all;done)) | exact Zm.of_eq (by simp_all;done)):Zm x (.v (.bool false)):=h
theorem Ww {x:D}{b:Int}(h:Zm x (.v (.int .i64 b)):=by exact Zr (by first | omega | exact IntWalk.i64_in _ (by omega) | (rw[IntWalk.i64_in _ (by omega)];omega) | (simp only[List.length_append,List.length_take,List.length_cons,List.length_nil,Zq,Zs];omega) | assumption | (simp_all;done))):Zm x (.v (.int .i64 b)):=h
theorem XP {x y:D}(h:Zm x y:=by repeat first | exact Zm.refl _ | exact Zm.nil _ | exact Zm.untag _ _ _ | refine Zm.ag ?_ | refine Zm.tu ?_ | refine ZO.cons ?_ ?_ | exact ZO.nil):Zm x y:=h
theorem XQ {l:List (List D)}{n j:Nat}(hl:l.length=n)(hj:j<n:=by omega):0<=((j:Nat):Int)/\((j:Nat):Int)<((l.length:Nat):Int):=⟨by omega,by omega⟩
theorem XR {l:List (List D)}{n j:Nat}{r r':List D}(h:∀ _:j<n,l.getD j []=r)(e:r=r')(hj:j<n:=by omega):Zm (.q (l.getD (Int.toNat ((j:Nat):Int)) [])) (.q r'):=Zm.of_eq (by rw[Int.toNat_natCast,h hj,e])
theorem Zk {P:Program}{f:FuncId}{ars:List D}{nm:Nat}{σ:WR}{R W:List (Key×D)}{V:D}{c:List (Key×D)->List (Key×D)->D->Prop}(h:ZB P f ars R W V)(hk:c R W V)(hR:kR σ R:=by repeat first | exact trivial | refine And.intro ⟨rfl,rfl⟩ ?_):∃ R W V,PR P f ars R nm W V/\kR σ R/\c R W V:=⟨R,W,V,.inl h,hR,hk⟩
theorem H6 {P:Program}{f:FuncId}{ars:List D}{nm:Nat}{σ:WR}{R W:List (Key×D)}{V:D}{c:List (Key×D)->List (Key×D)->D->Prop}(h:Vn P f ars R nm W V)(hk:c R W V)(hR:kR σ R:=by repeat first | exact trivial | refine And.intro ⟨rfl,rfl⟩ ?_):∃ R W V,PR P f ars R nm W V/\kR σ R/\c R W V:=⟨R,W,V,.inr h,hR,hk⟩
section
variable {P:Program} {T:List (Nat×TI)} {cx:Cx} {σ τ:List (Key×D)} {N:Nat} {Q:Exit->List (Key×D)->Nat->Prop} {nt N1:Nat}
theorem Zx (ov:List (Nat×D))(hT:Zd P T)(hnt:cx.nt=nt){id:Nat}{ops:Array Oper}(h:∀ K:WR->List TW->Prop,(∀ σ' lg,Q .normal σ' N1->K σ' lg)->K6 P T ops N false ov ops.toList 0 σ [] K)(hm:P.follows .mixedOrders=true:=by kernel_rfl)(hd:Nk nt ops=true:=by kernel_rfl)(hN:N+ops.size=N1:=by simp only[List.size_toArray,List.length_cons,List.length_nil,Nat.reduceAdd];rfl):DW P cx (.region id ops false) σ N Q:=GE ov hT hm hnt hd hN h
theorem ZQ (ov:List (Nat×D))(hT:Zd P T)(hnt:cx.nt=nt){id:Nat}{ops:Array Oper}(h:∀ K:WR->List TW->Prop,(∀ σ' lg,Me ops lg=true->Q .normal σ' N1->K σ' lg)->K6 P T ops N true ov ops.toList 0 σ [] K)(hm:P.follows .mixedOrders=true:=by kernel_rfl)(hd:Nk nt ops=true:=by kernel_rfl)(hN:N+ops.size=N1:=by simp only[List.size_toArray,List.length_cons,List.length_nil,Nat.reduceAdd];rfl):DW P cx (.region id ops true) σ N Q:=Gf ov hT hm hnt hd hN h
theorem VS.toA (hN:cx.n0<=N1:=by omega)(h:kV N1 σ τ:=by repeat first | exact trivial | refine And.intro (And.intro (by first | rfl | simp[D.ok,D.oks,D.okss,D.okm,Xi,X7]) (by first | exact Or.inl rfl | (refine Or.inr ⟨_,rfl,?_,trivial⟩;repeat first | exact Zm.refl _ | exact Zm.nil _ | exact Zm.untag _ _ _ | refine Zm.ag ?_ | refine Zm.tu ?_ | refine ZO.cons ?_ ?_ | exact ZO.nil;done) | (simp[get,Key.eq];done))) ?_):VS cx σ N τ N1:=VS.toK hN h
theorem Zn {f:FuncId}{fn:Func}{c:Code}{args:List D}{R W:List (Key×D)}{V:D}(N0 nt:Nat)(rs:List ResultVar)(hT:Zd P T)(hf:P.funcs[f]?=some fn)(hb:fn.body=some c)(hnt:fn.ntmps=nt)(hrs:fn.results.toList=rs)(h:∀ cx:Cx,cx.nt=nt->cx.n0=N0->DW P cx c (YQ 0 args R) N0 (TN T rs V W))(hw:ZA args R W V N0=true:=by simp[ZA,D.ok,D.oks,D.okss,ZM,Xa,WO])(hen:WV P f=true:=by kernel_rfl)(hal:args.length<=nt:=by simp):ZB P f args R W V:=ZX N0 nt rs hT hen hf hb hnt hrs hal hw h
end
mutual
def D.ren (ρ:Nat->Nat):D->D
 | .v x=>.v x
 | .sl n l g=>.sl n (D.renss ρ l) g
 | .p k off=>.p (ρ k) off
 | .q l=>.q (D.rens ρ l)
 | .ag l=>.ag (D.rens ρ l)
 | .tu l=>.tu (D.rens ρ l)
 | .fn f l=>.fn f (D.rens ρ l)
 | .rw a b c=>.rw a b c
 | .o k=>.o (ρ k)
 | .mo k=>.mo (ρ k)
 | .mp l=>.mp (D.renm ρ l)
 | .ob J=>.ob J
 | .j X J=>.j X J
 | .cl n l=>.cl n (D.renss ρ l)
 | .rp E n l=>.rp E n (D.renss ρ l)
 | .ps g len=>.ps g len
 | .pr g len n i0 j0=>.pr g len n i0 j0
 | .pt g len n lo=>.pt g len n lo
 | .mq bm es clock l=>.mq bm es clock (D.renm ρ l)
 | .it k bm es clock rem last=>.it (ρ k) bm es clock rem last
def D.rens (ρ:Nat->Nat):List D->List D
 | []=>[]
 | d :: l=>D.ren ρ d :: D.rens ρ l
def D.renss (ρ:Nat->Nat):List (List D)->List (List D)
 | []=>[]
 | d :: l=>D.rens ρ d :: D.renss ρ l
def D.renm (ρ:Nat->Nat):List (Int×D)->List (Int×D)
 | []=>[]
 | (i,d) :: l=>(i,D.ren ρ d) :: D.renm ρ l
end
theorem D.rens_map (ρ:Nat->Nat):∀ l:List D,D.rens ρ l=l.map (D.ren ρ)
 | []=>rfl
 | d :: l=>by rw[D.rens,D.rens_map ρ l,List.map_cons]
theorem D.renss_map (ρ:Nat->Nat):∀ l:List (List D),D.renss ρ l=l.map (D.rens ρ)
 | []=>rfl
 | d :: l=>by rw[D.renss,D.renss_map ρ l,List.map_cons]
theorem D.renm_map (ρ:Nat->Nat):∀ l:List (Int×D),D.renm ρ l=l.map λ p=>(p.1,p.2.ren ρ)
 | []=>rfl
 | (i,d) :: l=>by rw[D.renm,D.renm_map ρ l,List.map_cons]
/-! what has no names stays as it is -/
mutual
theorem D.ren_id {f g:Nat->Bool}{ρ:Nat->Nat}(hf:∀ k,f k=true->ρ k=k):∀ d:D,d.ok f g=true->d.ren ρ=d
 | .v _,_=>rfl
 | .sl n l r,h=>by simp only[D.ok,Bool.and_eq_true] at h;rw[D.ren,D.renss_id hf l h.1]
 | .p k off,h=>by simp only[D.ok] at h;rw[D.ren,hf k h]
 | .q l,h=>by simp only[D.ok] at h;rw[D.ren,D.rens_id hf l h]
 | .ag l,h=>by simp only[D.ok] at h;rw[D.ren,D.rens_id hf l h]
 | .tu l,h=>by simp only[D.ok] at h;rw[D.ren,D.rens_id hf l h]
 | .fn _ l,h=>by simp only[D.ok] at h;rw[D.ren,D.rens_id hf l h]
 | .rw _ _ _,_=>rfl
 | .o k,h=>by simp only[D.ok] at h;rw[D.ren,hf k h]
 | .mo k,h=>by simp only[D.ok] at h;rw[D.ren,hf k h]
 | .mp l,h=>by simp only[D.ok] at h;rw[D.ren,D.renm_id hf l h]
 | .ob _,_=>rfl
 | .j _ _,_=>rfl
 | .cl n l,h=>by simp only[D.ok] at h;rw[D.ren,D.renss_id hf l h]
 | .rp E n l,h=>by simp only[D.ok] at h;rw[D.ren,D.renss_id hf l h]
 | .ps _ _,_=>rfl
 | .pr _ _ _ _ _,_=>rfl
 | .pt _ _ _ _,_=>rfl
 | .mq _ _ _ l,h=>by simp only[D.ok] at h;rw[D.ren,D.renm_id hf l h]
 | .it k _ _ _ _ _,h=>by simp only[D.ok] at h;rw[D.ren,hf k h]
theorem D.rens_id {f g:Nat->Bool}{ρ:Nat->Nat}(hf:∀ k,f k=true->ρ k=k):∀ l:List D,D.oks f g l=true->D.rens ρ l=l
 | [],_=>rfl
 | d :: l,h=>by simp only[D.oks,Bool.and_eq_true] at h;rw[D.rens,D.ren_id hf d h.1,D.rens_id hf l h.2]
theorem D.renss_id {f g:Nat->Bool}{ρ:Nat->Nat}(hf:∀ k,f k=true->ρ k=k):∀ l:List (List D),D.okss f g l=true->D.renss ρ l=l
 | [],_=>rfl
 | d :: l,h=>by simp only[D.okss,Bool.and_eq_true] at h;rw[D.renss,D.rens_id hf d h.1,D.renss_id hf l h.2]
theorem D.renm_id {f g:Nat->Bool}{ρ:Nat->Nat}(hf:∀ k,f k=true->ρ k=k):∀ l:List (Int×D),D.okm f g l=true->D.renm ρ l=l
 | [],_=>rfl
 | (i,d) :: l,h=>by simp only[D.okm,Bool.and_eq_true] at h;rw[D.renm,D.ren_id hf d h.1,D.renm_id hf l h.2]
end
def Key.ren (ρ:Nat->Nat):Key->Key
 | .c k off=>.c (ρ k) off
 | .o k=>.o (ρ k)
 | k=>k
def WJ (ρ:Nat->Nat)(p:Key×D):Key×D:=(p.1.ren ρ,p.2.ren ρ)
section
variable {P:Program} {m m':Mp} {Im Im':Nat->Nat->Prop} {w w':World} {ρ:Nat->Nat} {f:Nat->Bool}
def Mp.ren (m:Mp)(ρ:Nat->Nat)(f:Nat->Bool):Mp:=⟨λ k=>if f k then m.blk (ρ k) else none,λ _=>none,λ k=>if f k then m.obj (ρ k) else none⟩
theorem Mp.ren_blk {k b:Nat}(h:(m.ren ρ f).blk k=some b):f k=true/\m.blk (ρ k)=some b:=by
 by_cases hk:f k=true
 ·exact⟨hk,by simpa[Mp.ren,hk] using h⟩
 simp[Mp.ren,hk] at h
theorem Mp.ren_obj {k b:Nat}(h:(m.ren ρ f).obj k=some b):f k=true/\m.obj (ρ k)=some b:=by
 by_cases hk:f k=true
 ·exact⟨hk,by simpa[Mp.ren,hk] using h⟩
 simp[Mp.ren,hk] at h
theorem Yz.unren {x:Value}{d e:D}(h:Yz m Im w x e)(he:d.ren ρ=e)(hd:d.ok f Vt=true):Yz (m.ren ρ f) Im w x d:=by
 induction h generalizing d with
 | v x=>cases d <;> simp only[D.ren] at he <;> cases he;exact .v x
 | p k off b h=>
  cases d <;> simp only[D.ren] at he <;> cases he
  simp only[D.ok] at hd
  exact .p _ _ b (by simp only[Mp.ren,hd,if_true];exact h)
 | o k b h=>
  cases d <;> simp only[D.ren] at he <;> cases he
  simp only[D.ok] at hd
  exact .o _ b (by simp only[Mp.ren,hd,if_true];exact h)
 | mo k b h=>
  cases d <;> simp only[D.ren] at he <;> cases he
  simp only[D.ok] at hd
  exact .mo _ b (by simp only[Mp.ren,hd,if_true];exact h)
 | q bl off X l h hr ih=>
  cases d <;> simp only[D.ren] at he <;> cases he
  rename_i l0
  simp only[D.ok] at hd
  have hl:(D.rens ρ l0).length=l0.length:=by rw[D.rens_map];simp
  refine .q bl off X l0 (λ i hi=>h i (by omega)) λ i hi=>?_
  exact ih i (by omega) (by simp[D.rens_map]) (D.oks_get hd i hi)
 | ag cs l hn hr ih=>
  cases d <;> simp only[D.ren] at he <;> cases he
  rename_i l0
  simp only[D.ok] at hd
  have hl:(D.rens ρ l0).length=l0.length:=by rw[D.rens_map];simp
  exact .ag cs l0 (by omega) λ i hi=>ih i (by omega) (by simp[D.rens_map]) (D.oks_get hd i hi)
 | tu cs l hn hr ih=>
  cases d <;> simp only[D.ren] at he <;> cases he
  rename_i l0
  simp only[D.ok] at hd
  have hl:(D.rens ρ l0).length=l0.length:=by rw[D.rens_map];simp
  exact .tu cs l0 (by omega) λ i hi=>ih i (by omega) (by simp[D.rens_map]) (D.oks_get hd i hi)
 | fn g cs l hn hr ih=>
  cases d <;> simp only[D.ren] at he <;> cases he
  rename_i l0
  simp only[D.ok] at hd
  have hl:(D.rens ρ l0).length=l0.length:=by rw[D.rens_map];simp
  exact .fn g cs l0 (by omega) λ i hi=>ih i (by omega) (by simp[D.rens_map]) (D.oks_get hd i hi)
 | sl a c bl off n X l g h1 ha hc hn ho hr hg ih=>
  cases d <;> simp only[D.ren] at he <;> cases he
  rename_i l0
  simp only[D.ok,Bool.and_eq_true] at hd
  have hl:(D.renss ρ l0).length=l0.length:=by rw[D.renss_map];simp
  have hl2:∀ i (hi:i<l0.length),((D.renss ρ l0)[i]'(by omega))=D.rens ρ l0[i]:=λ i hi=>by simp[D.renss_map]
  have hl3:∀ i (hi:i<l0.length),((D.renss ρ l0)[i]'(by omega)).length=l0[i].length:=λ i hi=>by rw[hl2 i hi,D.rens_map];simp
  rw[hl] at h1 ha ⊢
  refine .sl a c bl off n X l0 g h1 ha (λ i j hi hj=>hc i j (by omega) hj) (λ i hi=>by rw[<-hl3 i hi];exact hn i (by omega)) (λ i j hi hj=>ho i j (by omega) hj)
   (λ i hi j hj=>ih i (by omega) j (by rw[hl3 i hi];exact hj) (by simp[D.renss_map,D.rens_map]) (D.oks_get (D.okss_get hd.1 i hi) j hj)) λ r e=>?_
  have:=hd.2
  subst e
  simp[Vt] at this
 | cl a n l h ih=>
  cases d <;> simp only[D.ren] at he <;> cases he
  rename_i l0
  have hl:(D.renss ρ l0).length=l0.length:=by rw[D.renss_map];simp
  have:=ih (d:=.sl n l0 none) (by rw[D.ren]) (by simp only[D.ok] at hd ⊢;simp[hd])
  rw[hl] at this ⊢
  exact .cl a n l0 this
 | ps a c g len ha hcp h=>
  cases d <;> simp only[D.ren] at he <;> cases he
  simp[D.ok,Vt] at hd
 | pt a c g len n lo h=>
  cases d <;> simp only[D.ren] at he <;> cases he
  simp[D.ok,Vt] at hd
 | pr g len n i j b h=>
  cases d <;> simp only[D.ren] at he <;> cases he
  simp[D.ok,Vt] at hd
theorem Yz.ren {x:Value}{d:D}(h:Yz m' Im w x d)(hb:∀ k b,m'.blk k=some b->m.blk (ρ k)=some b)(ho':∀ k b,m'.obj k=some b->m.obj (ρ k)=some b)(hrow:∀ r,m'.row r=none):Yz m Im w x (d.ren ρ):=by
 induction h with
 | v x=>exact .v x
 | p k off b h=>exact .p _ off b (hb k b h)
 | o k b h=>exact .o _ b (ho' k b h)
 | mo k b h=>exact .mo _ b (ho' k b h)
 | q bl off X l h hr ih=>
  rw[D.ren,D.rens_map]
  exact .q bl off X _ (λ i hi=>h i (by simpa using hi)) λ i hi=>by rw[List.getElem_map];exact ih i (by simpa using hi)
 | ag cs l hn hr ih=>
  rw[D.ren,D.rens_map]
  exact .ag cs _ (by simpa using hn) λ i hi=>by rw[List.getElem_map];exact ih i (by simpa using hi)
 | tu cs l hn hr ih=>
  rw[D.ren,D.rens_map]
  exact .tu cs _ (by simpa using hn) λ i hi=>by rw[List.getElem_map];exact ih i (by simpa using hi)
 | fn g cs l hn hr ih=>
  rw[D.ren,D.rens_map]
  exact .fn g cs _ (by simpa using hn) λ i hi=>by rw[List.getElem_map];exact ih i (by simpa using hi)
 | sl a c bl off n X l g h1 ha hc hn ho hr hg ih=>
  rw[D.ren,D.renss_map]
  have hl:(l.map (D.rens ρ)).length=l.length:=by simp
  rw[<-hl] at h1 ha ⊢
  refine .sl a c bl off n X _ g h1 ha (λ i j hi hj=>hc i j (by omega) hj) (λ i hi=>by rw[List.getElem_map,D.rens_map,List.length_map];exact hn i (by omega)) (λ i j hi hj=>ho i j (by omega) hj)
   (λ i hi j hj=>?_) λ r e=>?_
  ·have:(l.map (D.rens ρ))[i]=(l[i]'(by omega)).map (D.ren ρ):=by simp[D.rens_map]
   simp only[this,List.getElem_map]
   exact ih i (by omega) j (by rw[List.getElem_map,D.rens_map,List.length_map] at hj;exact hj)
  obtain⟨R,q,_⟩:=hg r e
  rw[hrow r] at q;cases q
 | cl a n l h ih=>
  have hl:(D.renss ρ l).length=l.length:=by rw[D.renss_map];simp
  simp only[D.ren] at ih ⊢
  rw[<-hl] at ih ⊢
  exact .cl a n _ ih
 | ps a c g len ha hcp h=>
  obtain⟨R,q,_⟩:=h
  rw[hrow g] at q;cases q
 | pt a c g len n lo h=>
  obtain⟨R,q,_⟩:=h
  rw[hrow g] at q;cases q
 | pr g len n i j b h=>
  obtain⟨R,q,_⟩:=h
  rw[hrow g] at q;cases q
theorem WN.unren {b:Nat}{d e:D}(h:WN m Im w b e)(he:d.ren ρ=e)(hd:d.ok f Vt=true):WN (m.ren ρ f) Im w b d:=by
 cases h with
 | mp es clock l h1 h2 h3 h4 h5=>
  cases d <;> simp only[D.ren] at he <;> cases he
  rename_i l0
  simp only[D.ok] at hd
  have hl:(D.renm ρ l0).length=l0.length:=by rw[D.renm_map];simp
  refine .mp es clock l0 h1 (by omega) (λ i hi=>?_) (λ i hi v hv=>?_) h5
  ·have:=h3 i (by omega);simpa[D.renm_map] using this
  exact(h4 i (by omega) v hv).unren (by simp[D.renm_map]) (D.okm_get hd i hi)
 | mq es clock l h1 h2 h3 h4 h5=>
  cases d <;> simp only[D.ren] at he <;> cases he
  rename_i l0
  simp only[D.ok] at hd
  have hl:(D.renm ρ l0).length=l0.length:=by rw[D.renm_map];simp
  refine .mq es clock l0 h1 (by omega) (λ i hi=>?_) (λ i hi v hv=>?_) h5
  ·have:=h3 i (by omega);simpa[D.renm_map] using this
  exact(h4 i (by omega) v hv).unren (by simp[D.renm_map]) (D.okm_get hd i hi)
 | it k bm es clock rem last seen h1 h2 h3 h4 h5 h6=>
  cases d <;> simp only[D.ren] at he <;> cases he
  simp only[D.ok] at hd
  exact .it _ bm es clock rem last seen (by simp only[Mp.ren,hd,if_true];exact h1) h2 h3 h4 h5 h6
 | ob J h hs=>
  cases d <;> simp only[D.ren] at he <;> cases he
  exact .ob J h hs
theorem WN.ren {b:Nat}{d:D}(h:WN m' Im w b d)(hb:∀ k b,m'.blk k=some b->m.blk (ρ k)=some b)(ho':∀ k b,m'.obj k=some b->m.obj (ρ k)=some b)(hrow:∀ r,m'.row r=none):WN m Im w b (d.ren ρ):=by
 cases h with
 | mp es clock l h1 h2 h3 h4 h5=>
  rw[D.ren,D.renm_map]
  exact .mp es clock _ h1 (by simpa using h2) (λ i hi=>by simpa using h3 i (by simpa using hi)) (λ i hi v hv=>by
   have:=(h4 i (by simpa using hi) v hv).ren hb ho' hrow
   simpa using this) h5
 | mq es clock l h1 h2 h3 h4 h5=>
  rw[D.ren,D.renm_map]
  exact .mq es clock _ h1 (by simpa using h2) (λ i hi=>by simpa using h3 i (by simpa using hi)) (λ i hi v hv=>by
   have:=(h4 i (by simpa using hi) v hv).ren hb ho' hrow
   simpa using this) h5
 | it k bm es clock rem last seen h1 h2 h3 h4 h5 h6=>exact .it _ bm es clock rem last seen (ho' k bm h1) h2 h3 h4 h5 h6
 | ob J h hs=>exact .ob J h hs
def Ut (args:List D)(R W:List (Key×D))(V:D):Bool:=
 args.all (λ d=>d.ok (Xa R) Vt)&&R.all (λ p=>p.2.ok (Xa R) Vt&&WO p.1)&&W.all (λ p=>p.2.ok (Xa R) Vt&&(match p.1 with | .c k _=>Xa R k | .o k=>Xa R k | .j=>R.any λ p=>GK p.1 | _=>false))&&V.ok (Xa R) Vt
theorem ZB.ren {g:FuncId}{args:List D}{R W:List (Key×D)}{V:D}(h:ZB P g args R W V)(ρ:Nat->Nat)(hw:Ut args R W V=true)(hinj:∀ k∈ZM R,∀ k'∈ZM R,ρ k=ρ k'->k=k'):
  ZB P g (args.map (D.ren ρ)) (R.map (WJ ρ)) (W.map (WJ ρ)) (V.ren ρ):=by
 refine⟨h.1,λ cx Fr m Im w vs hmem hargs hR=>?_⟩
 simp only[Ut,Bool.and_eq_true,List.all_eq_true] at hw
 obtain⟨⟨⟨w1,w2⟩,w3⟩,w4⟩:=hw
 have hinj:∀ k k',Xa R k=true->Xa R k'=true->ρ k=ρ k'->k=k':=λ k k' hk hk'=>by
  unfold Xa at hk hk'
  rw[List.contains_iff_mem] at hk hk'
  exact hinj k hk k' hk'
 have hmemR:∀ p∈R,WJ ρ p∈R.map (WJ ρ):=λ p hp=>List.mem_map.2 ⟨p,hp,rfl⟩
 have hTb:∀ k b,Xa R k=true->m.blk (ρ k)=some b->Q1 m (R.map (WJ ρ)) b:=λ k b hk hb=>by
  rcases WE hk with⟨off,d,hm⟩ | ⟨d,hm⟩
  ·exact .inl ⟨ρ k,off,d.ren ρ,hmemR _ hm,hb⟩
  obtain⟨b',q1,_⟩:=hR _ (hmemR _ hm)
  have:=hmem.dis _ b hb
  rw[this] at q1;cases q1
 have hTo:∀ k b,Xa R k=true->m.obj (ρ k)=some b->Q1 m (R.map (WJ ρ)) b:=λ k b hk hb=>by
  rcases WE hk with⟨off,d,hm⟩ | ⟨d,hm⟩
  ·obtain⟨b',v,q1,_⟩:=hR _ (hmemR _ hm)
   have:=hmem.dis _ b' q1
   rw[this] at hb;cases hb
  exact .inr (.inr ⟨ρ k,d.ren ρ,hmemR _ hm,hb⟩)
 have hX:∀ X J,(Key.j,D.j X J)∈R->JX cx m Im w X J:=λ X J hm=>by
  obtain⟨X',J',e,hx⟩:=hR _ (hmemR _ hm)
  have e:D.j X J=D.j X' J':=e
  cases e;exact hx
 let m':=m.ren ρ (Xa R)
 let cx':Cx:={ w0:=w,C:=Q1 m (R.map (WJ ρ)),Im0:=Im,m0:=⟨λ _=>none,λ _=>none,λ _=>none⟩,nt:=0,n0:=0,h0:=(λ k b hk=>by cases hk),h0o:=(λ k b hk=>by cases hk) }
 have hmem':We cx' (λ _=>False) m' Im w:={
  off:=Off.refl _ _,im:=hmem.im,imb:=λ b o hi=>.inl hi,im0:=λ b o hi=>hi
  own:=λ k b hk=>.inl (hTb k b (Mp.ren_blk hk).1 (Mp.ren_blk hk).2)
  lt:=λ k b hk=>hmem.lt _ b (Mp.ren_blk hk).2
  free:=λ k b o hk=>hmem.free _ b o (Mp.ren_blk hk).2
  nim:=λ k b o hk=>hmem.nim _ b o (Mp.ren_blk hk).2
  inj:=λ k k' b hk hk'=>hinj k k' (Mp.ren_blk hk).1 (Mp.ren_blk hk').1 (hmem.inj _ _ b (Mp.ren_blk hk).2 (Mp.ren_blk hk').2)
  row:=λ g R hg=>by cases hg
  k0:=Z8.refl _ _
  rown:=λ g R b hg=>by cases hg
  m0r:=λ g R hg=>by cases hg
  rIm:=λ g R b o hg=>by cases hg
  rblk:=λ g R b k hg=>by cases hg
  rinj:=λ g g' R R' b hg=>by cases hg
  fr:=λ k hk=>hk.elim
  m0:=λ k b hk=>by cases hk
  m0o:=λ k b hk=>by cases hk
  oown:=λ k b hk=>.inl (hTo k b (Mp.ren_obj hk).1 (Mp.ren_obj hk).2)
  olt:=λ k b hk=>hmem.olt _ b (Mp.ren_obj hk).2
  onim:=λ k b o hk=>hmem.onim _ b o (Mp.ren_obj hk).2
  oinj:=λ k k' b hk hk'=>hinj k k' (Mp.ren_obj hk).1 (Mp.ren_obj hk').1 (hmem.oinj _ _ b (Mp.ren_obj hk).2 (Mp.ren_obj hk').2)
  oblk:=λ k k' b hk hk'=>hmem.oblk _ _ b (Mp.ren_obj hk).2 (Mp.ren_blk hk').2
  orow:=λ k g R b hk hg=>by cases hg
  dis:=λ k b hk=>by
   have:=hmem.dis _ b (Mp.ren_blk hk).2
   show (if _ then m.obj (ρ k) else none)=none
   rw[this];simp }
 have hargs':YU m' Im w vs args:=by
  rw[ZS] at hargs ⊢
  refine⟨by simpa using hargs.1,λ i hi=>?_⟩
  exact(hargs.2 i (by simpa using hi)).unren (by simp) (w1 _ (List.getElem_mem hi))
 have hR':Holds cx' m' Im w R:=λ p hp=>by
  have hh:=hR _ (hmemR _ hp)
  have hok:=w2 p hp
  obtain⟨key,d⟩:=p
  cases key with
  | c k off=>
   obtain⟨b,v,q1,q2,q3⟩:=hh
   have hk:=W5 hp
   exact⟨b,v,by show (if Xa R k then m.blk (ρ k) else none)=_;rw[if_pos hk];exact q1,q2,q3.unren rfl hok.1⟩
  | o k=>
   obtain⟨b,q1,q2⟩:=hh
   have hk:=Vs hp
   exact⟨b,by show (if Xa R k then m.obj (ρ k) else none)=_;rw[if_pos hk];exact q1,q2.unren rfl hok.1⟩
  | j=>
   obtain⟨X,J,e,hx⟩:=hh
   cases d <;> simp only[WJ,D.ren] at e <;> cases e
   exact⟨X,J,rfl,{ hx with own:=λ b hb=>.inl (.inr (.inl ⟨X,J,hmemR _ hp,hb⟩)),blk:=λ b k hb hk=>hx.blk b _ hb (Mp.ren_blk hk).2,row:=(λ b g R hb hg=>by cases hg),obj:=λ b k hb hk=>hx.obj b _ hb (Mp.ren_obj hk).2 }⟩
  | t x=>cases hok.2
  | r g=>cases hok.2
 have hTch:∀ b,Q1 m' R b->Q1 m (R.map (WJ ρ)) b:=λ b hb=>by
  rcases hb with⟨k,off,d,hm,hb⟩ | ⟨X,J,hm,hb⟩ | ⟨k,d,hm,hb⟩
  ·exact .inl ⟨ρ k,off,d.ren ρ,hmemR _ hm,(Mp.ren_blk hb).2⟩
  ·exact .inr (.inl ⟨X,J,hmemR _ hm,hb⟩)
  exact .inr (.inr ⟨ρ k,d.ren ρ,hmemR _ hm,(Mp.ren_obj hb).2⟩)
 refine(h.2 cx' _ m' Im w vs hmem' hargs' hR').mono ?_
 rintro e w' ⟨v,Im',rfl,q1,q2,q3,q4,q5,q6,q7⟩
 have hoff:Off (Q1 m (R.map (WJ ρ))) w w':=⟨q1.os,q1.tape,q1.output,q1.size,λ b hb hn=>q1.block b hb λ ht=>hn (hTch b ht)⟩
 refine⟨v,Im',rfl,hoff,q2,q3,q4,λ k b o hk=>?_,q6.ren (λ k b hk=>(Mp.ren_blk hk).2) (λ k b hk=>(Mp.ren_obj hk).2) (λ _=>rfl),λ p hp=>?_⟩
 ·by_cases hb:Q1 m' R b
  ·rcases hb with⟨k',off,d,hm,hb⟩ | ⟨X,J,hm,hb⟩ | ⟨k',d,hm,hb⟩
   ·exact q5 k' b o hb
   ·exact absurd hk ((hX X J hm).blk b k hb)
   exact absurd hk (hmem.oblk _ k b (Mp.ren_obj hb).2)
  exact(World.frozen?_of_block (a:=⟨b,o,none⟩) (q1.block b (hmem.lt k b hk) hb)).trans (hmem.free k b o hk)
 obtain⟨p0,hp0,rfl⟩:=List.mem_map.1 hp
 have hh:=q7 p0 hp0
 have hok:=w3 p0 hp0
 obtain⟨key,d⟩:=p0
 cases key with
 | c k off=>
  obtain⟨b,x,r1,r2,r3⟩:=hh
  exact⟨b,x,(Mp.ren_blk r1).2,r2,r3.ren (λ k b hk=>(Mp.ren_blk hk).2) (λ k b hk=>(Mp.ren_obj hk).2) (λ _=>rfl)⟩
 | o k=>
  obtain⟨b,r1,r2⟩:=hh
  exact⟨b,(Mp.ren_obj r1).2,r2.ren (λ k b hk=>(Mp.ren_blk hk).2) (λ k b hk=>(Mp.ren_obj hk).2) (λ _=>rfl)⟩
 | j=>
  obtain⟨X,J,e,hx⟩:=hh
  have e:d=.j X J:=e
  subst e
  have hold:∀ b,X b->b<w.heap.size->∃ X0 J0,(Key.j,D.j X0 J0)∈R/\X0 b:=λ b hb hlt=>by
   rcases hx.own b hb with hc | hc
   ·have hc:Q1 m (R.map (WJ ρ)) b:=hc
    rcases hc with⟨k',off,d',hm,hb'⟩ | ⟨X0,J0,hm,hb'⟩ | ⟨k',d',hm,hb'⟩
    ·obtain⟨⟨key,d0⟩,hm0,e0⟩:=List.mem_map.1 hm
     cases key with
     | c k0 o0=>
      simp only[WJ,Key.ren] at e0
      cases e0
      refine absurd ?_ (hx.blk b k0 hb)
      show (if Xa R k0 then m.blk (ρ k0) else none)=_
      rw[if_pos (W5 hm0)];exact hb'
     | _=>simp[WJ,Key.ren] at e0
    ·obtain⟨⟨key,d0⟩,hm0,e0⟩:=List.mem_map.1 hm
     cases key <;> simp only[WJ,Key.ren,Prod.mk.injEq,reduceCtorEq,false_and] at e0
     have e0:=e0.2
     cases d0 <;> simp only[D.ren] at e0 <;> cases e0
     exact⟨X0,J0,hm0,hb'⟩
    obtain⟨⟨key,d0⟩,hm0,e0⟩:=List.mem_map.1 hm
    cases key with
    | o k0=>
     simp only[WJ,Key.ren] at e0
     cases e0
     refine absurd ?_ (hx.obj b k0 hb)
     show (if Xa R k0 then m.obj (ρ k0) else none)=_
     rw[if_pos (Vs hm0)];exact hb'
    | _=>simp[WJ,Key.ren] at e0
   exact absurd hc (Nat.not_le.2 hlt)
  refine⟨X,J,rfl,{ hx with own:=λ b hb=>?_,blk:=λ b k hb hk=>?_,row:=λ b g R' hb hg e2=>?_,obj:=λ b k hb hk=>?_ }⟩
  ·by_cases hlt:b<w.heap.size
   ·obtain⟨X0,J0,hm,hb0⟩:=hold b hb hlt
    exact(hX X0 J0 hm).own b hb0
   exact .inr (Nat.le_trans hmem.off.size (Nat.le_of_not_lt hlt))
  ·obtain⟨X0,J0,hm,hb0⟩:=hold b hb (hmem.lt k b hk)
   exact(hX X0 J0 hm).blk b k hb0 hk
  ·obtain⟨xs,hxs⟩:=hmem.row g R' hg
   obtain⟨X0,J0,hm,hb0⟩:=hold b hb (Vz hxs e2).2
   exact(hX X0 J0 hm).row b g R' hb0 hg e2
  obtain⟨X0,J0,hm,hb0⟩:=hold b hb (hmem.olt k b hk)
  exact(hX X0 J0 hm).obj b k hb0 hk
 | t x=>cases hok.2
 | r g=>cases hok.2
end
end Go.Proofs.YtclihnccilkohaaGreat
namespace Go.Proofs.YtclihnccilkohaaGreat
namespace Nm
abbrev wr (x:Int):Int:=RowKit.wrap64 x
def tz:Tm:=.mk [] 0 0 []
structure St where
 left:Int
 dry:Bool
 count:Int
 e:Int
deriving DecidableEq
def spend (s:St):Bool×St:=
 if s.dry=true∨s.left<1 then (false,{ s with left:=0,dry:=true }) else (true,{ s with left:=s.left-1 })
def fail (s:St)(c:Int):St:=if s.e=0 then { s with e:=c } else s
def unit (s:St):Bool×St:=
 if s.e≠0 then (false,s)
 else if s.count=100000 then (false,{ s with count:=s.count+1,e:=2 })
 else match spend s with
  | (false,s')=>(false,{ s' with count:=s'.count+1,e:=11 })
  | (true,s')=>(true,{ s' with count:=s'.count+1 })
mutual
def lift (by_:Int):Tm->Int->Tm
 | .mk b k i a,ins=>.mk b k (if k=0/\wr (ins+b.length)<=i then wr (i+by_) else i) (lifts by_ a (wr (ins+b.length)))
def lifts (by_:Int):List Tm->Int->List Tm
 | [],_=>[]
 | t :: l,ins=>lift by_ t ins :: lifts by_ l ins
end
theorem lift_eq (y:Int)(b:List Ty)(k i:Int)(a:List Tm)(ins:Int):lift y (.mk b k i a) ins=.mk b k (if k=0/\wr (ins+b.length)<=i then wr (i+y) else i) (lifts y a (wr (ins+b.length))):=by rw[lift]
theorem lifts_map (y:Int)(l:List Tm)(ins:Int):lifts y l ins=l.map λ t=>lift y t ins:=by
 induction l with
 | nil=>rfl
 | cons t l ih=>rw[lifts,ih];rfl
def grown (t:Tm)(y:Int):Tm:=if y=0 then t else lift y t 0
def seqM (g:Tm->St->Tm×St):List Tm->St->List Tm×St
 | [],s=>([],s)
 | t :: l,s=>((g t s).1 :: (seqM g l (g t s).2).1,(seqM g l (g t s).2).2)
theorem seqM_append (g:Tm->St->Tm×St)(l r:List Tm)(s:St):seqM g (l++r) s=((seqM g l s).1++(seqM g r (seqM g l s).2).1,(seqM g r (seqM g l s).2).2):=by
 induction l generalizing s with
 | nil=>simp[seqM]
 | cons t l ih=>simp[seqM,ih]
theorem seqM_take (g:Tm->St->Tm×St)(l:List Tm)(j:Nat)(h:j<l.length)(s:St):seqM g (l.take (j+1)) s=((seqM g (l.take j) s).1++[(g l[j] (seqM g (l.take j) s).2).1],(g l[j] (seqM g (l.take j) s).2).2):=by
 rw[List.take_succ_eq_append_getElem h,seqM_append];rfl
theorem seqM_length (g:Tm->St->Tm×St)(l:List Tm)(s:St):(seqM g l s).1.length=l.length:=by
 induction l generalizing s with
 | nil=>rfl
 | cons t l ih=>simp[seqM,ih]
abbrev Thr:=List Tm->Nat->Tm->Int->St->Tm×St
def putW (thr:Thr)(t:Tm)(xs:List Tm)(s:St):Tm×St:=
 if s.e≠0∨xs.length>t.binds.length then (tz,fail s 1)
 else
  let r:=thr xs t.binds.length (.mk [] t.kind t.index t.args) 0 s
  (.mk (t.binds.drop xs.length) r.1.kind r.1.index r.1.args,r.2)
def hit (thr:Thr)(xs:List Tm)(n:Nat)(t:Tm)(ins:Int)(args:List Tm)(s:St):Tm×St:=
 if t.kind≠0∨t.index<ins then (.mk t.binds t.kind t.index args,s)
 else
  let i:=wr (t.index-ins)
  if i<(n:Int)-xs.length then (.mk t.binds t.kind t.index args,s)
  else if (n:Int)<=i then (.mk t.binds t.kind (wr (t.index-xs.length)) args,s)
  else
   let u:=grown (xs.getD ((n:Int)-1-i).toNat tz) (wr (wr (ins+n)-xs.length))
   if u.binds.length≠args.length then (tz,fail s 1)
   else
    let r:=putW thr u args s
    (.mk t.binds r.1.kind r.1.index r.1.args,r.2)
def through:Nat->Thr
 | 0=>λ _ _ _ _ s=>(tz,s)
 | f+1=>λ xs n t ins s=>
  if (unit s).1=true then
   let q:=seqM (λ a s=>through f xs n a (wr (ins+t.binds.length)) s) t.args (unit s).2
   hit (through f) xs n t (wr (ins+t.binds.length)) q.1 q.2
  else (tz,(unit s).2)
def put (f:Nat):Tm->List Tm->St->Tm×St:=putW (through f)
def done (p:Tm×St):Tm×St:=
 let s:=if p.2.e=0/\¬ (p.1.size<=5000/\p.1.depth<=60) then fail p.2 2 else p.2
 if s.e≠0 then (tz,s) else (p.1,s)
def Put (t:Tm)(xs:List Tm)(left:Int)(dry:Bool):Tm×St:=done (put 100001 t xs ⟨left,dry,0,0⟩)
end Nm
namespace Sb
open Go.Proofs.YtclihnccilkohaaGreat.Nm
abbrev Pair:=Int×Tm
def right (s:List Pair):Bool:=decide (s.Pairwise λ a b=>a.1<b.1)
def find (s:List Pair)(m:Int):Option Tm:=(s.find? λ p=>p.1==m).map (·.2)
def replaced (t u:Tm)(s:Nm.St):Tm×Nm.St:=
 if u.binds.length≠t.args.length then (tz,{ s with e:=1 })
 else
  let r:=Put u t.args s.left s.dry
  if r.2.e≠0 then (tz,{ s with left:=r.2.left,dry:=r.2.dry,e:=r.2.e }) else (.mk t.binds r.1.kind r.1.index r.1.args,{ s with left:=r.2.left,dry:=r.2.dry })
mutual
def through (l:List Pair):Tm->Int->Nm.St->Tm×Nm.St
 | .mk b k i a,ins,s=>
  if s.e≠0 then (tz,s)
  else if (spend s).1=false then (tz,{ (spend s).2 with e:=11 })
  else
   let q:=throughs l a (wr (ins+b.length)) (spend s).2
   if k≠2∨q.2.e≠0 then (.mk b k i q.1,q.2)
   else match find l i with
    | none=>(.mk b k i q.1,q.2)
    | some u=>replaced (.mk b k i q.1) (lift (wr (ins+b.length)) u 0) q.2
def throughs (l:List Pair):List Tm->Int->Nm.St->List Tm×Nm.St
 | [],_,s=>([],s)
 | t :: r,ins,s=>((through l t ins s).1 :: (throughs l r ins (through l t ins s).2).1,(throughs l r ins (through l t ins s).2).2)
end
theorem throughs_seq (l:List Pair)(a:List Tm)(ins:Int)(s:Nm.St):throughs l a ins s=seqM (λ t s=>through l t ins s) a s:=by
 induction a generalizing s with
 | nil=>rfl
 | cons t a ih=>rw[throughs,ih];rfl
def apply (l:List Pair)(t:Tm)(left:Int)(dry:Bool):Tm×Nm.St:=
 if right l=false then (tz,⟨left,dry,0,1⟩)
 else
  let r:=through l t 0 ⟨left,dry,0,0⟩
  let s:=if r.2.e=0/\¬ (r.1.size<=5000/\r.1.depth<=60) then { r.2 with e:=2 } else r.2
  if s.e≠0 then (tz,s) else (r.1,s)
def kA:Ty:=.mk [] 0
end Sb
end Go.Proofs.YtclihnccilkohaaGreat
namespace Go.Proofs.YtclihnccilkohaaGreat
open Go.RowKit
theorem I7 (w:World)(b o:Nat)(x:Int)(hc:w.cell? ⟨b,o,none⟩=some (.int .i64 x)):
  Calls Tryz.prog 187 #[.pointer (some ⟨b,o,none⟩)] w λ e w'=>e=.returned (.int .i64 x)/\w'=w:=by
 have hl:=run_call_load (P:=Tryz.prog) Tryz.func196 (by kernel_rfl) (by kernel_rfl) (by kernel_rfl) .i64 (by kernel_rfl) hc
 go_enter Tryz.func187,Tryz.ntmps187
 go_wp2_with fail
 go_ret
 exact⟨rfl,rfl⟩
theorem KU (w:World)(b o:Nat)(x y:Int)(hc:w.cell? ⟨b,o,none⟩=some (.int .i64 x))(hf:w.frozen? ⟨b,o,none⟩=false):
  Calls Tryz.prog 150 #[.pointer (some ⟨b,o,none⟩),.int .i64 y] w λ e w'=>e=.returned (.tuple #[])/\w'=w.setCell ⟨b,o,none⟩ (.int .i64 y):=by
 have hs:=run_call_store (P:=Tryz.prog) Tryz.func161 (by kernel_rfl) (by kernel_rfl) (by kernel_rfl) (by kernel_rfl) (k:=.i64) (y:=y) hc hf
 go_enter Tryz.func150,Tryz.ntmps150
 go_wp2_with fail
 go_end0
 exact⟨rfl,rfl⟩
theorem JI (w:World)(b o:Nat)(x y:Int)(hc:w.cell? ⟨b,o,none⟩=some (.int .i64 x))(hf:w.frozen? ⟨b,o,none⟩=false):
  Calls Tryz.prog 188 #[.pointer (some ⟨b,o,none⟩),.int .i64 y] w λ e w'=>(∃ r,e=.returned (.int .i64 r))/\w'=w.setCell ⟨b,o,none⟩ (.int .i64 (IntKind.i64.wrap (x+y))):=by
 have hs:=run_call_add (P:=Tryz.prog) Tryz.func197 (by kernel_rfl) (by kernel_rfl) (by kernel_rfl) .i64 (by kernel_rfl) (y:=y) (s:=IntKind.i64.wrap (x+y)) hc hf (by simp[go_sem])
 go_enter Tryz.func188,Tryz.ntmps188
 go_wp2_with fail
 go_ret
 exact⟨⟨_,rfl⟩,by rw[IntWalk.i64_left]⟩
theorem Ny (w:World)(b o:Nat)(x:Int)(hc:w.cell? ⟨b,o,none⟩=some (.int .u32 x)):
  Calls Tryz.prog 186 #[.pointer (some ⟨b,o,none⟩)] w λ e w'=>e=.returned (.bool (x != 0))/\w'=w:=by
 have hl:=run_call_load (P:=Tryz.prog) Tryz.func195 (by kernel_rfl) (by kernel_rfl) (by kernel_rfl) .u32 (by kernel_rfl) hc
 go_enter Tryz.func186,Tryz.ntmps186
 go_wp2_with fail
 go_ret
 exact⟨rfl,rfl⟩
def bi (d:Bool):Int:=if d=true then 1 else 0
def O8 (left used:Int)(dry:Bool):Array Value:=#[.int .i64 left,.int .i64 used,.int .u32 (bi dry),.int .i32 0,.int .u32 0,.int .u32 (bi dry)]
def Wf (w:World)(b:Nat)(left:Int)(dry:Bool):Prop:=∃ used,Blk w b (O8 left used dry) 261
theorem HE (w:World)(n:Int)(h0:0<=n):Calls Tryz.prog 141 #[.int .i64 n] w λ e w'=>e=.returned (.pointer (some ⟨w.heap.size,0,none⟩))/\Wf w' w.heap.size n false/\Below w.heap.size w w':=by
 have z0:=Blk.new w (O8 0 0 false) 261 rfl
 go_enter Tryz.func141,Tryz.ntmps141
 go_wp2_with fail
 have hmx:max n 0=n:=by omega
 try simp only[hmx]
 refine(KU _ _ _ 0 n (z0.cell rfl) (z0.free 0)).mono ?_
 rintro e w' ⟨rfl,rfl⟩
 go_wp2_with fail
 go_ret
 exact⟨rfl,⟨0,Blk.new w (O8 n 0 false) 261 rfl⟩,(Below.refl _ _).alloc (Nat.le_refl _) _⟩
theorem I9 {w:World}{b:Nat}{left:Int}{dry:Bool}(h:Wf w b left dry):Calls Tryz.prog 175 #[.pointer (some ⟨b,0,none⟩)] w λ e w'=>e=.returned (.int .i64 left)/\w'=w:=by
 obtain⟨used,h⟩:=h
 have hcon:=I7 w b 0 left (h.cell rfl)
 go_enter Tryz.func175,Tryz.ntmps175
 go_wp2_with fail
 refine hcon.mono ?_
 rintro e w' ⟨rfl,rfl⟩
 go_wp2_with fail
 go_ret
 exact⟨rfl,rfl⟩
theorem Ge {w:World}{b:Nat}{left:Int}{dry:Bool}(h:Wf w b left dry):Calls Tryz.prog 174 #[.pointer (some ⟨b,0,none⟩)] w λ e w'=>e=.returned (.bool dry)/\w'=w:=by
 obtain⟨used,h⟩:=h
 have hcon:=Ny w b 5 (bi dry) (h.cell rfl)
 have hd:(bi dry != 0)=dry:=by cases dry <;> rfl
 rw[hd] at hcon
 go_enter Tryz.func174,Tryz.ntmps174
 go_wp2_with fail
 refine hcon.mono ?_
 rintro e w' ⟨rfl,rfl⟩
 go_wp2_with fail
 go_ret
 exact⟨rfl,rfl⟩
theorem M9 {w:World}{b:Nat}{left:Int}{dry:Bool}(h:Wf w b left dry)(n:Int)(h0:0<=n)(h1:n<=left)(h2:left<=1000000000):Calls Tryz.prog 176 #[.pointer (some ⟨b,0,none⟩),.int .i64 n] w λ e w'=>e=.returned (.tuple #[])/\Wf w' b (left-n) dry/\(∀ B,B<=b->Below B w w')/\∀ k,k≠b->w'.heap[k]?=w.heap[k]?:=by
 obtain⟨used,h⟩:=h
 have hn:IntKind.i64.wrap (-n)=-n:=IntWalk.i64_in _ (by omega)
 have hl:IntKind.i64.wrap (left + -n)=left-n:=by rw[IntWalk.i64_in _ (by omega)];omega
 have hcon:=JI w b 0 left (-n) (h.cell rfl) (h.free 0)
 rw[hl] at hcon
 have h':=h.set 0 (.int .i64 (left-n))
 have hcon2:=JI _ b 1 used n (h'.cell rfl) (h'.free 1)
 have h'':=h'.set 1 (.int .i64 (IntKind.i64.wrap (used+n)))
 clear hl
 go_enter Tryz.func176,Tryz.ntmps176
 go_wp2_with fail
 refine hcon.mono ?_
 rintro e w' ⟨⟨r,rfl⟩,rfl⟩
 go_wp2_with fail
 refine hcon2.mono ?_
 rintro e w' ⟨⟨r2,rfl⟩,rfl⟩
 go_wp2_with fail
 go_end0
 exact⟨rfl,⟨_,h''⟩,λ B hB=>((Below.refl B w).setCell (p:=⟨b,0,none⟩) hB _).setCell (p:=⟨b,1,none⟩) hB _,λ k hk=>(Below.heap_setCell _ ⟨b,1,none⟩ _ _ hk).trans (Below.heap_setCell _ ⟨b,0,none⟩ _ _ hk)⟩
theorem Tw (w:World):(callFunc 210 #[]).run Tryz.prog w=.ok (.value (.tuple #[])) w:=run_call_mark0 Tryz.func210 (by kernel_rfl) (by kernel_rfl) (by kernel_rfl) .disable (by kernel_rfl) w
theorem TU (w:World):(callFunc 212 #[]).run Tryz.prog w=.ok (.value (.tuple #[])) w:=run_call_mark0 Tryz.func212 (by kernel_rfl) (by kernel_rfl) (by kernel_rfl) .enable (by kernel_rfl) w
theorem Qx (a:Addr)(w:World):(callFunc 213 #[.pointer (some a)]).run Tryz.prog w=.ok (.value (.tuple #[])) w:=run_call_marked Tryz.func213 (by kernel_rfl) (by kernel_rfl) (by kernel_rfl) .acquire (by kernel_rfl) a w
theorem Tx (a:Addr)(w:World):(callFunc 215 #[.pointer (some a)]).run Tryz.prog w=.ok (.value (.tuple #[])) w:=run_call_marked Tryz.func215 (by kernel_rfl) (by kernel_rfl) (by kernel_rfl) .releaseMerge (by kernel_rfl) a w
theorem Iy (a:Addr)(x:Value)(w:World)(hc:w.cell? a=some x)(hz:w.frozen? a=false):
  Calls Tryz.prog 191 #[.pointer (some a),.bool true] w λ e w'=>e=.returned (.tuple #[])/\w'=w.drew.setCell a (.int .u32 1):=by
 have hc':w.drew.cell? a=some x:=by go_simp
 have hz':w.drew.frozen? a=false:=by go_simp
 have hst:=run_call_store (P:=Tryz.prog) Tryz.func199 (by kernel_rfl) (by kernel_rfl) (by kernel_rfl) (by kernel_rfl) (k:=.u32) (y:=1) hc' hz'
 go_enter Tryz.func191,Tryz.ntmps191
 go_wp2
 go_region_calls
 all_goals (go_end0;exact⟨rfl,rfl⟩)
theorem Ss (a:Addr)(x:Value)(u:FrameMode)(w:World)(hc:w.cell? a=some x)(hz:w.frozen? a=false):
  CallsD Tryz.prog 191 #[.pointer (some a),.bool true] u w λ e u' w'=>u'=u/\(e=.returned (.tuple #[])/\w'=w.drew.setCell a (.int .u32 1)):=by
 have hc':w.drew.cell? a=some x:=by go_simp
 have hz':w.drew.frozen? a=false:=by go_simp
 have hst:=run_call_store (P:=Tryz.prog) Tryz.func199 (by kernel_rfl) (by kernel_rfl) (by kernel_rfl) (by kernel_rfl) (k:=.u32) (y:=1) hc' hz'
 go_enter_d Tryz.func191,Tryz.ntmps191
 go_wp2
 go_region_calls
 all_goals (go_end0;exact⟨rfl,rfl⟩)
set_option maxRecDepth 100000 in
set_option maxHeartbeats 1600000 in
theorem TM (a:Addr)(u:FrameMode)(w:World)(hc:w.cell? a=some (.int .i32 1))(hz:w.frozen? a=false):
  CallsD Tryz.prog 204 #[.pointer (some a)] u w λ e u' w'=>u'=u/\(e=.returned (.tuple #[])/\w'=w.setCell a (.int .i32 0)):=by
 have hd:=Tw
 have he:=TU
 have hr:=Tx
 have hadd:=run_call_add (P:=Tryz.prog) Tryz.func216 (by kernel_rfl) (by kernel_rfl) (by kernel_rfl) .i32 (by kernel_rfl) (y:=-1) (s:=0) hc hz (by simp[go_sem];rfl)
 have hcv:=run_convert_to_unsafe (P:=Tryz.prog) (src:=322) (dst:=326) Tryz.underlying322 Tryz.underlying326 (by kernel_rfl) hc
 go_enter_d Tryz.func204,Tryz.ntmps204
 go_wp2
 go_end0
 go_wp2
 go_end0
 exact⟨rfl,rfl⟩
set_option maxRecDepth 100000 in
set_option maxHeartbeats 1600000 in
theorem ND (a:Addr)(w:World)(hc:w.cell? a=some (.int .i32 0))(hz:w.frozen? a=false):
  Calls Tryz.prog 203 #[.pointer (some a)] w λ e w'=>e=.returned (.tuple #[])/\w'=w.setCell a (.int .i32 1):=by
 have hd:=Tw
 have he:=TU
 have ha:=Qx
 have hcas:=run_call_cas_hit (P:=Tryz.prog) Tryz.func211 (by kernel_rfl) (by kernel_rfl) (by kernel_rfl) .i32 (by kernel_rfl) (y:=1) hc hz
 have hc':(w.setCell a (.int .i32 1)).cell? a=some (.int .i32 1):=World.cell?_setCell_same w a _ hc
 have hcv:=run_convert_to_unsafe (P:=Tryz.prog) (src:=322) (dst:=326) Tryz.underlying322 Tryz.underlying326 (by kernel_rfl) hc'
 go_enter Tryz.func203,Tryz.ntmps203
 go_wp2
 first | go_end0 | (simp only[Exit.inBlock,Exit.then];refine bodyPost_ret (results_none rfl _ _ _) rfl ?_) | refine bodyPost_ret (results_none rfl _ _ _) rfl ?_
 go_wp2
 go_end0
 exact⟨rfl,rfl⟩
theorem IC (pl:Addr)(b:Nat)(x:Value)(w:World)(hp:w.cell? pl=some (.pointer (some ⟨b,0,none⟩)))(hc:w.cell? ⟨b,5,none⟩=some x)(hz:w.frozen? ⟨b,5,none⟩=false):
  Calls Tryz.prog 190 #[.pointer (some pl)] w λ e w'=>e=.returned (.tuple #[])/\w'=w.drew.setCell ⟨b,5,none⟩ (.int .u32 1):=by
 have hcon:=Iy ⟨b,5,none⟩ x w hc hz
 go_enter Tryz.func190,Tryz.ntmps190
 go_wp2_with fail
 refine hcon.mono ?_
 rintro e w' ⟨rfl,rfl⟩
 go_wp2_with fail
 go_end0
 exact⟨rfl,rfl⟩
set_option maxRecDepth 100000 in
set_option maxHeartbeats 1600000 in
theorem Iu {w:World}{b:Nat}{left used:Int}{pl:Addr}(hpb:¬ b=pl.block)(hp:w.cell? pl=some (.pointer (some ⟨b,0,none⟩)))(hb:Blk w b (O8 left used false) 261):
  Calls Tryz.prog 198 #[.pointer (some ⟨b,2,none⟩),.func (.func 190) #[] #[.pointer (some pl)]] w λ e w'=>e=.returned (.tuple #[]) /\
   w'=((((w.setCell ⟨b,3,none⟩ (.int .i32 1)).drew.setCell ⟨b,5,none⟩ (.int .u32 1)).drew.setCell ⟨b,2,none⟩ (.int .u32 1)).setCell ⟨b,3,none⟩ (.int .i32 0)):=by
 have hnot:∀ (x:Bool) (w:World),(Op.unary .not (.bool x)).run Tryz.prog w=.ok (.bool (!x)) w:=λ _ _=>rfl
 have b1:=hb.set 3 (.int .i32 1)
 have hp1:(w.setCell ⟨b,3,none⟩ (.int .i32 1)).cell? pl=some (.pointer (some ⟨b,0,none⟩)):=(World.cell?_setCell_other _ ⟨b,3,none⟩ pl _ (λ h=>hpb (by rw[<-h]))).trans hp
 go_enter_defers Tryz.func198,Tryz.ntmps198
 go_wp2_with fail
 refine(ND ⟨b,3,none⟩ _ (hb.cell rfl) (hb.free 3)).mono ?_
 rintro e w' ⟨rfl,rfl⟩
 go_wp2_with fail
 refine(Ny _ b 2 0 (b1.cell rfl)).mono ?_
 rintro e w' ⟨rfl,rfl⟩
 go_wp2_with fail
 refine(IC pl b (.int .u32 0) _ hp1 (b1.cell rfl) (b1.free 5)).mono ?_
 rintro e w' ⟨rfl,rfl⟩
 have b2:=b1.drew.set 5 (.int .u32 1)
 go_wp2_with fail
 refine leaves_cons (f:=191) (args:=#[.pointer (some ⟨b,2,none⟩),.bool true]) (by simp) (by simp[go_sem]) ?_
 refine(Ss ⟨b,2,none⟩ (.int .u32 0) .returning _ (b2.cell rfl) (b2.free 2)).mono ?_
 rintro e u' w'' ⟨rfl,rfl,rfl⟩
 have b3:=b2.drew.set 2 (.int .u32 1)
 refine leaves_cons (f:=204) (args:=#[.pointer (some ⟨b,3,none⟩)]) (by simp[settle]) (by simp[go_sem]) ?_
 refine(TM ⟨b,3,none⟩ _ _ (b3.cell rfl) (b3.free 3)).mono ?_
 rintro e u' w'' ⟨rfl,rfl,rfl⟩
 simp[Leaves,settle,results,Tryz.results198]
theorem Ku {w:World}{b:Nat}{left used:Int}{pl:Addr}(hpb:¬ b=pl.block)(hp:w.cell? pl=some (.pointer (some ⟨b,0,none⟩)))(hb:Blk w b (O8 left used false) 261):
  Calls Tryz.prog 189 #[.pointer (some ⟨b,2,none⟩),.func (.func 190) #[] #[.pointer (some pl)]] w λ e w'=>e=.returned (.tuple #[]) /\
   w'=((((w.setCell ⟨b,3,none⟩ (.int .i32 1)).drew.setCell ⟨b,5,none⟩ (.int .u32 1)).drew.setCell ⟨b,2,none⟩ (.int .u32 1)).setCell ⟨b,3,none⟩ (.int .i32 0)):=by
 have hnot:∀ (x:Bool) (w:World),(Op.unary .not (.bool x)).run Tryz.prog w=.ok (.bool (!x)) w:=λ _ _=>rfl
 have hcon:=Ny w b 2 0 (hb.cell rfl)
 have hcon2:=Iu hpb hp hb
 go_enter Tryz.func189,Tryz.ntmps189
 go_wp2_with fail
 refine hcon.mono ?_
 rintro e w' ⟨rfl,rfl⟩
 go_wp2_with fail
 refine hcon2.mono ?_
 rintro e w' ⟨rfl,rfl⟩
 go_wp2_with fail
 go_end0
 exact⟨rfl,rfl⟩
theorem Kt {w:World}{b:Nat}{left used:Int}(fv:Value)(hb:Blk w b (O8 left used true) 261):
  Calls Tryz.prog 189 #[.pointer (some ⟨b,2,none⟩),fv] w λ e w'=>e=.returned (.tuple #[])/\w'=w:=by
 have hnot:∀ (x:Bool) (w:World),(Op.unary .not (.bool x)).run Tryz.prog w=.ok (.bool (!x)) w:=λ _ _=>rfl
 have hcon:=Ny w b 2 1 (hb.cell rfl)
 go_enter Tryz.func189,Tryz.ntmps189
 go_wp2_with fail
 refine hcon.mono ?_
 rintro e w' ⟨rfl,rfl⟩
 go_wp2_with fail
 go_end0
 exact⟨rfl,rfl⟩
theorem Nj {w:World}{b:Nat}{left:Int}{dry:Bool}(h:Wf w b left dry):
  Calls Tryz.prog 177 #[.pointer (some ⟨b,0,none⟩)] w λ e w'=>e=.returned (.tuple #[])/\Wf w' b left true/\Off (λ k=>k=b) w w':=by
 have hmf:∀ (fn:Fn) (first cap:Array Value) (w:World),(Instr.makeFunc fn first cap).run Tryz.prog w=.ok (.func fn first cap) w:=λ _ _ _ _=>rfl
 obtain⟨used,h⟩:=h
 have hlt:=h.lt
 obtain⟨wB,hwB⟩:∃ wB,w.alloc (.cells #[.pointer (some ⟨b,0,none⟩)] 233)=wB:=⟨_,rfl⟩
 have B0:Off (λ k=>k=b) w wB:=by rw[<-hwB];exact(Off.refl _ _).alloc _
 have x0:Blk wB w.heap.size #[.pointer (some ⟨b,0,none⟩)] 233:=by rw[<-hwB];exact Blk.new _ _ _ rfl
 have h1:Blk wB b (O8 left used dry) 261:=by rw[<-hwB];exact h.alloc _
 have c0:wB.cell? ⟨w.heap.size,0,none⟩=some (.pointer (some ⟨b,0,none⟩)):=x0.cell rfl
 clear h x0
 cases dry
 ·have hcon:=Ku (pl:=⟨w.heap.size,0,none⟩) (show ¬ b=w.heap.size by omega) c0 h1
  go_enter Tryz.func177,Tryz.ntmps177
  go_wp2_with fail
  try rw[hwB]
  refine hcon.mono ?_
  rintro e w' ⟨rfl,rfl⟩
  go_wp2_with fail
  go_end0
  have h2:=(((h1.set 3 (.int .i32 1)).drew.set 5 (.int .u32 1)).drew.set 2 (.int .u32 1)).set 3 (.int .i32 0)
  exact⟨rfl,⟨used,h2⟩,((((B0.set ⟨b,3,none⟩ _ (.inl rfl)).drew.set ⟨b,5,none⟩ _ (.inl rfl)).drew.set ⟨b,2,none⟩ _ (.inl rfl)).set ⟨b,3,none⟩ _ (.inl rfl))⟩
 have hcon:=Kt (.func (.func 190) #[] #[.pointer (some ⟨w.heap.size,0,none⟩)]) h1
 go_enter Tryz.func177,Tryz.ntmps177
 go_wp2_with fail
 try rw[hwB]
 refine hcon.mono ?_
 rintro e w' ⟨rfl,rfl⟩
 go_wp2_with fail
 go_end0
 exact⟨rfl,⟨used,h1⟩,B0⟩
open Go.Proofs.YtclihnccilkohaaGreat.Nm in
set_option maxHeartbeats 1600000 in
theorem KQ {w:World}{b:Nat}{s:Nm.St}(h:Wf w b s.left s.dry)(h0:0<=s.left)(h1:s.left<=1000000000):
  Calls Tryz.prog 157 #[.pointer (some ⟨b,0,none⟩),.int .i64 1] w λ e w'=>e=.returned (.bool (spend s).1)/\Wf w' b (spend s).2.left (spend s).2.dry/\Off (λ k=>k=b) w w':=by
 obtain⟨left,dry,count,er⟩:=s
 dsimp only at *
 have hd:=Ge h
 have hl:=I9 h
 have hnot:∀ (x:Bool) (w:World),(Op.unary .not (.bool x)).run Tryz.prog w=.ok (.bool (!x)) w:=λ _ _=>rfl
 by_cases hc:dry=false/\1<=left
 ·obtain⟨rfl,hc⟩:=hc
  have hg:¬ (1:Int)>left:=by omega
  have hs:Hid (spend ⟨left,false,count,er⟩=(true,⟨left-1,false,count,er⟩)):=by
   show _=_;unfold spend;rw[if_neg (by simp;omega)]
  have ht:=M9 h 1 (by omega) hc h1
  rw[hs.out]
  dsimp only
  clear h
  go_enter Tryz.func157,Tryz.ntmps157
  go_wp2_with fail
  refine hd.mono ?_
  rintro e w1 ⟨rfl,rfl⟩
  go_wp2_with fail
  refine hl.mono ?_
  rintro e w1 ⟨rfl,rfl⟩
  go_wp2_with fail
  refine ht.mono ?_
  rintro e w2 ⟨rfl,hB,hbl,hbk⟩
  go_wp2_with fail
  go_ret
  have hz:=hbl 0 (Nat.zero_le _)
  exact⟨rfl,hB,⟨hz.os,hz.tape,hz.output,hz.size,λ k _ hk=>hbk k hk⟩⟩
 have hs:Hid (spend ⟨left,dry,count,er⟩=(false,⟨0,true,count,er⟩)):=by
  show _=_;unfold spend
  rw[if_pos]
  cases dry
  ·right;show left<1;simp at hc;omega
  left;rfl
 have ht:=M9 h left h0 (Int.le_refl _) h1
 rw[Int.sub_self] at ht
 rw[hs.out]
 dsimp only
 cases dry
 ·have hg:(1:Int)>left:=by simp at hc;omega
  clear h hc
  go_enter Tryz.func157,Tryz.ntmps157
  go_wp2_with fail
  refine hd.mono ?_
  rintro e w1 ⟨rfl,rfl⟩
  go_wp2_with fail
  refine hl.mono ?_
  rintro e w1 ⟨rfl,rfl⟩
  go_wp2_with fail
  refine hl.mono ?_
  rintro e w1 ⟨rfl,rfl⟩
  go_wp2_with fail
  refine ht.mono ?_
  rintro e w2 ⟨rfl,hB,hbl,hbk⟩
  go_wp2_with fail
  refine(Nj hB).mono ?_
  rintro e w3 ⟨rfl,hB3,hO3⟩
  go_wp2_with fail
  go_ret
  have hz:=hbl 0 (Nat.zero_le _)
  exact⟨rfl,hB3,Off.trans ⟨hz.os,hz.tape,hz.output,hz.size,λ k _ hk=>hbk k hk⟩ hO3⟩
 clear h hc
 go_enter Tryz.func157,Tryz.ntmps157
 go_wp2_with fail
 refine hd.mono ?_
 rintro e w1 ⟨rfl,rfl⟩
 go_wp2_with fail
 refine hl.mono ?_
 rintro e w1 ⟨rfl,rfl⟩
 go_wp2_with fail
 refine ht.mono ?_
 rintro e w2 ⟨rfl,hB,hbl,hbk⟩
 go_wp2_with fail
 refine(Nj hB).mono ?_
 rintro e w3 ⟨rfl,hB3,hO3⟩
 go_wp2_with fail
 go_ret
 have hz:=hbl 0 (Nat.zero_le _)
 exact⟨rfl,hB3,Off.trans ⟨hz.os,hz.tape,hz.output,hz.size,λ k _ hk=>hbk k hk⟩ hO3⟩
end Go.Proofs.YtclihnccilkohaaGreat
namespace Go.Proofs.YtclihnccilkohaaGreat
open Go.RowKit
def Uc (left:Int)(dry:Bool):Nat->World->Prop:=λ b w=>Wf w b left dry
theorem Wf.sameD {w w':World}{b:Nat}{left:Int}{dry:Bool}(h:Wf w b left dry)(hb:w'.heap[b]?=w.heap[b]?):Wf w' b left dry:=by
 obtain⟨u,h⟩:=h;exact⟨u,h.same hb⟩
theorem Wf.ltD {w:World}{b:Nat}{left:Int}{dry:Bool}(h:Wf w b left dry):b<w.heap.size:=by
 obtain⟨u,h⟩:=h;exact h.lt
theorem Wf.ob {m:Mp}{Im:Nat->Nat->Prop}{w:World}{b:Nat}{left:Int}{dry:Bool}(h:Wf w b left dry):WN m Im w b (.ob (Uc left dry)):=
 .ob _ h λ _ hb=>Wf.sameD h hb
theorem KB {m:Mp}{Im:Nat->Nat->Prop}{w:World}{b:Nat}{J:Nat->World->Prop}(h:WN m Im w b (.ob J)):J b w:=by
 cases h with | ob J h hs=>exact h
theorem Ij {m:Mp}{Im:Nat->Nat->Prop}{w:World}{x:Value}{k:Nat}(h:Yz m Im w x (.o k)):∃ b,x=.pointer (some ⟨b,0,none⟩)/\m.obj k=some b:=by
 cases h with | o k b h=>exact⟨b,rfl,h⟩
theorem Mb {P:Program}{f:FuncId}(hf:WV P f=true){k:Nat}{ds:List D}{J J':Nat->World->Prop}{V:Value}(hs:∀ b w w',J' b w->w'.heap[b]?=w.heap[b]?->J' b w') 
  (h:∀ (m:Mp) (Im:Nat->Nat->Prop) (w:World) (b:Nat) (vs:List Value),J b w->YU m Im w vs ds->Calls P f (.pointer (some ⟨b,0,none⟩) :: vs).toArray w λ e w'=>e=.returned V/\J' b w'/\Off (λ x=>x=b) w w') :
  ZB P f (.o k :: ds) [(.o k,.ob J)] [(.o k,.ob J')] (.v V):=by
 refine⟨hf,λ cx Fr m Im w vs hmem hargs hR=>?_⟩
 obtain⟨b,q1,q2⟩:=hR (.o k,.ob J) (by simp)
 cases vs with
 | nil=>exact hargs.elim
 | cons x vs=>
  obtain⟨b',rfl,q3⟩:=Ij hargs.1
  rw[q1] at q3;cases q3
  refine(h m Im w b vs (KB q2) hargs.2).mono ?_
  rintro e w' ⟨rfl,h1,h2⟩
  have hki:Z8 Im w w':=λ c o v hi hv=>(World.cell?_of_block (a:=⟨c,o,none⟩) (h2.block c (YR hv) λ e=>by subst e;exact hmem.onim k c o q1 hi)).trans hv
  refine⟨V,Im,rfl,⟨h2.os,h2.tape,h2.output,h2.size,λ c hc hn=>h2.block c hc λ e=>hn ?_⟩,λ _ _ h=>h,λ _ _ h=>.inl h,λ c o hi=>?_,λ k' c o hk=>?_,.v _,λ p hp=>?_⟩
  ·subst e;exact .inr (.inr ⟨k,.ob J,by simp,q1⟩)
  ·obtain⟨v,hv⟩:=hmem.im c o hi;exact⟨v,hki c o v hi hv⟩
  ·exact(World.frozen?_of_block (a:=⟨c,o,none⟩) (h2.block c (hmem.lt k' c hk) λ e=>by subst e;exact hmem.oblk k k' c q1 hk)).trans (hmem.free k' c o hk)
  simp only[List.mem_singleton] at hp
  subst hp
  exact⟨b,q1,.ob _ h1 λ w2 hb=>hs b w' w2 h1 hb⟩
theorem OO (k:Nat)(s:Nm.St)(h0:0<=s.left)(h1:s.left<=1000000000):ZB Tryz.prog 157 [.o k,.v (.int .i64 1)] [(.o k,.ob (Uc s.left s.dry))] [(.o k,.ob (Uc (Nm.spend s).2.left (Nm.spend s).2.dry))] (.v (.bool (Nm.spend s).1)):=by
 refine Mb (by kernel_rfl) (λ b w w' h hb=>Wf.sameD h hb) λ m Im w b vs hJ hv=>?_
 match vs,hv with
 | [x],hv=>
  have:=Yr.1 hv.1;subst this
  exact KQ hJ h0 h1
theorem JN (n:Int)(h0:0<=n)(nm:Nat):Vn Tryz.prog 141 [.v (.int .i64 n)] [] nm [(.o nm,.ob (Uc n false))] (.o nm):=by
 refine⟨by kernel_rfl,λ cx Fr m Im w a σ vs hn hs hv _=>?_⟩
 match vs,hv with
 | [x],hv=>
  have:=Yr.1 hv.1;subst this
  refine(HE w n h0).mono ?_
  rintro e w' ⟨rfl,h1,h2⟩
  rw[XY]
  obtain⟨r1,r2⟩:=hs.newObjB hn h2 (Nat.le_refl _) h1.ltD (d:=.ob (Uc n false)) λ m'=>h1.ob
  exact⟨_,m.setO nm w.heap.size,Im,rfl,r1,.o nm _ (by simp[Mp.setO])⟩
section
variable {P:Program} {ops:Array Oper} {Q:Exit->Act->World->Prop} {md:Region.Mode} {S:World->Prop}
end
namespace Tm
variable {σ:Type} (f:σ->Int->σ×Int)
end Tm
inductive Yv:Tm->Prop where
 | mk (b:List Ty) (k i:Int) (a:List Tm):b.length<=100000->a.length<=100000->(∀ t∈a,Yv t)->Yv (.mk b k i a)
theorem Yv.inv {b:List Ty}{k i:Int}{a:List Tm}(h:Yv (.mk b k i a)):b.length<=100000/\a.length<=100000/\∀ t∈a,Yv t:=by
 cases h with
 | mk _ _ _ _ h1 h2 h3=>exact⟨h1,h2,h3⟩
theorem Nm.lift_len (y:Int)(l:List Tm)(m:Int):(Nm.lifts y l m).length=l.length:=by rw[Nm.lifts_map];simp
theorem Nm.lift_take (y:Int)(l:List Tm)(m:Int)(j:Nat)(h:j<l.length):Nm.lifts y (l.take (j+1)) m=Nm.lifts y (l.take j) m++[Nm.lift y l[j] m]:=by
 rw[Nm.lifts_map,Nm.lifts_map,List.take_succ_eq_append_getElem h,List.map_append];rfl
theorem Yv.lift {t:Tm}(y:Int)(h:Yv t):∀ m,Yv (Nm.lift y t m):=by
 induction h with
 | mk b k i a h1 h2 h3 ih=>
  intro m
  rw[Nm.lift_eq]
  refine .mk _ _ _ _ h1 (by rw[Nm.lift_len];exact h2) λ t ht=>?_
  rw[Nm.lifts_map] at ht
  obtain⟨u,hu,rfl⟩:=List.mem_map.1 ht
  exact ih u hu _
def TG_62:TI:=⟨4,true,[Value.slice none 0 0,Value.int IntKind.i64 0,Value.int IntKind.i64 0,Value.slice none 0 0],[(0,1,false),(1,2,true),(3,1,false)],none,64,6,none,false⟩
theorem Yu:TypOk Tryz.prog 62 TG_62:=by constructor <;> kernel_rfl
def TG_3:TI:=⟨1,false,[Value.int IntKind.i64 0],[],none,8,2,none,false⟩
theorem ZW:TypOk Tryz.prog 3 TG_3:=by constructor <;> kernel_rfl
def TG_60:TI:=⟨1,false,[Value.slice none 0 0],[],some 62,24,5,none,false⟩
theorem Xs:TypOk Tryz.prog 60 TG_60:=by constructor <;> kernel_rfl
def TG_59:TI:=⟨2,true,[Value.int IntKind.i64 0,Value.int IntKind.i64 0],[(0,1,false),(1,1,false)],none,16,6,none,true⟩
theorem XI:TypOk Tryz.prog 59 TG_59:=by constructor <;> kernel_rfl
def TG_41:TI:=⟨1,false,[Value.slice none 0 0],[],some 106,24,5,none,false⟩
theorem Ym:TypOk Tryz.prog 41 TG_41:=by constructor <;> kernel_rfl
def TG_106:TI:=⟨2,true,[Value.slice none 0 0,Value.int IntKind.i64 0],[(0,1,false),(1,1,false)],none,32,6,none,false⟩
theorem Yx:TypOk Tryz.prog 106 TG_106:=by constructor <;> kernel_rfl
def TG:List (Nat×TI):=[(62,TG_62),(3,TG_3),(60,TG_60),(59,TG_59),(41,TG_41),(106,TG_106)]
theorem WL:Zd Tryz.prog TG:=(((((((Zd.nil _).cons Yx).cons Ym).cons XI).cons Xs).cons ZW).cons Yu)
theorem YX (x:Int):Nm.wr x=IntKind.i64.wrap x:=by rw[IntKind.wrap_i64];unfold Nm.wr RowKit.wrap64;rfl
set_option maxHeartbeats 1000000 in
theorem Jp:∀ (t:Tm) (_:Yv t) (y ins:Int),Zh Tryz.prog 160 [.ag (eTm t),.v (.int .i64 y),.v (.int .i64 ins)] (.ag (eTm (Nm.lift y t ins))):=by
 intro t
 induction t using Tm.ind with
 | h bs k i a ih=>
 intro hw y ins
 obtain⟨w1,w2,w3⟩:=hw.inv
 obtain⟨m,hm⟩:∃ m,IntKind.i64.wrap (ins+(bs.length:Int))=m:=⟨_,rfl⟩
 obtain⟨i',hi'⟩:∃ i',(if k=0/\m<=i then IntKind.i64.wrap (i+y) else i)=i':=⟨_,rfl⟩
 have hL:Nm.lift y (.mk bs k i a) ins=.mk bs k i' (Nm.lifts y a m):=by rw[Nm.lift_eq,YX,YX,hm,hi']
 rw[hL]
 refine ZX 0 55 [ResultVar.cell 6 62] WL (by kernel_rfl) Tryz.func160 rfl Tryz.ntmps160 rfl (by simp) ?dwords ?dbody
 case dwords=>simp[ZA,D.ok,D.oks,YK,ZM]
 case dbody=>
  intro cx hnt hn0
  refine Zz ?_;refine Zx [] WL hnt λ _ z9=>z9 _ _ ?_;refine Zz ?_;refine Zx [(13,.v (.int .i64 bs.length)),(14,.v (.int .i64 m))] WL hnt λ K hK=>?_;refine And.intro (Zr (by rw[Zs])) ?_;refine And.intro (Zr hm) ?_;refine hK _ _ ?_;clear hK K
  refine Wi (τ:=[(.t 1,.v (.int .i64 y)),(.t 2,.v (.int .i64 m)),(.t 3,.p 0 0),(.t 6,.p 1 0),(.c 0 0,.sl 2 (eTys bs) none),(.c 0 1,.v (.int .i64 k)),(.c 0 2,.v (.int .i64 i')),(.c 0 3,.sl 4 (eTms a) none),(.c 1 0,.v (.slice none 0 0)),(.c 1 1,.v (.int .i64 0)),(.c 1 2,.v (.int .i64 0)),(.c 1 3,.v (.slice none 0 0))]) (N1:=2) ?_ ?_
  ·by_cases hk:k=0
   ·subst hk
    by_cases hi:m<=i
    ·rw[if_pos ⟨rfl,hi⟩] at hi';refine Zz ?_;refine Zx [(18,.v (.bool true)),(24,.v (.bool true))] WL hnt λ K hK=>?_;refine And.intro (Zm.refl _) ?_;refine And.intro (Z7 hi) ?_;refine hK _ _ ?_;clear hK K;refine Zy (t:=true) rfl ?_;rw[if_pos rfl];refine Zx [(30,.v (.int .i64 i'))] WL hnt λ K hK=>?_;refine And.intro (Zr hi') ?_;refine hK _ _ ?_;clear hK K
     exact Y4 VS.toA
    rw[if_neg (λ h=>hi h.2)] at hi'
    subst hi'
    refine Zz ?_;refine Zx [(18,.v (.bool true)),(24,.v (.bool false))] WL hnt λ K hK=>?_;refine And.intro (Zm.refl _) ?_;refine And.intro (Ze hi) ?_;refine hK _ _ ?_;clear hK K;refine Zy (t:=false) rfl ?_;rw[if_neg (by simp)];refine Zw ?_
    exact Y4 VS.toA
   rw[if_neg (λ h=>hk h.1)] at hi'
   subst hi'
   refine Zz ?_;refine Zx [(18,.v (.bool false))] WL hnt λ K hK=>?_;refine And.intro (Ze hk) ?_;refine hK _ _ ?_;clear hK K;refine Zy (t:=false) rfl ?_;rw[if_neg (by simp)];refine Zw ?_
   exact Y4 VS.toA
  refine Zz ?_;refine Zx [(35,.v (.int .i64 a.length))] WL hnt λ K hK=>?_;refine And.intro (Zr (by rw[Zq])) ?_;refine And.intro ((by omega)) ?_;refine hK _ _ ?_;clear hK K;refine Zz (Zz ?_);refine Zx [(39,.v (.int .i64 a.length))] WL hnt λ K hK=>?_;refine And.intro (Zr (by rw[Zq])) ?_;refine hK _ _ ?_;clear hK K;refine Zt ?_
  refine Z6 (ι:=Nat) (λ j=>[(.t 40,.v (.int .i64 j)),(.t 7,.sl 4 (eTms (Nm.lifts y (a.take j) m)) (some 5)),(.r 5,.rw 62 4 j),(.t 1,.v (.int .i64 y)),(.t 2,.v (.int .i64 m)),(.t 3,.p 0 0),(.t 6,.p 1 0),(.t 38,.sl 4 (eTms a) none),(.t 39,.v (.int .i64 a.length)),(.c 0 0,.sl 2 (eTys bs) none),(.c 0 1,.v (.int .i64 k)),(.c 0 2,.v (.int .i64 i')),(.c 0 3,.sl 4 (eTms a) none),(.c 1 0,.v (.slice none 0 0)),(.c 1 1,.v (.int .i64 0)),(.c 1 2,.v (.int .i64 0)),(.c 1 3,.v (.slice none 0 0))]) 6 (λ j=>a.length-j) 0 ?_ λ j=>?_
  ·exact(VS.toK (by omega) (by repeat first | exact trivial | refine And.intro (And.intro (by first | rfl | simp[D.ok,D.oks,D.okss,D.okm,Xi,X7,Nm.lifts,eTms]) (by first | exact Or.inl rfl | exact Or.inr ⟨_,rfl,(by repeat first | exact Zm.refl _ | exact Zm.nil _ | exact Zm.untag _ _ _ | refine Zm.ag ?_ | refine Zm.tu ?_ | refine ZO.cons ?_ ?_ | exact ZO.nil),trivial⟩ | simp[get,Key.eq,Nm.lifts,eTms])) ?_))
  refine Zz ?_
  by_cases hlt:j<a.length
  ·have hg:=ZT a j hlt
   have hih:=ih a[j] (List.getElem_mem hlt) (w3 _ (List.getElem_mem hlt)) y m
   rw[Zu,Zu] at hih
   have hll:(Nm.lifts y (a.take j) m).length=j:=by rw[Nm.lift_len,List.length_take];omega
   refine Zx [(41,.v (.bool true))] WL hnt λ K hK=>?_;refine And.intro (Z7 (by omega)) ?_;refine hK _ _ ?_;clear hK K;refine Zz (Zy (t:=true) rfl ?_);rw[if_pos rfl];refine Zw (Zz (Zt (Zz ?_)));refine Zx [(42,.q [.sl 2 (eTys a[j].binds) none,.v (.int .i64 a[j].kind),.v (.int .i64 a[j].index),.sl 4 (eTms a[j].args) none])] WL hnt λ K hK=>?_;refine And.intro (⟨by omega,by rw[Zq];omega⟩) ?_
   refine And.intro (by rw[Int.toNat_natCast,hg,Zu]) ?_;refine hK _ _ ?_;clear hK K;refine Zx [(50,.sl 4 (eTms (Nm.lifts y (a.take (j+1)) m)) (some 5))] WL hnt λ K hK=>?_;refine Zk (hih) ?_;refine And.intro (⟨by rw[Zq,hll],by rw[Zq,hll];simp;omega⟩) ?_;refine And.intro (by rw[Nm.lift_take _ _ _ _ hlt,Xv,eTms,eTms,Zu (Nm.lift y a[j] m)]) ?_
   refine hK _ _ ?_;clear hK K;refine Zx [(51,.v (.int .i64 ((j+1:Nat):Int)))] WL hnt λ K hK=>?_;refine And.intro (Zr (by rw[IntWalk.i64_in _ (by omega)];omega)) ?_;refine hK _ _ ?_;clear hK K
   refine⟨j+1,by omega,(VS.toK (by omega) (by repeat first | exact trivial | refine And.intro (And.intro (by first | rfl | simp[D.ok,D.oks,D.okss,D.okm,Xi,X7,Zq,hll]) (by first | exact Or.inl rfl | exact Or.inr ⟨_,rfl,(by repeat first | exact Zm.refl _ | exact Zm.nil _ | exact Zm.untag _ _ _ | refine Zm.ag ?_ | refine Zm.tu ?_ | refine ZO.cons ?_ ?_ | exact ZO.nil),trivial⟩ | simp[get,Key.eq,Zq,hll])) ?_))⟩
  skip
  refine Zx [(41,.v (.bool false))] WL hnt λ K hK=>?_;refine And.intro (Ze (by omega)) ?_;refine hK _ _ ?_;clear hK K;refine Zz (Zy (t:=false) rfl ?_);rw[if_neg (by simp)];refine Zg ?_;refine Zz ?_;refine Zx [] WL hnt λ _ z9=>z9 _ _ ?_;refine Zz ?_;refine Zx [] WL hnt λ _ z9=>z9 _ _ ?_;refine Zv ?_
  rw[List.take_of_length_le (by omega)]
  exact⟨.inr rfl,⟨_,rfl,(by repeat first | exact Zm.refl _ | exact Zm.nil _ | exact Zm.untag _ _ _ | refine Zm.ag ?_ | refine Zm.tu ?_ | refine ZO.cons ?_ ?_ | exact ZO.nil)⟩,nofun⟩
def TN1_50:TI:=⟨1,false,[Value.int IntKind.i64 0],[],none,8,2,none,false⟩
theorem Y0:TypOk Tryz.prog 50 TN1_50:=by constructor <;> kernel_rfl
def TN1_305:TI:=⟨3,true,[Value.pointer none,Value.int IntKind.i64 0,Value.int IntKind.i64 0],[(0,1,false),(1,1,false),(2,1,false)],none,24,6,none,false⟩
theorem UL:TypOk Tryz.prog 305 TN1_305:=by constructor <;> kernel_rfl
def TN1_233:TI:=⟨1,false,[Value.pointer none],[],none,8,4,none,false⟩
theorem VI:TypOk Tryz.prog 233 TN1_233:=by constructor <;> kernel_rfl
def TN1_303:TI:=⟨1,false,[Value.pointer none],[],none,8,4,none,false⟩
theorem UK:TypOk Tryz.prog 303 TN1_303:=by constructor <;> kernel_rfl
def TN1:List (Nat×TI):=[(50,TN1_50),(305,TN1_305),(3,TG_3),(233,TN1_233),(303,TN1_303)]
theorem YN:Zd Tryz.prog TN1:=((((((Zd.nil _).cons UK).cons VI).cons ZW).cons UL).cons Y0)
def kW (σ:List (Key×D)):List (Key×D)->Prop
 | []=>True
 | (k,d) :: r=>get σ k=some d/\kW σ r
theorem S8 {σ:List (Key×D)}:∀ {W:List (Key×D)},kW σ W->∀ p∈W,get σ p.1=some p.2∨∃ d,get σ p.1=some d/\Zm d p.2/\(match p.1 with | .c _ _=>True | _=>False)
 | [],_,p,hp=>by cases hp
 | (k,d) :: r,h,p,hp=>by
  rcases List.mem_cons.1 hp with rfl | hp
  ·exact .inl h.1
  exact S8 h.2 p hp
def V8 (s:Nm.St):List (Key×D):=[(.c 0 0,.o 1),(.c 0 1,.v (.int .i64 s.count)),(.c 0 2,.v (.int .i64 s.e)),(.o 1,.ob (Uc s.left s.dry))]
structure X1 (s:Nm.St):Prop where
 left:0<=s.left/\s.left<=1000000000
 count:0<=s.count/\s.count<=100001
 e0:s.e=0->s.count<=100000
theorem SQ (s:Nm.St)(c:Int):ZB Tryz.prog 201 [.p 0 0,.v (.int .i64 c)] (V8 s) (V8 (Nm.fail s c)) (.tu []):=by
 obtain⟨left,dry,count,er⟩:=s
 refine ZX 2 13 [] YN (by kernel_rfl) Tryz.func201 rfl Tryz.ntmps201 rfl (by simp) ?dwords ?dbody
 case dwords=>simp[ZA,V8,D.ok,D.oks,ZM,Xa,WO]
 case dbody=>
  intro cx hnt hn0
  refine Zz ?_
  by_cases he:er=0
  ·subst he
   refine Zx [(8,.v (.bool true))] YN hnt λ K hK=>?_;refine And.intro (Zm.refl _) ?_;refine hK _ _ ?_;clear hK K;refine Zy (t:=true) rfl ?_;rw[if_pos rfl];refine Zx [] YN hnt λ _ z9=>z9 _ _ ?_
   exact⟨.inl rfl,⟨_,rfl,Zm.refl _⟩,S8 (by repeat first | exact trivial | refine And.intro rfl ?_)⟩
  skip
  refine Zx [(8,.v (.bool false))] YN hnt λ K hK=>?_;refine And.intro (Ze he) ?_;refine hK _ _ ?_;clear hK K;refine Zy (t:=false) rfl ?_;rw[if_neg (by simp)];refine Zw ?_
  have hf:Nm.fail ⟨left,dry,count,er⟩ c=⟨left,dry,count,er⟩:=by simp[Nm.fail,he]
  rw[hf]
  exact⟨.inl rfl,⟨_,rfl,Zm.refl _⟩,S8 (by repeat first | exact trivial | refine And.intro rfl ?_)⟩
theorem Il {T:List (Nat×TI)}{rs:List ResultVar}{V:D}{W σ:List (Key×D)}{e:Exit}{N:Nat}(he:e=.normal∨e=.ret)(h1:PH T σ rs=some V)(h2:kW σ W):TN T rs V W e σ N:=⟨he,⟨V,h1,Zm.refl _⟩,S8 h2⟩
def Sw (s s1:Nm.St):Bool->List (Key×D)
 | false=>(.t 0,.p 0 0) :: (.t 1,.v (.int .i64 1)) :: V8 s
 | true=>(.t 0,.p 0 0) :: (.t 1,.v (.int .i64 0)) :: V8 s1
set_option maxHeartbeats 1000000 in
theorem JE (s:Nm.St)(hs:X1 s):ZB Tryz.prog 205 [.p 0 0,.v (.int .i64 1)] (V8 s) (V8 (Nm.unit s).2) (.v (.bool (Nm.unit s).1)):=by
 refine ZX 2 45 [ResultVar.tmp 4] YN (by kernel_rfl) Tryz.func205 rfl Tryz.ntmps205 rfl (by simp) ?dwords ?dbody
 case dwords=>simp[ZA,V8,D.ok,D.oks,ZM,Xa,WO]
 case dbody=>
  intro cx hnt hn0
  refine Zz ?_;refine Zx [] YN hnt λ _ z9=>z9 _ _ ?_;refine Zz (Zt ?_)
  obtain⟨left,dry,count,er⟩:=s
  obtain⟨⟨hl1,hl2⟩,⟨hc1,hc2⟩,he0⟩:=hs
  dsimp only at hl1 hl2 hc1 hc2 he0
  have hsp:=OO 1 ⟨left,dry,count,er⟩ hl1 hl2
  by_cases he:er=0
  ·subst he
   have he0:=he0 rfl
   obtain⟨s1,hs1⟩:∃ s1,(Nm.unit ⟨left,dry,count,0⟩).2=s1:=⟨_,rfl⟩
   obtain⟨b1,hb1⟩:∃ b1,(Nm.unit ⟨left,dry,count,0⟩).1=b1:=⟨_,rfl⟩
   have hspe:(Nm.spend ⟨left,dry,count,0⟩).2.e=0/\(Nm.spend ⟨left,dry,count,0⟩).2.count=count:=by unfold Nm.spend;split <;> exact⟨rfl,rfl⟩
   have hb2:D.v (.bool (decide (s1.e=0)))=.v (.bool b1):=by
    rw[<-hs1,<-hb1]
    unfold Nm.unit
    rw[if_neg (by simp)]
    split
    ·simp
    split <;> rename_i h <;> rw[h] at hspe <;> simp only at hspe <;> simp[hspe.1]
   rw[hs1,hb1]
   refine Z6 (ι:=Bool) (Sw ⟨left,dry,count,0⟩ s1) 7 (λ b=>match b with | false=>1 | true=>0) false (VS.toK (by omega) (by repeat first | exact trivial | refine And.intro (And.intro (by first | rfl | simp[D.ok,D.oks,D.okss,D.okm,Xi,X7,Sw,V8]) (by first | exact Or.inl rfl | exact Or.inr ⟨_,rfl,(by repeat first | exact Zm.refl _ | exact Zm.nil _ | exact Zm.untag _ _ _ | refine Zm.ag ?_ | refine Zm.tu ?_ | refine ZO.cons ?_ ?_ | exact ZO.nil),trivial⟩ | simp[get,Key.eq,Sw,V8])) ?_)) λ b=>?_
   cases b with
   | false=>
    dsimp only[Sw,V8]
    refine Zz ?_;refine Zz ?_;refine Zx [] YN hnt λ _ z9=>z9 _ _ ?_;refine Zy (t:=true) rfl ?_;rw[if_pos rfl];refine Zw ?_;refine Zz (Zt (Zz (Zt (Zz ?_))))
    by_cases hc:count=100000
    ·have hu:Nm.unit ⟨left,dry,count,0⟩=(false,⟨left,dry,count+1,2⟩):=by simp[Nm.unit,hc]
     rw[hu] at hs1
     subst hs1
     refine Zx [(16,.v (.bool true))] YN hnt λ K hK=>?_;refine And.intro (Z7 hc) ?_;refine hK _ _ ?_;clear hK K;refine Zy (t:=true) rfl ?_;rw[if_pos rfl]
     have hf:ZB _ _ _ _ (V8 ⟨left,dry,count,2⟩) _:=SQ ⟨left,dry,count,0⟩ 2
     dsimp only[V8] at hf
     refine Zx [] YN hnt λ K hK=>?_;refine Zk (hf) ?_;refine hK _ _ ?_;clear hK K;refine Zx [(37,.v (.int .i64 (count+1)))] YN hnt λ K hK=>?_;refine And.intro (Zr (IntWalk.i64_in _ (by omega))) ?_;refine hK _ _ ?_;clear hK K;refine Zx [] YN hnt λ _ z9=>z9 _ _ ?_
     refine⟨true,by decide,VS.toA⟩
    skip
    refine Zx [(16,.v (.bool false))] YN hnt λ K hK=>?_;refine And.intro (Ze hc) ?_;refine hK _ _ ?_;clear hK K;refine Zy (t:=false) rfl ?_;rw[if_neg (by simp)];refine Zz ?_
    cases hb:(Nm.spend ⟨left,dry,count,0⟩).1 with
    | true=>
     rw[hb] at hsp
     have hu:Nm.unit ⟨left,dry,count,0⟩=(true,⟨(Nm.spend ⟨left,dry,count,0⟩).2.left,(Nm.spend ⟨left,dry,count,0⟩).2.dry,count+1,0⟩):=by
      unfold Nm.unit
      rw[if_neg (by simp),if_neg hc]
      split <;> rename_i h <;> rw[h] at hb hspe <;> cases hb
      obtain⟨h1,h2⟩:=hspe
      simp only at h1 h2
      simp[h,h1,h2]
     rw[hu] at hs1
     subst hs1
     refine Zx [] YN hnt λ K hK=>?_;refine Zk (hsp) ?_;refine hK _ _ ?_;clear hK K;refine Zy (t:=false) rfl ?_;rw[if_neg (by simp)];refine Zw ?_;refine Zx [(37,.v (.int .i64 (count+1)))] YN hnt λ K hK=>?_;refine And.intro (Zr (IntWalk.i64_in _ (by omega))) ?_;refine hK _ _ ?_;clear hK K;refine Zx [] YN hnt λ _ z9=>z9 _ _ ?_
     refine⟨true,by decide,VS.toA⟩
    | false=>
     rw[hb] at hsp
     have hu:Nm.unit ⟨left,dry,count,0⟩=(false,⟨(Nm.spend ⟨left,dry,count,0⟩).2.left,(Nm.spend ⟨left,dry,count,0⟩).2.dry,count+1,11⟩):=by
      unfold Nm.unit
      rw[if_neg (by simp),if_neg hc]
      split <;> rename_i h <;> rw[h] at hb hspe <;> cases hb
      obtain⟨h1,h2⟩:=hspe
      simp only at h1 h2
      simp[h,h1,h2]
     rw[hu] at hs1
     subst hs1
     refine Zx [] YN hnt λ K hK=>?_;refine Zk (hsp) ?_;refine hK _ _ ?_;clear hK K;refine Zy (t:=true) rfl ?_;rw[if_pos rfl]
     have hf:ZB _ _ _ _ (V8 ⟨(Nm.spend ⟨left,dry,count,0⟩).2.left,(Nm.spend ⟨left,dry,count,0⟩).2.dry,count,11⟩) _:=SQ ⟨(Nm.spend ⟨left,dry,count,0⟩).2.left,(Nm.spend ⟨left,dry,count,0⟩).2.dry,count,0⟩ 11
     dsimp only[V8] at hf
     refine Zx [] YN hnt λ K hK=>?_;refine Zk (hf) ?_;refine hK _ _ ?_;clear hK K;refine Zx [(37,.v (.int .i64 (count+1)))] YN hnt λ K hK=>?_;refine And.intro (Zr (IntWalk.i64_in _ (by omega))) ?_;refine hK _ _ ?_;clear hK K;refine Zx [] YN hnt λ _ z9=>z9 _ _ ?_
     refine⟨true,by decide,VS.toA⟩
   | true=>
    dsimp only[Sw,V8]
    refine Zz ?_;refine Zz ?_;refine Zx [] YN hnt λ _ z9=>z9 _ _ ?_;refine Zy (t:=false) rfl ?_;rw[if_neg (by simp)];refine Zg ?_;refine Zz ?_;refine Zx [(44,.v (.bool b1))] YN hnt λ K hK=>?_;refine And.intro (Zm.of_eq hb2) ?_;refine hK _ _ ?_;clear hK K;refine Zv ?_
    exact Il (.inr rfl) rfl (by repeat first | exact trivial | refine And.intro rfl ?_)
  have hu:Nm.unit ⟨left,dry,count,er⟩=(false,⟨left,dry,count,er⟩):=by simp[Nm.unit,he]
  rw[hu]
  refine Z6 (ι:=Bool) (Sw ⟨left,dry,count,er⟩ ⟨left,dry,count,er⟩) 7 (λ b=>match b with | false=>1 | true=>0) false VS.toA λ b=>?_
  cases b with
  | false=>
   dsimp only[Sw,V8]
   refine Zz (Zz ?_);refine Zx [(12,.v (.bool false))] YN hnt λ K hK=>?_;refine And.intro (Ze he) ?_;refine hK _ _ ?_;clear hK K;refine Zy (t:=false) rfl ?_;rw[if_neg (by simp)];refine Zg ?_;refine Zz ?_;refine Zx [(44,.v (.bool false))] YN hnt λ K hK=>?_;refine And.intro (Ze he) ?_;refine hK _ _ ?_;clear hK K;refine Zv ?_
   exact Il (.inr rfl) rfl (by repeat first | exact trivial | refine And.intro rfl ?_)
  | true=>
   refine Zz (Zz ?_);refine Zx [] YN hnt λ _ z9=>z9 _ _ ?_;refine Zy (t:=false) rfl ?_;rw[if_neg (by simp)];refine Zg ?_;refine Zz ?_;refine Zx [(44,.v (.bool false))] YN hnt λ K hK=>?_;refine And.intro (Ze he) ?_;refine hK _ _ ?_;clear hK K;refine Zv ?_
   exact Il (.inr rfl) rfl (by repeat first | exact trivial | refine And.intro rfl ?_)
def TLi:List (Nat×TI):=[(62,TG_62),(3,TG_3),(60,TG_60),(59,TG_59),(41,TG_41),(106,TG_106)]
theorem YB:Zd Tryz.prog TLi:=(((((((Zd.nil _).cons Yx).cons Ym).cons XI).cons Xs).cons ZW).cons Yu)
set_option maxHeartbeats 1000000 in
theorem Le:∀ (t:Tm) (_:Yv t) (y ins:Int),Zh Tryz.prog 209 [.ag (eTm t),.v (.int .i64 y),.v (.int .i64 ins)] (.ag (eTm (Nm.lift y t ins))):=by
 intro t
 induction t using Tm.ind with
 | h bs k i a ih=>
 intro hw y ins
 obtain⟨w1,w2,w3⟩:=hw.inv
 obtain⟨m,hm⟩:∃ m,IntKind.i64.wrap (ins+(bs.length:Int))=m:=⟨_,rfl⟩
 obtain⟨i',hi'⟩:∃ i',(if k=0/\m<=i then IntKind.i64.wrap (i+y) else i)=i':=⟨_,rfl⟩
 have hL:Nm.lift y (.mk bs k i a) ins=.mk bs k i' (Nm.lifts y a m):=by rw[Nm.lift_eq,YX,YX,hm,hi']
 rw[hL]
 refine ZX 0 55 [ResultVar.cell 6 62] YB (by kernel_rfl) Tryz.func209 rfl Tryz.ntmps209 rfl (by simp) ?dwords ?dbody
 case dwords=>simp[ZA,D.ok,D.oks,YK,ZM]
 case dbody=>
  intro cx hnt hn0
  refine Zz ?_;refine Zx [] YB hnt λ _ z9=>z9 _ _ ?_;refine Zz ?_;refine Zx [(13,.v (.int .i64 bs.length)),(14,.v (.int .i64 m))] YB hnt λ K hK=>?_;refine And.intro (Zr (by rw[Zs])) ?_;refine And.intro (Zr hm) ?_;refine hK _ _ ?_;clear hK K
  refine Wi (τ:=[(.t 1,.v (.int .i64 y)),(.t 2,.v (.int .i64 m)),(.t 3,.p 0 0),(.t 6,.p 1 0),(.c 0 0,.sl 2 (eTys bs) none),(.c 0 1,.v (.int .i64 k)),(.c 0 2,.v (.int .i64 i')),(.c 0 3,.sl 4 (eTms a) none),(.c 1 0,.v (.slice none 0 0)),(.c 1 1,.v (.int .i64 0)),(.c 1 2,.v (.int .i64 0)),(.c 1 3,.v (.slice none 0 0))]) (N1:=2) ?_ ?_
  ·by_cases hk:k=0
   ·subst hk
    by_cases hi:m<=i
    ·rw[if_pos ⟨rfl,hi⟩] at hi';refine Zz ?_;refine Zx [(18,.v (.bool true)),(24,.v (.bool true))] YB hnt λ K hK=>?_;refine And.intro (Zm.refl _) ?_;refine And.intro (Z7 hi) ?_;refine hK _ _ ?_;clear hK K;refine Zy (t:=true) rfl ?_;rw[if_pos rfl];refine Zx [(30,.v (.int .i64 i'))] YB hnt λ K hK=>?_;refine And.intro (Zr hi') ?_;refine hK _ _ ?_;clear hK K
     exact Y4 VS.toA
    rw[if_neg (λ h=>hi h.2)] at hi'
    subst hi'
    refine Zz ?_;refine Zx [(18,.v (.bool true)),(24,.v (.bool false))] YB hnt λ K hK=>?_;refine And.intro (Zm.refl _) ?_;refine And.intro (Ze hi) ?_;refine hK _ _ ?_;clear hK K;refine Zy (t:=false) rfl ?_;rw[if_neg (by simp)];refine Zw ?_
    exact Y4 VS.toA
   rw[if_neg (λ h=>hk h.1)] at hi'
   subst hi'
   refine Zz ?_;refine Zx [(18,.v (.bool false))] YB hnt λ K hK=>?_;refine And.intro (Ze hk) ?_;refine hK _ _ ?_;clear hK K;refine Zy (t:=false) rfl ?_;rw[if_neg (by simp)];refine Zw ?_
   exact Y4 VS.toA
  refine Zz ?_;refine Zx [(35,.v (.int .i64 a.length))] YB hnt λ K hK=>?_;refine And.intro (Zr (by rw[Zq])) ?_;refine And.intro ((by omega)) ?_;refine hK _ _ ?_;clear hK K;refine Zz (Zz ?_);refine Zx [(39,.v (.int .i64 a.length))] YB hnt λ K hK=>?_;refine And.intro (Zr (by rw[Zq])) ?_;refine hK _ _ ?_;clear hK K;refine Zt ?_
  refine Z6 (ι:=Nat) (λ j=>[(.t 40,.v (.int .i64 j)),(.t 7,.sl 4 (eTms (Nm.lifts y (a.take j) m)) (some 5)),(.r 5,.rw 62 4 j),(.t 1,.v (.int .i64 y)),(.t 2,.v (.int .i64 m)),(.t 3,.p 0 0),(.t 6,.p 1 0),(.t 38,.sl 4 (eTms a) none),(.t 39,.v (.int .i64 a.length)),(.c 0 0,.sl 2 (eTys bs) none),(.c 0 1,.v (.int .i64 k)),(.c 0 2,.v (.int .i64 i')),(.c 0 3,.sl 4 (eTms a) none),(.c 1 0,.v (.slice none 0 0)),(.c 1 1,.v (.int .i64 0)),(.c 1 2,.v (.int .i64 0)),(.c 1 3,.v (.slice none 0 0))]) 6 (λ j=>a.length-j) 0 ?_ λ j=>?_
  ·exact(VS.toK (by omega) (by repeat first | exact trivial | refine And.intro (And.intro (by first | rfl | simp[D.ok,D.oks,D.okss,D.okm,Xi,X7,Nm.lifts,eTms]) (by first | exact Or.inl rfl | exact Or.inr ⟨_,rfl,(by repeat first | exact Zm.refl _ | exact Zm.nil _ | exact Zm.untag _ _ _ | refine Zm.ag ?_ | refine Zm.tu ?_ | refine ZO.cons ?_ ?_ | exact ZO.nil),trivial⟩ | simp[get,Key.eq,Nm.lifts,eTms])) ?_))
  refine Zz ?_
  by_cases hlt:j<a.length
  ·have hg:=ZT a j hlt
   have hih:=ih a[j] (List.getElem_mem hlt) (w3 _ (List.getElem_mem hlt)) y m
   rw[Zu,Zu] at hih
   have hll:(Nm.lifts y (a.take j) m).length=j:=by rw[Nm.lift_len,List.length_take];omega
   refine Zx [(41,.v (.bool true))] YB hnt λ K hK=>?_;refine And.intro (Z7 (by omega)) ?_;refine hK _ _ ?_;clear hK K;refine Zz (Zy (t:=true) rfl ?_);rw[if_pos rfl];refine Zw (Zz (Zt (Zz ?_)));refine Zx [(42,.q [.sl 2 (eTys a[j].binds) none,.v (.int .i64 a[j].kind),.v (.int .i64 a[j].index),.sl 4 (eTms a[j].args) none])] YB hnt λ K hK=>?_
   refine And.intro (⟨by omega,by rw[Zq];omega⟩) ?_;refine And.intro (by rw[Int.toNat_natCast,hg,Zu]) ?_;refine hK _ _ ?_;clear hK K;refine Zx [(50,.sl 4 (eTms (Nm.lifts y (a.take (j+1)) m)) (some 5))] YB hnt λ K hK=>?_;refine Zk (hih) ?_;refine And.intro (⟨by rw[Zq,hll],by rw[Zq,hll];simp;omega⟩) ?_;refine And.intro (by rw[Nm.lift_take _ _ _ _ hlt,Xv,eTms,eTms,Zu (Nm.lift y a[j] m)]) ?_
   refine hK _ _ ?_;clear hK K;refine Zx [(51,.v (.int .i64 ((j+1:Nat):Int)))] YB hnt λ K hK=>?_;refine And.intro (Zr (by rw[IntWalk.i64_in _ (by omega)];omega)) ?_;refine hK _ _ ?_;clear hK K
   refine⟨j+1,by omega,(VS.toK (by omega) (by repeat first | exact trivial | refine And.intro (And.intro (by first | rfl | simp[D.ok,D.oks,D.okss,D.okm,Xi,X7,Zq,hll]) (by first | exact Or.inl rfl | exact Or.inr ⟨_,rfl,(by repeat first | exact Zm.refl _ | exact Zm.nil _ | exact Zm.untag _ _ _ | refine Zm.ag ?_ | refine Zm.tu ?_ | refine ZO.cons ?_ ?_ | exact ZO.nil),trivial⟩ | simp[get,Key.eq,Zq,hll])) ?_))⟩
  skip
  refine Zx [(41,.v (.bool false))] YB hnt λ K hK=>?_;refine And.intro (Ze (by omega)) ?_;refine hK _ _ ?_;clear hK K;refine Zz (Zy (t:=false) rfl ?_);rw[if_neg (by simp)];refine Zg ?_;refine Zz ?_;refine Zx [] YB hnt λ _ z9=>z9 _ _ ?_;refine Zz ?_;refine Zx [] YB hnt λ _ z9=>z9 _ _ ?_;refine Zv ?_
  rw[List.take_of_length_le (by omega)]
  exact⟨.inr rfl,⟨_,rfl,(by repeat first | exact Zm.refl _ | exact Zm.nil _ | exact Zm.untag _ _ _ | refine Zm.ag ?_ | refine Zm.tu ?_ | refine ZO.cons ?_ ?_ | exact ZO.nil)⟩,nofun⟩
theorem LN (t:Tm)(hw:Yv t)(y:Int):Zh Tryz.prog 206 [.ag (eTm t),.v (.int .i64 y)] (.ag (eTm (Nm.grown t y))):=by
 have hl:=Le t hw y 0
 rw[Zu,Zu] at hl
 obtain⟨bs,k,i,a⟩:=t
 refine ZX 0 11 [ResultVar.cell 4 62] YB (by kernel_rfl) Tryz.func206 rfl Tryz.ntmps206 rfl (by simp) ?dwords ?dbody
 case dwords=>simp[ZA,D.ok,D.oks,YK,ZM]
 case dbody=>
  intro cx hnt hn0
  refine Zz ?_;refine Zx [] YB hnt λ _ z9=>z9 _ _ ?_;refine Zz (Zz ?_)
  by_cases hy:y=0
  ·skip
   refine Zx [(6,.v (.bool true))] YB hnt λ K hK=>?_;refine And.intro (Z7 hy) ?_;refine hK _ _ ?_;clear hK K;refine Zy (t:=true) rfl ?_;rw[if_pos rfl];refine Zz ?_;refine Zx [] YB hnt λ _ z9=>z9 _ _ ?_;refine Zv ?_
   have hg:Nm.grown (.mk bs k i a) y=.mk bs k i a:=by simp[Nm.grown,hy]
   rw[hg]
   exact⟨.inr rfl,⟨_,rfl,Zm.refl _⟩,nofun⟩
  skip
  refine Zx [(6,.v (.bool false))] YB hnt λ K hK=>?_;refine And.intro (Ze hy) ?_;refine hK _ _ ?_;clear hK K;refine Zy (t:=false) rfl ?_;rw[if_neg (by simp)];refine Zw ?_;refine Zz ?_;refine Zx [] YB hnt λ K hK=>?_;refine Zk (hl) ?_;refine hK _ _ ?_;clear hK K;refine Zv ?_
  have hg:Nm.grown (.mk bs k i a) y=Nm.lift y (.mk bs k i a) 0:=by simp[Nm.grown,hy]
  rw[hg]
  exact⟨.inr rfl,⟨_,rfl,Zm.refl _⟩,nofun⟩
end Go.Proofs.YtclihnccilkohaaGreat
