/-
  term.is: whether a term is of a type. The document's Is: whether a term is of a type. The document's Depth, Right, Check; term.Check. The document's answer of layer 22: lifted, Over, Closed. What the members of a gathering yield: a list of standard shapes. term.HeadType, term.TypeOf. The document's TypeOf. Whether a world may be: the program's RightWorld and the document's. The laws' worlds: World, Small; the document's RightWorld. The contracts of heads and types once more, where all of memory may be read. Checks of substitutions: what is called, as deep contracts. term's TypeOf and Check, walked in the deep way. What rule.Typed and the document's Typed call, as deep contracts. Typed and Check: rule's and the document's. Check: rule's and the document's. The known answer of the laws of layer 17. RuleOwns, walked in the deep way. A rule in its own numbers is a rule, in plain Lean. A typed pair in its own numbers: typed, a rule just where the pair is one; plain. subst.Apply, walked in the deep way. The known answer of the laws of layer 9. rule.Instance, walked in the deep way. Long forms and shifted terms are well typed: the plain law. What the law MatchBack asks of the plain model. Loops over an iterator that hands out what it has just made. A region that draws its order where several operations can come up. A region that draws its order, walked outside any fence, is taken into the fence that asks nothing, in a round of a loop or not. spot.Each: all places, each handed out as copies that have just been made. spot.Each as an iterator; match.Find. match.Find: the first place where a pattern matches. The law MatchFinds. spot.At, walked in the deep way. Swap of rule and of the document. Orders: rule's and the document's. RuleChecks, walked in the deep way. rule.Typed alone. kind.Compare. term.all: which of two lists is less. term.Compare. RuleOrders, walked in the deep way. The law RuleKeeps. The law MatchSound. The law MatchBack.
-/
import Derived.Test.YtflbnonbfmmchaaGreatRowMatchBackp6
import Derived.Test.YtflbnonbfmmchaaGreatRowMatchBackp9
import Derived.Test.YtflbnonbfmmchaaGreatRowMatchBackp1
import Derived.Test.YtflbnonbfmmchaaGreatRowMatchBackp5
import Derived.Test.YtflbnonbfmmchaaGreatRowMatchBackp8
import Derived.Test.YtflbnonbfmmchaaGreatRowMatchBackp4
import Derived.Test.YtflbnonbfmmchaaGreatRowMatchBackp7
import Derived.RegionTactic
import Derived.OrdersIn
import Derived.RangeFuncCalls
set_option maxRecDepth 100000
set_option maxHeartbeats 1000000
set_option linter.unusedVariables false
set_option linter.unusedSimpArgs false
namespace Go.Proofs.YtflbnonbfmmchaaGreat
open Go.RowKit
set_option maxRecDepth 100000 in
set_option maxHeartbeats 8000000 in
theorem is_k {F:Nat→Prop}{b:Int}{C M:List Ty}:∀ (t:Tm) (w:World) (cv mv xv tb tk ti ta s ub:Value) (X:List Ty) (u:Ty),(∀ q,F q→q<w.heap.size)→IsSl rpTy F w cv C→IsSl rpTy F w mv M→IsSl2 rpTy (fun _=>True) F w xv X→IsTm F w tb tk ti ta t→IsTy F w s ub u →
  X.length+t.full≤90000→t.Fit →
  Calls Tryz.prog 62 #[.agg #[.int .i64 b,cv,mv],xv,.agg #[tb,tk,ti,ta],.agg #[s,ub]] w (RetB (IsOf C M t X u) w):=Tm.ind fun binds k i args ih=>by
 intro w cv mv xv tb tk ti ta s ub X u hF hc hm hx ht hu hz hfit
 obtain⟨ca,cc,rfl⟩:=hc.shape
 obtain⟨ma,mc,rfl⟩:=hm.shape
 obtain⟨xa,xc,rfl⟩:=hx.shape
 obtain⟨rfl,rfl,hbi,hsa⟩:=ht.inv
 obtain⟨rfl,hus⟩:=hu.inv
 simp only[Tm.binds,Tm.kind,Tm.index,Tm.args] at hbi hsa ⊢
 obtain⟨pa,pc,rfl⟩:=hbi.shape
 obtain⟨qa,qc,rfl⟩:=hsa.shape
 obtain⟨ua,uc,rfl⟩:=hus.shape
 obtain⟨_,hma,bl,off,PA,A,PN,PC,N,Cc,Kd,Ix,ha,h1,h2,h3,h4,h5⟩:=sl_cells6 hsa
 unfold maxLen at hma
 have hi:i≤9223372036854775807:=(Tm.fit_iff.1 hfit).2.1
 have Hfit:Hid (∀ t∈args,Tm.Fit t):=(Tm.fit_iff.1 hfit).2.2
 obtain⟨Y,hY⟩:∃ Y,X++binds=Y:=⟨_,rfl⟩
 have hYl:Y.length=X.length+binds.length:=by rw[←hY];simp
 have hbl:binds.length≤Ty.sizes binds:=Ty.le_sizes binds
 have Hz:Hid (∀ t∈args,Y.length+t.full≤90000):=fun t ht=>by have:=Tm.full_mem ht;rw[Tm.full_eq] at hz;omega
 have hla:X.length+binds.length≤100000:=by rw[Tm.full_eq] at hz;omega
 have H0:=Lib.hid hF;have Hc:=Lib.hid hc;have Hm:=Lib.hid hm
 have Heq:=Lib.hid fun(w':World) (hb:Below w.heap.size w w')=>equalFunc_k hbi hus (fun t _=>equal_k t) w' ((Keep.refl _ _).below hb) ((Keep.refl _ _).below hb)
 have Hwi:=Lib.hid fun(w':World) (hb:Below w.heap.size w w')=>within_k (hx.bel hb) (IsSl2.of (hbi.bel hb)) hla
 have Hhd:=Lib.hid fun(w':World) (yv:Value) (hb:Below w.heap.size w w') (hy:IsSl2 rpTy (fun _=>True) F w' yv Y)=>headType_k (b:=b) (fun q hq=>Nat.lt_of_lt_of_le (hF q hq) hb.size) (hc.bel hb) (hm.bel hb) hy k i hi
 have H5:=Lib.hid h5;have Hih:=Lib.hid ih
 have Hh:Hid (∀ o,headTy C M Y k i=o→(IsOf C M (.mk binds k i args) X u↔binds=u.args∧∃ h,o=some h∧h.base=u.base∧IsOfs C M args Y h.args)):=fun o ho=>by rw[isOf_mk,hY,ho]
 rw[hY] at Hwi
 obtain⟨P,hP⟩:∃ P,IsOf C M (.mk binds k i args) X u=P:=⟨_,rfl⟩
 rw[hP] at Hh ⊢
 obtain⟨o,ho⟩:∃ o,headTy C M Y k i=o:=⟨_,rfl⟩
 have HP:=Lib.hid (Hh.out o ho)
 rw[ho] at Hhd
 obtain⟨ul,hul⟩:∃ ul,u.args=ul:=⟨_,rfl⟩
 obtain⟨ud,hud⟩:∃ ud,u.base=ud:=⟨_,rfl⟩
 rw[hul] at Heq HP hus ⊢
 rw[hud] at HP ⊢
 clear hP ho hul hud Hh hY hF hc hm hx ht hu hz hfit hbi hsa hus h5 ih hla hYl hbl
 go_enter Tryz.func62,Tryz.ntmps62
 go_wp2_with fail
 obtain⟨w3,hw3⟩:∃ w3,((w.alloc (.cells #[.int .i64 b,.slice ca C.length cc,.slice ma M.length mc] 35)).alloc (.cells #[.slice pa binds.length pc,.int .i64 k,.int .i64 i,.slice qa args.length qc] 41)).alloc (.cells #[.slice ua ul.length uc,.int .i64 ud] 44)=w3:=⟨_,rfl⟩
 have B_w3:Below w.heap.size w w3:=by rw[←hw3];exact(((Below.refl _ _).alloc (Nat.le_refl _) _).alloc (by simp) _).alloc (by simp;omega) _
 have x0_w3:Blk w3 w.heap.size #[.int .i64 b,.slice ca C.length cc,.slice ma M.length mc] 35:=by rw[←hw3];exact((Blk.new _ _ _ rfl).alloc _).alloc _
 have x1_w3:Blk w3 (w.heap.size+1) #[.slice pa binds.length pc,.int .i64 k,.int .i64 i,.slice qa args.length qc] 41:=by rw[←hw3];exact(Blk.new _ _ _ (by simp)).alloc _
 have x2_w3:Blk w3 (w.heap.size+1+1) #[.slice ua ul.length uc,.int .i64 ud] 44:=by rw[←hw3];exact Blk.new _ _ _ (by simp)
 rw[hw3]
 clear hw3
 refine(Heq.out w3 B_w3).mono ?_
 intro e w4 h
 obtain⟨r,Hr,rfl,hbx0⟩:=of_retB' h
 clear h
 have hbx:Below w3.heap.size w3 w4:=hbx0
 clear hbx0
 have x0_w4:=x0_w3.below hbx
 have x1_w4:=x1_w3.below hbx
 have x2_w4:=x2_w3.below hbx
 have B_w4:=B_w3.trans (hbx.mono B_w3.size)
 clear x0_w3 x1_w3 x2_w3 B_w3 hbx
 cases r
 ·have hn:¬ P:=fun hp=>no_of Hr ((HP.out.1 hp).1)
  go_wp2_with fail
  go_ret
  exact⟨false,by simp[hn],rfl,B_w4⟩
 have hbu:=yes_of Hr
 subst hbu
 clear Hr
 have cx00:w4.cell? ⟨w.heap.size,0,none⟩=some (.int .i64 b):=x0_w4.cell rfl
 have cx01:w4.cell? ⟨w.heap.size,1,none⟩=some (.slice ca C.length cc):=x0_w4.cell rfl
 have cx02:w4.cell? ⟨w.heap.size,2,none⟩=some (.slice ma M.length mc):=x0_w4.cell rfl
 have lx0:=x0_w4.lt
 have cx10:w4.cell? ⟨w.heap.size+1,0,none⟩=some (.slice pa binds.length pc):=x1_w4.cell rfl
 have cx11:w4.cell? ⟨w.heap.size+1,1,none⟩=some (.int .i64 k):=x1_w4.cell rfl
 have cx12:w4.cell? ⟨w.heap.size+1,2,none⟩=some (.int .i64 i):=x1_w4.cell rfl
 have cx13:w4.cell? ⟨w.heap.size+1,3,none⟩=some (.slice qa args.length qc):=x1_w4.cell rfl
 have lx1:=x1_w4.lt
 have cx20:w4.cell? ⟨w.heap.size+1+1,0,none⟩=some (.slice ua binds.length uc):=x2_w4.cell rfl
 have cx21:w4.cell? ⟨w.heap.size+1+1,1,none⟩=some (.int .i64 ud):=x2_w4.cell rfl
 have lx2:=x2_w4.lt
 go_wp2_with fail
 refine(Hwi.out w4 B_w4).mono ?_
 rintro e w5 ⟨ya,yc,rfl,hT,hbx0⟩
 have hbx:Below w4.heap.size w4 w5:=hbx0
 clear hbx0
 clear cx00 cx01 cx02 lx0 cx10 cx11 cx12 cx13 lx1 cx20 cx21 lx2
 have x0_w5:=x0_w4.below hbx
 have x1_w5:=x1_w4.below hbx
 have x2_w5:=x2_w4.below hbx
 have B_w5:=B_w4.trans (hbx.mono B_w4.size)
 clear x0_w4 x1_w4 x2_w4 B_w4 hbx
 have T_w5:=Lib.hid (hT.anyRow (by decide))
 clear hT
 have cx00:w5.cell? ⟨w.heap.size,0,none⟩=some (.int .i64 b):=x0_w5.cell rfl
 have cx01:w5.cell? ⟨w.heap.size,1,none⟩=some (.slice ca C.length cc):=x0_w5.cell rfl
 have cx02:w5.cell? ⟨w.heap.size,2,none⟩=some (.slice ma M.length mc):=x0_w5.cell rfl
 have lx0:=x0_w5.lt
 have cx10:w5.cell? ⟨w.heap.size+1,0,none⟩=some (.slice pa binds.length pc):=x1_w5.cell rfl
 have cx11:w5.cell? ⟨w.heap.size+1,1,none⟩=some (.int .i64 k):=x1_w5.cell rfl
 have cx12:w5.cell? ⟨w.heap.size+1,2,none⟩=some (.int .i64 i):=x1_w5.cell rfl
 have cx13:w5.cell? ⟨w.heap.size+1,3,none⟩=some (.slice qa args.length qc):=x1_w5.cell rfl
 have lx1:=x1_w5.lt
 have cx20:w5.cell? ⟨w.heap.size+1+1,0,none⟩=some (.slice ua binds.length uc):=x2_w5.cell rfl
 have cx21:w5.cell? ⟨w.heap.size+1+1,1,none⟩=some (.int .i64 ud):=x2_w5.cell rfl
 have lx2:=x2_w5.lt
 go_wp2_with fail
 refine(Hhd.out w5 _ B_w5 T_w5.out).mono ?_
 rintro e w6 ⟨s6,b6,rfl,hT,hbx0⟩
 have hbx:Below w5.heap.size w5 w6:=hbx0
 clear hbx0
 clear cx00 cx01 cx02 lx0 cx10 cx11 cx12 cx13 lx1 cx20 cx21 lx2
 have x0_w6:=x0_w5.below hbx
 have x1_w6:=x1_w5.below hbx
 have x2_w6:=x2_w5.below hbx
 have T_w6:=Lib.hid (T_w5.out.bel hbx)
 have B_w6:=B_w5.trans (hbx.mono B_w5.size)
 clear x0_w5 x1_w5 x2_w5 T_w5 B_w5 hbx
 obtain⟨h0,hh0⟩:∃ h0,o.getD tyZ=h0:=⟨_,rfl⟩
 have Hh0:=Lib.hid hh0
 rw[hh0] at hT
 clear hh0
 obtain⟨ha6,hc6,rfl,rfl⟩:=hT.shape
 have hat:=sl_at (IsSl2.of hT.inv.2)
 obtain⟨n0,hn0⟩:∃ n0,h0.args.length=n0:=⟨_,rfl⟩
 obtain⟨d0,hd0⟩:∃ d0,h0.base=d0:=⟨_,rfl⟩
 rw[hn0] at hT ⊢
 rw[hd0] at hT ⊢
 have Hn0:=Lib.hid hn0;have Hd0:=Lib.hid hd0
 have Hat:=Lib.hid hat
 clear hT hn0 hd0 hat
 cases hs:o.isSome
 ·have hn:¬ P:=fun hp=>by
   obtain⟨_,h,e,_⟩:=HP.out.1 hp
   rw[e] at hs;cases hs
  have cx00:w6.cell? ⟨w.heap.size,0,none⟩=some (.int .i64 b):=x0_w6.cell rfl
  have cx01:w6.cell? ⟨w.heap.size,1,none⟩=some (.slice ca C.length cc):=x0_w6.cell rfl
  have cx02:w6.cell? ⟨w.heap.size,2,none⟩=some (.slice ma M.length mc):=x0_w6.cell rfl
  have lx0:=x0_w6.lt
  have cx10:w6.cell? ⟨w.heap.size+1,0,none⟩=some (.slice pa binds.length pc):=x1_w6.cell rfl
  have cx11:w6.cell? ⟨w.heap.size+1,1,none⟩=some (.int .i64 k):=x1_w6.cell rfl
  have cx12:w6.cell? ⟨w.heap.size+1,2,none⟩=some (.int .i64 i):=x1_w6.cell rfl
  have cx13:w6.cell? ⟨w.heap.size+1,3,none⟩=some (.slice qa args.length qc):=x1_w6.cell rfl
  have lx1:=x1_w6.lt
  have cx20:w6.cell? ⟨w.heap.size+1+1,0,none⟩=some (.slice ua binds.length uc):=x2_w6.cell rfl
  have cx21:w6.cell? ⟨w.heap.size+1+1,1,none⟩=some (.int .i64 ud):=x2_w6.cell rfl
  have lx2:=x2_w6.lt
  go_wp2_with fail
  go_ret
  exact⟨false,by simp[hn],rfl,by first | exact B_w6.alloc B_w6.size _ | exact B_w6⟩
 obtain⟨h0',rfl⟩:=Option.isSome_iff_exists.1 hs
 obtain rfl:h0'=h0:=Hh0.out
 have HP2:Hid (P↔d0=ud∧IsOfs C M args Y h0'.args):=by
  show P↔_
  rw[HP.out,←Hd0.out]
  simp
 clear HP hs Hh0
 have cx00:w6.cell? ⟨w.heap.size,0,none⟩=some (.int .i64 b):=x0_w6.cell rfl
 have cx01:w6.cell? ⟨w.heap.size,1,none⟩=some (.slice ca C.length cc):=x0_w6.cell rfl
 have cx02:w6.cell? ⟨w.heap.size,2,none⟩=some (.slice ma M.length mc):=x0_w6.cell rfl
 have lx0:=x0_w6.lt
 have cx10:w6.cell? ⟨w.heap.size+1,0,none⟩=some (.slice pa binds.length pc):=x1_w6.cell rfl
 have cx11:w6.cell? ⟨w.heap.size+1,1,none⟩=some (.int .i64 k):=x1_w6.cell rfl
 have cx12:w6.cell? ⟨w.heap.size+1,2,none⟩=some (.int .i64 i):=x1_w6.cell rfl
 have cx13:w6.cell? ⟨w.heap.size+1,3,none⟩=some (.slice qa args.length qc):=x1_w6.cell rfl
 have lx1:=x1_w6.lt
 have cx20:w6.cell? ⟨w.heap.size+1+1,0,none⟩=some (.slice ua binds.length uc):=x2_w6.cell rfl
 have cx21:w6.cell? ⟨w.heap.size+1+1,1,none⟩=some (.int .i64 ud):=x2_w6.cell rfl
 have lx2:=x2_w6.lt
 by_cases hd:d0=ud
 rotate_left
 ·have hn:¬ P:=fun hp=>hd (HP2.out.1 hp).1
  have g1:(d0==ud)=false:=by simpa using hd
  have g2:(d0 != ud)=true:=by simpa using hd
  go_wp2_with fail
  go_ret
  exact⟨false,by simp[hn],rfl,by first | exact B_w6.alloc B_w6.size _ | exact B_w6⟩
 subst hd
 by_cases hn:(n0:Int)=(args.length:Int)
 rotate_left
 ·have hnn:¬ P:=fun hp=>by
   have h:=(isOfs_iff.1 (HP2.out.1 hp).2).1
   have:=Hn0.out
   omega
  have g1:((n0:Int)==(args.length:Int))=false:=by simpa using hn
  have g2:((n0:Int) != (args.length:Int))=true:=by simpa using hn
  go_wp2_with fail
  go_ret
  exact⟨false,by simp[hnn],rfl,by first | exact B_w6.alloc B_w6.size _ | exact B_w6⟩
 have hnn:n0=args.length:=by omega
 subst hnn
 clear hn
 have HP3:Hid (P↔∀ j (h:j<args.length) (h':j<h0'.args.length),IsOf C M args[j] Y h0'.args[j]):=by
  show P↔_
  rw[HP2.out,isOfs_iff]
  simp[Hn0.out]
 clear HP2
 go_wp2_with fail
 obtain⟨w7,hw7⟩:∃ w7,w6.alloc (.cells #[.slice ha6 args.length hc6,.int .i64 d0] 44)=w7:=⟨_,rfl⟩
 have hbx:Below w6.heap.size w6 w7:=by rw[←hw7];exact(Below.refl _ _).alloc (Nat.le_refl _) _
 obtain⟨p,hp⟩:∃ p,w6.heap.size=p:=⟨_,rfl⟩
 have xh_w7:Blk w7 p #[.slice ha6 args.length hc6,.int .i64 d0] 44:=by rw[←hw7];exact Blk.new _ _ _ hp.symm
 try rw[hw7]
 try rw[hp]
 clear cx00 cx01 cx02 cx10 cx11 cx12 cx13 cx20 cx21 lx0 lx1 lx2 hw7
 have Hbx:=Lib.hid hbx
 have x0_w7:=x0_w6.below hbx
 have x1_w7:=x1_w6.below hbx
 have x2_w7:=x2_w6.below hbx
 have T_w7:=Lib.hid (T_w6.out.bel hbx)
 have B_w7:=B_w6.trans (hbx.mono B_w6.size)
 clear x0_w6 x1_w6 x2_w6 T_w6 B_w6 hbx
 clear hp
 have H0':=Lib.hid fun q hq=>Nat.lt_of_lt_of_le (H0.out q hq) B_w7.size
 have Bw7:=Lib.hid B_w7
 clear B_w7
 go_loopw [12,13,53] (fun _ _ c wr=>∃ j:Nat,c=.int .i64 j∧j≤args.length∧Hid (∀ m (h:m<args.length) (h':m<h0'.args.length),m<j→IsOf C M args[m] Y h0'.args[m])∧Below w7.heap.size w7 wr) (fun _ _ c _=>args.length-(intOf c).toNat)
 case atStart=>exact⟨0,rfl,by omega,fun m _ _ h=>absurd h (by omega),Below.refl _ _⟩
 case round=>
  obtain⟨j,rfl,hj,hrel,hbr⟩:=hrel
  have Hbr:=Lib.hid hbr
  have B_wr:=Bw7.out.trans (hbr.mono Bw7.out.size)
  have x0_wr:=x0_w7.below hbr;have x1_wr:=x1_w7.below hbr;have x2_wr:=x2_w7.below hbr;have xh_wr:=xh_w7.below hbr
  have T_wr:=Lib.hid (T_w7.out.bel hbr)
  clear x0_w7 x1_w7 x2_w7 xh_w7 T_w7 hbr
  by_cases hlt:j<args.length
  ·obtain⟨rfl,hF⟩:=ha (by omega)
   have i1:(j:Int)<(args.length:Int):=by omega
   have hj':j<h0'.args.length:=by have:=Hn0.out;omega
   obtain⟨bl',off',A',N',C',B',rfl,hF',e5,e6,hU⟩:=Hat.out j hj'
   have Kp:Keep F w wr:=(Keep.refl _ _).below B_wr
   have e1:=Kp _ _ _ hF (h1 j hlt)
   have e2:=Kp _ _ _ hF (h2 j hlt)
   have e3:=Kp _ _ _ hF (h3 j hlt)
   have e4:=Kp _ _ _ hF (h4 j hlt)
   have B6r:Below w6.heap.size w6 wr:=Hbx.out.trans (Hbr.out.mono Hbx.out.size)
   have e5wr:=((Keep.refl (fun _=>True) _).below B6r) _ _ _ trivial e5
   have e6wr:=((Keep.refl (fun _=>True) _).below B6r) _ _ _ trivial e6
   have U_wr:=Lib.hid (hU.bel B6r)
   have V_wr:=Lib.hid ((H5.out j hlt).bel B_wr)
   clear e5 e6 hU B6r Kp
   go_wp2_with fail
   clear e1 e2 e3 e4
   obtain⟨v1,hv1⟩:∃ v1,wr.alloc (.cells #[.slice (PA j) (PN j) (PC j),.int .i64 (Kd j),.int .i64 (Ix j),.slice (A j) (N j) (Cc j)] 41)=v1:=⟨_,rfl⟩
   have hbx:Below wr.heap.size wr v1:=by rw[←hv1];exact(Below.refl _ _).alloc (Nat.le_refl _) _
   obtain⟨q,hq⟩:∃ q,wr.heap.size=q:=⟨_,rfl⟩
   have xa_v1:Blk v1 q #[.slice (PA j) (PN j) (PC j),.int .i64 (Kd j),.int .i64 (Ix j),.slice (A j) (N j) (Cc j)] 41:=by rw[←hv1];exact Blk.new _ _ _ hq.symm
   try rw[hv1]
   try rw[hq]
   have e5v1:=((Keep.refl (fun _=>True) _).below hbx) _ _ _ trivial e5wr
   have e6v1:=((Keep.refl (fun _=>True) _).below hbx) _ _ _ trivial e6wr
   clear e5wr e6wr hv1
   have B7v:Below w7.heap.size w7 v1:=Hbr.out.trans (hbx.mono Hbr.out.size)
   have x0_v1:=x0_wr.below hbx
   have xh_v1:=xh_wr.below hbx
   have T_v1:=Lib.hid (T_wr.out.bel hbx)
   have U_v1:=Lib.hid (U_wr.out.bel hbx)
   have V_v1:=Lib.hid (V_wr.out.bel hbx)
   have B_v1:=B_wr.trans (hbx.mono B_wr.size)
   clear x0_wr xh_wr T_wr U_wr V_wr B_wr hbx
   clear hq
   refine wp_region_noPanic (wp_region_need (S:=fun w'=>w'.cell? ⟨w.heap.size,0,none⟩=some (.int .i64 b)∧w'.cell? ⟨w.heap.size,1,none⟩=some (.slice ca C.length cc)∧w'.cell? ⟨w.heap.size,2,none⟩=some (.slice ma M.length mc)∧w'.cell? ⟨p,0,none⟩=some (.slice (some ⟨bl',off',none⟩) args.length hc6)∧w'.cell? ⟨p,1,none⟩=some (.int .i64 d0)∧w'.cell? ⟨q,0,none⟩=some (.slice (PA j) (PN j) (PC j))∧w'.cell? ⟨q,1,none⟩=some (.int .i64 (Kd j))∧w'.cell? ⟨q,2,none⟩=some (.int .i64 (Ix j))∧w'.cell? ⟨q,3,none⟩=some (.slice (A j) (N j) (Cc j))∧w'.cell? ⟨bl',off'+j * 2,none⟩=some (.slice A' N' C')∧w'.cell? ⟨bl',off'+j * 2+1,none⟩=some (.int .i64 B')) (by kernel_rfl) ?_)
   have hS:(v1.drew).cell? ⟨w.heap.size,0,none⟩=some (.int .i64 b)∧(v1.drew).cell? ⟨w.heap.size,1,none⟩=some (.slice ca C.length cc)∧(v1.drew).cell? ⟨w.heap.size,2,none⟩=some (.slice ma M.length mc)∧(v1.drew).cell? ⟨p,0,none⟩=some (.slice (some ⟨bl',off',none⟩) args.length hc6)∧(v1.drew).cell? ⟨p,1,none⟩=some (.int .i64 d0)∧(v1.drew).cell? ⟨q,0,none⟩=some (.slice (PA j) (PN j) (PC j))∧(v1.drew).cell? ⟨q,1,none⟩=some (.int .i64 (Kd j))∧(v1.drew).cell? ⟨q,2,none⟩=some (.int .i64 (Ix j))∧(v1.drew).cell? ⟨q,3,none⟩=some (.slice (A j) (N j) (Cc j))∧(v1.drew).cell? ⟨bl',off'+j * 2,none⟩=some (.slice A' N' C')∧(v1.drew).cell? ⟨bl',off'+j * 2+1,none⟩=some (.int .i64 B'):=⟨x0_v1.drew.cell rfl,x0_v1.drew.cell rfl,x0_v1.drew.cell rfl,xh_v1.drew.cell rfl,xh_v1.drew.cell rfl,xa_v1.drew.cell rfl,xa_v1.drew.cell rfl,xa_v1.drew.cell rfl,xa_v1.drew.cell rfl,e5v1,e6v1⟩
   refine wpN_take (i:=0) (v:=?v1) rfl (by kernel_rfl) (fun _ _ _ h=>h) hS (Or.inl ⟨by rfl,?hy1⟩) ?hr1
   case hy1=>(intro wS hSw;(try dsimp only at hSw);go_simp;(try with_reducible rfl))
   try simp only[Act.put,List.setIfInBounds_toArray,List.set_cons_zero,List.set_cons_succ,List.getElem_toArray,List.getElem_cons_zero,List.getElem_cons_succ]
   refine wpN_take (i:=1) (v:=?v2) rfl (by kernel_rfl) (fun _ _ _ h=>h) hS (Or.inl ⟨by rfl,?hy2⟩) ?hr2
   case hy2=>(intro wS hSw;(try dsimp only at hSw);go_simp;(try with_reducible rfl))
   try simp only[Act.put,List.setIfInBounds_toArray,List.set_cons_zero,List.set_cons_succ,List.getElem_toArray,List.getElem_cons_zero,List.getElem_cons_succ]
   refine wpN_take (i:=2) (v:=?v3) rfl (by kernel_rfl) (fun _ _ _ h=>h) hS (Or.inl ⟨by rfl,?hy3⟩) ?hr3
   case hy3=>(intro wS hSw;(try dsimp only at hSw);go_simp;(try with_reducible rfl))
   try simp only[Act.put,List.setIfInBounds_toArray,List.set_cons_zero,List.set_cons_succ,List.getElem_toArray,List.getElem_cons_zero,List.getElem_cons_succ]
   refine wpN_take (i:=3) (v:=?v4) rfl (by kernel_rfl) (fun _ _ _ h=>h) hS (Or.inl ⟨by rfl,?hy4⟩) ?hr4
   case hy4=>(intro wS hSw;(try dsimp only at hSw);go_simp;(try with_reducible rfl))
   try simp only[Act.put,List.setIfInBounds_toArray,List.set_cons_zero,List.set_cons_succ,List.getElem_toArray,List.getElem_cons_zero,List.getElem_cons_succ]
   refine wpN_take (i:=4) (v:=?v5) rfl (by kernel_rfl) (fun _ _ _ h=>h) hS (Or.inl ⟨by rfl,?hy5⟩) ?hr5
   case hy5=>(intro wS hSw;(try dsimp only at hSw);go_simp;(try with_reducible rfl))
   try simp only[Act.put,List.setIfInBounds_toArray,List.set_cons_zero,List.set_cons_succ,List.getElem_toArray,List.getElem_cons_zero,List.getElem_cons_succ]
   refine wpN_take (i:=5) (v:=?v6) rfl (by kernel_rfl) (fun _ _ _ h=>h) hS (Or.inl ⟨by rfl,?hy6⟩) ?hr6
   case hy6=>(intro wS hSw;(try dsimp only at hSw);go_simp;(try with_reducible rfl))
   try simp only[Act.put,List.setIfInBounds_toArray,List.set_cons_zero,List.set_cons_succ,List.getElem_toArray,List.getElem_cons_zero,List.getElem_cons_succ]
   refine wpN_take (i:=6) (v:=?v7) rfl (by kernel_rfl) (fun _ _ _ h=>h) hS (Or.inl ⟨by rfl,?hy7⟩) ?hr7
   case hy7=>(intro wS hSw;(try dsimp only at hSw);go_simp;(try with_reducible rfl))
   try simp only[Act.put,List.setIfInBounds_toArray,List.set_cons_zero,List.set_cons_succ,List.getElem_toArray,List.getElem_cons_zero,List.getElem_cons_succ]
   refine wpN_take (i:=7) (v:=?v8) rfl (by kernel_rfl) (fun _ _ _ h=>h) hS (Or.inl ⟨by rfl,?hy8⟩) ?hr8
   case hy8=>(intro wS hSw;(try dsimp only at hSw);go_simp;(try with_reducible rfl))
   try simp only[Act.put,List.setIfInBounds_toArray,List.set_cons_zero,List.set_cons_succ,List.getElem_toArray,List.getElem_cons_zero,List.getElem_cons_succ]
   refine wpN_step (i:=8) (by kernel_rfl) rfl (fun K hK=>?_)
   go_simp
   have hb0:Below w.heap.size w v1.drew:=B_v1.drew
   refine(Hih.out _ (List.getElem_mem hlt) v1.drew _ _ _ _ _ _ _ _ _ Y h0'.args[j] (fun q hq=>Nat.lt_of_lt_of_le (H0.out q hq) hb0.size) (Hc.out.bel hb0) (Hm.out.bel hb0) (T_v1.out.bel (Below.refl _ _).drew) (V_v1.out.bel (Below.refl _ _).drew) (U_v1.out.bel (Below.refl _ _).drew) (Hz.out _ (List.getElem_mem hlt)) (Hfit.out _ (List.getElem_mem hlt))).mono ?_
   intro e v2 h
   obtain⟨r,Hr,rfl,hbx0⟩:=of_retB' h
   clear h
   have hbx:Below v1.heap.size v1 v2:=(Below.refl _ _).drew.trans hbx0
   have e5v2:=((Keep.refl (fun _=>True) _).below hbx) _ _ _ trivial e5v1
   have e6v2:=((Keep.refl (fun _=>True) _).below hbx) _ _ _ trivial e6v1
   have B72:Below w7.heap.size w7 v2:=B7v.trans (hbx.mono B7v.size)
   have xa_v2:=xa_v1.below hbx
   clear hbx0 hb0 e5v1 e6v1 B7v xa_v1
   have x0_v2:=x0_v1.below hbx
   have xh_v2:=xh_v1.below hbx
   have T_v2:=Lib.hid (T_v1.out.bel hbx)
   have U_v2:=Lib.hid (U_v1.out.bel hbx)
   have V_v2:=Lib.hid (V_v1.out.bel hbx)
   have B_v2:=B_v1.trans (hbx.mono B_v1.size)
   clear x0_v1 xh_v1 T_v1 U_v1 V_v1 B_v1 hbx
   have hS:(v2).cell? ⟨w.heap.size,0,none⟩=some (.int .i64 b)∧(v2).cell? ⟨w.heap.size,1,none⟩=some (.slice ca C.length cc)∧(v2).cell? ⟨w.heap.size,2,none⟩=some (.slice ma M.length mc)∧(v2).cell? ⟨p,0,none⟩=some (.slice (some ⟨bl',off',none⟩) args.length hc6)∧(v2).cell? ⟨p,1,none⟩=some (.int .i64 d0)∧(v2).cell? ⟨q,0,none⟩=some (.slice (PA j) (PN j) (PC j))∧(v2).cell? ⟨q,1,none⟩=some (.int .i64 (Kd j))∧(v2).cell? ⟨q,2,none⟩=some (.int .i64 (Ix j))∧(v2).cell? ⟨q,3,none⟩=some (.slice (A j) (N j) (Cc j))∧(v2).cell? ⟨bl',off'+j * 2,none⟩=some (.slice A' N' C')∧(v2).cell? ⟨bl',off'+j * 2+1,none⟩=some (.int .i64 B'):=⟨x0_v2.cell rfl,x0_v2.cell rfl,x0_v2.cell rfl,xh_v2.cell rfl,xh_v2.cell rfl,xa_v2.cell rfl,xa_v2.cell rfl,xa_v2.cell rfl,xa_v2.cell rfl,e5v2,e6v2⟩
   refine hK.out _ _ (fun _=>hS) ?_
   clear hK K
   try simp only[Act.put,List.setIfInBounds_toArray,List.set_cons_zero,List.set_cons_succ,List.getElem_toArray,List.getElem_cons_zero,List.getElem_cons_succ]
   refine wpN_take (i:=9) (v:=?v9) rfl (by kernel_rfl) (fun _ _ _ h=>h) hS (Or.inl ⟨by rfl,?hy9⟩) ?hr9
   case hy9=>(intro wS hSw;(try dsimp only at hSw);go_simp;(try with_reducible rfl))
   try simp only[Act.put,List.setIfInBounds_toArray,List.set_cons_zero,List.set_cons_succ,List.getElem_toArray,List.getElem_cons_zero,List.getElem_cons_succ]
   refine wpN_done (by kernel_rfl) ?_
   refine NoPanic.normal ?_
   clear hS
   cases r
   ·have hn:¬ P:=fun hp=>no_of Hr.out (HP3.out.1 hp j hlt hj')
    go_wp2_with fail
    go_ret
    exact⟨false,by simp[hn],rfl,B_v2⟩
   ·have Hy:=Lib.hid (yes_of Hr.out)
    go_wp2_with fail
    go_roundw
    case rel=>exact⟨j+1,by go_num,by omega,fun m h h' hm=>by
     by_cases hmj:m<j
     ·exact hrel.out m h h' hmj
     ·obtain rfl:m=j:=by omega
      exact Hy.out,B72⟩
    case measure=>simp[intOf];omega
  ·have hp:P:=HP3.out.2 fun m h h'=>hrel.out m h h' (by omega)
   go_wp2_with fail
   go_ret
   exact⟨true,by simp[hp],rfl,B_wr⟩
def checkCode (C M:List Ty)(t:Tm)(X:List Ty)(u:Ty)(c:Int):Prop:=(¬ (t.size≤5000∧t.depth≤60)∧c=2)∨((t.size≤5000∧t.depth≤60)∧¬ IsOf C M t X u∧c=5)∨((t.size≤5000∧t.depth≤60)∧IsOf C M t X u∧c=0)
theorem checkCode_uniq {C M:List Ty}{t:Tm}{X:List Ty}{u:Ty}{c c':Int}(h:checkCode C M t X u c)(h':checkCode C M t X u c'):c=c':=by
 unfold checkCode at h h'
 rcases h with⟨h1,h2⟩ | ⟨h1,h2,h3⟩ | ⟨h1,h2,h3⟩ <;> rcases h' with⟨g1,g2⟩ | ⟨g1,g2,g3⟩ | ⟨g1,g2,g3⟩ <;> first | omega | exact absurd h1 g1 | exact absurd g1 h1 | exact absurd h2 g2 | exact absurd g2 h2
def RetCheck (C M:List Ty)(t:Tm)(X:List Ty)(u:Ty)(w:World)(e:Ending)(w':World):Prop:=∃ c:Int,Hid (checkCode C M t X u c)∧e=.returned (.int .i64 c)∧Below w.heap.size w w'
set_option maxRecDepth 100000 in
set_option maxHeartbeats 4000000 in
theorem Check_k {F:Nat→Prop}{b:Int}{C M:List Ty}(t:Tm)(w:World)(cv mv xv tb tk ti ta s ub:Value)(X:List Ty)(u:Ty)(hF:∀ q,F q→q<w.heap.size)(hc:IsSl rpTy F w cv C)(hm:IsSl rpTy F w mv M)(hx:IsSl2 rpTy (fun _=>True) F w xv X)(ht:IsTm F w tb tk ti ta t)(hu:IsTy F w s ub u) 
  (hz:X.length+t.full≤90000) (hfit:t.Fit) :
  Calls Tryz.prog 16 #[.agg #[.int .i64 b,cv,mv],xv,.agg #[tb,tk,ti,ta],.agg #[s,ub]] w (RetCheck C M t X u w):=by
 have Hi:=Lib.hid fun(w':World) (hb:Below w.heap.size w w')=>is_k (b:=b) t w' cv mv xv tb tk ti ta s ub X u (fun q hq=>Nat.lt_of_lt_of_le (hF q hq) hb.size) (hc.bel hb) (hm.bel hb) (hx.bel hb) (ht.bel hb) (hu.bel hb) hz hfit
 have Hrt:=Lib.hid fun(w':World) (hb:Below w.heap.size w w')=>right6_k (ht.bel hb) (by omega)
 obtain⟨ca,cc,rfl⟩:=hc.shape
 obtain⟨ma,mc,rfl⟩:=hm.shape
 obtain⟨xa,xc,rfl⟩:=hx.shape
 obtain⟨ua,uc,rfl,rfl⟩:=hu.shape
 obtain⟨t_pa,t_pc,t_qa,t_qc,rfl,rfl,rfl,rfl⟩:=ht.shape
 obtain⟨t_n,ht_n⟩:∃ x,t.binds.length=x:=⟨_,rfl⟩
 obtain⟨t_m,ht_m⟩:∃ x,t.args.length=x:=⟨_,rfl⟩
 obtain⟨t_k,ht_k⟩:∃ x,t.kind=x:=⟨_,rfl⟩
 obtain⟨t_i,ht_i⟩:∃ x,t.index=x:=⟨_,rfl⟩
 rw[ht_n,ht_m,ht_k,ht_i] at ht ⊢
 have Et_n:=Lib.hid ht_n
 have Et_m:=Lib.hid ht_m
 have Et_k:=Lib.hid ht_k
 have Et_i:=Lib.hid ht_i
 clear ht_n ht_m ht_k ht_i
 obtain⟨n1,hn1⟩:∃ n,u.args.length=n:=⟨_,rfl⟩
 obtain⟨n2,hn2⟩:∃ n,u.base=n:=⟨_,rfl⟩
 rw[hn1,hn2] at Hi ⊢
 rw[Et_n.out,Et_m.out,Et_k.out,Et_i.out] at Hi Hrt
 clear hn1 hn2 hc hm hx ht hu hz hfit hF
 go_enter Tryz.func16,Tryz.ntmps16
 go_wp2_with fail
 obtain⟨w3,hw3⟩:∃ w3,((w.alloc (.cells #[.int .i64 b,.slice ca C.length cc,.slice ma M.length mc] 35)).alloc (.cells #[.slice t_pa t_n t_pc,.int .i64 t_k,.int .i64 t_i,.slice t_qa t_m t_qc] 41)).alloc (.cells #[.slice ua n1 uc,.int .i64 n2] 44)=w3:=⟨_,rfl⟩
 have B_w3:Below w.heap.size w w3:=by rw[←hw3];exact(((Below.refl _ _).alloc (Nat.le_refl _) _).alloc (by simp) _).alloc (by simp;omega) _
 have x0_w3:Blk w3 w.heap.size #[.int .i64 b,.slice ca C.length cc,.slice ma M.length mc] 35:=by rw[←hw3];exact((Blk.new _ _ _ rfl).alloc _).alloc _
 have x1_w3:Blk w3 (w.heap.size+1) #[.slice t_pa t_n t_pc,.int .i64 t_k,.int .i64 t_i,.slice t_qa t_m t_qc] 41:=by rw[←hw3];exact(Blk.new _ _ _ (by simp)).alloc _
 have x2_w3:Blk w3 (w.heap.size+1+1) #[.slice ua n1 uc,.int .i64 n2] 44:=by rw[←hw3];exact Blk.new _ _ _ (by simp)
 rw[hw3]
 clear hw3
 refine(Hrt.out w3 B_w3).mono ?_
 intro e w4 h
 obtain⟨r,Hr,rfl,hbx0⟩:=of_retB' h
 clear h
 have hbx:Below w3.heap.size w3 w4:=hbx0
 clear hbx0
 have x0_w4:=x0_w3.below hbx
 have x1_w4:=x1_w3.below hbx
 have x2_w4:=x2_w3.below hbx
 have B_w4:=B_w3.trans (hbx.mono B_w3.size)
 clear x0_w3 x1_w3 x2_w3 B_w3 hbx
 cases r
 ·go_wp2_with fail
  go_ret
  exact⟨_,.inl ⟨no_of Hr.out,rfl⟩,rfl,B_w4⟩
 have hy:=Lib.hid (yes_of Hr.out)
 clear Hr
 have cx00:w4.cell? ⟨w.heap.size,0,none⟩=some (.int .i64 b):=x0_w4.cell rfl
 have cx01:w4.cell? ⟨w.heap.size,1,none⟩=some (.slice ca C.length cc):=x0_w4.cell rfl
 have cx02:w4.cell? ⟨w.heap.size,2,none⟩=some (.slice ma M.length mc):=x0_w4.cell rfl
 have lx0:=x0_w4.lt
 have cx10:w4.cell? ⟨w.heap.size+1,0,none⟩=some (.slice t_pa t_n t_pc):=x1_w4.cell rfl
 have cx11:w4.cell? ⟨w.heap.size+1,1,none⟩=some (.int .i64 t_k):=x1_w4.cell rfl
 have cx12:w4.cell? ⟨w.heap.size+1,2,none⟩=some (.int .i64 t_i):=x1_w4.cell rfl
 have cx13:w4.cell? ⟨w.heap.size+1,3,none⟩=some (.slice t_qa t_m t_qc):=x1_w4.cell rfl
 have lx1:=x1_w4.lt
 have cx20:w4.cell? ⟨w.heap.size+1+1,0,none⟩=some (.slice ua n1 uc):=x2_w4.cell rfl
 have cx21:w4.cell? ⟨w.heap.size+1+1,1,none⟩=some (.int .i64 n2):=x2_w4.cell rfl
 have lx2:=x2_w4.lt
 go_wp2_with fail
 refine(Hi.out w4 B_w4).mono ?_
 intro e w5 h
 obtain⟨r2,Hr2,rfl,hbx0⟩:=of_retB' h
 clear h
 have hbx:Below w4.heap.size w4 w5:=hbx0
 clear hbx0
 clear cx00 cx01 cx02 lx0 cx10 cx11 cx12 cx13 lx1 cx20 cx21 lx2
 have x0_w5:=x0_w4.below hbx
 have x1_w5:=x1_w4.below hbx
 have x2_w5:=x2_w4.below hbx
 have B_w5:=B_w4.trans (hbx.mono B_w4.size)
 clear x0_w4 x1_w4 x2_w4 B_w4 hbx
 cases r2
 ·go_wp2_with fail
  go_ret
  exact⟨_,.inr (.inl ⟨hy.out,no_of Hr2.out,rfl⟩),rfl,B_w5⟩
 ·have hy2:=Lib.hid (yes_of Hr2.out)
  clear Hr2
  go_wp2_with fail
  go_ret
  exact⟨_,.inr (.inr ⟨hy.out,hy2.out,rfl⟩),rfl,B_w5⟩
namespace Li
def bad (M:List Ty)(x:Int):Bool:=decide (x<0∨(M.length:Int)≤x)
end Li
def TyPostE (F:Nat→Prop)(o:Option Ty)(w:World)(e:Ending)(w':World):Prop:=∃ s b,e=.returned (.tuple #[.agg #[s,b],.int .i64 (if o.isSome then 0 else 10)])∧IsTy F w' s b (o.getD tyZ)∧Below w.heap.size w w'
theorem IsTy.trueb {F:Nat→Prop}{w:World}{s b:Value}{t:Ty}(h:IsTy F w s b t):IsTy (fun _=>True) w s b t:=h.weaken fun _ _ _=>trivial
set_option maxRecDepth 100000 in
set_option maxHeartbeats 4000000 in
theorem HeadType_k {F:Nat→Prop}{w:World}{b:Int}{cv mv xv:Value}{C M X:List Ty}(hF:∀ q,F q→q<w.heap.size)(hc:IsSl rpTy F w cv C)(hm:IsSl rpTy F w mv M)(hx:IsSl2 rpTy (fun _=>True) F w xv X)(k i:Int)(hi:i≤9223372036854775807) 
  (hsz:∀ t,headTy C M X k i=some t→t.size≤90000) :
  Calls Tryz.prog 81 #[.agg #[.int .i64 b,cv,mv],xv,.agg #[.int .i64 k,.int .i64 i]] w (TyPostE (fun q=>w.heap.size≤q) (headTy C M X k i) w):=by
 have Hcall:=Lib.hid fun(w':World) (hb:Below w.heap.size w w')=>headType_k (b:=b) (fun q h=>Nat.lt_of_lt_of_le (hF q h) hb.size) (hc.bel hb) (hm.bel hb) (hx.bel hb) k i hi
 obtain⟨ca,cc,rfl⟩:=hc.shape
 obtain⟨ma,mc,rfl⟩:=hm.shape
 obtain⟨xa,xc,rfl⟩:=hx.shape
 clear hc hm hx
 obtain⟨o,ho⟩:∃ o,headTy C M X k i=o:=⟨_,rfl⟩
 rw[ho] at Hcall hsz ⊢
 have Hsz:=Lib.hid hsz
 clear ho hsz
 go_enter Tryz.func81,Tryz.ntmps81
 go_wp2_with fail
 obtain⟨w3,hw3⟩:∃ w3,((w.alloc (.cells #[.int .i64 b,.slice ca C.length cc,.slice ma M.length mc] 35)).alloc (.cells #[.int .i64 k,.int .i64 i] 38)).alloc (.cells #[.slice none 0 0,.int .i64 0] 44)=w3:=⟨_,rfl⟩
 have B_w3:Below w.heap.size w w3:=by rw[←hw3];exact(((Below.refl _ _).alloc (Nat.le_refl _) _).alloc (by simp) _).alloc (by simp;omega) _
 have x2_w3:Blk w3 (w.heap.size+1+1) #[.slice none 0 0,.int .i64 0] 44:=by rw[←hw3];exact Blk.new _ _ _ (by simp)
 rw[hw3]
 clear hw3
 refine(Hcall.out w3 B_w3).mono ?_
 rintro e w4 ⟨s,b',rfl,hT,hbx0⟩
 have hbx:Below w3.heap.size w3 w4:=hbx0
 clear hbx0
 have x2_w4:=x2_w3.below hbx
 have B_w4:=B_w3.trans (hbx.mono B_w3.size)
 clear x2_w3 B_w3 hbx
 obtain⟨sa,sc,rfl,rfl⟩:=hT.shape
 cases hs:o.isSome
 ·have ho:o=none:=by simpa using hs
  subst ho
  simp only[Option.getD_none,tyZ,Ty.args,Ty.base,List.length_nil] at hT ⊢
  clear hT
  have cx20:w4.cell? ⟨w.heap.size+1+1,0,none⟩=some (.slice none 0 0):=x2_w4.cell rfl
  have cx21:w4.cell? ⟨w.heap.size+1+1,1,none⟩=some (.int .i64 0):=x2_w4.cell rfl
  have lx2:=x2_w4.lt
  have f0:=x2_w4.free 0
  have f1:=x2_w4.free 1
  go_wp2_with fail
  have y0:=((((x2_w4).set 0 (.slice none 0 0)).set 1 (.int .i64 0)).alloc (.cells #[.slice sa 0 sc,.int .i64 0] 44)).cell (i:=0) (v:=.slice none 0 0) rfl
  have y1:=((((x2_w4).set 0 (.slice none 0 0)).set 1 (.int .i64 0)).alloc (.cells #[.slice sa 0 sc,.int .i64 0] 44)).cell (i:=1) (v:=.int .i64 0) rfl
  have z0_0:=((x2_w4).set 0 (.slice none 0 0)).cell (i:=0) (v:=.slice none 0 0) rfl
  have z0_1:=(((x2_w4).set 0 (.slice none 0 0)).set 1 (.int .i64 0)).cell (i:=0) (v:=.slice none 0 0) rfl
  have z1_1:=(((x2_w4).set 0 (.slice none 0 0)).set 1 (.int .i64 0)).cell (i:=1) (v:=.int .i64 0) rfl
  refine bodyPost_ret (v:=.tuple #[.agg #[.slice none 0 0,.int .i64 0],.int .i64 10]) (by simp[results,Tryz.results81,go_sem,y0,y1,z0_0,z0_1,z1_1]) rfl ?_
  clear y0 y1 z0_0 z0_1 z1_1
  exact⟨_,_,rfl,isTy_zero _ _,((B_w4.setCell (by simp;omega) _).setCell (by simp;omega) _).alloc (by have:=B_w4.size;simp;omega) _⟩
 ·obtain⟨t,rfl⟩:=Option.isSome_iff_exists.1 hs
  have hz:=Hsz.out t rfl
  simp only[Option.getD_some] at hT ⊢
  obtain⟨n,hn⟩:∃ n,t.args.length=n:=⟨_,rfl⟩
  obtain⟨d,hd⟩:∃ d,t.base=d:=⟨_,rfl⟩
  rw[hn,hd] at hT ⊢
  have T_w4:=Lib.hid hT
  clear hT
  have lx:=x2_w4.lt
  go_wp2_with fail
  obtain⟨w5,hw5⟩:∃ w5,w4.alloc (.cells #[.slice sa n sc,.int .i64 d] 44)=w5:=⟨_,rfl⟩
  have hbx:Below w4.heap.size w4 w5:=by rw[←hw5];exact(Below.refl _ _).alloc (Nat.le_refl _) _
  try rw[hw5]
  clear hw5
  have hs5:=hbx.size
  have hs4:w.heap.size+3≤w4.heap.size:=lx
  have x2_w5:=x2_w4.below hbx
  have T_w5:=Lib.hid (T_w4.out.bel hbx)
  have B_w5:=B_w4.trans (hbx.mono B_w4.size)
  clear x2_w4 T_w4 B_w4 hbx
  refine(arrow_k T_w5.out (isSl_nil rpTy F _) (by simp[Ty.sizes];omega)).mono ?_
  rintro e w6 ⟨s6,b6,rfl,hT,hbx0⟩
  have hbx:Below w5.heap.size w5 w6:=hbx0
  clear hbx0
  have x2_w6:=x2_w5.below hbx
  have T_w6:=Lib.hid (T_w5.out.bel hbx)
  have B_w6:=B_w5.trans (hbx.mono B_w5.size)
  clear x2_w5 T_w5 B_w5 hbx
  have ht:Ty.mk ([]++t.args) t.base=t:=by cases t;rfl
  rw[ht] at hT
  clear ht
  obtain⟨a6,c6,rfl,rfl⟩:=hT.shape
  rw[hn,hd] at hT ⊢
  have hs6:=B_w6.size
  have T6:=Lib.hid (hT.weaken (F':=fun q=>w.heap.size+3≤q) fun q _ h=>by omega)
  clear hT
  have cx20:w6.cell? ⟨w.heap.size+1+1,0,none⟩=some (.slice none 0 0):=x2_w6.cell rfl
  have cx21:w6.cell? ⟨w.heap.size+1+1,1,none⟩=some (.int .i64 0):=x2_w6.cell rfl
  have lx2:=x2_w6.lt
  have f0:=x2_w6.free 0
  have f1:=x2_w6.free 1
  go_wp2_with fail
  have z0_0:=((x2_w6).set 0 (.slice a6 n c6)).cell (i:=0) (v:=.slice a6 n c6) rfl
  have z0_1:=(((x2_w6).set 0 (.slice a6 n c6)).set 1 (.int .i64 d)).cell (i:=0) (v:=.slice a6 n c6) rfl
  have z1_1:=(((x2_w6).set 0 (.slice a6 n c6)).set 1 (.int .i64 d)).cell (i:=1) (v:=.int .i64 d) rfl
  refine bodyPost_ret (v:=.tuple #[.agg #[.slice a6 n c6,.int .i64 d],.int .i64 0]) (by simp[results,Tryz.results81,go_sem,z0_0,z0_1,z1_1]) rfl ?_
  clear z0_0 z0_1 z1_1
  exact⟨_,_,rfl,(T6.out.keep (((Keep.refl _ _).setCell _ _ (by simp)).setCell _ _ (by simp))).weaken fun q _ h=>by omega,(B_w6.setCell (by simp;omega) _).setCell (by simp;omega) _⟩
def RightTy (bases:Int)(t:Ty):Prop:=t.size≤1000∧t.depth≤60∧Ty.Low bases t
set_option maxRecDepth 100000 in
theorem rightWorld1_k {F:Nat→Prop}{w:World}{s d:Value}{t:Ty}{b:Int}{B:Nat}(ht:IsTy F w s d t)(hz:t.size≤400000)(hB:w.cell? ⟨B,0,none⟩=some (.int .i64 b)):
  Calls Tryz.prog 59 #[.agg #[s,d],.pointer (some ⟨B,0,none⟩)] w (RetB (¬ RightTy b t) w):=by
 have Hr:=Lib.hid fun(w':World) (hb:Below w.heap.size w w')=>right_k (ht.bel hb) b (by omega)
 obtain⟨a,c,rfl,rfl⟩:=ht.shape
 clear ht
 obtain⟨n1,hn1⟩:∃ n,t.args.length=n:=⟨_,rfl⟩
 obtain⟨n2,hn2⟩:∃ n,t.base=n:=⟨_,rfl⟩
 rw[hn1,hn2] at Hr ⊢
 clear hn1 hn2
 have hl:=Keep.lt hB
 go_enter Tryz.func59,Tryz.ntmps59
 go_wp2_with fail
 have hb1:Below w.heap.size w (w.alloc (.cells #[.slice a n1 c,.int .i64 n2] 44)):=(Below.refl _ _).alloc (Nat.le_refl _) _
 refine(Hr.out _ hb1).mono ?_
 intro e w2 h
 obtain⟨r,Hq,rfl,hb2⟩:=of_retB' h
 clear h
 go_wp2_with fail
 go_ret
 exact⟨_,by have:=Hq.out;unfold RightTy;cases r <;> simp_all,rfl,hb1.trans (hb2.mono hb1.size)⟩
set_option maxRecDepth 100000 in
theorem indexFunc_k {G F:Nat→Prop}{w:World}{v:Value}{l:List Ty}{b:Int}{B:Nat}(h:IsSl2 rpTy G F w v l)(hz:∀ t∈l,t.size≤400000)(hB:w.cell? ⟨B,0,none⟩=some (.int .i64 b)):
  Calls Tryz.prog 108 #[v,.func (.func 59) #[] #[.pointer (some ⟨B,0,none⟩)]] w fun e w'=>∃ i:Int,Hid (0≤i↔∃ t∈l,¬ RightTy b t)∧e=.returned (.int .i64 i)∧Below w.heap.size w w':=by
 obtain⟨a,c,rfl⟩:=h.shape
 have Hat:=Lib.hid (sl_at h)
 have hl:(l.length:Int)≤9223372036854775807:=by obtain⟨_,_,_,_,_,_,hm,_⟩:=h;unfold maxLen at hm;omega
 clear h
 have Hz:=Lib.hid hz;clear hz
 go_enter Tryz.func108,Tryz.ntmps108
 go_wp2_with fail
 go_loopw [5,8] (fun _ i wr=>∃ k:Nat,i=.int .i64 k∧k≤l.length∧Hid (∀ m (h:m<l.length),m<k→RightTy b l[m])∧Below w.heap.size w wr) (fun _ i _=>l.length-(intOf i).toNat)
 case atStart=>exact⟨0,rfl,by omega,fun m _ h=>absurd h (by omega),Below.refl _ _⟩
 case round=>
  obtain⟨k,rfl,hk,hrel,hb⟩:=hrel
  by_cases hlt:k<l.length
  ·obtain⟨bl,off,A,N,C,Bb,rfl,_,e1,e2,hT⟩:=Hat.out k hlt
   have hkx:Keep (fun _=>True) w wr:=(Keep.refl _ _).below hb
   have e1:=hkx _ _ _ trivial e1
   have e2:=hkx _ _ _ trivial e2
   have HT:=Lib.hid (hT.bel hb);clear hT
   have i1:(k:Int)<(l.length:Int):=by omega
   have HB:=Lib.hid (hkx _ _ _ trivial hB)
   clear hkx
   go_wp2_with fail
   refine(rightWorld1_k HT.out (Hz.out _ (List.getElem_mem hlt)) HB.out).mono ?_
   intro e w2 h
   obtain⟨r,Hq,rfl,hb2⟩:=of_retB' h
   clear h e1 e2
   cases r
   ·have Hq2:=Lib.hid (no_of Hq.out)
    go_wp2_with fail
    go_roundw
    case rel=>exact⟨k+1,by go_num,by omega,fun m h hm=>by
     by_cases hmk:m<k
     ·exact hrel.out m h hmk
     ·obtain rfl:m=k:=by omega
      exact Classical.not_not.1 Hq2.out,hb.trans (hb2.mono hb.size)⟩
    case measure=>simp[intOf];omega
   ·have Hq2:=Lib.hid (yes_of Hq.out)
    go_wp2_with fail
    go_ret
    exact⟨_,⟨fun _=>⟨_,List.getElem_mem hlt,Hq2.out⟩,fun _=>by omega⟩,rfl,hb.trans (hb2.mono hb.size)⟩
  ·go_wp2_with fail
   go_ret
   refine⟨_,⟨fun h=>absurd h (by omega),fun⟨t,ht,hn⟩=>?_⟩,rfl,hb⟩
   obtain⟨m,hm,rfl⟩:=List.getElem_of_mem ht
   exact absurd (hrel.out m hm (by omega)) hn
set_option maxRecDepth 100000 in
theorem containsFunc_k {G F:Nat→Prop}{w:World}{v:Value}{l:List Ty}{b:Int}{B:Nat}(h:IsSl2 rpTy G F w v l)(hz:∀ t∈l,t.size≤400000)(hB:w.cell? ⟨B,0,none⟩=some (.int .i64 b)):
  Calls Tryz.prog 57 #[v,.func (.func 59) #[] #[.pointer (some ⟨B,0,none⟩)]] w (RetB (∃ t∈l,¬ RightTy b t) w):=by
 have Hi:=Lib.hid (indexFunc_k h hz hB)
 obtain⟨a,c,rfl⟩:=h.shape
 clear h hz hB
 go_enter Tryz.func57,Tryz.ntmps57
 go_wp2_with fail
 refine Hi.out.mono ?_
 rintro e w1 ⟨i,hi,rfl,hb⟩
 go_wp2_with fail
 go_ret
 exact⟨_,by rw[←hi.out];simp,rfl,hb⟩
def RightWd (b:Int)(C M:List Ty):Prop:=C.length+M.length≤1000∧∀ t∈C++M,RightTy b t
set_option maxRecDepth 100000 in
set_option maxHeartbeats 1000000 in
theorem RightWorld_k {F:Nat→Prop}{w:World}{b:Int}{cv mv:Value}{C M:List Ty}(hc:IsSl rpTy F w cv C)(hm:IsSl rpTy F w mv M)(hz:∀ t∈C++M,t.size≤400000):
  Calls Tryz.prog 15 #[.agg #[.int .i64 b,cv,mv]] w (RetB (RightWd b C M) w):=by
 obtain⟨ca,cc,rfl⟩:=hc.shape
 obtain⟨ma,mc,rfl⟩:=hm.shape
 have hlc:(C.length:Int)≤9223372036854775807:=by obtain⟨_,_,_,_,_,_,h,_⟩:=hc;unfold maxLen at h;omega
 have hlm:(M.length:Int)≤9223372036854775807:=by obtain⟨_,_,_,_,_,_,h,_⟩:=hm;unfold maxLen at h;omega
 have Hc:=Lib.hid hc;have Hm:=Lib.hid hm;have Hz:=Lib.hid hz
 clear hc hm hz
 by_cases g1:(1000:Int)<(C.length:Int)
 ·skip
  go_enter Tryz.func15,Tryz.ntmps15
  go_wp2_with fail
  go_ret
  exact⟨false,by unfold RightWd;simp;omega,rfl,(Below.refl _ _).alloc (Nat.le_refl _) _⟩
 have hq:IntKind.i64.wrap (1000-(C.length:Int))=1000-(C.length:Int):=IntWalk.i64_in _ (by omega)
 by_cases g2:1000-(C.length:Int)<(M.length:Int)
 ·skip
  go_enter Tryz.func15,Tryz.ntmps15
  go_wp2_with fail
  go_ret
  exact⟨false,by unfold RightWd;simp;omega,rfl,(Below.refl _ _).alloc (Nat.le_refl _) _⟩
 go_enter Tryz.func15,Tryz.ntmps15
 go_wp2_with fail
 obtain⟨w2,hw2⟩:∃ w2,(w.alloc (.cells #[.int .i64 b,.slice ca C.length cc,.slice ma M.length mc] 35)).alloc (.cells #[.slice ca C.length cc,.slice ma M.length mc] 33)=w2:=⟨_,rfl⟩
 have B2:Below w.heap.size w w2:=by rw[←hw2];exact((Below.refl _ _).alloc (Nat.le_refl _) _).alloc (by simp) _
 have x0:Blk w2 w.heap.size #[.int .i64 b,.slice ca C.length cc,.slice ma M.length mc] 35:=by rw[←hw2];exact(Blk.new _ _ _ rfl).alloc _
 have x1:Blk w2 (w.heap.size+1) #[.slice ca C.length cc,.slice ma M.length mc] 33:=by rw[←hw2];exact Blk.new _ _ _ (by simp)
 rw[hw2]
 clear hw2
 refine(concat_any2 x1 (IsSl2.of (Hc.out.bel B2)) (IsSl2.of (Hm.out.bel B2)) (by omega)).mono ?_
 rintro e w3 ⟨a3,c3,rfl,hT,hb3⟩
 have HT:=Lib.hid hT;clear hT
 have x0':=x0.below hb3
 have B3:=B2.trans (hb3.mono B2.size)
 obtain⟨Y,hY⟩:∃ Y,C++M=Y:=⟨_,rfl⟩
 have HY:=Lib.hid hY
 rw[hY] at HT Hz ⊢
 clear hY
 go_wp2_with fail
 refine(containsFunc_k HT.out Hz.out (x0'.cell rfl)).mono ?_
 intro e w4 h
 obtain⟨r,Hq,rfl,hb4⟩:=of_retB' h
 clear h
 go_wp2_with fail
 go_ret
 refine⟨_,?_,rfl,B3.trans (hb4.mono B3.size)⟩
 have h2:(r=true↔∃ t∈Y,¬ RightTy b t):=Hq.out
 have h3:C.length+M.length≤1000:=by omega
 unfold RightWd
 rw[HY.out]
 cases r
 ·simp only[Bool.not_false,true_iff]
  refine⟨h3,fun t ht=>Classical.not_not.1 fun hn=>?_⟩
  exact absurd (h2.2 ⟨t,ht,hn⟩) (by simp)
 ·simp only[Bool.not_true,Bool.false_eq_true,false_iff]
  rintro⟨_,h⟩
  obtain⟨t,ht,hn⟩:=h2.1 rfl
  exact hn (h t ht)
section
variable {w:World} {b:Int} {cv mv xv tb tk ti ta s ub:Value} {C M X:List Ty} {t:Tm} {u:Ty}
theorem IsSl.low {α:Type}{r:Rp α}{v:Value}{l:List α}(hn:0<r.n)(h:IsSl r (fun _=>True) w v l):IsSl r (fun q=>q<w.heap.size) w v l:=h.weaken hn fun _ hq _=>hq
theorem TyPostE.true {F:Nat→Prop}{o:Option Ty}{e:Ending}{w':World}(h:TyPostE F o w e w'):TyPostE (fun _=>True) o w e w':=by
 obtain⟨s,b,h1,h2,h3⟩:=h
 exact⟨s,b,h1,h2.trueb,h3⟩
theorem HeadPost.true {F:Nat→Prop}{o:Option Ty}{e:Ending}{w':World}(h:HeadPost F o w e w'):HeadPost (fun _=>True) o w e w':=by
 obtain⟨s,b,h1,h2,h3⟩:=h
 exact⟨s,b,h1,h2.trueb,h3⟩
theorem Check_kT (hc:IsSl rpTy (fun _=>True) w cv C)(hm:IsSl rpTy (fun _=>True) w mv M)(hx:IsSl rpTy (fun _=>True) w xv X)(ht:IsTm (fun _=>True) w tb tk ti ta t)(hu:IsTy (fun _=>True) w s ub u)(hz:X.length+t.full≤90000)(hfit:t.Fit):
  Calls Tryz.prog 16 #[.agg #[.int .i64 b,cv,mv],xv,.agg #[tb,tk,ti,ta],.agg #[s,ub]] w (RetCheck C M t X u w):=
 Check_k (F:=fun q=>q<w.heap.size) t w _ _ _ _ _ _ _ _ _ X u (fun _ h=>h) (hc.low (by decide)) (hm.low (by decide)) ((IsSl2.of (hx.low (by decide))).anyRow (by decide)) (ht.weaken fun _ hq _=>hq) (hu.weaken fun _ hq _=>hq) hz hfit
end
def TyRet (z:Ty)(c:Int)(w:World)(e:Ending)(w':World):Prop:=∃ s b,e=.returned (.tuple #[.agg #[s,b],.int .i64 c])∧IsTy (fun _=>True) w' s b z∧Below w.heap.size w w'
def HdRet (z:Ty)(k:Bool)(w:World)(e:Ending)(w':World):Prop:=∃ s b,e=.returned (.tuple #[.agg #[s,b],.bool k])∧IsTy (fun _=>True) w' s b z∧Below w.heap.size w w'
theorem TyPostE.to {o:Option Ty}{z:Ty}{k:Bool}{c:Int}{w:World}{e:Ending}{w':World}(hk:o.isSome=k)(hz:o.getD tyZ=z)(hc:c=if k then 0 else 10)(h:TyPostE (fun _=>True) o w e w'):TyRet z c w e w':=by
 subst hk hz hc;exact h
theorem HeadPost.to {o:Option Ty}{z:Ty}{k:Bool}{w:World}{e:Ending}{w':World}(hk:o.isSome=k)(hz:o.getD tyZ=z)(h:HeadPost (fun _=>True) o w e w'):HdRet z k w e w':=by
 subst hk hz;exact h
theorem headTy_mem {C M X:List Ty}{k i:Int}{t:Ty}(h:headTy C M X k i=some t):t∈(C++M)++X:=by
 unfold headTy at h
 simp only[List.mem_append]
 split at h
 ·cases h
 split at h
 ·exact .inr (by have:=List.mem_of_getElem? h;simpa using this)
 split at h
 ·exact .inl (.inl (List.mem_of_getElem? h))
 split at h
 ·exact .inl (.inr (List.mem_of_getElem? h))
 ·cases h
theorem isTrue {F:Nat→Prop}{w:World}{v:Value}{l:List Ty}(h:IsSl rpTy F w v l):IsSl rpTy (fun _=>True) w v l:=h.weaken (by decide) fun _ _ _=>trivial
theorem slTy9 {m:Mp}{Im:Nat→Nat→Prop}{w:World}{v:Value}{l:List Ty}(h:Rel m Im w v (.sl 2 (eTys l) none)):IsSl rpTy (fun _=>True) w v l:=
 isTrue (sl_of_rel (r:=rpTy) (e:=eTy) eTy_len (fun x t hx _=>ty_of_rel t hx) (by decide) (by rw[eTys_map] at h;exact h))
theorem agWorld {m:Mp}{Im:Nat→Nat→Prop}{w:World}{x:Value}{b:Int}{C M:List Ty}(h:Rel m Im w x (.ag [.v (.int .i64 b),.sl 2 (eTys C) none,.sl 2 (eTys M) none])):∃ cv mv,x=.agg #[.int .i64 b,cv,mv]∧IsSl rpTy (fun _=>True) w cv C∧IsSl rpTy (fun _=>True) w mv M:=by
 obtain⟨cs,rfl,hr⟩:=rel_ag.1 h
 match cs,hr with
 | [x,y,z],hr=>
  have:=rel_v.1 hr.1;subst this
  exact⟨y,z,rfl,slTy9 hr.2.1,slTy9 hr.2.2.1⟩
theorem agTy9 {m:Mp}{Im:Nat→Nat→Prop}{w:World}{x:Value}{t:Ty}(h:Rel m Im w x (.ag (eTy t))):∃ s b,x=.agg #[s,b]∧IsTy (fun _=>True) w s b t:=by
 obtain⟨cs,rfl,hr⟩:=rel_ag.1 h
 obtain⟨s,b,rfl,ht⟩:=ty_of_rel t hr
 exact⟨s,b,rfl,ht.weaken fun _ _ _=>trivial⟩
theorem check_d (b:Int)(C M X:List Ty)(t:Tm)(u:Ty)(c:Int)(hc:checkCode C M t X u c)(hz:X.length+t.full≤90000)(hfit:t.Fit):
  PureC Tryz.prog 16 [.ag [.v (.int .i64 b),.sl 2 (eTys C) none,.sl 2 (eTys M) none],.sl 2 (eTys X) none,.ag (eTm t),.ag (eTy u)] (.v (.int .i64 c)):=by
 refine pure_below (by kernel_rfl) fun m Im w vs hv=>?_
 match vs,hv with
 | [x1,x2,x3,x4],hv=>
  obtain⟨cv,mv,rfl,h1,h2⟩:=agWorld hv.1
  obtain⟨b0,k,i,a,rfl,ht⟩:=agTm hv.2.2.1
  obtain⟨s,ub,rfl,hu⟩:=agTy9 hv.2.2.2.1
  refine(Check_kT h1 h2 (slTy9 hv.2.1) (ht.weaken fun _ _ _=>trivial) hu hz hfit).mono ?_
  rintro e w' ⟨c',hc',rfl,hb⟩
  have:=checkCode_uniq hc hc'.out;subst this
  exact⟨_,rfl,hb,fun _ _ _=>.v _⟩
theorem head_d (b:Int)(C M:List Ty)(k i:Int)(hi:i≤9223372036854775807)(o:Option Ty)(ho:headTy C M [] k i=o)(hsz:∀ t,o=some t→t.size≤90000):
  PureC Tryz.prog 81 [.ag [.v (.int .i64 b),.sl 2 (eTys C) none,.sl 2 (eTys M) none],.v (.slice none 0 0),.ag [.v (.int .i64 k),.v (.int .i64 i)]] (.tu [.ag (eTy (o.getD tyZ)),.v (.int .i64 (if o.isSome then 0 else 10))]):=by
 subst ho
 refine pure_below (by kernel_rfl) fun m Im w vs hv=>?_
 match vs,hv with
 | [x1,x2,x3],hv=>
  obtain⟨cv,mv,rfl,h1,h2⟩:=agWorld hv.1
  have:=rel_v.1 hv.2.1;subst this
  obtain⟨cs,rfl,hr⟩:=rel_ag.1 hv.2.2.1
  match cs,hr with
  | [y,z],hr=>
   have:=rel_v.1 hr.1;subst this
   have:=rel_v.1 hr.2.1;subst this
   refine(HeadType_k (F:=fun q=>q<w.heap.size) (fun _ h=>h) (h1.low (by decide)) (h2.low (by decide)) ((IsSl2.of ((isSl_nil rpTy (fun _=>True) w).low (by decide))).anyRow (by decide)) k i hi hsz).mono ?_
   rintro e w' ⟨s,ub,rfl,h3,hb⟩
   exact⟨_,rfl,hb,fun Im' _ hI=>rel_tu.2 ⟨_,rfl,rel_ag.2 ⟨_,rfl,rel_of_ty (fun b o v hq hc=>hI b o v hq hc) _ h3⟩,.v _,trivial⟩⟩
def TC9_35:TI:=⟨3,true,[Value.int IntKind.i64 0,Value.slice none 0 0,Value.slice none 0 0],[(0,1,false),(1,1,false),(2,1,false)],none,56,6,none,false⟩
theorem TC9_35_ok:TypOk Tryz.prog 35 TC9_35:=by constructor <;> kernel_rfl
def TC9_79:TI:=⟨5,true,[Value.int IntKind.i64 0,Value.slice none 0 0,Value.int IntKind.i64 0,Value.int IntKind.i64 0,Value.slice none 0 0],[(0,1,false),(1,4,true)],none,72,6,none,false⟩
theorem TC9_79_ok:TypOk Tryz.prog 79 TC9_79:=by constructor <;> kernel_rfl
def TC9_44:TI:=⟨2,true,[Value.slice none 0 0,Value.int IntKind.i64 0],[(0,1,false),(1,1,false)],none,32,6,none,false⟩
theorem TC9_44_ok:TypOk Tryz.prog 44 TC9_44:=by constructor <;> kernel_rfl
def TC9_51:TI:=⟨1,false,[Value.slice none 0 0],[],some 79,24,5,none,false⟩
theorem TC9_51_ok:TypOk Tryz.prog 51 TC9_51:=by constructor <;> kernel_rfl
def TC9_3:TI:=⟨1,false,[Value.int IntKind.i64 0],[],none,8,2,none,false⟩
theorem TC9_3_ok:TypOk Tryz.prog 3 TC9_3:=by constructor <;> kernel_rfl
def TC9_38:TI:=⟨2,true,[Value.int IntKind.i64 0,Value.int IntKind.i64 0],[(0,1,false),(1,1,false)],none,16,6,none,true⟩
theorem TC9_38_ok:TypOk Tryz.prog 38 TC9_38:=by constructor <;> kernel_rfl
def TC9_41:TI:=⟨4,true,[Value.slice none 0 0,Value.int IntKind.i64 0,Value.int IntKind.i64 0,Value.slice none 0 0],[(0,1,false),(1,2,true),(3,1,false)],none,64,6,none,false⟩
theorem TC9_41_ok:TypOk Tryz.prog 41 TC9_41:=by constructor <;> kernel_rfl
def TC9_45:TI:=⟨1,false,[Value.int IntKind.i64 0],[],none,8,2,none,false⟩
theorem TC9_45_ok:TypOk Tryz.prog 45 TC9_45:=by constructor <;> kernel_rfl
def TC9_33:TI:=⟨1,false,[Value.slice none 0 0],[],some 44,24,5,none,false⟩
theorem TC9_33_ok:TypOk Tryz.prog 33 TC9_33:=by constructor <;> kernel_rfl
def TC9:List (Nat×TI):=[(35,TC9_35),(79,TC9_79),(44,TC9_44),(51,TC9_51),(3,TC9_3),(38,TC9_38),(41,TC9_41),(45,TC9_45),(33,TC9_33)]
theorem TC9_ok:TabOk Tryz.prog TC9:=((((((((((TabOk.nil _).cons TC9_33_ok).cons TC9_45_ok).cons TC9_41_ok).cons TC9_38_ok).cons TC9_3_ok).cons TC9_51_ok).cons TC9_44_ok).cons TC9_79_ok).cons TC9_35_ok)
def chkL (code:Tm→Ty→Int)(M:List Ty):List (Int×Tm)→Int
 | []=>0
 | p :: l=>match headTy [] M [] 2 p.1 with
  | none=>10
  | some u=>if code p.2 u≠0 then code p.2 u else chkL code M l
theorem tyZ_eq:eTy tyZ=[.sl 2 [] none,.v (.int .i64 0)]:=rfl
set_option maxHeartbeats 1000000 in
theorem scheck_d (b:Int)(C M X:List Ty)(l:List (Int×Tm))(hl:l.length≤100000)(code:Tm→Ty→Int)(hc:∀ t u,checkCode C M t X u (code t u))(hz:∀ p∈l,X.length+p.2.full≤90000∧p.2.Fit∧p.1≤9223372036854775807)(hM:∀ u∈M,u.size≤90000):
  PureC Tryz.prog 28 [.ag [.v (.int .i64 b),.sl 2 (eTys C) none,.sl 2 (eTys M) none],.sl 2 (eTys X) none,.sl 5 (ePairs l) none] (.v (.int .i64 (if Sb.right l=true then chkL code M l else 1))):=by
 have hR:=sright_d l (by omega)
 refine call_of_dw 0 42 [ResultVar.tmp 6] TC9_ok (by kernel_rfl) Tryz.func28 rfl Tryz.ntmps28 rfl (by simp) ?dwords ?dbody
 case dwords=>simp[wordsOk,D.ok,D.oks,rnames,eTys_ok,ePairs_ok]
 case dbody=>
  intro cx hnt hn0
  refine dw_seq ?_;refine dwk [] TC9_ok hnt fun _ z9=>z9 _ _ ?_;refine dw_seq (dw_seq ?_)
  cases hr:Sb.right l with
  | false=>
   rw[hr] at hR
   refine dwk [] TC9_ok hnt fun K hK=>?_;refine dcl (hR) ?_;refine hK _ _ ?_;clear hK K;refine dw_cond (t:=true) rfl ?_;rw[if_pos rfl];refine dw_seq ?_;refine dwk [] TC9_ok hnt fun _ z9=>z9 _ _ ?_;refine dw_ret ?_
   exact retv (N:=0) (.inr rfl) rfl (VLe.refl _) trivial
  | true=>
   rw[hr] at hR
   refine dwk [] TC9_ok hnt fun K hK=>?_;refine dcl (hR) ?_;refine hK _ _ ?_;clear hK K;refine dw_cond (t:=false) rfl ?_;rw[if_neg (by simp)];refine dw_skip ?_;rw[if_pos rfl];refine dw_seq (dw_seq ?_);refine dwk [(16,.v (.int .i64 l.length))] TC9_ok hnt fun K hK=>?_;refine And.intro (dintE (by rw[ePairs_len])) ?_;refine hK _ _ ?_;clear hK K;refine dw_block ?_
   refine dw_loop (ι:={ j:Nat // chkL code M (l.drop j)=chkL code M l∧j≤l.length }) (fun j=>[(.t 1,.sl 2 (eTys X) none),(.t 3,.p 0 0),(.t 15,.sl 5 (ePairs l) none),(.t 16,.v (.int .i64 l.length)),(.t 17,.v (.int .i64 (j.1:Int))),(.c 0 0,.v (.int .i64 b)),(.c 0 1,.sl 2 (eTys C) none),(.c 0 2,.sl 2 (eTys M) none)]) 1 (fun j=>l.length-j.1) ⟨0,rfl,Nat.zero_le _⟩ VS.toA fun j=>?_
   obtain⟨j,hj,hj2⟩:=j
   dsimp only
   refine dw_seq ?_
   by_cases hlt:j<l.length
   ·rw[List.drop_eq_getElem_cons hlt,chkL] at hj
    obtain⟨hz1,hz2,hz3⟩:=hz _ (List.getElem_mem hlt)
    have hho:headTy C M [] 2 l[j].1=headTy [] M [] 2 l[j].1:=by simp[headTy]
    have hhd:=head_d b C M 2 l[j].1 hz3 _ hho (fun u hu=>hM u (by
     rw[←hho] at hu
     have:=headTy_mem hu
     unfold headTy at hu
     split at hu
     ·cases hu
     ·simp at hu;exact List.mem_of_getElem? hu))
    refine dwk [(18,.v (.bool true))] TC9_ok hnt fun K hK=>?_;refine And.intro (dtrue (by omega)) ?_;refine hK _ _ ?_;clear hK K;refine dw_seq (dw_cond (t:=true) rfl ?_);rw[if_pos rfl];refine dw_skip (dw_seq (dw_block (dw_seq ?_)));refine dwk [(19,.q [.v (.int .i64 l[j].1),.sl 2 (eTys l[j].2.binds) none,.v (.int .i64 l[j].2.kind),.v (.int .i64 l[j].2.index),.sl 4 (eTms l[j].2.args) none])] TC9_ok hnt fun K hK=>?_
    refine And.intro (⟨by omega,by rw[ePairs_len];omega⟩) ?_;refine And.intro (VLe.of_eq (by rw[Int.toNat_natCast,ePairs_getD l j hlt,ePair_eq])) ?_;refine hK _ _ ?_;clear hK K;refine dw_seq ?_
    cases ho:headTy [] M [] 2 l[j].1 with
    | none=>
     rw[ho] at hhd hj
     dsimp only at hj
     rw[←hj]
     simp only[Option.getD_none,tyZ_eq] at hhd
     refine dwk [] TC9_ok hnt fun K hK=>?_;refine dcl (hhd) ?_;refine hK _ _ ?_;clear hK K;refine dw_seq (dw_seq ?_);refine dwk [] TC9_ok hnt fun _ z9=>z9 _ _ ?_;refine dw_cond (t:=true) rfl ?_;rw[if_pos rfl];refine dw_seq ?_;refine dwk [] TC9_ok hnt fun _ z9=>z9 _ _ ?_;refine dw_ret ?_
     exact retv (N:=0) (.inr rfl) rfl (VLe.refl _) trivial
    | some u=>
     rw[ho] at hhd hj
     dsimp only at hj
     have hck:=check_d b C M X l[j].2 u (code l[j].2 u) (hc _ _) hz1 hz2
     simp only[Option.getD_some] at hhd
     rw[eTy_eq] at hhd
     rw[eTm_eq,eTy_eq] at hck
     refine dwk [] TC9_ok hnt fun K hK=>?_;refine dcl (hhd) ?_;refine hK _ _ ?_;clear hK K;refine dw_seq (dw_seq ?_);refine dwk [] TC9_ok hnt fun _ z9=>z9 _ _ ?_;refine dw_cond (t:=false) rfl ?_;rw[if_neg (by simp)];refine dw_skip ?_;refine dw_seq ?_;refine dwk [] TC9_ok hnt fun K hK=>?_;refine dcl (hck) ?_;refine hK _ _ ?_;clear hK K;refine dw_seq ?_
     by_cases he:code l[j].2 u=0
     ·rw[if_neg (by simp[he])] at hj;refine dwk [(39,.v (.bool false))] TC9_ok hnt fun K hK=>?_;refine And.intro (VLe.of_eq (by simp[he])) ?_;refine hK _ _ ?_;clear hK K;refine dw_cond (t:=false) rfl ?_;rw[if_neg (by simp)];refine dw_skip ?_;refine dwk [(41,.v (.int .i64 ((j+1:Nat):Int)))] TC9_ok hnt fun K hK=>?_;refine And.intro (dintE (by rw[IntWalk.i64_in _ (by omega)];omega)) ?_
      refine hK _ _ ?_;clear hK K
      exact⟨⟨j+1,hj,hlt⟩,by dsimp only;omega,VS.toA⟩
     ·rw[if_pos he] at hj
      rw[←hj]
      refine dwk [(39,.v (.bool true))] TC9_ok hnt fun K hK=>?_;refine And.intro (VLe.of_eq (by simp[he])) ?_;refine hK _ _ ?_;clear hK K;refine dw_cond (t:=true) rfl ?_;rw[if_pos rfl];refine dw_seq ?_;refine dwk [] TC9_ok hnt fun _ z9=>z9 _ _ ?_;refine dw_ret ?_
      exact retv (N:=0) (.inr rfl) rfl (VLe.refl _) trivial
   ·rw[List.drop_eq_nil_of_le (by omega),chkL] at hj
    rw[←hj]
    refine dwk [(18,.v (.bool false))] TC9_ok hnt fun K hK=>?_;refine And.intro (dfalse (by omega)) ?_;refine hK _ _ ?_;clear hK K;refine dw_seq (dw_cond (t:=false) rfl ?_);rw[if_neg (by simp)];refine dw_exit ?_;refine dw_seq ?_;refine dwk [] TC9_ok hnt fun _ z9=>z9 _ _ ?_;refine dw_ret ?_
    exact retv (N:=0) (.inr rfl) rfl (VLe.refl _) trivial
def TRT6_44:TI:=⟨2,true,[Value.slice none 0 0,Value.int IntKind.i64 0],[(0,1,false),(1,1,false)],none,32,6,none,false⟩
theorem TRT6_44_ok:TypOk Tryz.prog 44 TRT6_44:=by constructor <;> kernel_rfl
def TRT6_33:TI:=⟨1,false,[Value.slice none 0 0],[],some 44,24,5,none,false⟩
theorem TRT6_33_ok:TypOk Tryz.prog 33 TRT6_33:=by constructor <;> kernel_rfl
def TRT6_3:TI:=⟨1,false,[Value.int IntKind.i64 0],[],none,8,2,none,false⟩
theorem TRT6_3_ok:TypOk Tryz.prog 3 TRT6_3:=by constructor <;> kernel_rfl
def TRT6_41:TI:=⟨4,true,[Value.slice none 0 0,Value.int IntKind.i64 0,Value.int IntKind.i64 0,Value.slice none 0 0],[(0,1,false),(1,2,true),(3,1,false)],none,64,6,none,false⟩
theorem TRT6_41_ok:TypOk Tryz.prog 41 TRT6_41:=by constructor <;> kernel_rfl
def TRT6_35:TI:=⟨3,true,[Value.int IntKind.i64 0,Value.slice none 0 0,Value.slice none 0 0],[(0,1,false),(1,1,false),(2,1,false)],none,56,6,none,false⟩
theorem TRT6_35_ok:TypOk Tryz.prog 35 TRT6_35:=by constructor <;> kernel_rfl
def TRT6_38:TI:=⟨2,true,[Value.int IntKind.i64 0,Value.int IntKind.i64 0],[(0,1,false),(1,1,false)],none,16,6,none,true⟩
theorem TRT6_38_ok:TypOk Tryz.prog 38 TRT6_38:=by constructor <;> kernel_rfl
def TRT6_39:TI:=⟨1,false,[Value.slice none 0 0],[],some 41,24,5,none,false⟩
theorem TRT6_39_ok:TypOk Tryz.prog 39 TRT6_39:=by constructor <;> kernel_rfl
def TRT6_192:TI:=⟨1,false,[Value.slice none 0 0],[],some 33,24,5,none,false⟩
theorem TRT6_192_ok:TypOk Tryz.prog 192 TRT6_192:=by constructor <;> kernel_rfl
def TRT6_144:TI:=⟨1,false,[Value.nilFunc],[],none,8,8,none,false⟩
theorem TRT6_144_ok:TypOk Tryz.prog 144 TRT6_144:=by constructor <;> kernel_rfl
def TRT6:List (Nat×TI):=[(44,TRT6_44),(33,TRT6_33),(3,TRT6_3),(41,TRT6_41),(35,TRT6_35),(38,TRT6_38),(39,TRT6_39),(192,TRT6_192),(144,TRT6_144)]
theorem TRT6_ok:TabOk Tryz.prog TRT6:=((((((((((TabOk.nil _).cons TRT6_144_ok).cons TRT6_192_ok).cons TRT6_39_ok).cons TRT6_38_ok).cons TRT6_35_ok).cons TRT6_41_ok).cons TRT6_3_ok).cons TRT6_33_ok).cons TRT6_44_ok)
def tyOf (C M:List Ty)(t:Tm):Option Ty:=(headTy C M ([]++t.binds) t.kind t.index).map fun h=>.mk t.binds h.base
theorem isOf_no {C M X:List Ty}{b:List Ty}{k i:Int}{a:List Tm}{u:Ty}(h:∀ x,headTy C M (X++b) k i=some x→b=u.args→x.base=u.base→x.args.length=a.length→False):¬ IsOf C M (.mk b k i a) X u:=fun hi=>by
 obtain⟨h1,x,h2,h3,h4⟩:=isOf_mk.1 hi
 exact h x h2 h1 h3 (isOfs_iff.1 h4).1
theorem within_d (l r:List Ty)(h:l.length+r.length≤800000):PureC Tryz.prog 55 [.sl 2 (eTys l) none,.sl 2 (eTys r) none] (.sl 2 (eTys (l++r)) none):=by
 have hcat:=concat_d [l,r] (by simp[lens];omega) (by simp)
 simp only[List.flatten_cons,List.flatten_nil,List.append_nil] at hcat
 refine calldw 0 9 [ResultVar.tmp 4] TRT6_ok Tryz.func55 rfl Tryz.ntmps55 rfl fun cx hnt hn0=>?_
 ·skip
  refine dw_seq ?_;refine dwk [] TRT6_ok hnt fun _ z9=>z9 _ _ ?_;refine dw_seq ?_;refine dwk [(7,.sl 1 (eTyss [l,r]) none)] TRT6_ok hnt fun K hK=>?_;refine And.intro (VLe.untag _ _ _) ?_;refine dcl (hcat) ?_;refine hK _ _ ?_;clear hK K;refine dw_ret ?_
  exact reta rfl
set_option maxHeartbeats 2000000 in
theorem theadA_d (b:Int)(C M X:List Ty)(k i:Int)(hi:i≤9223372036854775807)(hC:C.length≤1000000)(hM:M.length≤1000000)(hX:X.length≤1000000):PureC Tryz.prog 54 [.ag [.v (.int .i64 b),.sl 2 (eTys C) none,.sl 2 (eTys M) none],.sl 2 (eTys X) none,.ag [.v (.int .i64 k),.v (.int .i64 i)]] (.tu [.ag (eTy ((headTy C M X k i).getD tyZ)),.v (.bool (headTy C M X k i).isSome)]):=by
 by_cases k1:k=1
 ·skip
  subst k1
  by_cases hn:i<0
  ·rw[headTy_neg hn]
   simp only[Option.getD_none,Option.isSome_none]
   rw[tyZ_eq]
   refine calldw 0 51 [ResultVar.cell 6 44,ResultVar.tmp 7] TRT6_ok Tryz.func54 rfl Tryz.ntmps54 rfl fun cx hnt hn0=>?_
   ·skip
    refine dw_seq ?_;refine dwk [] TRT6_ok hnt fun _ z9=>z9 _ _ ?_;refine dw_seq ?_;refine dwk [] TRT6_ok hnt fun _ z9=>z9 _ _ ?_;refine dw_seq ?_;refine dwk [] TRT6_ok hnt fun _ z9=>z9 _ _ ?_;refine dw_seq ?_;refine dw_seq ?_;refine dwk [] TRT6_ok hnt fun _ z9=>z9 _ _ ?_;refine dw_block ?_;refine dw_seq ?_
    refine dwk [(21,.v (.bool true))] TRT6_ok hnt fun K hK=>?_;refine And.intro (VLe.refl _) ?_;refine hK _ _ ?_;clear hK K;refine dw_cond (t:=true) rfl ?_;rw[if_pos rfl];refine dwkD [] TRT6_ok hnt fun K hK=>?_;refine hK _ _ (by kernel_rfl) ?_;clear hK K;refine dw_seq ?_;refine dw_seq ?_;refine dwk [(39,.v (.bool true))] TRT6_ok hnt fun K hK=>?_;refine And.intro auT ?_;refine hK _ _ ?_;clear hK K
    refine dw_cond (t:=true) rfl ?_;rw[if_pos rfl];refine dw_seq ?_;refine dwk [] TRT6_ok hnt fun _ z9=>z9 _ _ ?_;refine dw_ret ?_
    exact reta rfl
  ·obtain⟨n,rfl⟩:=Int.eq_ofNat_of_zero_le (Int.not_lt.1 hn)
   rw[headTy_1]
   by_cases hl:n<C.length
   ·rw[List.getElem?_eq_getElem hl]
    simp only[Option.getD_some,Option.isSome_some]
    rw[eTy_eq]
    refine calldw 0 51 [ResultVar.cell 6 44,ResultVar.tmp 7] TRT6_ok Tryz.func54 rfl Tryz.ntmps54 rfl fun cx hnt hn0=>?_
    ·skip
     refine dw_seq ?_;refine dwk [] TRT6_ok hnt fun _ z9=>z9 _ _ ?_;refine dw_seq ?_;refine dwk [] TRT6_ok hnt fun _ z9=>z9 _ _ ?_;refine dw_seq ?_;refine dwk [] TRT6_ok hnt fun _ z9=>z9 _ _ ?_;refine dw_seq ?_;refine dw_seq ?_;refine dwk [] TRT6_ok hnt fun _ z9=>z9 _ _ ?_;refine dw_block ?_;refine dw_seq ?_
     refine dwk [(21,.v (.bool true))] TRT6_ok hnt fun K hK=>?_;refine And.intro (VLe.refl _) ?_;refine hK _ _ ?_;clear hK K;refine dw_cond (t:=true) rfl ?_;rw[if_pos rfl];refine dwkD [] TRT6_ok hnt fun K hK=>?_;refine hK _ _ (by kernel_rfl) ?_;clear hK K;refine dw_seq ?_;refine dw_seq ?_;refine dwk [(39,.v (.bool false)),(43,.v (.int .i64 (↑C.length))),(44,.v (.bool false))] TRT6_ok hnt fun K hK=>?_
     refine And.intro auF ?_;refine And.intro (dintE (by rw[eTys_len])) ?_;refine And.intro auF ?_;refine hK _ _ ?_;clear hK K;refine dw_cond (t:=false) rfl ?_;rw[if_neg (by simp)];refine dw_skip ?_;refine dw_seq ?_;refine dwk [(49,.q [.sl 2 (eTys C[n].args) none,.v (.int .i64 C[n].base)])] TRT6_ok hnt fun K hK=>?_;refine And.intro (elo (eTys_len C)) ?_;refine And.intro (elv (eTys_getD C n) (eTy_eq _)) ?_
     refine hK _ _ ?_;clear hK K;refine dw_ret ?_
     exact reta rfl
   ·rw[List.getElem?_eq_none (by omega)]
    simp only[Option.getD_none,Option.isSome_none]
    rw[tyZ_eq]
    refine calldw 0 51 [ResultVar.cell 6 44,ResultVar.tmp 7] TRT6_ok Tryz.func54 rfl Tryz.ntmps54 rfl fun cx hnt hn0=>?_
    ·skip
     refine dw_seq ?_;refine dwk [] TRT6_ok hnt fun _ z9=>z9 _ _ ?_;refine dw_seq ?_;refine dwk [] TRT6_ok hnt fun _ z9=>z9 _ _ ?_;refine dw_seq ?_;refine dwk [] TRT6_ok hnt fun _ z9=>z9 _ _ ?_;refine dw_seq ?_;refine dw_seq ?_;refine dwk [] TRT6_ok hnt fun _ z9=>z9 _ _ ?_;refine dw_block ?_;refine dw_seq ?_
     refine dwk [(21,.v (.bool true))] TRT6_ok hnt fun K hK=>?_;refine And.intro (VLe.refl _) ?_;refine hK _ _ ?_;clear hK K;refine dw_cond (t:=true) rfl ?_;rw[if_pos rfl];refine dwkD [] TRT6_ok hnt fun K hK=>?_;refine hK _ _ (by kernel_rfl) ?_;clear hK K;refine dw_seq ?_;refine dw_seq ?_;refine dwk [(39,.v (.bool false)),(43,.v (.int .i64 (↑C.length))),(44,.v (.bool true))] TRT6_ok hnt fun K hK=>?_
     refine And.intro auF ?_;refine And.intro (dintE (by rw[eTys_len])) ?_;refine And.intro auT ?_;refine hK _ _ ?_;clear hK K;refine dw_cond (t:=true) rfl ?_;rw[if_pos rfl];refine dw_seq ?_;refine dwk [] TRT6_ok hnt fun _ z9=>z9 _ _ ?_;refine dw_ret ?_
     exact reta rfl
 by_cases k2:k=2
 ·skip
  subst k2
  by_cases hn:i<0
  ·rw[headTy_neg hn]
   simp only[Option.getD_none,Option.isSome_none]
   rw[tyZ_eq]
   refine calldw 0 51 [ResultVar.cell 6 44,ResultVar.tmp 7] TRT6_ok Tryz.func54 rfl Tryz.ntmps54 rfl fun cx hnt hn0=>?_
   ·skip
    refine dw_seq ?_;refine dwk [] TRT6_ok hnt fun _ z9=>z9 _ _ ?_;refine dw_seq ?_;refine dwk [] TRT6_ok hnt fun _ z9=>z9 _ _ ?_;refine dw_seq ?_;refine dwk [] TRT6_ok hnt fun _ z9=>z9 _ _ ?_;refine dw_seq ?_;refine dw_seq ?_;refine dwk [] TRT6_ok hnt fun _ z9=>z9 _ _ ?_;refine dw_block ?_;refine dw_seq ?_
    refine dwk [(21,.v (.bool false))] TRT6_ok hnt fun K hK=>?_;refine And.intro (VLe.refl _) ?_;refine hK _ _ ?_;clear hK K;refine dw_cond (t:=false) rfl ?_;rw[if_neg (by simp)];refine dw_seq ?_;refine dwk [(27,.v (.bool true))] TRT6_ok hnt fun K hK=>?_;refine And.intro (VLe.refl _) ?_;refine hK _ _ ?_;clear hK K;refine dw_cond (t:=true) rfl ?_;rw[if_pos rfl];refine dwkD [] TRT6_ok hnt fun K hK=>?_
    refine hK _ _ (by kernel_rfl) ?_;clear hK K;refine dw_seq ?_;refine dw_seq ?_;refine dwk [(39,.v (.bool true))] TRT6_ok hnt fun K hK=>?_;refine And.intro auT ?_;refine hK _ _ ?_;clear hK K;refine dw_cond (t:=true) rfl ?_;rw[if_pos rfl];refine dw_seq ?_;refine dwk [] TRT6_ok hnt fun _ z9=>z9 _ _ ?_;refine dw_ret ?_
    exact reta rfl
  ·obtain⟨n,rfl⟩:=Int.eq_ofNat_of_zero_le (Int.not_lt.1 hn)
   rw[headTy_2]
   by_cases hl:n<M.length
   ·rw[List.getElem?_eq_getElem hl]
    simp only[Option.getD_some,Option.isSome_some]
    rw[eTy_eq]
    refine calldw 0 51 [ResultVar.cell 6 44,ResultVar.tmp 7] TRT6_ok Tryz.func54 rfl Tryz.ntmps54 rfl fun cx hnt hn0=>?_
    ·skip
     refine dw_seq ?_;refine dwk [] TRT6_ok hnt fun _ z9=>z9 _ _ ?_;refine dw_seq ?_;refine dwk [] TRT6_ok hnt fun _ z9=>z9 _ _ ?_;refine dw_seq ?_;refine dwk [] TRT6_ok hnt fun _ z9=>z9 _ _ ?_;refine dw_seq ?_;refine dw_seq ?_;refine dwk [] TRT6_ok hnt fun _ z9=>z9 _ _ ?_;refine dw_block ?_;refine dw_seq ?_
     refine dwk [(21,.v (.bool false))] TRT6_ok hnt fun K hK=>?_;refine And.intro (VLe.refl _) ?_;refine hK _ _ ?_;clear hK K;refine dw_cond (t:=false) rfl ?_;rw[if_neg (by simp)];refine dw_seq ?_;refine dwk [(27,.v (.bool true))] TRT6_ok hnt fun K hK=>?_;refine And.intro (VLe.refl _) ?_;refine hK _ _ ?_;clear hK K;refine dw_cond (t:=true) rfl ?_;rw[if_pos rfl];refine dwkD [] TRT6_ok hnt fun K hK=>?_
     refine hK _ _ (by kernel_rfl) ?_;clear hK K;refine dw_seq ?_;refine dw_seq ?_;refine dwk [(39,.v (.bool false)),(43,.v (.int .i64 (↑M.length))),(44,.v (.bool false))] TRT6_ok hnt fun K hK=>?_;refine And.intro auF ?_;refine And.intro (dintE (by rw[eTys_len])) ?_;refine And.intro auF ?_;refine hK _ _ ?_;clear hK K;refine dw_cond (t:=false) rfl ?_;rw[if_neg (by simp)];refine dw_skip ?_
     refine dw_seq ?_;refine dwk [(49,.q [.sl 2 (eTys M[n].args) none,.v (.int .i64 M[n].base)])] TRT6_ok hnt fun K hK=>?_;refine And.intro (elo (eTys_len M)) ?_;refine And.intro (elv (eTys_getD M n) (eTy_eq _)) ?_;refine hK _ _ ?_;clear hK K;refine dw_ret ?_
     exact reta rfl
   ·rw[List.getElem?_eq_none (by omega)]
    simp only[Option.getD_none,Option.isSome_none]
    rw[tyZ_eq]
    refine calldw 0 51 [ResultVar.cell 6 44,ResultVar.tmp 7] TRT6_ok Tryz.func54 rfl Tryz.ntmps54 rfl fun cx hnt hn0=>?_
    ·skip
     refine dw_seq ?_;refine dwk [] TRT6_ok hnt fun _ z9=>z9 _ _ ?_;refine dw_seq ?_;refine dwk [] TRT6_ok hnt fun _ z9=>z9 _ _ ?_;refine dw_seq ?_;refine dwk [] TRT6_ok hnt fun _ z9=>z9 _ _ ?_;refine dw_seq ?_;refine dw_seq ?_;refine dwk [] TRT6_ok hnt fun _ z9=>z9 _ _ ?_;refine dw_block ?_;refine dw_seq ?_
     refine dwk [(21,.v (.bool false))] TRT6_ok hnt fun K hK=>?_;refine And.intro (VLe.refl _) ?_;refine hK _ _ ?_;clear hK K;refine dw_cond (t:=false) rfl ?_;rw[if_neg (by simp)];refine dw_seq ?_;refine dwk [(27,.v (.bool true))] TRT6_ok hnt fun K hK=>?_;refine And.intro (VLe.refl _) ?_;refine hK _ _ ?_;clear hK K;refine dw_cond (t:=true) rfl ?_;rw[if_pos rfl];refine dwkD [] TRT6_ok hnt fun K hK=>?_
     refine hK _ _ (by kernel_rfl) ?_;clear hK K;refine dw_seq ?_;refine dw_seq ?_;refine dwk [(39,.v (.bool false)),(43,.v (.int .i64 (↑M.length))),(44,.v (.bool true))] TRT6_ok hnt fun K hK=>?_;refine And.intro auF ?_;refine And.intro (dintE (by rw[eTys_len])) ?_;refine And.intro auT ?_;refine hK _ _ ?_;clear hK K;refine dw_cond (t:=true) rfl ?_;rw[if_pos rfl];refine dw_seq ?_;refine dwk [] TRT6_ok hnt fun K hK=>?_
     refine hK _ _ ?_;clear hK K;refine dw_ret ?_
     exact reta rfl
 by_cases k0:k=0
 ·subst k0
  by_cases hn:i<0
  ·rw[headTy_neg hn]
   simp only[Option.getD_none,Option.isSome_none]
   rw[tyZ_eq]
   refine calldw 0 51 [ResultVar.cell 6 44,ResultVar.tmp 7] TRT6_ok Tryz.func54 rfl Tryz.ntmps54 rfl fun cx hnt hn0=>?_
   ·skip
    refine dw_seq ?_;refine dwk [] TRT6_ok hnt fun _ z9=>z9 _ _ ?_;refine dw_seq ?_;refine dwk [] TRT6_ok hnt fun _ z9=>z9 _ _ ?_;refine dw_seq ?_;refine dwk [] TRT6_ok hnt fun _ z9=>z9 _ _ ?_;refine dw_seq ?_;refine dw_seq ?_;refine dwk [] TRT6_ok hnt fun _ z9=>z9 _ _ ?_;refine dw_block ?_;refine dw_seq ?_
    refine dwk [(21,.v (.bool false))] TRT6_ok hnt fun K hK=>?_;refine And.intro (VLe.refl _) ?_;refine hK _ _ ?_;clear hK K;refine dw_cond (t:=false) rfl ?_;rw[if_neg (by simp)];refine dw_seq ?_;refine dwk [(27,.v (.bool false))] TRT6_ok hnt fun K hK=>?_;refine And.intro (VLe.refl _) ?_;refine hK _ _ ?_;clear hK K;refine dw_cond (t:=false) rfl ?_;rw[if_neg (by simp)];refine dw_seq ?_
    refine dwk [(33,.v (.bool true))] TRT6_ok hnt fun K hK=>?_;refine And.intro (VLe.refl _) ?_;refine hK _ _ ?_;clear hK K;refine dw_cond (t:=true) rfl ?_;rw[if_pos rfl];refine dw_seq ?_;refine dwk [(36,.v (.bool true))] TRT6_ok hnt fun K hK=>?_;refine And.intro auT ?_;refine hK _ _ ?_;clear hK K;refine dw_cond (t:=true) rfl ?_;rw[if_pos rfl];refine dw_seq ?_;refine dwk [] TRT6_ok hnt fun K hK=>?_
    refine hK _ _ ?_;clear hK K;refine dw_ret ?_
    exact reta rfl
  ·obtain⟨n,rfl⟩:=Int.eq_ofNat_of_zero_le (Int.not_lt.1 hn)
   rw[headTy_0]
   by_cases hl:n<X.length
   ·have hx:X.length-1-n<X.length:=by omega
    rw[List.getElem?_reverse (by omega),List.getElem?_eq_getElem hx]
    simp only[Option.getD_some,Option.isSome_some]
    rw[eTy_eq]
    have hg:(eTys X).getD ((X.length:Int)-1-(n:Int)).toNat []=[.sl 2 (eTys (X[X.length-1-n]).args) none,.v (.int .i64 (X[X.length-1-n]).base)]:=by rw[show ((X.length:Int)-1-(n:Int)).toNat=X.length-1-n by omega,eTys_getD X _ hx,eTy_eq]
    refine calldw 0 51 [ResultVar.cell 6 44,ResultVar.tmp 7] TRT6_ok Tryz.func54 rfl Tryz.ntmps54 rfl fun cx hnt hn0=>?_
    ·skip
     refine dw_seq ?_;refine dwk [] TRT6_ok hnt fun _ z9=>z9 _ _ ?_;refine dw_seq ?_;refine dwk [] TRT6_ok hnt fun _ z9=>z9 _ _ ?_;refine dw_seq ?_;refine dwk [(12,.v (.int .i64 (↑X.length))),(13,.v (.int .i64 ((↑X.length-1)))),(16,.v (.int .i64 ((↑X.length-1 - ↑n))))] TRT6_ok hnt fun K hK=>?_;refine And.intro (dintE (by rw[eTys_len])) ?_
     refine And.intro auI ?_;refine And.intro auI ?_;refine hK _ _ ?_;clear hK K;refine dw_seq ?_;refine dw_seq ?_;refine dwk [] TRT6_ok hnt fun _ z9=>z9 _ _ ?_;refine dw_block ?_;refine dw_seq ?_;refine dwk [(21,.v (.bool false))] TRT6_ok hnt fun K hK=>?_;refine And.intro (VLe.refl _) ?_;refine hK _ _ ?_;clear hK K;refine dw_cond (t:=false) rfl ?_;rw[if_neg (by simp)]
     refine dw_seq ?_;refine dwk [(27,.v (.bool false))] TRT6_ok hnt fun K hK=>?_;refine And.intro (VLe.refl _) ?_;refine hK _ _ ?_;clear hK K;refine dw_cond (t:=false) rfl ?_;rw[if_neg (by simp)];refine dw_seq ?_;refine dwk [(33,.v (.bool true))] TRT6_ok hnt fun K hK=>?_;refine And.intro (VLe.refl _) ?_;refine hK _ _ ?_;clear hK K;refine dw_cond (t:=true) rfl ?_;rw[if_pos rfl]
     refine dw_seq ?_;refine dwk [(36,.v (.bool false))] TRT6_ok hnt fun K hK=>?_;refine And.intro auF ?_;refine hK _ _ ?_;clear hK K;refine dw_cond (t:=false) rfl ?_;rw[if_neg (by simp)];refine dw_skip ?_;refine dw_seq ?_;refine dw_seq ?_;refine dwk [(39,.v (.bool false)),(43,.v (.int .i64 (↑X.length))),(44,.v (.bool false))] TRT6_ok hnt fun K hK=>?_;refine And.intro auF ?_;refine And.intro (dintE (by rw[eTys_len])) ?_
     refine And.intro auF ?_;refine hK _ _ ?_;clear hK K;refine dw_cond (t:=false) rfl ?_;rw[if_neg (by simp)];refine dw_skip ?_;refine dw_seq ?_;refine dwk [(49,.q [.sl 2 (eTys (X[X.length-1-n]).args) none,.v (.int .i64 (X[X.length-1-n]).base)])] TRT6_ok hnt fun K hK=>?_;refine And.intro (⟨by omega,by rw[eTys_len];omega⟩) ?_;refine And.intro (VLe.of_eq (by rw[hg])) ?_;refine hK _ _ ?_;clear hK K
     refine dw_ret ?_
     exact reta rfl
   ·rw[List.getElem?_eq_none (by simp;omega)]
    simp only[Option.getD_none,Option.isSome_none]
    rw[tyZ_eq]
    refine calldw 0 51 [ResultVar.cell 6 44,ResultVar.tmp 7] TRT6_ok Tryz.func54 rfl Tryz.ntmps54 rfl fun cx hnt hn0=>?_
    ·skip
     refine dw_seq ?_;refine dwk [] TRT6_ok hnt fun _ z9=>z9 _ _ ?_;refine dw_seq ?_;refine dwk [] TRT6_ok hnt fun _ z9=>z9 _ _ ?_;refine dw_seq ?_;refine dwk [(12,.v (.int .i64 (↑X.length))),(13,.v (.int .i64 ((↑X.length-1)))),(16,.v (.int .i64 ((↑X.length-1 - ↑n))))] TRT6_ok hnt fun K hK=>?_;refine And.intro (dintE (by rw[eTys_len])) ?_
     refine And.intro auI ?_;refine And.intro auI ?_;refine hK _ _ ?_;clear hK K;refine dw_seq ?_;refine dw_seq ?_;refine dwk [] TRT6_ok hnt fun _ z9=>z9 _ _ ?_;refine dw_block ?_;refine dw_seq ?_;refine dwk [(21,.v (.bool false))] TRT6_ok hnt fun K hK=>?_;refine And.intro (VLe.refl _) ?_;refine hK _ _ ?_;clear hK K;refine dw_cond (t:=false) rfl ?_;rw[if_neg (by simp)]
     refine dw_seq ?_;refine dwk [(27,.v (.bool false))] TRT6_ok hnt fun K hK=>?_;refine And.intro (VLe.refl _) ?_;refine hK _ _ ?_;clear hK K;refine dw_cond (t:=false) rfl ?_;rw[if_neg (by simp)];refine dw_seq ?_;refine dwk [(33,.v (.bool true))] TRT6_ok hnt fun K hK=>?_;refine And.intro (VLe.refl _) ?_;refine hK _ _ ?_;clear hK K;refine dw_cond (t:=true) rfl ?_;rw[if_pos rfl]
     refine dw_seq ?_;refine dwk [(36,.v (.bool false))] TRT6_ok hnt fun K hK=>?_;refine And.intro auF ?_;refine hK _ _ ?_;clear hK K;refine dw_cond (t:=false) rfl ?_;rw[if_neg (by simp)];refine dw_skip ?_;refine dw_seq ?_;refine dw_seq ?_;refine dwk [(39,.v (.bool true))] TRT6_ok hnt fun K hK=>?_;refine And.intro auT ?_;refine hK _ _ ?_;clear hK K;refine dw_cond (t:=true) rfl ?_
     rw[if_pos rfl];refine dw_seq ?_;refine dwk [] TRT6_ok hnt fun _ z9=>z9 _ _ ?_;refine dw_ret ?_
     exact reta rfl
 ·rw[headTy_o k0 k1 k2]
  simp only[Option.getD_none,Option.isSome_none]
  rw[tyZ_eq]
  refine calldw 0 51 [ResultVar.cell 6 44,ResultVar.tmp 7] TRT6_ok Tryz.func54 rfl Tryz.ntmps54 rfl fun cx hnt hn0=>?_
  ·skip
   refine dw_seq ?_;refine dwk [] TRT6_ok hnt fun _ z9=>z9 _ _ ?_;refine dw_seq ?_;refine dwk [] TRT6_ok hnt fun _ z9=>z9 _ _ ?_;refine dw_seq ?_;refine dwk [] TRT6_ok hnt fun _ z9=>z9 _ _ ?_;refine dw_seq ?_;refine dw_seq ?_;refine dwk [] TRT6_ok hnt fun _ z9=>z9 _ _ ?_;refine dw_block ?_;refine dw_seq ?_
   refine dwk [(21,.v (.bool false))] TRT6_ok hnt fun K hK=>?_;refine And.intro (beqF k1) ?_;refine hK _ _ ?_;clear hK K;refine dw_cond (t:=false) rfl ?_;rw[if_neg (by simp)];refine dw_seq ?_;refine dwk [(27,.v (.bool false))] TRT6_ok hnt fun K hK=>?_;refine And.intro (beqF k2) ?_;refine hK _ _ ?_;clear hK K;refine dw_cond (t:=false) rfl ?_;rw[if_neg (by simp)];refine dw_seq ?_
   refine dwk [(33,.v (.bool false))] TRT6_ok hnt fun K hK=>?_;refine And.intro (beqF k0) ?_;refine hK _ _ ?_;clear hK K;refine dw_cond (t:=false) rfl ?_;rw[if_neg (by simp)];refine dw_seq ?_;refine dwk [] TRT6_ok hnt fun _ z9=>z9 _ _ ?_;refine dw_ret ?_
   exact reta rfl
theorem ttype_d (b:Int)(C M:List Ty)(t:Tm)(hi:t.index≤9223372036854775807)(hC:C.length≤1000000)(hM:M.length≤1000000)(hz:t.full≤780000):
  PureC Tryz.prog 14 [.ag [.v (.int .i64 b),.sl 2 (eTys C) none,.sl 2 (eTys M) none],.v (.slice none 0 0),.ag (eTm t)] (.tu [.ag (eTy ((tyOf C M t).getD tyZ)),.v (.int .i64 (if (tyOf C M t).isSome then 0 else 10))]):=by
 have hbl:=Ty.le_sizes t.binds
 have hfl:=full_args t
 have hbe:PureC Tryz.prog 55 [.v (.slice none 0 0),.sl 2 (eTys t.binds) none] (.sl 2 (eTys ([]++t.binds)) none):=CallC.vle (within_d [] t.binds (by simp;omega)) (.cons (VLe.nil _) (.cons (VLe.refl _) .nil)) (VLe.refl _)
 have hh:=theadA_d b C M ([]++t.binds) t.kind t.index hi hC hM (by simp;omega)
 unfold tyOf
 obtain⟨o,ho⟩:∃ o,headTy C M ([]++t.binds) t.kind t.index=o:=⟨_,rfl⟩
 obtain⟨X,hX⟩:∃ X,[]++t.binds=X:=⟨_,rfl⟩
 rw[hX] at hh hbe ho ⊢
 rw[ho] at hh ⊢
 rw[eTm_eq]
 cases o with
 | none=>
  simp only[Option.map_none,Option.getD_none,Option.isSome_none,Bool.false_eq_true,if_false] at hh ⊢
  rw[tyZ_eq] at hh ⊢
  refine calldw 0 29 [ResultVar.cell 6 44,ResultVar.tmp 7] TRT6_ok Tryz.func14 rfl Tryz.ntmps14 rfl fun cx hnt hn0=>?_
  ·skip
   refine dw_seq ?_;refine dwk [] TRT6_ok hnt fun _ z9=>z9 _ _ ?_;refine dw_seq ?_;refine dwkD [] TRT6_ok hnt fun K hK=>?_;refine dcl (hbe) ?_;refine dcl (hh) ?_;refine hK _ _ (by kernel_rfl) ?_;clear hK K;refine dw_seq ?_;refine dw_seq ?_;refine dwk [] TRT6_ok hnt fun _ z9=>z9 _ _ ?_;refine dw_cond (t:=true) rfl ?_;rw[if_pos rfl];refine dw_seq ?_
   refine dwk [] TRT6_ok hnt fun _ z9=>z9 _ _ ?_;refine dw_ret ?_
   exact reta rfl
 | some h=>
  simp only[Option.map_some,Option.getD_some,Option.isSome_some,if_true] at hh ⊢
  have hk:=kOf_d h.base t.binds (by omega)
  rw[eTy_eq] at hh hk ⊢
  simp only[args_mk',base_mk'] at hk ⊢
  refine calldw 0 29 [ResultVar.cell 6 44,ResultVar.tmp 7] TRT6_ok Tryz.func14 rfl Tryz.ntmps14 rfl fun cx hnt hn0=>?_
  ·skip
   refine dw_seq ?_;refine dwk [] TRT6_ok hnt fun _ z9=>z9 _ _ ?_;refine dw_seq ?_;refine dwkD [] TRT6_ok hnt fun K hK=>?_;refine dcl (hbe) ?_;refine dcl (hh) ?_;refine hK _ _ (by kernel_rfl) ?_;clear hK K;refine dw_seq ?_;refine dw_seq ?_;refine dwk [] TRT6_ok hnt fun _ z9=>z9 _ _ ?_;refine dw_cond (t:=false) rfl ?_;rw[if_neg (by simp)]
   refine dw_skip ?_;refine dw_seq ?_;refine dwk [] TRT6_ok hnt fun K hK=>?_;refine dcl (hk) ?_;refine hK _ _ ?_;clear hK K;refine dw_ret ?_
   exact reta rfl
set_option maxHeartbeats 4000000 in
theorem tisX_d (b:Int)(C M:List Ty)(hC:C.length≤1000000)(hM:M.length≤1000000):∀ (t:Tm) (X:List Ty) (u:Ty) (c:Bool),(c=true↔IsOf C M t X u)→X.length+t.full≤780000→t.Fit →
  PureC Tryz.prog 62 [.ag [.v (.int .i64 b),.sl 2 (eTys C) none,.sl 2 (eTys M) none],.sl 2 (eTys X) none,.ag (eTm t),.ag (eTy u)] (.v (.bool c)):=by
 intro t
 induction t using Tm.ind with
 | h bs k i a ih=>
 intro X u c hc hz hf
 obtain⟨_,f2,f3⟩:=Tm.fit_iff.1 hf
 rw[Tm.full_eq] at hz
 have hal:=cFulls_len a
 have hbl:=Ty.le_sizes bs
 have hbe:=within_d X bs (by omega)
 have hh:=theadA_d b C M (X++bs) k i f2 hC hM (by simp;omega)
 obtain⟨o,ho⟩:∃ o,headTy C M (X++bs) k i=o:=⟨_,rfl⟩
 obtain⟨Y,hY⟩:∃ Y,X++bs=Y:=⟨_,rfl⟩
 have hYl:Y.length=X.length+bs.length:=by rw[←hY];simp
 have hty:=eqTys_d bs u.args 69 rfl
 have no:∀ (h:∀ x,headTy C M (X++bs) k i=some x→bs=u.args→x.base=u.base→x.args.length=a.length→False),c=false:=fun h=>by
  rw[Bool.eq_false_iff];exact fun hc1=>isOf_no h (hc.1 hc1)
 rw[ho] at hh no
 rw[eTm_eq,eTy_eq]
 simp only[bindsT,kindT,indexT,argsTm]
 rw[hY] at hbe hh
 by_cases hb:bs=u.args
 ·rw[decide_eq_true hb] at hty
  cases o with
  | none=>
   simp only[Option.getD_none,Option.isSome_none] at hh
   rw[tyZ_eq] at hh
   rw[no (fun x h=>by cases h)]
   refine calldw 0 69 [ResultVar.tmp 8] TRT6_ok Tryz.func62 rfl Tryz.ntmps62 rfl fun cx hnt hn0=>?_
   ·skip
    refine dw_seq ?_;refine dwk [] TRT6_ok hnt fun _ z9=>z9 _ _ ?_;refine dw_seq ?_;refine dw_seq ?_;refine dwk [] TRT6_ok hnt fun K hK=>?_;refine dcl (hty) ?_;refine hK _ _ ?_;clear hK K;refine dw_cond (t:=false) rfl ?_;rw[if_neg (by simp)];refine dw_skip ?_;refine dw_seq ?_;refine dwk [] TRT6_ok hnt fun K hK=>?_;refine dcl (hbe) ?_;refine hK _ _ ?_;clear hK K
    refine dw_seq ?_;refine dwk [] TRT6_ok hnt fun K hK=>?_;refine dcl (hh) ?_;refine hK _ _ ?_;clear hK K;refine dw_seq ?_;refine dw_seq ?_;refine dwk [] TRT6_ok hnt fun _ z9=>z9 _ _ ?_;refine dw_cond (t:=true) rfl ?_;rw[if_pos rfl];refine dw_seq ?_;refine dwk [] TRT6_ok hnt fun _ z9=>z9 _ _ ?_;refine dw_ret ?_
    exact reta rfl
  | some h=>
  simp only[Option.getD_some,Option.isSome_some] at hh
  rw[eTy_eq] at hh
  by_cases hbs:h.base=u.base
  ·by_cases hln:h.args.length=a.length
   ·have hIff:c=true↔∀ j (h1:j<a.length) (h2:j<h.args.length),IsOf C M a[j] Y h.args[j]:=by
     rw[hc,isOf_mk,hY]
     constructor
     ·rintro⟨_,x,h2,_,h4⟩ j j1 j2
      rw[←hY,ho] at h2;cases h2
      exact(isOfs_iff.1 h4).2 j j1 j2
     ·intro hall
      exact⟨hb,h,by rw[←hY,ho],hbs,isOfs_iff.2 ⟨hln,hall⟩⟩
    have hI:∀ j (h1:j<a.length) (h2:j<h.args.length) (d:Bool),(d=true↔IsOf C M a[j] Y h.args[j])→PureC Tryz.prog 62 [.ag [.v (.int .i64 b),.sl 2 (eTys C) none,.sl 2 (eTys M) none],.sl 2 (eTys Y) none,.ag (eTm a[j]),.ag (eTy h.args[j])] (.v (.bool d)):=fun j h1 h2 d hd=>ih _ (List.getElem_mem h1) Y _ d hd (by have:=Tm.full_mem (List.getElem_mem h1);omega) (f3 _ (List.getElem_mem h1))
    clear ih no hc
    refine calldw 0 69 [ResultVar.tmp 8] TRT6_ok Tryz.func62 rfl Tryz.ntmps62 rfl fun cx hnt hn0=>?_
    ·skip
     refine dw_seq ?_;refine dwk [] TRT6_ok hnt fun _ z9=>z9 _ _ ?_;refine dw_seq ?_;refine dw_seq ?_;refine dwk [] TRT6_ok hnt fun K hK=>?_;refine dcl (hty) ?_;refine hK _ _ ?_;clear hK K;refine dw_cond (t:=false) rfl ?_;rw[if_neg (by simp)];refine dw_skip ?_;refine dw_seq ?_;refine dwk [] TRT6_ok hnt fun K hK=>?_;refine dcl (hbe) ?_;refine hK _ _ ?_;clear hK K
     refine dw_seq ?_;refine dwk [] TRT6_ok hnt fun K hK=>?_;refine dcl (hh) ?_;refine hK _ _ ?_;clear hK K;refine dw_seq ?_;refine dw_seq ?_;refine dwk [(39,.v (.bool false)),(44,.v (.int .i64 (↑h.args.length))),(47,.v (.int .i64 (↑a.length))),(48,.v (.bool false))] TRT6_ok hnt fun K hK=>?_;refine And.intro (bneF hbs) ?_;refine And.intro (dintE (by rw[eTys_len])) ?_;refine And.intro (dintE (by rw[eTms_len])) ?_
     refine And.intro (bneF (by omega)) ?_;refine hK _ _ ?_;clear hK K;refine dw_cond (t:=false) rfl ?_;rw[if_neg (by simp)];refine dw_skip ?_;refine dw_seq ?_;refine dw_seq ?_;refine dwk [(52,.v (.int .i64 (↑a.length)))] TRT6_ok hnt fun K hK=>?_;refine And.intro (dintE (by rw[eTms_len])) ?_;refine hK _ _ ?_;clear hK K;refine dw_block ?_
     refine dw_loop (ι:={ j:Nat // ∀ i (h1:i<a.length) (h2:i<h.args.length),i<j→IsOf C M a[i] Y h.args[i] }) (fun j=>[(.t 4,.p 0 0),(.t 6,.p 1 0),(.t 7,.p 2 0),(.t 9,.sl 2 (eTys Y) none),(.t 10,.p 23 0),(.t 51,.sl 4 (eTms a) none),(.t 52,.v (.int .i64 ↑a.length)),(.t 53,.v (.int .i64 ↑j.1)),(.c 0 0,.v (.int .i64 b)),(.c 0 1,.sl 2 (eTys C) none),(.c 0 2,.sl 2 (eTys M) none),(.c 23 0,.sl 2 (eTys h.args) none),(.c 23 1,.v (.int .i64 h.base))]) 24 (fun j=>a.length-j.1) (⟨0,fun i h1 h2 h3=>by omega⟩) (VS.toA) fun j=>?_
     obtain⟨j,hj⟩:=j
     dsimp only
     by_cases hlt:j<a.length
     ·have hlt2:j<h.args.length:=by omega
      by_cases hio:IsOf C M a[j] Y h.args[j]
      ·have hi:=hI j hlt hlt2 true (by simp[hio])
       rw[eTm_eq,eTy_eq] at hi
       refine dw_seq ?_;refine dwk [(54,.v (.bool true))] TRT6_ok hnt fun K hK=>?_;refine And.intro auT ?_;refine hK _ _ ?_;clear hK K;refine dw_seq ?_;refine dw_cond (t:=true) rfl ?_;rw[if_pos rfl];refine dw_skip ?_;refine dw_seq ?_;refine dw_block ?_;refine dw_seq ?_;refine dwk [(56,.q [.sl 2 (eTys a[j].binds) none,.v (.int .i64 a[j].kind),.v (.int .i64 a[j].index),.sl 4 (eTms a[j].args) none])] TRT6_ok hnt fun K hK=>?_
       refine And.intro (elo (eTms_len a)) ?_;refine And.intro (elv (eTms_getD a j) (eTm_eq _)) ?_;refine hK _ _ ?_;clear hK K;refine dw_seq ?_;refine dwkD [(64,.q [.sl 2 (eTys h.args[j].args) none,.v (.int .i64 h.args[j].base)])] TRT6_ok hnt fun K hK=>?_;refine And.intro (elo (eTys_len h.args)) ?_;refine And.intro (elv (eTys_getD h.args j) (eTy_eq _)) ?_;refine dcl (hi) ?_;refine hK _ _ (by kernel_rfl) ?_;clear hK K
       refine dw_cond (t:=false) rfl ?_;rw[if_neg (by simp)];refine dw_skip ?_;refine dwk [(68,.v (.int .i64 (↑(j+1))))] TRT6_ok hnt fun K hK=>?_;refine And.intro auI ?_;refine hK _ _ ?_;clear hK K
       refine⟨⟨j+1,fun q h1 h2 h3=>if e:q=j then by subst e;exact hio else hj q h1 h2 (by omega)⟩,by first | omega | (dsimp only;omega),VS.toA⟩
      ·have hi:=hI j hlt hlt2 false (by simp[hio])
       rw[eTm_eq,eTy_eq] at hi
       have hcf:c=false:=by rw[Bool.eq_false_iff];exact fun h1=>hio (hIff.1 h1 j hlt hlt2)
       rw[hcf]
       refine dw_seq ?_;refine dwk [(54,.v (.bool true))] TRT6_ok hnt fun K hK=>?_;refine And.intro auT ?_;refine hK _ _ ?_;clear hK K;refine dw_seq ?_;refine dw_cond (t:=true) rfl ?_;rw[if_pos rfl];refine dw_skip ?_;refine dw_seq ?_;refine dw_block ?_;refine dw_seq ?_;refine dwk [(56,.q [.sl 2 (eTys a[j].binds) none,.v (.int .i64 a[j].kind),.v (.int .i64 a[j].index),.sl 4 (eTms a[j].args) none])] TRT6_ok hnt fun K hK=>?_
       refine And.intro (elo (eTms_len a)) ?_;refine And.intro (elv (eTms_getD a j) (eTm_eq _)) ?_;refine hK _ _ ?_;clear hK K;refine dw_seq ?_;refine dwkD [(64,.q [.sl 2 (eTys h.args[j].args) none,.v (.int .i64 h.args[j].base)])] TRT6_ok hnt fun K hK=>?_;refine And.intro (elo (eTys_len h.args)) ?_;refine And.intro (elv (eTys_getD h.args j) (eTy_eq _)) ?_;refine dcl (hi) ?_;refine hK _ _ (by kernel_rfl) ?_;clear hK K
       refine dw_cond (t:=true) rfl ?_;rw[if_pos rfl];refine dw_seq ?_;refine dwk [] TRT6_ok hnt fun _ z9=>z9 _ _ ?_;refine dw_ret ?_
       exact reta rfl
     ·rw[hIff.2 fun q h1 h2=>hj q h1 h2 (by omega)]
      refine dw_seq ?_;refine dwk [(54,.v (.bool false))] TRT6_ok hnt fun K hK=>?_;refine And.intro auF ?_;refine hK _ _ ?_;clear hK K;refine dw_seq ?_;refine dw_cond (t:=false) rfl ?_;rw[if_neg (by simp)];refine dw_exit ?_;refine dw_seq ?_;refine dwk [] TRT6_ok hnt fun _ z9=>z9 _ _ ?_;refine dw_ret ?_
      exact reta rfl
   ·rw[no (fun x h1 _ _ h4=>by cases h1;exact hln h4)]
    refine calldw 0 69 [ResultVar.tmp 8] TRT6_ok Tryz.func62 rfl Tryz.ntmps62 rfl fun cx hnt hn0=>?_
    ·skip
     refine dw_seq ?_;refine dwk [] TRT6_ok hnt fun _ z9=>z9 _ _ ?_;refine dw_seq ?_;refine dw_seq ?_;refine dwk [] TRT6_ok hnt fun K hK=>?_;refine dcl (hty) ?_;refine hK _ _ ?_;clear hK K;refine dw_cond (t:=false) rfl ?_;rw[if_neg (by simp)];refine dw_skip ?_;refine dw_seq ?_;refine dwk [] TRT6_ok hnt fun K hK=>?_;refine dcl (hbe) ?_;refine hK _ _ ?_;clear hK K
     refine dw_seq ?_;refine dwk [] TRT6_ok hnt fun K hK=>?_;refine dcl (hh) ?_;refine hK _ _ ?_;clear hK K;refine dw_seq ?_;refine dw_seq ?_;refine dwk [(39,.v (.bool false)),(44,.v (.int .i64 (↑h.args.length))),(47,.v (.int .i64 (↑a.length))),(48,.v (.bool true))] TRT6_ok hnt fun K hK=>?_;refine And.intro (bneF hbs) ?_;refine And.intro (dintE (by rw[eTys_len])) ?_;refine And.intro (dintE (by rw[eTms_len])) ?_
     refine And.intro (bneT (by omega)) ?_;refine hK _ _ ?_;clear hK K;refine dw_cond (t:=true) rfl ?_;rw[if_pos rfl];refine dw_seq ?_;refine dwk [] TRT6_ok hnt fun _ z9=>z9 _ _ ?_;refine dw_ret ?_
     exact reta rfl
  ·rw[no (fun x h1 _ h3 _=>by cases h1;exact hbs h3)]
   refine calldw 0 69 [ResultVar.tmp 8] TRT6_ok Tryz.func62 rfl Tryz.ntmps62 rfl fun cx hnt hn0=>?_
   ·skip
    refine dw_seq ?_;refine dwk [] TRT6_ok hnt fun _ z9=>z9 _ _ ?_;refine dw_seq ?_;refine dw_seq ?_;refine dwk [] TRT6_ok hnt fun K hK=>?_;refine dcl (hty) ?_;refine hK _ _ ?_;clear hK K;refine dw_cond (t:=false) rfl ?_;rw[if_neg (by simp)];refine dw_skip ?_;refine dw_seq ?_;refine dwk [] TRT6_ok hnt fun K hK=>?_;refine dcl (hbe) ?_;refine hK _ _ ?_;clear hK K
    refine dw_seq ?_;refine dwk [] TRT6_ok hnt fun K hK=>?_;refine dcl (hh) ?_;refine hK _ _ ?_;clear hK K;refine dw_seq ?_;refine dw_seq ?_;refine dwk [(39,.v (.bool true))] TRT6_ok hnt fun K hK=>?_;refine And.intro (bneT hbs) ?_;refine hK _ _ ?_;clear hK K;refine dw_cond (t:=true) rfl ?_;rw[if_pos rfl];refine dw_seq ?_;refine dwk [] TRT6_ok hnt fun _ z9=>z9 _ _ ?_
    refine dw_ret ?_
    exact reta rfl
 ·rw[decide_eq_false hb] at hty
  rw[no (fun x _ h2 _ _=>hb h2)]
  refine calldw 0 69 [ResultVar.tmp 8] TRT6_ok Tryz.func62 rfl Tryz.ntmps62 rfl fun cx hnt hn0=>?_
  ·skip
   refine dw_seq ?_;refine dwk [] TRT6_ok hnt fun _ z9=>z9 _ _ ?_;refine dw_seq ?_;refine dw_seq ?_;refine dwk [] TRT6_ok hnt fun K hK=>?_;refine dcl (hty) ?_;refine hK _ _ ?_;clear hK K;refine dw_cond (t:=true) rfl ?_;rw[if_pos rfl];refine dw_seq ?_;refine dwk [] TRT6_ok hnt fun _ z9=>z9 _ _ ?_;refine dw_ret ?_
   exact reta rfl
theorem tcheckX_d (b:Int)(C M X:List Ty)(t:Tm)(u:Ty)(c:Int)(hC:C.length≤1000000)(hM:M.length≤1000000)(hc:checkCode C M t X u c)(hz:X.length+t.full≤780000)(hf:t.Fit):
  PureC Tryz.prog 16 [.ag [.v (.int .i64 b),.sl 2 (eTys C) none,.sl 2 (eTys M) none],.sl 2 (eTys X) none,.ag (eTm t),.ag (eTy u)] (.v (.int .i64 c)):=by
 have hr:=right_d t (by omega)
 have hi:=fun d hd=>tisX_d b C M hC hM t X u d hd hz hf
 rw[eTm_eq,eTy_eq] at hi
 rw[eTm_eq] at hr
 rw[eTm_eq,eTy_eq]
 rcases hc with⟨h1,rfl⟩ | ⟨h1,h2,rfl⟩ | ⟨h1,h2,rfl⟩
 ·rw[decide_eq_false h1] at hr
  refine calldw 0 20 [ResultVar.tmp 8] TRT6_ok Tryz.func16 rfl Tryz.ntmps16 rfl fun cx hnt hn0=>?_
  ·skip
   refine dw_seq ?_;refine dwk [] TRT6_ok hnt fun _ z9=>z9 _ _ ?_;refine dw_seq ?_;refine dw_block ?_;refine dw_seq ?_;refine dwk [] TRT6_ok hnt fun K hK=>?_;refine dcl (hr) ?_;refine hK _ _ ?_;clear hK K;refine dw_cond (t:=true) rfl ?_;rw[if_pos rfl];refine dw_seq ?_;refine dwk [] TRT6_ok hnt fun _ z9=>z9 _ _ ?_;refine dw_ret ?_
   exact reta rfl
 ·rw[decide_eq_true h1] at hr
  have hi:=hi false (by simp[h2])
  refine calldw 0 20 [ResultVar.tmp 8] TRT6_ok Tryz.func16 rfl Tryz.ntmps16 rfl fun cx hnt hn0=>?_
  ·skip
   refine dw_seq ?_;refine dwk [] TRT6_ok hnt fun _ z9=>z9 _ _ ?_;refine dw_seq ?_;refine dw_block ?_;refine dw_seq ?_;refine dwk [] TRT6_ok hnt fun K hK=>?_;refine dcl (hr) ?_;refine hK _ _ ?_;clear hK K;refine dw_cond (t:=false) rfl ?_;rw[if_neg (by simp)];refine dw_seq ?_;refine dwk [] TRT6_ok hnt fun K hK=>?_;refine dcl (hi) ?_;refine hK _ _ ?_;clear hK K
   refine dw_cond (t:=true) rfl ?_;rw[if_pos rfl];refine dw_seq ?_;refine dwk [] TRT6_ok hnt fun _ z9=>z9 _ _ ?_;refine dw_ret ?_
   exact reta rfl
 ·rw[decide_eq_true h1] at hr
  have hi:=hi true (by simp[h2])
  refine calldw 0 20 [ResultVar.tmp 8] TRT6_ok Tryz.func16 rfl Tryz.ntmps16 rfl fun cx hnt hn0=>?_
  ·skip
   refine dw_seq ?_;refine dwk [] TRT6_ok hnt fun _ z9=>z9 _ _ ?_;refine dw_seq ?_;refine dw_block ?_;refine dw_seq ?_;refine dwk [] TRT6_ok hnt fun K hK=>?_;refine dcl (hr) ?_;refine hK _ _ ?_;clear hK K;refine dw_cond (t:=false) rfl ?_;rw[if_neg (by simp)];refine dw_seq ?_;refine dwk [] TRT6_ok hnt fun K hK=>?_;refine dcl (hi) ?_;refine hK _ _ ?_;clear hK K
   refine dw_cond (t:=false) rfl ?_;rw[if_neg (by simp)];refine dw_skip ?_;refine dw_seq ?_;refine dwk [] TRT6_ok hnt fun _ z9=>z9 _ _ ?_;refine dw_ret ?_
   exact reta rfl
theorem tcheck_d (b:Int)(C M:List Ty)(t:Tm)(u:Ty)(c:Int)(hC:C.length≤1000000)(hM:M.length≤1000000)(hc:checkCode C M t [] u c)(hz:t.full≤780000)(hfit:t.Fit):
  PureC Tryz.prog 16 [.ag [.v (.int .i64 b),.sl 2 (eTys C) none,.sl 2 (eTys M) none],.v (.slice none 0 0),.ag (eTm t),.ag (eTy u)] (.v (.int .i64 c)):=
 CallC.vle (tcheckX_d b C M [] t u c hC hM hc (by simp;omega) hfit) (.cons (VLe.refl _) (.cons (VLe.nil _) (.cons (VLe.refl _) (.cons (VLe.refl _) .nil)))) (VLe.refl _)
theorem tworld_d (b:Int)(C M:List Ty)(c:Bool)(hc:c=true↔RightWd b C M)(hz:∀ t∈C++M,t.size≤400000):PureC Tryz.prog 15 [.ag [.v (.int .i64 b),.sl 2 (eTys C) none,.sl 2 (eTys M) none]] (.v (.bool c)):=by
 refine pure_below (by kernel_rfl) fun m Im w vs hv=>?_
 match vs,hv with
 | [x1],hv=>
  obtain⟨cv,mv,rfl,h1,h2⟩:=agWorld hv.1
  refine(RightWorld_k h1 h2 hz).mono ?_
  rintro e w' ⟨c',hc',rfl,hb⟩
  have:c'=c:=by rw[Bool.eq_iff_iff,hc',hc]
  subst this
  exact⟨_,rfl,hb,fun _ _ _=>.v _⟩
namespace Ru
end Ru
namespace Ru
def ms (t:Tm):List Int:=sortU (metasL [t])
def chk (p:Li.Pr):Int:=if p.l.kind≠1 then 6 else if (Pn.uses p.l [] []).2=false then 6 else if ((ms p.r).any fun x=>!((ms p.l).contains x))=true then 7 else 0
end Ru
namespace Ru
end Ru
namespace Ru
def rg:Nat→List Int
 | 0=>[]
 | n+1=>rg n++[(n:Int)]
theorem ix_lt {m:Int}:∀ {o:List Int},m∈o→ix m o<o.length
 | [],h=>by cases h
 | x :: l,h=>by
  rw[ix]
  by_cases hx:x=m
  ·rw[if_pos hx];simp
  ·rw[if_neg hx]
   have:=ix_lt (m:=m) (o:=l) (by rcases List.mem_cons.1 h with h | h;exact absurd h.symm hx;exact h)
   simp only[List.length_cons];omega
end Ru
namespace Ru
/-! metavariables -/
mutual
def AllIn (o:List Int):Tm→Prop
 | .mk _ k i a=>(k=2→i∈o)∧AllIns o a
def AllIns (o:List Int):List Tm→Prop
 | []=>True
 | t :: l=>AllIn o t∧AllIns o l
end
/-! typed -/
variable {C M:List Ty} {o:List Int}
/-! patterns -/
mutual
def K0:Tm→Prop
 | .mk _ k _ a=>k≠2∧K0s a
def K0s:List Tm→Prop
 | []=>True
 | t :: l=>K0 t∧K0s l
end
/-! which metavariables -/
def g (f:List Int)(x:Int):Int:=if x∈f then (ix x f:Int) else x
end Ru
end Go.Proofs.YtflbnonbfmmchaaGreat
namespace Go.Proofs.YtflbnonbfmmchaaGreat
open Go.RowKit
namespace Ru
variable {C M:List Ty}
end Ru
def swR (kw kb:Nat)(l:List (Int×Tm))(s:Nm.St):List (Key×D):=[(.c kw 0,.o kb),(.c kw 1,.sl 5 (ePairs l) none),(.c kw 2,.v (.int .i64 s.e)),(.o kb,.ob (BudJ s.left s.dry))]
theorem sthr_at (kw kb:Nat)(hk:kw≠kb)(l:List (Int×Tm))(hl:l.length≤1000000)(t:Tm)(ht:Wide t)(ins:Int)(s:Nm.St)(hs:InR s)(ho:thOk l t ins s):
  CallC Tryz.prog 65 [.p kw 0,.ag (eTm t),.v (.int .i64 ins)] (swR kw kb l s) (swR kw kb l (Sb.through l t ins s).2) (.ag (eTm (Sb.through l t ins s).1)):=by
 have h:=(sthr_d l hl t ht ins s hs ho).ren (ren2 kw kb) (by simp[renOk,swE,D.ok,D.oks,rnames,inN,ckey,eTm_ok,eTms_ok,eTys_ok,ePairs_ok]) (by
  intro k h1 k' h2
  simp[rnames,swE] at h1 h2
  rcases h1 with rfl | rfl <;> rcases h2 with rfl | rfl <;> simp[ren2,hk,hk.symm])
 simpa[D.ren,eTm_ren,eTms_ren,ePairs_ren,swE,swR,renE,Key.ren,ren2] using h
theorem app_1 {l:List (Int×Tm)}{t:Tm}{left:Int}{dry:Bool}(h:Sb.right l=false):Sb.apply l t left dry=(Nm.tz,⟨left,dry,0,1⟩):=if_pos h
theorem app_2 {l:List (Int×Tm)}{t:Tm}{left:Int}{dry:Bool}(h:Sb.right l=true):Sb.apply l t left dry =
  (let r:=Sb.through l t 0 ⟨left,dry,0,0⟩;let s:Nm.St:=if r.2.e=0∧¬ (r.1.size≤5000∧r.1.depth≤60) then { r.2 with e:=2 } else r.2;if s.e≠0 then (Nm.tz,s) else (r.1,s)):=if_neg (by rw[h];simp)
def endA (t:Tm)(s:Nm.St):Tm×Nm.St:=let s':Nm.St:=if s.e=0∧¬ (t.size≤5000∧t.depth≤60) then { s with e:=2 } else s;if s'.e≠0 then (Nm.tz,s') else (t,s')
theorem end_1 {t:Tm}(h:t.size≤5000∧t.depth≤60)(l:Int)(d:Bool)(c:Int):endA t ⟨l,d,c,0⟩=(t,⟨l,d,c,0⟩):=by
 have:¬ ((0:Int)=0∧¬ (t.size≤5000∧t.depth≤60)):=fun h'=>h'.2 h
 unfold endA;dsimp only;rw[if_neg this];simp
theorem end_2 {t:Tm}(h:¬ (t.size≤5000∧t.depth≤60))(l:Int)(d:Bool)(c:Int):endA t ⟨l,d,c,0⟩=(Nm.tz,⟨l,d,c,2⟩):=by
 have:(0:Int)=0∧¬ (t.size≤5000∧t.depth≤60):=⟨rfl,h⟩
 unfold endA;dsimp only;rw[if_pos this];rfl
theorem end_3 {t:Tm}{e:Int}(h:e≠0)(l:Int)(d:Bool)(c:Int):endA t ⟨l,d,c,e⟩=(Nm.tz,⟨l,d,c,e⟩):=by
 have:¬ (e=0∧¬ (t.size≤5000∧t.depth≤60)):=fun h'=>h h'.1
 unfold endA;dsimp only;rw[if_neg this];exact if_pos h
set_option maxHeartbeats 1000000 in
theorem apply_d (l:List (Int×Tm))(hl:l.length≤1000000)(t:Tm)(ht:Wide t)(left:Int)(dry:Bool)(h0:0≤left∧left≤1000000000)(ho:Sb.right l=true→thOk l t 0 ⟨left,dry,0,0⟩∧((Sb.through l t 0 ⟨left,dry,0,0⟩).2.e=0→DoneOk (Sb.through l t 0 ⟨left,dry,0,0⟩).1)):
  CallC Tryz.prog 18 [.sl 5 (ePairs l) none,.ag (eTm t),.o 1] [(.o 1,.ob (BudJ left dry))] [(.o 1,.ob (BudJ (Sb.apply l t left dry).2.left (Sb.apply l t left dry).2.dry))] (.tu [.ag (eTm (Sb.apply l t left dry).1),.v (.int .i64 (Sb.apply l t left dry).2.e)]):=by
 obtain⟨p,hp⟩:∃ p,Sb.apply l t left dry=p:=⟨_,rfl⟩
 rw[hp]
 have hrt:=sright_d l hl
 have hth:=fun h=>sthr_at 15 1 (by decide) l hl t ht 0 ⟨left,dry,0,0⟩ h0 (ho h).1
 rw[eTm_eq t] at hth ⊢
 refine call_of_dw 2 50 [ResultVar.cell 6 41,ResultVar.tmp 7] TS2_ok (by kernel_rfl) Tryz.func18 rfl Tryz.ntmps18 rfl (by simp) ?dwords ?dbody
 case dwords=>simp[wordsOk,D.ok,D.oks,rnames,inN,ckey,eTm_ok,eTms_ok,eTys_ok,ePairs_ok]
 case dbody=>
  intro cx hnt hn0
  refine dw_seq ?_;refine dwk [] TS2_ok hnt fun _ z9=>z9 _ _ ?_;refine dw_seq (dw_seq ?_)
  cases hr:Sb.right l with
  | false=>
   rw[hr] at hrt
   rw[app_1 hr] at hp
   subst hp
   refine dwk [] TS2_ok hnt fun K hK=>?_;refine dcl (hrt) ?_;refine hK _ _ ?_;clear hK K;refine dw_cond (t:=true) rfl ?_;rw[if_pos rfl];refine dw_seq ?_;refine dwk [] TS2_ok hnt fun _ z9=>z9 _ _ ?_;refine dw_ret ?_
   rw[tz_eq]
   exact retv (N:=0) (.inr rfl) rfl (by repeat first | exact VLe.refl _ | exact VLe.nil _ | exact VLe.untag _ _ _ | refine VLe.ag ?_ | refine VLe.tu ?_ | refine VLeL.cons ?_ ?_ | exact VLeL.nil) (by repeat first | exact trivial | refine And.intro rfl ?_)
  | true=>
   rw[hr] at hrt
   have ho:=(ho hr).2
   have hth:=hth hr
   rw[app_2 hr] at hp
   obtain⟨r,hrr⟩:∃ r,Sb.through l t 0 ⟨left,dry,0,0⟩=r:=⟨_,rfl⟩
   rw[hrr] at hp ho hth
   have hp:endA r.1 r.2=p:=hp
   clear hrr
   obtain⟨u,s1⟩:=r
   obtain⟨left',dry',count,er⟩:=s1
   dsimp only at hp ho hth
   refine dwk [] TS2_ok hnt fun K hK=>?_;refine dcl (hrt) ?_;refine hK _ _ ?_;clear hK K;refine dw_cond (t:=false) rfl ?_;rw[if_neg (by simp)];refine dw_skip ?_;refine dw_seq ?_;refine dwk [] TS2_ok hnt fun _ z9=>z9 _ _ ?_;refine dw_seq ?_
   have hru:er=0→PureC Tryz.prog 61 [.ag (eTm u)] (.v (.bool (decide (u.size≤5000∧u.depth≤60)))):=fun h=>right_d u (by have:=(ho h).right;omega)
   have hcu:er=0→(u.size≤5000∧u.depth≤60)→PureC Tryz.prog 66 [.ag (eTm u)] (.ag (eTm u)):=fun h h'=>copyW_d u ((ho h).copy h').1 ((ho h).copy h').2
   rw[eTm_eq u] at hth hru hcu
   refine dwk [] TS2_ok hnt fun K hK=>?_;refine dcl (hth) ?_;refine hK _ _ ?_;clear hK K;refine dw_seq (dw_seq ?_)
   by_cases he:er=0
   ·subst he
    have hru:=hru rfl
    by_cases hR:u.size≤5000∧u.depth≤60
    ·have hcu:=hcu rfl hR
     rw[end_1 hR] at hp
     subst hp
     rw[decide_eq_true hR] at hru
     refine dwk [(29,.v (.bool true))] TS2_ok hnt fun K hK=>?_;refine And.intro (VLe.refl _) ?_;refine dcl (hru) ?_;refine hK _ _ ?_;clear hK K;refine dw_cond (t:=false) rfl ?_;rw[if_neg (by simp)];refine dw_skip ?_;refine dw_seq (dw_seq ?_);refine dwk [(42,.v (.bool false))] TS2_ok hnt fun K hK=>?_;refine And.intro (VLe.refl _) ?_;refine hK _ _ ?_;clear hK K;refine dw_cond (t:=false) rfl ?_
     rw[if_neg (by simp)];refine dw_skip ?_;refine dw_seq ?_;refine dwk [] TS2_ok hnt fun K hK=>?_;refine dcl (hcu) ?_;refine hK _ _ ?_;clear hK K;refine dw_ret ?_
     rw[eTm_eq]
     exact retv (N:=0) (.inr rfl) rfl (by repeat first | exact VLe.refl _ | exact VLe.nil _ | exact VLe.untag _ _ _ | refine VLe.ag ?_ | refine VLe.tu ?_ | refine VLeL.cons ?_ ?_ | exact VLeL.nil) (by repeat first | exact trivial | refine And.intro rfl ?_)
    ·rw[end_2 hR] at hp
     subst hp
     rw[decide_eq_false hR] at hru
     refine dwk [(29,.v (.bool true))] TS2_ok hnt fun K hK=>?_;refine And.intro (VLe.refl _) ?_;refine dcl (hru) ?_;refine hK _ _ ?_;clear hK K;refine dw_cond (t:=true) rfl ?_;rw[if_pos rfl];refine dwk [] TS2_ok hnt fun _ z9=>z9 _ _ ?_;refine dw_seq (dw_seq ?_);refine dwk [(42,.v (.bool true))] TS2_ok hnt fun K hK=>?_;refine And.intro (VLe.refl _) ?_;refine hK _ _ ?_;clear hK K
     refine dw_cond (t:=true) rfl ?_;rw[if_pos rfl];refine dw_seq ?_;refine dwkD [] TS2_ok hnt fun K hK=>?_;refine hK _ _ (by kernel_rfl) ?_;clear hK K;refine dw_ret ?_
     rw[tz_eq]
     exact retv (N:=0) (.inr rfl) rfl (by repeat first | exact VLe.refl _ | exact VLe.nil _ | exact VLe.untag _ _ _ | refine VLe.ag ?_ | refine VLe.tu ?_ | refine VLeL.cons ?_ ?_ | exact VLeL.nil) (by repeat first | exact trivial | refine And.intro rfl ?_)
   ·rw[end_3 he] at hp
    subst hp
    refine dwk [(29,.v (.bool false))] TS2_ok hnt fun K hK=>?_;refine And.intro (VLe.of_eq (by simp[he])) ?_;refine hK _ _ ?_;clear hK K;refine dw_cond (t:=false) rfl ?_;rw[if_neg (by simp)];refine dw_skip ?_;refine dw_seq (dw_seq ?_);refine dwk [(42,.v (.bool true))] TS2_ok hnt fun K hK=>?_;refine And.intro (VLe.of_eq (by simp[he])) ?_;refine hK _ _ ?_;clear hK K;refine dw_cond (t:=true) rfl ?_
    rw[if_pos rfl];refine dw_seq ?_;refine dwkD [] TS2_ok hnt fun K hK=>?_;refine hK _ _ (by kernel_rfl) ?_;clear hK K;refine dw_ret ?_
    rw[tz_eq]
    exact retv (N:=0) (.inr rfl) rfl (by repeat first | exact VLe.refl _ | exact VLe.nil _ | exact VLe.untag _ _ _ | refine VLe.ag ?_ | refine VLe.tu ?_ | refine VLeL.cons ?_ ?_ | exact VLeL.nil) (by repeat first | exact trivial | refine And.intro rfl ?_)
theorem apply_at (kb:Nat)(l:List (Int×Tm))(hl:l.length≤1000000)(t:Tm)(ht:Wide t)(left:Int)(dry:Bool)(h0:0≤left∧left≤1000000000)(ho:Sb.right l=true→thOk l t 0 ⟨left,dry,0,0⟩∧((Sb.through l t 0 ⟨left,dry,0,0⟩).2.e=0→DoneOk (Sb.through l t 0 ⟨left,dry,0,0⟩).1)):
  CallC Tryz.prog 18 [.sl 5 (ePairs l) none,.ag (eTm t),.o kb] [(.o kb,.ob (BudJ left dry))] [(.o kb,.ob (BudJ (Sb.apply l t left dry).2.left (Sb.apply l t left dry).2.dry))] (.tu [.ag (eTm (Sb.apply l t left dry).1),.v (.int .i64 (Sb.apply l t left dry).2.e)]):=by
 have h:=(apply_d l hl t ht left dry h0 ho).ren (fun _=>kb) (by simp[renOk,D.ok,D.oks,rnames,inN,ckey,eTm_ok,ePairs_ok]) (by
  intro k h1 k' h2 _
  simp[rnames] at h1 h2
  rw[h1,h2])
 simpa[D.ren,D.rens,eTm_ren,ePairs_ren,renE,Key.ren] using h
namespace Ru
end Ru
theorem apply_less {l:List (Int×Tm)}{t:Tm}{left:Int}{dry:Bool}{B:Nat}(hl:∀ p∈l,Bnd B p.2)(ht:Bnd B t)(h:0≤left∧left≤1000000000):(Sb.apply l t left dry).2.e=0→(Sb.apply l t left dry).2.left≤left∧((Sb.apply l t left dry).1.size≤5000∧(Sb.apply l t left dry).1.depth≤60)∧Bnd B (Sb.apply l t left dry).1:=by
 unfold Sb.apply
 by_cases hr:Sb.right l=false
 ·rw[if_pos hr];intro e;cases e
 ·rw[if_neg hr]
  have h1:=Sb.grow l hl t ht 0 ⟨left,dry,0,0⟩ h
  dsimp only
  generalize Sb.through l t 0 ⟨left,dry,0,0⟩=r at h1
  by_cases hc:r.2.e=0∧¬ (r.1.size≤5000∧r.1.depth≤60)
  ·rw[if_pos hc]
   rw[if_pos (by show (2:Int)≠0;decide)]
   intro e;cases e
  ·rw[if_neg hc]
   by_cases hp:r.2.e=0
   ·rw[if_neg (fun h=>h hp)]
    intro _
    have h2:=h1 hp
    have h3:=Tm.size_pos r.1
    refine⟨by have:=h2.2.1;dsimp only at this ⊢;omega,?_,h2.2.2⟩
    by_cases h5:r.1.size≤5000∧r.1.depth≤60
    ·exact h5
    ·exact absurd ⟨hp,h5⟩ hc
   ·rw[if_pos hp]
    intro e;exact absurd e hp
theorem headTy_0i {C M X:List Ty}{i:Int}(h:0≤i):headTy C M X 0 i=X.reverse[i.toNat]?:=by
 rw[headTy,if_neg (by omega),if_pos rfl]
theorem isOf_loose {C M X:List Ty}(t:Tm):∀ (Y:List Ty) (u:Ty),IsOf C M t (X++Y) u→∀ x∈t.looses Y.length,x<X.length:=by
 induction t using Tm.ind with
 | h b k i a ih=>
  intro Y u h x hx
  rw[isOf_mk] at h
  obtain⟨rfl,h1,hh,_,hs⟩:=h
  rw[Tm.looses_eq _ _ _ _ _ ((Y++u.args).length:Int) (by simp)] at hx
  rcases List.mem_append.1 hx with h5 | hx
  ·by_cases hc:k=0∧((Y++u.args).length:Int)≤i
   ·obtain⟨rfl,hi⟩:=hc
    rw[if_pos ⟨rfl,hi⟩] at h5
    have h6:x=i-((Y++u.args).length:Int):=List.mem_singleton.1 h5
    rw[h6]
    rw[List.append_assoc,headTy_0i (by omega)] at hh
    have:=(List.getElem?_eq_some_iff.1 hh).1
    rw[List.length_reverse,List.length_append] at this
    omega
   ·rw[if_neg hc] at h5;cases h5
  ·rw[isOfs_iff] at hs
   have key:∀ (l:List Tm),(∀ t∈l,t∈a∧∃ u',IsOf C M t ((X++Y)++u.args) u')→∀ x∈Tm.loosess l ((Y++u.args).length:Int),x<X.length:=by
    intro l
    induction l with
    | nil=>intro _ x hx;simp[Tm.loosess] at hx
    | cons t l ihl=>
     intro hl x hx
     rw[Tm.loosess] at hx
     rcases List.mem_append.1 hx with hx | hx
     ·obtain⟨hm,u',hu'⟩:=hl t (by simp)
      rw[List.append_assoc] at hu'
      exact ih t hm (Y++u.args) u' hu' x hx
     ·exact ihl (fun t ht=>hl t (by simp[ht])) x hx
   refine key a (fun t ht=>⟨ht,?_⟩) x hx
   obtain⟨j,hj,rfl⟩:=List.getElem_of_mem ht
   exact⟨_,hs.2 j hj (by omega)⟩
theorem Nar.mono {B B':Nat}(h:B≤B'){t:Tm}:Nar B t→Nar B' t:=by
 induction t using Tm.ind with
 | h b k i a ih=>exact fun ht=>.mk _ _ _ _ (Nat.le_trans ht.inv.1 h) fun u hu=>ih u hu (ht.inv.2 u hu)
namespace Pn
variable {C M:List Ty}
theorem nodup_len {α:Type}[DecidableEq α]:∀ (l m:List α),l.Nodup→(∀ x∈l,x∈m)→l.length≤m.length
 | [],_,_,_=>Nat.zero_le _
 | x :: l,m,hn,h=>by
  have h1:=nodup_len l (m.erase x) (List.nodup_cons.1 hn).2 fun y hy=>(List.mem_erase_of_ne (by rintro rfl;exact(List.nodup_cons.1 hn).1 hy)).2 (h y (by simp[hy]))
  have h2:=List.length_erase_of_mem (h x (by simp))
  have h3:=List.length_pos_of_mem (h x (by simp))
  rw[List.length_cons];omega
theorem bfind_of_mem:∀ {b:Bd} (_:(b.map (·.1)).Nodup) {q:Int×Tm},q∈b→bfind b q.1=some q.2
 | [],_,q,h=>by cases h
 | p :: b,hn,q,h=>by
  rw[List.map_cons,List.nodup_cons] at hn
  unfold bfind
  rcases List.mem_cons.1 h with rfl | h
  ·rw[List.find?_cons_of_pos (by simp)];rfl
  ·have hne:p.1≠q.1:=fun e=>hn.1 (e ▸ List.mem_map_of_mem h)
   rw[List.find?_cons_of_neg (by simpa using hne)]
   exact bfind_of_mem hn.2 h
theorem mem_of_bfind {b:Bd}{m:Int}(h:bfind b m≠none):m∈b.map (·.1):=by
 unfold bfind at h
 cases hf:b.find? (fun p=>p.1==m) with
 | none=>rw[hf] at h;exact absurd rfl h
 | some p=>
  have h1:=List.mem_of_find?_eq_some hf
  have h2:=List.find?_some hf
  have h2:p.1=m:=by simpa using h2
  exact h2 ▸ List.mem_map_of_mem h1
theorem may_0 {p:Tm}{u:Ty}(hp:IsOf C M p [] u)(hu:(uses p [] []).2=true):may p=0:=by
 have hl:p.looses 0=[]:=by
  rw[List.eq_nil_iff_forall_not_mem]
  intro x hx
  have h1:=isOf_loose (X:=[]) p [] u hp x hx
  have h2:=Tm.looses_nonneg p 0 x hx
  simp only[List.length_nil] at h1
  omega
 unfold may
 rw[if_neg (fun h=>h hl),if_neg (by rw[hu];simp)]
theorem back_law {p:Tm}{u:Ty}{s:List (Int×Tm)}{z:Tm}{st:Nm.St}(hp:IsOf C M p [] u)(hpz:p.full≤60)(hpf:p.Fit)(hu:(uses p [] []).2=true)(hr:Sb.right s=true)(hs:∀ q∈s,(∃ h,headTy C M [] 2 q.1=some h∧IsOf C M q.2 [] h)∧q.2.full≤150∧q.2.Fit) 
  (hm:∀ m∈sortU (metasL [p]),Sb.find s m≠none) (ha:Sb.apply s p 10000 false=(z,st)) (he:st.e=0) :
  PPok (p,z)∧∃ k,mAll [(p,z)]=(k,0)∧k.length=(sortU (metasL [p])).length∧∀ j (h:j<k.length),getT s k[j].1=(k[j].2,true):=by
 have hb:∀ q∈s,Bnd 150 q.2:=fun q hq=>Bnd.of_full _ (hs q hq).2.1 (hs q hq).2.2
 have hbp:Bnd 150 p:=Bnd.of_full _ (by omega) hpf
 have hk:=Sb.apply_keeps (C:=C) (M:=M) (B:=150) (by decide) s [] hr (fun q hq=>⟨(hs q hq).1,hb q hq,by have:=(hs q hq).2.1;omega⟩) p u hp hbp (by simp only[List.length_nil];omega) 10000 false ⟨by decide,by decide⟩
 have hle:=apply_less (l:=s) (t:=p) (left:=10000) (dry:=false) hb hbp ⟨by decide,by decide⟩
 rw[ha] at hk hle
 have hzt:=hk.2 he
 have hzb:=(hle he).2.2
 have hin:InR ⟨10000,false,0,0⟩:=⟨(by decide:(0:Int)≤10000),(by decide:(10000:Int)≤1000000000)⟩
 have hth:(Sb.through s p 0 ⟨10000,false,0,0⟩).2.e=0∧(Sb.through s p 0 ⟨10000,false,0,0⟩).1=z:=by
  unfold Sb.apply at ha
  rw[if_neg (by rw[hr];simp)] at ha
  dsimp only at ha
  generalize Sb.through s p 0 ⟨10000,false,0,0⟩=r at ha
  by_cases hc:r.2.e=0∧¬ (r.1.size≤5000∧r.1.depth≤60)
  ·rw[if_pos hc] at ha
   have ha':(if (2:Int)≠0 then (Nm.tz,{ r.2 with e:=2 }) else (r.1,{ r.2 with e:=2 }))=(z,st):=ha
   rw[if_pos (by decide)] at ha'
   rw[←(Prod.mk.inj ha').2] at he;cases he
  ·rw[if_neg hc] at ha
   by_cases hr2:r.2.e=0
   ·rw[if_neg (fun h=>h hr2)] at ha
    exact⟨hr2,(Prod.mk.inj ha).1⟩
   ·rw[if_pos hr2] at ha
    rw[←(Prod.mk.inj ha).2] at he;exact absurd he hr2
 have hwb:=walk_back (C:=C) (M:=M) (B:=150) (K:=150) (by decide) (by decide) [] (by simp) s (fun m v h=>by
  obtain⟨q,hq,rfl,rfl⟩:=Sb.find_at h
  exact⟨(hs q hq).1,Nar.mono (by decide) (Bnd.nar _ (hb q hq)),(hs q hq).2.1⟩) (by decide) p [] [] [] u ⟨10000,false,0,0⟩ hu (fun m hm'=>hm m ((mem_mtt p m).2 hm')) (fun m v h=>by cases h) hp (Bnd.nar _ hbp) (by simp only[List.length_nil];omega) hin
 simp only[List.length_nil] at hwb
 have e0:(((0:Nat):Int))=0:=rfl
 rw[e0,hth.2] at hwb
 obtain⟨hfull,b',w1,w2,w3,w4⟩:=hwb hth.1
 have hzf:z.full≤10000:=by
  have:150 * p.full≤150 * 60:=Nat.mul_le_mul_left _ hpz
  omega
 have hlow:lowB z=true:=isOf_low z [] u hzt (by simp only[List.length_nil];omega)
 have hfit:z.Fit:=Bnd.fit z hzb
 refine⟨⟨by dsimp only;omega,hpf,by dsimp only;omega,hlow,hfit⟩,So.ss b',?_,?_,?_⟩
 ·unfold mAll mayAll mayAll
  rw[may_0 hp hu]
  simp only[ne_eq,not_true_eq_false,if_false,if_true]
  rw[walkL,w1]
  simp only[if_true]
  rw[walkL]
 ·have hbd:BdOk b':=by
   have:=walk_bd p z [] [] bdOk_nil (by simp[Ty.sizes];omega) (by omega) hlow hfit
   rw[w1] at this;exact this
  rw[So.ss_len]
  have hU:=sortU_spec (metasL [p])
  have h1:=nodup_len (b'.map (·.1)) (sortU (metasL [p])) hbd.keys fun x hx=>by
   obtain⟨q,hq,rfl⟩:=List.mem_map.1 hx
   rcases w4 q hq with h | h
   ·cases h
   ·exact(mem_mtt p _).2 h
  have h2:=nodup_len (sortU (metasL [p])) (b'.map (·.1)) (hU.1.imp fun h=>Int.ne_of_lt h) fun x hx=>mem_of_bfind (w3 x ((mem_mtt p x).1 hx))
  rw[List.length_map] at h1 h2
  omega
 ·intro j hj
  have hbd:BdOk b':=by
   have:=walk_bd p z [] [] bdOk_nil (by simp[Ty.sizes];omega) (by omega) hlow hfit
   rw[w1] at this;exact this
  have hq:(So.ss b')[j]∈b':=(So.ss_same b').mem (List.getElem_mem hj)
  have h1:=w2 _ _ (bfind_of_mem hbd.keys hq)
  rw[getT_bfind]
  have h2:bfind s (So.ss b')[j].1=some (So.ss b')[j].2:=h1
  rw[h2]
end Pn
end Go.Proofs.YtflbnonbfmmchaaGreat
namespace Go.Proofs.YtflbnonbfmmchaaGreat
section
variable {P:Program} {ops:Array Oper} {Q:Exit→Act→World→Prop} {md:Region.Mode} {S:World→Prop}
end
end Go.Proofs.YtflbnonbfmmchaaGreat
namespace Go.Proofs.YtflbnonbfmmchaaGreat
open Go.RowKit Go.Shelf
def TFRR_41:TI:=⟨4,true,[Value.slice none 0 0,Value.int IntKind.i64 0,Value.int IntKind.i64 0,Value.slice none 0 0],[(0,1,false),(1,2,true),(3,1,false)],none,64,6,none,false⟩
theorem TFRR_41_ok:TypOk Tryz.prog 41 TFRR_41:=by constructor <;> kernel_rfl
def TFRR_59:TI:=⟨1,false,[Value.slice none 0 0],[],some 3,24,5,none,false⟩
theorem TFRR_59_ok:TypOk Tryz.prog 59 TFRR_59:=by constructor <;> kernel_rfl
def TFRR_39:TI:=⟨1,false,[Value.slice none 0 0],[],some 41,24,5,none,false⟩
theorem TFRR_39_ok:TypOk Tryz.prog 39 TFRR_39:=by constructor <;> kernel_rfl
def TFRR_3:TI:=⟨1,false,[Value.int IntKind.i64 0],[],none,8,2,none,false⟩
theorem TFRR_3_ok:TypOk Tryz.prog 3 TFRR_3:=by constructor <;> kernel_rfl
def TFRR_213:TI:=⟨1,false,[Value.nilFunc],[],none,8,8,none,false⟩
theorem TFRR_213_ok:TypOk Tryz.prog 213 TFRR_213:=by constructor <;> kernel_rfl
def TFRR:List (Nat×TI):=[(41,TFRR_41),(59,TFRR_59),(39,TFRR_39),(3,TFRR_3),(213,TFRR_213)]
theorem TFRR_ok:TabOk Tryz.prog TFRR:=((((((TabOk.nil _).cons TFRR_213_ok).cons TFRR_3_ok).cons TFRR_39_ok).cons TFRR_59_ok).cons TFRR_41_ok)
attribute [local go_sem] Oper.semAt_some
namespace Pn
end Pn
theorem Mild.below {β:Type}{Ok:Obj→Prop}{B:Nat}{J:β→World→Prop}(h:Mild Ok B J){s:β}{W W':World}(hs:J s W)(hb:Below W.heap.size W W'):J s W':=
 h s W W' none hs ⟨hb.os,hb.tape,hb.output,hb.size,fun k hk _=>hb.block k hk⟩ (fun r e=>by cases e)
end Go.Proofs.YtflbnonbfmmchaaGreat
namespace Go.Proofs.YtflbnonbfmmchaaGreat
open Go.RowKit Go.Shelf
attribute [local go_sem] Oper.semAt_some
end Go.Proofs.YtflbnonbfmmchaaGreat
namespace Go.Proofs.YtflbnonbfmmchaaGreat
open Go.RowKit Go.Shelf
attribute [local go_sem] Oper.semAt_some
end Go.Proofs.YtflbnonbfmmchaaGreat
namespace Go.Proofs.YtflbnonbfmmchaaGreat
open Go.RowKit
def satV (r:Option (Tm×List Ty)):D:=match r with
 | some r=>.tu [.ag (eTm r.1),.sl 2 (eTys r.2) none,.v (.int .i64 0)]
 | none=>.tu [.ag (eTm Tm.zero),.sl 2 [] none,.v (.int .i64 10)]
@[simp] theorem satV_ok (f g:Nat→Bool) (r:Option (Tm×List Ty)):D.ok f g (satV r)=true:=by
 cases r <;> simp[satV,D.ok,D.oks,D.okss,eTm_ok,eTys_ok]
namespace Ru
def swap (p:Li.Pr):Li.Pr:=⟨p.r,p.l,p.m⟩
end Ru
def TRM_35:TI:=⟨3,true,[Value.int IntKind.i64 0,Value.slice none 0 0,Value.slice none 0 0],[(0,1,false),(1,1,false),(2,1,false)],none,56,6,none,false⟩
theorem TRM_35_ok:TypOk Tryz.prog 35 TRM_35:=by constructor <;> kernel_rfl
def TRM_33:TI:=⟨1,false,[Value.slice none 0 0],[],some 44,24,5,none,false⟩
theorem TRM_33_ok:TypOk Tryz.prog 33 TRM_33:=by constructor <;> kernel_rfl
def TRM_24:TI:=⟨3,true,[Value.int IntKind.i64 0,Value.slice none 0 0,Value.slice none 0 0],[(0,1,false),(1,1,false),(2,1,false)],none,56,6,none,false⟩
theorem TRM_24_ok:TypOk Tryz.prog 24 TRM_24:=by constructor <;> kernel_rfl
def TRM_22:TI:=⟨1,false,[Value.slice none 0 0],[],some 103,24,5,none,false⟩
theorem TRM_22_ok:TypOk Tryz.prog 22 TRM_22:=by constructor <;> kernel_rfl
def TRM_86:TI:=⟨9,true,[Value.slice none 0 0,Value.int IntKind.i64 0,Value.int IntKind.i64 0,Value.slice none 0 0,Value.slice none 0 0,Value.int IntKind.i64 0,Value.int IntKind.i64 0,Value.slice none 0 0,Value.slice none 0 0],[(0,4,true),(4,4,true),(8,1,false)],none,152,6,none,false⟩
theorem TRM_86_ok:TypOk Tryz.prog 86 TRM_86:=by constructor <;> kernel_rfl
def TRM_3:TI:=⟨1,false,[Value.int IntKind.i64 0],[],none,8,2,none,false⟩
theorem TRM_3_ok:TypOk Tryz.prog 3 TRM_3:=by constructor <;> kernel_rfl
def TRM_103:TI:=⟨2,true,[Value.slice none 0 0,Value.int IntKind.i64 0],[(0,1,false),(1,1,false)],none,32,6,none,false⟩
theorem TRM_103_ok:TypOk Tryz.prog 103 TRM_103:=by constructor <;> kernel_rfl
def TRM_44:TI:=⟨2,true,[Value.slice none 0 0,Value.int IntKind.i64 0],[(0,1,false),(1,1,false)],none,32,6,none,false⟩
theorem TRM_44_ok:TypOk Tryz.prog 44 TRM_44:=by constructor <;> kernel_rfl
def TRM:List (Nat×TI):=[(35,TRM_35),(33,TRM_33),(24,TRM_24),(22,TRM_22),(86,TRM_86),(3,TRM_3),(103,TRM_103),(44,TRM_44)]
theorem TRM_ok:TabOk Tryz.prog TRM:=(((((((((TabOk.nil _).cons TRM_44_ok).cons TRM_103_ok).cons TRM_3_ok).cons TRM_86_ok).cons TRM_22_ok).cons TRM_24_ok).cons TRM_33_ok).cons TRM_35_ok)
namespace Ru
end Ru
theorem twd_d (b:Int)(C M:List Ty)(h1:Ty.sizes C≤900000)(h2:Ty.sizes M≤900000):PureC Tryz.prog 11 [.ag [.v (.int .i64 b),.sl 2 (eTys C) none,.sl 2 (eTys M) none]] (.ag [.v (.int .i64 b),.sl 2 (eTys C) none,.sl 2 (eTys M) none]):=by
 have hC:=toTys_d C h1
 have hM:=toTys_d M h2
 refine calldw 0 12 [ResultVar.cell 2 35] TRM_ok Tryz.func11 rfl Tryz.ntmps11 rfl fun cx hnt hn0=>?_
 ·skip
  refine dw_seq ?_;refine dwk [] TRM_ok hnt fun _ z9=>z9 _ _ ?_;refine dw_seq ?_;refine dwkD [] TRM_ok hnt fun K hK=>?_;refine dcl (hC) ?_;refine dcl (hM) ?_;refine hK _ _ (by kernel_rfl) ?_;clear hK K;refine dw_ret ?_
  exact reta rfl
namespace Ru
def wB (C M:List Ty):Bool:=decide (C.length≤20∧M.length≤20)&&(C++M).all few4B
end Ru
theorem smallW_d (b:Int)(C M:List Ty):PureC Tryz.prog 9 [.ag [.v (.int .i64 b),.sl 2 (eTys C) none,.sl 2 (eTys M) none],.v (.slice none 0 0)] (.v (.bool (Ru.wB C M))):=by
 unfold Ru.wB
 by_cases h:C.length≤20∧M.length≤20
 ·have:=small_d b C M [] h.1 h.2 (by simp)
  rw[List.append_nil] at this
  rw[decide_eq_true h,Bool.true_and]
  exact CallC.vle this (.cons (VLe.refl _) (.cons (VLe.nil _) .nil)) (VLe.refl _)
 ·have:=small_no b C M [] (fun h2=>h ⟨h2.1,h2.2.1⟩)
  rw[decide_eq_false h,Bool.false_and]
  exact CallC.vle this (.cons (VLe.refl _) (.cons (VLe.nil _) .nil)) (VLe.refl _)
namespace Ru
def wt (p:Li.Pr):Int:=(p.l.size:Int)+(p.r.size:Int)
def cmp (a b:Li.Pr):Int:=orl (sgn (wt a) (wt b)) (orl (Tm.cmp a.l b.l) (orl (Tm.cmp a.r b.r) (Tm.cmpB a.m b.m)))
end Ru
namespace Ru
theorem chkL_ok {C M:List Ty}{code:Tm→Ty→Int}(hc:∀ t u,checkCode C M t [] u (code t u)):∀ {l:List (Int×Tm)},chkL code M l=0→∀ p∈l,∃ h,headTy C M [] 2 p.1=some h∧IsOf C M p.2 [] h
 | [],_,p,hp=>by cases hp
 | q :: l,h,p,hp=>by
  rw[chkL] at h
  cases hh:headTy [] M [] 2 q.1 with
  | none=>rw[hh] at h;cases h
  | some u=>
   rw[hh] at h
   dsimp only at h
   by_cases hcd:code q.2 u=0
   ·rw[if_neg (fun h=>h hcd)] at h
    rcases List.mem_cons.1 hp with rfl | hp
    ·have h1:=hc p.2 u
     rw[hcd] at h1
     unfold checkCode at h1
     refine⟨u,?_,?_⟩
     ·rw[←hh];unfold headTy;rfl
     ·rcases h1 with h1 | h1 | h1
      ·exact absurd h1.2 (by decide)
      ·exact absurd h1.2.2 (by decide)
      ·exact h1.2.1
    ·exact chkL_ok hc h p hp
   ·rw[if_pos hcd] at h;exact absurd h hcd
end Ru
theorem code_ex2 (C M X:List Ty)(t:Tm)(u:Ty):∃ c,checkCode C M t X u c:=by
 by_cases h1:t.size≤5000∧t.depth≤60
 ·by_cases h2:IsOf C M t X u
  ·exact⟨0,.inr (.inr ⟨h1,h2,rfl⟩)⟩
  ·exact⟨5,.inr (.inl ⟨h1,h2,rfl⟩)⟩
 ·exact⟨2,.inl ⟨h1,rfl⟩⟩
theorem codeOf0 {C M X:List Ty}{t:Tm}{u:Ty}(h:checkCode C M t X u 0):IsOf C M t X u:=by
 unfold checkCode at h
 rcases h with h | h | h
 ·exact absurd h.2 (by decide)
 ·exact absurd h.2.2 (by decide)
 ·exact h.2.1
theorem sizes60 {l:List Ty}(h:∀ t∈l,t.size≤60)(hl:l.length≤20):Ty.sizes l≤1200:=by have:=sizes_le22 h;omega
def TMBD_41:TI:=⟨4,true,[Value.slice none 0 0,Value.int IntKind.i64 0,Value.int IntKind.i64 0,Value.slice none 0 0],[(0,1,false),(1,2,true),(3,1,false)],none,64,6,none,false⟩
theorem TMBD_41_ok:TypOk Tryz.prog 41 TMBD_41:=by constructor <;> kernel_rfl
def TMBD_3:TI:=⟨1,false,[Value.int IntKind.i64 0],[],none,8,2,none,false⟩
theorem TMBD_3_ok:TypOk Tryz.prog 3 TMBD_3:=by constructor <;> kernel_rfl
def TMBD_35:TI:=⟨3,true,[Value.int IntKind.i64 0,Value.slice none 0 0,Value.slice none 0 0],[(0,1,false),(1,1,false),(2,1,false)],none,56,6,none,false⟩
theorem TMBD_35_ok:TypOk Tryz.prog 35 TMBD_35:=by constructor <;> kernel_rfl
def TMBD_51:TI:=⟨1,false,[Value.slice none 0 0],[],some 79,24,5,none,false⟩
theorem TMBD_51_ok:TypOk Tryz.prog 51 TMBD_51:=by constructor <;> kernel_rfl
def TMBD_45:TI:=⟨1,false,[Value.int IntKind.i64 0],[],none,8,2,none,false⟩
theorem TMBD_45_ok:TypOk Tryz.prog 45 TMBD_45:=by constructor <;> kernel_rfl
def TMBD_24:TI:=⟨3,true,[Value.int IntKind.i64 0,Value.slice none 0 0,Value.slice none 0 0],[(0,1,false),(1,1,false),(2,1,false)],none,56,6,none,false⟩
theorem TMBD_24_ok:TypOk Tryz.prog 24 TMBD_24:=by constructor <;> kernel_rfl
def TMBD_29:TI:=⟨4,true,[Value.slice none 0 0,Value.int IntKind.i64 0,Value.int IntKind.i64 0,Value.slice none 0 0],[(0,1,false),(1,2,true),(3,1,false)],none,64,6,none,false⟩
theorem TMBD_29_ok:TypOk Tryz.prog 29 TMBD_29:=by constructor <;> kernel_rfl
def TMBD_44:TI:=⟨2,true,[Value.slice none 0 0,Value.int IntKind.i64 0],[(0,1,false),(1,1,false)],none,32,6,none,false⟩
theorem TMBD_44_ok:TypOk Tryz.prog 44 TMBD_44:=by constructor <;> kernel_rfl
def TMBD_59:TI:=⟨1,false,[Value.slice none 0 0],[],some 3,24,5,none,false⟩
theorem TMBD_59_ok:TypOk Tryz.prog 59 TMBD_59:=by constructor <;> kernel_rfl
def TMBD_33:TI:=⟨1,false,[Value.slice none 0 0],[],some 44,24,5,none,false⟩
theorem TMBD_33_ok:TypOk Tryz.prog 33 TMBD_33:=by constructor <;> kernel_rfl
def TMBD_39:TI:=⟨1,false,[Value.slice none 0 0],[],some 41,24,5,none,false⟩
theorem TMBD_39_ok:TypOk Tryz.prog 39 TMBD_39:=by constructor <;> kernel_rfl
def TMBD_79:TI:=⟨5,true,[Value.int IntKind.i64 0,Value.slice none 0 0,Value.int IntKind.i64 0,Value.int IntKind.i64 0,Value.slice none 0 0],[(0,1,false),(1,4,true)],none,72,6,none,false⟩
theorem TMBD_79_ok:TypOk Tryz.prog 79 TMBD_79:=by constructor <;> kernel_rfl
def TMBD_67:TI:=⟨1,false,[Value.slice none 0 0],[],some 156,24,5,none,false⟩
theorem TMBD_67_ok:TypOk Tryz.prog 67 TMBD_67:=by constructor <;> kernel_rfl
def TMBD_22:TI:=⟨1,false,[Value.slice none 0 0],[],some 103,24,5,none,false⟩
theorem TMBD_22_ok:TypOk Tryz.prog 22 TMBD_22:=by constructor <;> kernel_rfl
def TMBD_56:TI:=⟨1,false,[Value.pointer none],[],none,8,4,none,false⟩
theorem TMBD_56_ok:TypOk Tryz.prog 56 TMBD_56:=by constructor <;> kernel_rfl
def TMBD_103:TI:=⟨2,true,[Value.slice none 0 0,Value.int IntKind.i64 0],[(0,1,false),(1,1,false)],none,32,6,none,false⟩
theorem TMBD_103_ok:TypOk Tryz.prog 103 TMBD_103:=by constructor <;> kernel_rfl
def TMBD_156:TI:=⟨5,true,[Value.int IntKind.i64 0,Value.slice none 0 0,Value.int IntKind.i64 0,Value.int IntKind.i64 0,Value.slice none 0 0],[(0,1,false),(1,4,true)],none,72,6,none,false⟩
theorem TMBD_156_ok:TypOk Tryz.prog 156 TMBD_156:=by constructor <;> kernel_rfl
def TMBD:List (Nat×TI):=[(41,TMBD_41),(3,TMBD_3),(35,TMBD_35),(51,TMBD_51),(45,TMBD_45),(24,TMBD_24),(29,TMBD_29),(44,TMBD_44),(59,TMBD_59),(33,TMBD_33),(39,TMBD_39),(79,TMBD_79),(67,TMBD_67),(22,TMBD_22),(56,TMBD_56),(103,TMBD_103),(156,TMBD_156)]
theorem TMBD_ok:TabOk Tryz.prog TMBD:=((((((((((((((((((TabOk.nil _).cons TMBD_156_ok).cons TMBD_103_ok).cons TMBD_56_ok).cons TMBD_22_ok).cons TMBD_67_ok).cons TMBD_79_ok).cons TMBD_39_ok).cons TMBD_33_ok).cons TMBD_59_ok).cons TMBD_44_ok).cons TMBD_29_ok).cons TMBD_24_ok).cons TMBD_45_ok).cons TMBD_51_ok).cons TMBD_35_ok).cons TMBD_3_ok).cons TMBD_41_ok)
theorem getT_find (l:List (Int×Tm))(m:Int):(getT l m).2=true→Sb.find l m≠none:=by
 intro h hn
 have h2:Pn.bfind l m=none:=hn
 rw[Pn.getT_bfind,h2] at h;cases h
set_option maxRecDepth 100000 in
set_option maxHeartbeats 8000000 in
theorem matchBack_d (b:Int)(C Mw:List Ty)(p:Tm)(l:List (Int×Tm))(fp:p.Fit)(hl:l.length≤9223372036854775807)(hfl:∀ q∈l,q.2.Fit∧q.1≤9223372036854775807):
  PureC Tryz.prog 5 [.ag [.v (.int .i64 b),.sl 2 (eTys C) none,.sl 2 (eTys Mw) none],.ag (eTm p),.sl 5 (ePairs l) none] (.v (.bool true)):=by
 have hk:=known12_d
 have hF1:=Few6_d 60 (by decide) (by decide) p 60 (by decide) (by decide)
 have hF9:=few9_d l hl fun p _ h=>wide_full _ (by have:=fewB_full h;omega)
 have hSm:=smallW_d b C Mw
 rw[eTm_eq] at hF1
 rw[eTm_eq]
 cases h1:decide (fewM 60 p 60≤60) with
 | false=>
  rw[h1] at hF1
  refine calldw 0 154 [ResultVar.tmp 6] TMBD_ok Tryz.func5 rfl Tryz.ntmps5 rfl fun cx hnt hn0=>?_
  ·skip
   refine dw_seq ?_;refine dwk [] TMBD_ok hnt fun _ z9=>z9 _ _ ?_;refine dw_seq ?_;refine dw_seq ?_;refine dwk [] TMBD_ok hnt fun K hK=>?_;refine dcl (hF1) ?_;refine hK _ _ ?_;clear hK K;refine dw_cond (t:=true) rfl ?_;rw[if_pos rfl];refine dw_seq ?_;refine dwk [] TMBD_ok hnt fun K hK=>?_;refine dcl (hk) ?_;refine hK _ _ ?_;clear hK K;refine dw_ret ?_
   exact reta rfl
 | true=>
 rw[h1] at hF1
 cases h9:few9 l with
 | false=>
  rw[h9] at hF9
  refine calldw 0 154 [ResultVar.tmp 6] TMBD_ok Tryz.func5 rfl Tryz.ntmps5 rfl fun cx hnt hn0=>?_
  ·skip
   refine dw_seq ?_;refine dwk [] TMBD_ok hnt fun _ z9=>z9 _ _ ?_;refine dw_seq ?_;refine dw_seq ?_;refine dwk [] TMBD_ok hnt fun K hK=>?_;refine dcl (hF1) ?_;refine dcl (hF9) ?_;refine hK _ _ ?_;clear hK K;refine dw_cond (t:=true) rfl ?_;rw[if_pos rfl];refine dw_seq ?_;refine dwk [] TMBD_ok hnt fun K hK=>?_;refine dcl (hk) ?_;refine hK _ _ ?_;clear hK K
   refine dw_ret ?_
   exact reta rfl
 | true=>
 rw[h9] at hF9
 cases hs:Ru.wB C Mw with
 | false=>
  rw[hs] at hSm
  refine calldw 0 154 [ResultVar.tmp 6] TMBD_ok Tryz.func5 rfl Tryz.ntmps5 rfl fun cx hnt hn0=>?_
  ·skip
   refine dw_seq ?_;refine dwk [] TMBD_ok hnt fun _ z9=>z9 _ _ ?_;refine dw_seq ?_;refine dw_seq ?_;refine dwk [] TMBD_ok hnt fun K hK=>?_;refine dcl (hF1) ?_;refine dcl (hF9) ?_;refine dcl (hSm) ?_;refine hK _ _ ?_;clear hK K;refine dw_cond (t:=true) rfl ?_;rw[if_pos rfl];refine dw_seq ?_;refine dwk [] TMBD_ok hnt fun K hK=>?_;refine dcl (hk) ?_;refine hK _ _ ?_;clear hK K
   refine dw_ret ?_
   exact reta rfl
 | true=>
 rw[hs] at hSm
 rw[decide_eq_true_eq] at h1
 have zp:=fewM_full (by decide) 60 p 60 (by decide) (by decide) h1
 have hpz:p.full≤60:=by omega
 clear h1
 unfold Ru.wB at hs
 rw[Bool.and_eq_true,decide_eq_true_eq] at hs
 have hCM:∀ t∈C++Mw,t.size≤60:=fun t ht=>fewT60 (List.all_eq_true.1 hs.2 t ht)
 have hC60:∀ t∈C,t.size≤60:=fun t ht=>hCM t (List.mem_append_left _ ht)
 have hM60:∀ t∈Mw,t.size≤60:=fun t ht=>hCM t (List.mem_append_right _ ht)
 have hCl:=hs.1.1
 have hMl:=hs.1.2
 have zC:=sizes60 hC60 hCl
 have zM:=sizes60 hM60 hMl
 have hWd:=twd_d b C Mw (by omega) (by omega)
 have hT1:=to6_d p (by omega)
 rw[eTm_eq] at hT1
 have hsf:∀ q∈l.take 10,q.2.full≤150∧q.2.Fit∧q.1≤9223372036854775807:=fun q hq=>by
  have:=List.all_eq_true.1 h9 q hq
  simp only[Bool.and_eq_true] at this
  exact⟨(fewB_full this.1).1,hfl q (List.mem_of_mem_take hq)⟩
 have hT9:=to9_d l hl fun q hq=>by have:=(hsf q hq).1;omega
 obtain⟨s,hse⟩:∃ s,l.take 10=s:=⟨_,rfl⟩
 have hsl:s.length≤10:=by rw[←hse,List.length_take];omega
 rw[hse] at hT9 hsf
 have hix:p.index≤9223372036854775807:=by obtain⟨_,_,_,_⟩:=p;exact(Tm.fit_iff.1 fp).2.1
 have hTy:=ttype_d b C Mw p hix (by omega) (by omega) (by omega)
 obtain⟨u,hu⟩:∃ u,(tyOf C Mw p).getD tyZ=u:=⟨_,rfl⟩
 rw[hu,eTm_eq,eTy_eq] at hTy
 by_cases hso:(tyOf C Mw p).isSome=true
 rotate_left
 ·rw[if_neg hso] at hTy
  refine calldw 0 154 [ResultVar.tmp 6] TMBD_ok Tryz.func5 rfl Tryz.ntmps5 rfl fun cx hnt hn0=>?_
  ·skip
   refine dw_seq ?_;refine dwk [] TMBD_ok hnt fun _ z9=>z9 _ _ ?_;refine dw_seq ?_;refine dw_seq ?_;refine dwk [] TMBD_ok hnt fun K hK=>?_;refine dcl (hF1) ?_;refine dcl (hF9) ?_;refine dcl (hSm) ?_;refine hK _ _ ?_;clear hK K;refine dw_cond (t:=false) rfl ?_;rw[if_neg (by simp)];refine dw_skip ?_;refine dw_seq ?_;refine dwkD [] TMBD_ok hnt fun K hK=>?_;refine dcl (hWd) ?_
   refine dcl (hT1) ?_;refine dcl (hT9) ?_;refine hK _ _ (by kernel_rfl) ?_;clear hK K;refine dw_seq ?_;refine dwk [] TMBD_ok hnt fun K hK=>?_;refine dcl (hTy) ?_;refine hK _ _ ?_;clear hK K;refine dw_seq ?_;refine dw_seq ?_;refine dwk [(50,.v (.bool true))] TMBD_ok hnt fun K hK=>?_;refine And.intro (bneT (by decide)) ?_;refine hK _ _ ?_;clear hK K;refine dw_cond (t:=true) rfl ?_
   rw[if_pos rfl];refine dw_seq ?_;refine dwk [] TMBD_ok hnt fun K hK=>?_;refine dcl (hk) ?_;refine hK _ _ ?_;clear hK K;refine dw_ret ?_
   exact reta rfl
 rw[if_pos hso] at hTy
 obtain⟨rw_,hrw⟩:∃ c:Bool,c=true↔RightWd b C Mw:=by
  by_cases h:RightWd b C Mw
  ·exact⟨true,fun _=>h,fun _=>rfl⟩
  ·exact⟨false,fun e=>(by cases e),fun e=>absurd e h⟩
 have hR:=tworld_d b C Mw rw_ hrw (fun v hv=>by have:=hCM v hv;omega)
 cases rw_ with
 | false=>
  refine calldw 0 154 [ResultVar.tmp 6] TMBD_ok Tryz.func5 rfl Tryz.ntmps5 rfl fun cx hnt hn0=>?_
  ·skip
   refine dw_seq ?_;refine dwk [] TMBD_ok hnt fun _ z9=>z9 _ _ ?_;refine dw_seq ?_;refine dw_seq ?_;refine dwk [] TMBD_ok hnt fun K hK=>?_;refine dcl (hF1) ?_;refine dcl (hF9) ?_;refine dcl (hSm) ?_;refine hK _ _ ?_;clear hK K;refine dw_cond (t:=false) rfl ?_;rw[if_neg (by simp)];refine dw_skip ?_;refine dw_seq ?_;refine dwkD [] TMBD_ok hnt fun K hK=>?_;refine dcl (hWd) ?_
   refine dcl (hT1) ?_;refine dcl (hT9) ?_;refine hK _ _ (by kernel_rfl) ?_;clear hK K;refine dw_seq ?_;refine dwk [] TMBD_ok hnt fun K hK=>?_;refine dcl (hTy) ?_;refine hK _ _ ?_;clear hK K;refine dw_seq ?_;refine dw_seq ?_;refine dwk [(50,.v (.bool false))] TMBD_ok hnt fun K hK=>?_;refine And.intro (bneF rfl) ?_;refine dcl (hR) ?_;refine hK _ _ ?_;clear hK K;refine dw_cond (t:=true) rfl ?_
   rw[if_pos rfl];refine dw_seq ?_;refine dwk [] TMBD_ok hnt fun K hK=>?_;refine dcl (hk) ?_;refine hK _ _ ?_;clear hK K;refine dw_ret ?_
   exact reta rfl
 | true=>
 obtain⟨c1,hc1⟩:=code_ex2 C Mw [] p u
 have hK1:=tcheck_d b C Mw p u c1 (by omega) (by omega) hc1 (by omega) fp
 rw[eTm_eq,eTy_eq] at hK1
 by_cases e1:c1=0
 rotate_left
 ·skip
  refine calldw 0 154 [ResultVar.tmp 6] TMBD_ok Tryz.func5 rfl Tryz.ntmps5 rfl fun cx hnt hn0=>?_
  ·skip
   refine dw_seq ?_;refine dwk [] TMBD_ok hnt fun _ z9=>z9 _ _ ?_;refine dw_seq ?_;refine dw_seq ?_;refine dwk [] TMBD_ok hnt fun K hK=>?_;refine dcl (hF1) ?_;refine dcl (hF9) ?_;refine dcl (hSm) ?_;refine hK _ _ ?_;clear hK K;refine dw_cond (t:=false) rfl ?_;rw[if_neg (by simp)];refine dw_skip ?_;refine dw_seq ?_;refine dwkD [] TMBD_ok hnt fun K hK=>?_;refine dcl (hWd) ?_
   refine dcl (hT1) ?_;refine dcl (hT9) ?_;refine hK _ _ (by kernel_rfl) ?_;clear hK K;refine dw_seq ?_;refine dwk [] TMBD_ok hnt fun K hK=>?_;refine dcl (hTy) ?_;refine hK _ _ ?_;clear hK K;refine dw_seq ?_;refine dw_seq ?_;refine dwk [(50,.v (.bool false)),(61,.v (.bool true))] TMBD_ok hnt fun K hK=>?_;refine And.intro (bneF rfl) ?_;refine dcl (hR) ?_;refine dcl (hK1) ?_;refine And.intro (bneT e1) ?_
   refine hK _ _ ?_;clear hK K;refine dw_cond (t:=true) rfl ?_;rw[if_pos rfl];refine dw_seq ?_;refine dwk [] TMBD_ok hnt fun K hK=>?_;refine dcl (hk) ?_;refine hK _ _ ?_;clear hK K;refine dw_ret ?_
   exact reta rfl
 subst e1
 obtain⟨code,hcode⟩:∃ code:Tm→Ty→Int,∀ t u,checkCode C Mw t [] u (code t u):=⟨fun t u=>Classical.choose (code_ex2 C Mw [] t u),fun t u=>Classical.choose_spec (code_ex2 C Mw [] t u)⟩
 have hSC0:=scheck_d b C Mw [] s (by omega) code hcode (fun x hx=>⟨by have:=(hsf x hx).1;simp;omega,(hsf x hx).2⟩) fun u hu=>by have:=hM60 u hu;omega
 have hSC:PureC Tryz.prog 28 [.ag [.v (.int .i64 b),.sl 2 (eTys C) none,.sl 2 (eTys Mw) none],.v (.slice none 0 0),.sl 5 (ePairs s) none] (.v (.int .i64 (if Sb.right s=true then chkL code Mw s else 1))):=CallC.vle hSC0 (.cons (VLe.refl _) (.cons (VLe.nil _) (.cons (VLe.refl _) .nil))) (VLe.refl _)
 clear hSC0
 obtain⟨cs,hcs⟩:∃ cs,(if Sb.right s=true then chkL code Mw s else 1)=cs:=⟨_,rfl⟩
 rw[hcs] at hSC
 by_cases e2:cs=0
 rotate_left
 ·skip
  refine calldw 0 154 [ResultVar.tmp 6] TMBD_ok Tryz.func5 rfl Tryz.ntmps5 rfl fun cx hnt hn0=>?_
  ·skip
   refine dw_seq ?_;refine dwk [] TMBD_ok hnt fun _ z9=>z9 _ _ ?_;refine dw_seq ?_;refine dw_seq ?_;refine dwk [] TMBD_ok hnt fun K hK=>?_;refine dcl (hF1) ?_;refine dcl (hF9) ?_;refine dcl (hSm) ?_;refine hK _ _ ?_;clear hK K;refine dw_cond (t:=false) rfl ?_;rw[if_neg (by simp)];refine dw_skip ?_;refine dw_seq ?_;refine dwkD [] TMBD_ok hnt fun K hK=>?_;refine dcl (hWd) ?_
   refine dcl (hT1) ?_;refine dcl (hT9) ?_;refine hK _ _ (by kernel_rfl) ?_;clear hK K;refine dw_seq ?_;refine dwk [] TMBD_ok hnt fun K hK=>?_;refine dcl (hTy) ?_;refine hK _ _ ?_;clear hK K;refine dw_seq ?_;refine dw_seq ?_;refine dwk [(50,.v (.bool false)),(61,.v (.bool false)),(67,.v (.bool true))] TMBD_ok hnt fun K hK=>?_;refine And.intro (bneF rfl) ?_;refine dcl (hR) ?_;refine dcl (hK1) ?_
   refine And.intro (bneF rfl) ?_;refine dcl (hSC) ?_;refine And.intro (bneT e2) ?_;refine hK _ _ ?_;clear hK K;refine dw_cond (t:=true) rfl ?_;rw[if_pos rfl];refine dw_seq ?_;refine dwk [] TMBD_ok hnt fun K hK=>?_;refine dcl (hk) ?_;refine hK _ _ ?_;clear hK K;refine dw_ret ?_
   exact reta rfl
 subst e2
 have hIs:=is_d p (by omega) fp
 rw[eTm_eq] at hIs
 cases hui:(Pn.uses p [] []).2 with
 | false=>
  rw[hui] at hIs
  refine calldw 0 154 [ResultVar.tmp 6] TMBD_ok Tryz.func5 rfl Tryz.ntmps5 rfl fun cx hnt hn0=>?_
  ·skip
   refine dw_seq ?_;refine dwk [] TMBD_ok hnt fun _ z9=>z9 _ _ ?_;refine dw_seq ?_;refine dw_seq ?_;refine dwk [] TMBD_ok hnt fun K hK=>?_;refine dcl (hF1) ?_;refine dcl (hF9) ?_;refine dcl (hSm) ?_;refine hK _ _ ?_;clear hK K;refine dw_cond (t:=false) rfl ?_;rw[if_neg (by simp)];refine dw_skip ?_;refine dw_seq ?_;refine dwkD [] TMBD_ok hnt fun K hK=>?_;refine dcl (hWd) ?_
   refine dcl (hT1) ?_;refine dcl (hT9) ?_;refine hK _ _ (by kernel_rfl) ?_;clear hK K;refine dw_seq ?_;refine dwk [] TMBD_ok hnt fun K hK=>?_;refine dcl (hTy) ?_;refine hK _ _ ?_;clear hK K;refine dw_seq ?_;refine dw_seq ?_;refine dwk [(50,.v (.bool false)),(61,.v (.bool false)),(67,.v (.bool false))] TMBD_ok hnt fun K hK=>?_;refine And.intro (bneF rfl) ?_;refine dcl (hR) ?_;refine dcl (hK1) ?_
   refine And.intro (bneF rfl) ?_;refine dcl (hSC) ?_;refine And.intro (bneF rfl) ?_;refine dcl (hIs) ?_;refine hK _ _ ?_;clear hK K;refine dw_cond (t:=true) rfl ?_;rw[if_pos rfl];refine dw_seq ?_;refine dwk [] TMBD_ok hnt fun K hK=>?_;refine dcl (hk) ?_;refine hK _ _ ?_;clear hK K;refine dw_ret ?_
   exact reta rfl
 | true=>
 rw[hui] at hIs
 have hp:=codeOf0 hc1
 have hr:Sb.right s=true:=by
  cases hr:Sb.right s with
  | true=>rfl
  | false=>rw[hr,if_neg (by simp)] at hcs;omega
 rw[hr,if_pos rfl] at hcs
 have hst:∀ q∈s,(∃ h,headTy C Mw [] 2 q.1=some h∧IsOf C Mw q.2 [] h)∧q.2.full≤150∧q.2.Fit:=fun q hq=>⟨Ru.chkL_ok hcode hcs q hq,(hsf q hq).1,(hsf q hq).2.1⟩
 have hMe:=metas_d [p] (by simp) (fun t ht=>by rw[List.mem_singleton] at ht;subst ht;omega)
 have eQ:eTms [p]=[[.sl 2 (eTys p.binds) none,.v (.int .i64 p.kind),.v (.int .i64 p.index),.sl 4 (eTms p.args) none]]:=by rw[←eTm_eq];rfl
 obtain⟨U,hU⟩:∃ U,sortU (metasL [p])=U:=⟨_,rfl⟩
 have hUl:U.length≤1000:=by
  rw[←hU]
  have h1:=Pn.nodup_len (sortU (metasL [p])) (metasL [p]) ((sortU_spec _).1.imp fun h=>Int.ne_of_lt h) fun x hx=>((sortU_spec _).2 x).1 hx
  have h2:=metasL_len [p] 60 (fun t ht=>by rw[List.mem_singleton] at ht;subst ht;exact hpz)
  simp at h2;omega
 rw[hU] at hMe
 have hG:=fun m=>sget_d s (by omega) (fun q hq=>⟨by have:=(hsf q hq).1;omega,(hsf q hq).2.1⟩) m
 have bp:Bnd 150 p:=Bnd.of_full p (by omega) fp
 have hsw:∀ x∈s,Bnd 150 x.2∧Wide x.2:=fun x hx=>⟨Bnd.of_full x.2 (hsf x hx).1 (hsf x hx).2.1,wide_full _ (by have:=(hsf x hx).1;omega)⟩
 have hAp:=apply_at 69 s (by omega) p (wide_full _ (by omega)) 10000 false ⟨by decide,by decide⟩ fun _=>Sb.apply_ok (B:=150) 10000 (by decide) (by decide) (by decide) s hsw p bp 10000 ⟨by decide,by decide⟩ false
 have hk1:=(Sb.apply_keeps (C:=C) (M:=Mw) (B:=150) (by decide) s [] hr (fun q hq=>⟨(hst q hq).1,(hsw q hq).1,by have:=(hsf q hq).1;omega⟩) p u hp bp (by simp only[List.length_nil];omega) 10000 false ⟨by decide,by decide⟩).1
 have hbl:=fun(hm:∀ m∈U,Sb.find s m≠none) z st ha he=>Pn.back_law (s:=s) (z:=z) (st:=st) hp hpz fp hui hr hst (by rw[hU];exact hm) ha he
 rw[hU] at hbl
 obtain⟨⟨z,st⟩,hap⟩:∃ r,Sb.apply s p 10000 false=r:=⟨_,rfl⟩
 rw[hap] at hAp hk1
 dsimp only at hAp hk1
 rw[eTm_eq,eTm_eq] at hAp
 refine calldw 0 154 [ResultVar.tmp 6] TMBD_ok Tryz.func5 rfl Tryz.ntmps5 rfl fun cx hnt hn0=>?_
 ·skip
  refine dw_seq ?_;refine dwk [] TMBD_ok hnt fun _ z9=>z9 _ _ ?_;refine dw_seq ?_;refine dw_seq ?_;refine dwk [] TMBD_ok hnt fun K hK=>?_;refine dcl (hF1) ?_;refine dcl (hF9) ?_;refine dcl (hSm) ?_;refine hK _ _ ?_;clear hK K;refine dw_cond (t:=false) rfl ?_;rw[if_neg (by simp)];refine dw_skip ?_;refine dw_seq ?_;refine dwkD [] TMBD_ok hnt fun K hK=>?_;refine dcl (hWd) ?_
  refine dcl (hT1) ?_;refine dcl (hT9) ?_;refine hK _ _ (by kernel_rfl) ?_;clear hK K;refine dw_seq ?_;refine dwk [] TMBD_ok hnt fun K hK=>?_;refine dcl (hTy) ?_;refine hK _ _ ?_;clear hK K;refine dw_seq ?_;refine dw_seq ?_;refine dwk [(50,.v (.bool false)),(61,.v (.bool false)),(67,.v (.bool false))] TMBD_ok hnt fun K hK=>?_;refine And.intro (bneF rfl) ?_;refine dcl (hR) ?_;refine dcl (hK1) ?_
  refine And.intro (bneF rfl) ?_;refine dcl (hSC) ?_;refine And.intro (bneF rfl) ?_;refine dcl (hIs) ?_;refine hK _ _ ?_;clear hK K;refine dw_cond (t:=false) rfl ?_;rw[if_neg (by simp)];refine dw_skip ?_;refine dw_seq ?_;refine dwk [(76,.sl 4 (eTms [p]) none)] TMBD_ok hnt fun K hK=>?_;refine And.intro ((by rw[eQ];exact VLe.untag _ _ _)) ?_;refine dcl (hMe) ?_;refine hK _ _ ?_;clear hK K
  refine dw_seq ?_;refine dw_seq ?_;refine dwk [] TMBD_ok hnt fun _ z9=>z9 _ _ ?_;refine dw_block ?_
  refine dw_loop (ι:={ j:Nat // ∀ i (h:i<U.length),i<j→(getT s U[i]).2=true }) (fun j=>[(.t 8,.p 23 0),(.t 9,.sl 5 (ePairs s) none),(.t 12,.sl 1 (eIs U) none),(.t 13,.v (.int .i64 ↑j.1)),(.c 23 0,.sl 2 (eTys p.binds) none),(.c 23 1,.v (.int .i64 p.kind)),(.c 23 2,.v (.int .i64 p.index)),(.c 23 3,.sl 4 (eTms p.args) none)]) 63 (fun j=>U.length-j.1) (⟨0,fun i h1 h2=>by omega⟩) (VS.toA) fun j=>?_
  obtain⟨j,hj⟩:=j
  dsimp only
  by_cases hlt:j<U.length
  ·have hg:=hG U[j]
   obtain⟨⟨G,gb⟩,hgb⟩:∃ r,getT s U[j]=r:=⟨_,rfl⟩
   rw[hgb] at hg
   dsimp only at hg
   rw[eTm_eq] at hg
   cases gb with
   | false=>
    refine dw_seq ?_;refine dw_seq ?_;refine dwk [(80,.v (.int .i64 (↑U.length))),(81,.v (.bool true))] TMBD_ok hnt fun K hK=>?_;refine And.intro (dintE (by rw[eIs_len])) ?_;refine And.intro auT ?_;refine hK _ _ ?_;clear hK K;refine dw_cond (t:=true) rfl ?_;rw[if_pos rfl];refine dw_skip ?_;refine dw_seq ?_;refine dw_block ?_;refine dw_seq ?_;refine dwk [(88,.q [.v (.int .i64 (U[j]))])] TMBD_ok hnt fun K hK=>?_
    refine And.intro (elo (eIs_len U)) ?_;refine And.intro (elv (eIs_getD U j) rfl) ?_;refine dcl (hg) ?_;refine hK _ _ ?_;clear hK K;refine dw_seq ?_;refine dwk [] TMBD_ok hnt fun _ z9=>z9 _ _ ?_;refine dw_cond (t:=true) rfl ?_;rw[if_pos rfl];refine dw_seq ?_;refine dwk [] TMBD_ok hnt fun K hK=>?_;refine dcl (hk) ?_;refine hK _ _ ?_;clear hK K;refine dw_ret ?_
    exact reta rfl
   | true=>
    refine dw_seq ?_;refine dw_seq ?_;refine dwk [(80,.v (.int .i64 (↑U.length))),(81,.v (.bool true))] TMBD_ok hnt fun K hK=>?_;refine And.intro (dintE (by rw[eIs_len])) ?_;refine And.intro auT ?_;refine hK _ _ ?_;clear hK K;refine dw_cond (t:=true) rfl ?_;rw[if_pos rfl];refine dw_skip ?_;refine dw_seq ?_;refine dw_block ?_;refine dw_seq ?_;refine dwk [(88,.q [.v (.int .i64 (U[j]))])] TMBD_ok hnt fun K hK=>?_
    refine And.intro (elo (eIs_len U)) ?_;refine And.intro (elv (eIs_getD U j) rfl) ?_;refine dcl (hg) ?_;refine hK _ _ ?_;clear hK K;refine dw_seq ?_;refine dwk [] TMBD_ok hnt fun _ z9=>z9 _ _ ?_;refine dw_cond (t:=false) rfl ?_;rw[if_neg (by simp)];refine dw_skip ?_;refine dwk [(83,.v (.int .i64 (↑(j+1))))] TMBD_ok hnt fun K hK=>?_;refine And.intro auI ?_;refine hK _ _ ?_;clear hK K
    refine⟨⟨j+1,fun i h1 h2=>if he:i=j then by subst he;rw[hgb] else hj i h1 (by omega)⟩,by first | omega | (dsimp only;omega),VS.toA⟩
  ·have hall:∀ m∈U,Sb.find s m≠none:=fun m hm=>by
    obtain⟨i,hi,rfl⟩:=List.getElem_of_mem hm
    exact getT_find s _ (hj i hi (by omega))
   by_cases he:st.e=0
   ·obtain⟨ok1,k,hk2,hkl,hkg⟩:=hbl hall z st hap he
    have hM:=mMatch_d p z ok1
    rw[hk2,eTm_eq,eTm_eq] at hM
    dsimp only at hM
    refine dw_seq ?_;refine dw_seq ?_;refine dwk [(80,.v (.int .i64 (↑U.length))),(81,.v (.bool false))] TMBD_ok hnt fun K hK=>?_;refine And.intro (dintE (by rw[eIs_len])) ?_;refine And.intro auF ?_;refine hK _ _ ?_;clear hK K;refine dw_cond (t:=false) rfl ?_;rw[if_neg (by simp)];refine dw_exit ?_;refine dw_seq ?_;refine dwkD [] TMBD_ok hnt fun K hK=>?_;refine dcn ((new_d 10000 (by decide)) _) ?_
    refine dcl (hAp) ?_;refine hK _ _ (by kernel_rfl) ?_;clear hK K;refine dw_seq ?_;refine dw_seq ?_;refine dwk [(104,.v (.bool false))] TMBD_ok hnt fun K hK=>?_;refine And.intro (bneF he) ?_;refine hK _ _ ?_;clear hK K;refine dw_cond (t:=false) rfl ?_;rw[if_neg (by simp)];refine dw_skip ?_;refine dw_seq ?_;refine dwk [] TMBD_ok hnt fun K hK=>?_;refine dcl (hM) ?_;refine hK _ _ ?_;clear hK K
    refine dw_seq ?_;refine dw_seq ?_;refine dwk [(117,.v (.bool false)),(120,.v (.int .i64 (↑k.length))),(122,.v (.int .i64 (↑U.length))),(123,.v (.bool false))] TMBD_ok hnt fun K hK=>?_;refine And.intro (bneF rfl) ?_;refine And.intro (dintE (by rw[ePairs_len])) ?_;refine And.intro (dintE (by rw[eIs_len])) ?_;refine And.intro (bneF (by omega)) ?_;refine hK _ _ ?_;clear hK K;refine dw_cond (t:=false) rfl ?_
    rw[if_neg (by simp)];refine dw_skip ?_;refine dw_seq ?_;refine dw_seq ?_;refine dwk [] TMBD_ok hnt fun _ z9=>z9 _ _ ?_;refine dw_block ?_
    refine dw_loop (ι:=Nat) (fun j=>[(.t 9,.sl 5 (ePairs s) none),(.t 18,.sl 5 (ePairs k) none),(.t 20,.v (.int .i64 (j:Int)))]) 100 (fun j=>k.length-j) (0) (VS.toA) fun j=>?_
    by_cases hlt:j<k.length
    ·have hg:=hG k[j].1
     rw[hkg j hlt] at hg
     have hEq:=equal2_d k[j].2 k[j].2
     rw[decide_eq_true rfl] at hEq
     dsimp only at hg
     rw[eTm_eq] at hg hEq
     refine dw_seq ?_;refine dw_seq ?_;refine dwk [(127,.v (.int .i64 (↑k.length))),(128,.v (.bool true))] TMBD_ok hnt fun K hK=>?_;refine And.intro (dintE (by rw[ePairs_len])) ?_;refine And.intro auT ?_;refine hK _ _ ?_;clear hK K;refine dw_cond (t:=true) rfl ?_;rw[if_pos rfl];refine dw_skip ?_;refine dw_seq ?_;refine dw_block ?_;refine dw_seq ?_;refine dwk [(135,.q [.v (.int .i64 k[j].1),.sl 2 (eTys k[j].2.binds) none,.v (.int .i64 k[j].2.kind),.v (.int .i64 k[j].2.index),.sl 4 (eTms k[j].2.args) none])] TMBD_ok hnt fun K hK=>?_
     refine And.intro (elo (ePairs_len k)) ?_;refine And.intro (elv (ePairs_getD k j) (ePair_eq _)) ?_;refine dcl (hg) ?_;refine hK _ _ ?_;clear hK K;refine dw_seq ?_;refine dwkD [(146,.q [.v (.int .i64 k[j].1),.sl 2 (eTys k[j].2.binds) none,.v (.int .i64 k[j].2.kind),.v (.int .i64 k[j].2.index),.sl 4 (eTms k[j].2.args) none])] TMBD_ok hnt fun K hK=>?_;refine And.intro (elo (ePairs_len k)) ?_
     refine And.intro (elv (ePairs_getD k j) (ePair_eq _)) ?_;refine dcl (hEq) ?_;refine hK _ _ (by kernel_rfl) ?_;clear hK K;refine dw_cond (t:=false) rfl ?_;rw[if_neg (by simp)];refine dw_skip ?_;refine dwk [(130,.v (.int .i64 (↑(j+1))))] TMBD_ok hnt fun K hK=>?_;refine And.intro auI ?_;refine hK _ _ ?_;clear hK K
     refine⟨(j+1),by first | omega | (dsimp only;omega),VS.toA⟩
    ·skip
     refine dw_seq ?_;refine dw_seq ?_;refine dwk [(127,.v (.int .i64 (↑k.length))),(128,.v (.bool false))] TMBD_ok hnt fun K hK=>?_;refine And.intro (dintE (by rw[ePairs_len])) ?_;refine And.intro auF ?_;refine hK _ _ ?_;clear hK K;refine dw_cond (t:=false) rfl ?_;rw[if_neg (by simp)];refine dw_exit ?_;refine dw_seq ?_;refine dwk [] TMBD_ok hnt fun K hK=>?_;refine dcl (hk) ?_;refine hK _ _ ?_;clear hK K
     refine dw_ret ?_
     exact reta rfl
   ·skip
    refine dw_seq ?_;refine dw_seq ?_;refine dwk [(80,.v (.int .i64 (↑U.length))),(81,.v (.bool false))] TMBD_ok hnt fun K hK=>?_;refine And.intro (dintE (by rw[eIs_len])) ?_;refine And.intro auF ?_;refine hK _ _ ?_;clear hK K;refine dw_cond (t:=false) rfl ?_;rw[if_neg (by simp)];refine dw_exit ?_;refine dw_seq ?_;refine dwkD [] TMBD_ok hnt fun K hK=>?_;refine dcn ((new_d 10000 (by decide)) _) ?_
    refine dcl (hAp) ?_;refine hK _ _ (by kernel_rfl) ?_;clear hK K;refine dw_seq ?_;refine dw_seq ?_;refine dwk [(104,.v (.bool true))] TMBD_ok hnt fun K hK=>?_;refine And.intro (bneT he) ?_;refine hK _ _ ?_;clear hK K;refine dw_cond (t:=true) rfl ?_;rw[if_pos rfl];refine dw_seq ?_;refine dwk [(108,.v (.bool true))] TMBD_ok hnt fun K hK=>?_;refine dcl (hk) ?_;refine And.intro (bneT hk1) ?_
    refine hK _ _ ?_;clear hK K;refine dw_ret ?_
    exact reta rfl
end Go.Proofs.YtflbnonbfmmchaaGreat
