/-
  spot.Each as an iterator; match.Find. match.Find: the first place where a pattern matches. The law MatchFinds. spot.At, walked in the deep way. The laws' Small (seats without Chk9). Pairs of terms with the types of their metavariables (rule.Pair, filigreeref17.Pair), and the laws' helpers for them: To, Of, Same, Few. Package rule, walked in the deep way: met, term. Package rule, walked in the deep way: Own, Of, Equal, Variant. The document's numbers of a pair (order, renamed) are those of package rule. The document's answer of layer 17: order, renamed, Own, Variant. Package lift, walked in the deep way: variables, each, term. A loop over a function, whose round writes to what its own assignment laid. The reference's loose indexes, and terms that grow. The document's heads of a term. The document's Heads and Count. term.Count. slices.Sort and slices.Compact of ints of the call's own; what they hand back rises. A function that has run loops over functions leaves with a mark for each; rows of ints that grow within such rounds. term.Metas. Package lift, walked in the deep way: may, done, Over, Closed, Subst; spot.Close. LiftSubsts, walked in the deep way. How large long forms are, and that their indexes fit. How large lifted terms are, and that their indexes fit. The document's Like. The document's Metas. The document's Metas, walked in the deep way. Which of two types is less: by size, by how many arguments, argument by argument, by base; and what that order promises. Which of two terms is less: the plain law. sign, cmp.Compare and cmp.Or of ints. The document's order of types. The document's order of terms. A context with more binders: the program's and the document's. term.is: whether a term is of a type. The document's Is: whether a term is of a type. The document's Depth, Right, Check; term.Check. The document's answer of layer 22: lifted, Over, Closed. What the members of a gathering yield: a list of standard shapes. term.HeadType, term.TypeOf. The document's TypeOf. Whether a world may be: the program's RightWorld and the document's. The laws' worlds: World, Small; the document's RightWorld. The contracts of heads and types once more, where all of memory may be read. Checks of substitutions: what is called, as deep contracts. term's TypeOf and Check, walked in the deep way. What rule.Typed and the document's Typed call, as deep contracts. Typed and Check: rule's and the document's. Check: rule's and the document's. The known answer of the laws of layer 17. RuleOwns, walked in the deep way. A rule in its own numbers is a rule, in plain Lean. A typed pair in its own numbers: typed, a rule just where the pair is one; plain. subst.Apply, walked in the deep way. The known answer of the laws of layer 9. rule.Instance, walked in the deep way. Swap of rule and of the document. Orders: rule's and the document's. RuleChecks, walked in the deep way. rule.Typed alone. kind.Compare. term.all: which of two lists is less. term.Compare. RuleOrders, walked in the deep way. The law RuleKeeps.
-/
import Derived.Test.YtflbnonbfmmchaaGreatRowMatchSoundp9
import Derived.Test.YtflbnonbfmmchaaGreatRowMatchSoundp5
import Derived.Test.YtflbnonbfmmchaaGreatRowMatchSoundp8
import Derived.Test.YtflbnonbfmmchaaGreatRowMatchSoundp6
import Derived.Test.YtflbnonbfmmchaaGreatRowMatchSoundp1
import Derived.Deep.QuietTactic
import Derived.BigQuiet
import Derived.WalkSmall
import Derived.Lib.OwnBridge
import Derived.Sort.OwnSortedInts
import Derived.RangeFuncBox
import Derived.Test.YtflbnonbfmmchaaGreatRowMatchSoundp4
import Derived.Test.YtflbnonbfmmchaaGreatRowMatchSoundp7
set_option maxRecDepth 100000
set_option maxHeartbeats 1000000
set_option linter.unusedVariables false
set_option linter.unusedSimpArgs false
namespace Go.Proofs.YtflbnonbfmmchaaGreat
open Go.RowKit Go.Shelf
attribute [local go_sem] Oper.semAt_some

def TBD_41:TI:=⟨4,true,[Value.slice none 0 0,Value.int IntKind.i64 0,Value.int IntKind.i64 0,Value.slice none 0 0],[(0,1,false),(1,2,true),(3,1,false)],none,64,6,none,false⟩
theorem TBD_41_ok:TypOk Tryz.prog 41 TBD_41:=by constructor <;> kernel_rfl
def TBD_33:TI:=⟨1,false,[Value.slice none 0 0],[],some 44,24,5,none,false⟩
theorem TBD_33_ok:TypOk Tryz.prog 33 TBD_33:=by constructor <;> kernel_rfl
def TBD_44:TI:=⟨2,true,[Value.slice none 0 0,Value.int IntKind.i64 0],[(0,1,false),(1,1,false)],none,32,6,none,false⟩
theorem TBD_44_ok:TypOk Tryz.prog 44 TBD_44:=by constructor <;> kernel_rfl
def TBD:List (Nat×TI):=[(41,TBD_41),(33,TBD_33),(44,TBD_44)]
theorem TBD_ok:TabOk Tryz.prog TBD:=((((TabOk.nil _).cons TBD_44_ok).cons TBD_33_ok).cons TBD_41_ok)
theorem body_d (t:Tm)(hsz:t.full≤80000)(hfit:t.Fit):PureC Tryz.prog 23 [.ag (eTm t)] (.ag (eTm (Pn.nb t))):=by
 have h:=copy_d t hsz hfit
 rw[eTm_eq] at h ⊢
 rw[show eTm (Pn.nb t)=[.sl 2 [] none,.v (.int .i64 t.kind),.v (.int .i64 t.index),.sl 4 (eTms t.args) none] by rw[eTm_eq];rfl]
 refine calldw 0 8 [ResultVar.cell 2 41] TBD_ok Tryz.func23 rfl Tryz.ntmps23 rfl fun cx hnt hn0=>?_
 ·skip
  refine dw_seq ?_;refine dwk [] TBD_ok hnt fun K hK=>hK _ _ ?_;clear hK K;refine dw_seq ?_;refine dwk [] TBD_ok hnt fun K hK=>?_;refine dcl (h) ?_;refine hK _ _ ?_;clear hK K;refine dw_seq ?_;refine dwk [] TBD_ok hnt fun K hK=>hK _ _ ?_;clear hK K;refine dw_seq ?_;refine dwk [] TBD_ok hnt fun K hK=>hK _ _ ?_;clear hK K;refine dw_ret ?_
  exact reta rfl
theorem seach_k (b k i a:Value)(n:Nat)(w:World)(hs:∃ p m c,b=.slice p m c)(hk:∃ x,k=.int .i64 x)(hi:∃ x,i=.int .i64 x)(ha:∃ p m c,a=.slice p m c):
  CallsIn Fence.wide n Tryz.prog 72 #[.agg #[b,k,i,a]] w fun e w'=>e=.returned (.func (.func 121) #[] #[.pointer (some ⟨w.heap.size,0,none⟩)])∧w'=w.alloc (.cells #[b,k,i,a] 41):=by
 obtain⟨pb,mb,cb,rfl⟩:=hs
 obtain⟨kx,rfl⟩:=hk
 obtain⟨ix,rfl⟩:=hi
 obtain⟨pa,ma,ca,rfl⟩:=ha
 refine callsIn_of_wp Tryz.func72 rfl trivial ?_ rfl
 simp only[Tryz.ntmps72,List.size_toArray,List.length_cons,List.length_nil,Nat.reduceAdd,Nat.reduceSub,Array.replicate_succ,Array.replicate_zero,List.push_toArray,List.append_toArray,List.nil_append,List.cons_append]
 gi_wp2_with fail
 go_ret
 exact⟨rfl,rfl⟩
theorem rf_nil (F:Nat→Prop)(w:World)(n:Nat):RF F w (.slice none 0 0) (.sl n [] none):=
 .sl none 0 0 0 n (fun _ _=>undef) [] none ⟨Nat.zero_le _,Nat.le_refl _⟩ (fun h=>absurd h (by simp)) (fun i j h=>absurd h (by simp)) (fun i h=>absurd h (by simp)) (fun i j h=>absurd h (by simp)) (fun i h=>absurd h (by simp)) (fun r e=>by cases e)
theorem seach1_k (F:Nat→Prop)(Y:Nat→Nat→Prop)(Q0:Pn.Spot→Prop)(l B0:Nat)(hF:∀ k,B0≤k→F k)(hYB:∀ k o,B0≤k→Y k o)(J Jx:List HitS→World→Prop){B1:Nat}(hJ:Mild NoCell B1 J) 
  {b k i a:Value} {t:Tm} (hz:t.full≤40000) (hfit:t.Fit) (n:Nat) (W:World)
  (hY:∀ pre x V,J pre V→x.R F Y Q0 V→pre.length < t.size→YieldAt Fence.wide (n - 1) Tryz.prog l (HitS.enc x) V fun e W'=>
   (e=.returned (.bool true)∧J (pre ++ [x]) W'∧KeepC AllC V W')∨(e=.returned (.bool false)∧Jx (pre ++ [x]) W'∧KeepC (FromC B0) V W'))
  (hQs:∀ s∈Pn.subs t [] [],Q0 s) {F1:Nat→Prop} (ht:IsTm F1 W b k i a t) (hyt:RX Y W (.agg #[b,k,i,a]) (.ag (eTm t))) (hB0:B0≤W.heap.size) (Bt:Nat) (c0:W.cell? ⟨Bt,0,none⟩=some b) (c1:W.cell? ⟨Bt,1,none⟩=some k) (c2:W.cell? ⟨Bt,2,none⟩=some i) (c3:W.cell? ⟨Bt,3,none⟩=some a) (h0:J [] W) :
  CallsIn Fence.wide n Tryz.prog 121 #[.func (.yield l) #[] #[],.pointer (some ⟨Bt,0,none⟩)] W fun e W'=>(∃ v,e=.returned v) ∧
   ((∃ ys,ys.map HitS.s=Pn.subs t [] []∧J ys W')∨(∃ pre,pre.map HitS.s <+: Pn.subs t [] []∧Jx pre W')):=by
 have hdd:∀ k:Nat,(Fence.wide.depth.isSome=true→1≤k):=fun k h=>by cases h
 have hf:=Tm.size_le_full t
 have hdp:=Tm.depth_le_size t
 have hp:=Lib.hid (sdown_k F Y Q0 l t.size B0 hF hYB J Jx hJ (fun m pre x V hj hr hl=>yield_any rfl m (hY pre x V hj hr hl)) t (by omega) hfit [] [] none 0 (n - 1) [] W hQs ht hyt (rf_nil F W 1) hB0 h0 (by simp) (by simp;omega))
 clear hY
 obtain⟨pa,pc,qa,qc,rfl,rfl,rfl,rfl⟩:=ht.shape
 refine callsIn_of_wp Tryz.func121 rfl trivial ?_ rfl
 simp only[Tryz.ntmps121,List.size_toArray,List.length_cons,List.length_nil,Nat.reduceAdd,Nat.reduceSub,Array.replicate_succ,Array.replicate_zero,List.push_toArray,List.append_toArray,List.nil_append,List.cons_append]
 gi_wp2_with fail
 refine⟨trivial,hdd _,hp.out.mono ?_⟩
 rintro e W1 (⟨rfl,hk,ys,hys,hJ1⟩ | ⟨rfl,hk,ys,hys,hx⟩)
 ·have A1:=Lib.hid hys;clear hys
  gi_wp2_with fail
  go_end0
  exact⟨⟨_,rfl⟩,.inl ⟨ys,A1.out,by simpa using hJ1⟩⟩
 ·have A1:=Lib.hid hys;clear hys
  gi_wp2_with fail
  go_end0
  exact⟨⟨_,rfl⟩,.inr ⟨ys,A1.out,by simpa using hx⟩⟩
theorem seach_soft (F:Nat→Prop)(Y:Nat→Nat→Prop)(Q0:Pn.Spot→Prop)(B0:Nat)(hF:∀ k,B0≤k→F k)(hYB:∀ k o,B0≤k→Y k o){b k i a:Value}{t:Tm}(hz:t.full≤40000)(hfit:t.Fit)(n:Nat)(w:World)(hQs:∀ s∈Pn.subs t [] [],Q0 s){F1:Nat→Prop}(ht:IsTm F1 w b k i a t)(hyt:RX Y w (.agg #[b,k,i,a]) (.ag (eTm t)))(hB0:B0≤w.heap.size)(Bt:Nat)(hB:Blk w Bt #[b,k,i,a] 41):
  SeqSoftR NoCell Fence.wide n Tryz.prog 121 #[.pointer (some ⟨Bt,0,none⟩)] HitS.enc (HitS.R F Y Q0) (KeepC AllC) (KeepC (FromC B0)) (fun ys=>ys.map HitS.s=Pn.subs t [] []) (fun p=>p.map HitS.s <+: Pn.subs t [] []) t.size w:=
 fun l J Jx W hW hJ _ hY h0=>by
  have hB':=hB.below hW
  exact seach1_k F Y Q0 l B0 hF hYB J Jx hJ hz hfit n W hY hQs (ht.bel hW) (hyt.keep (fun _ _ h=>h) (fun b o v _ hv=>(hW.cell (p:=⟨b,o,none⟩) (Keep.lt hv)).trans hv)) (Nat.le_trans hB0 hW.size) Bt (hB'.cell rfl) (hB'.cell rfl) (hB'.cell rfl) (hB'.cell rfl) h0

/-! match.Find -/
theorem cell_soft {W W':World}{row:Option Nat}(hg:W.grownBy W' row)(hr:∀ r,row=some r→∃ o:Obj,W.heap[r]?=some o∧NoCell o){p:Addr}{v:Value}(h:W.cell? p=some v):W'.cell? p=some v:=
 cell_kept h hg fun r e=>hr r e
theorem blk_soft {W W':World}{row:Option Nat}(hg:W.grownBy W' row)(hr:∀ r,row=some r→∃ o:Obj,W.heap[r]?=some o∧NoCell o){n:Nat}{cs:Array Value}{T:TypeId}(h:Blk W n cs T):Blk W' n cs T:=
 h.grown hg fun e=>by
  obtain⟨o,ho,h'⟩:=hr _ e
  have hb:W.heap[n]?=_:=h
  rw[hb] at ho;cases ho
  simp[NoCell,Obj.isCells] at h'
end Go.Proofs.YtflbnonbfmmchaaGreat
namespace Go.Proofs.YtflbnonbfmmchaaGreat
open Go.RowKit Go.Shelf
attribute [local go_sem] Oper.semAt_some

def FindPost (X:Nat→Nat→Prop)(w:World)(r:List Int×List (Int×Tm)×Int)(e:Ending)(w':World):Prop:=
 ∃ v1 v2,e=.returned (.tuple #[v1,v2,.int .i64 r.2.2])∧Below w.heap.size w w'∧RX (fun b o=>X b o∨w.heap.size≤b) w' v1 (.sl 1 (eIs r.1) none)∧RX (fun b o=>X b o∨w.heap.size≤b) w' v2 (.sl 5 (ePairs r.2.1) none)
theorem rx_nil (X:Nat→Nat→Prop)(w:World)(n:Nat):RX X w (.slice none 0 0) (.sl n [] none):=
 .sl none 0 0 0 n (fun _ _=>undef) [] none ⟨Nat.zero_le _,Nat.le_refl _⟩ (fun h=>absurd h (by simp)) (fun i j h=>absurd h (by simp)) (fun i h=>absurd h (by simp)) (fun i j h=>absurd h (by simp)) (fun i h=>absurd h (by simp)) (fun r e=>by cases e)
theorem rx_v {X:Nat→Nat→Prop}{w:World}{v x:Value}(h:RX X w v (.v x)):v=x:=rel_v.1 h
set_option maxRecDepth 100000 in
set_option maxHeartbeats 2000000 in
theorem find_k {X:Nat→Nat→Prop}{w:World}{F1 F2:Nat→Prop}{pb pk pi pa tb tk ti ta:Value}{p t:Tm}(hp:IsTm F1 w pb pk pi pa p)(ht:IsTm F2 w tb tk ti ta t)(hxp:RX X w (.agg #[pb,pk,pi,pa]) (.ag (eTm p)))(hxt:RX X w (.agg #[tb,tk,ti,ta]) (.ag (eTm t))) 
  (hX:∀ b o,X b o→b < w.heap.size) (h1:p.full≤250∧p.Fit) (h2:t.full≤10000∧lowB t=true∧t.Fit) :
  Calls Tryz.prog 21 #[.agg #[pb,pk,pi,pa],.agg #[tb,tk,ti,ta]] w (FindPost X w (Pn.fnd p t)):=by
 refine(callsIn_wide (n:=9)).1 ?_
 have Hxp:=Lib.hid hxp;clear hxp
 have Hxt:=Lib.hid hxt;clear hxt
 have Ht:=Lib.hid (ht.weaken (F':=fun _=>True) fun _ _ _=>trivial)
 have hpl:p.binds.length≤9000000:=by have:=Ty.le_sizes p.binds;have:=h1.1;obtain⟨b,k,i,a⟩:=p;rw[Tm.full_eq] at this;simp only[Tm.binds] at *;omega
 have H1:=Lib.hid h1;clear h1
 have H2:=Lib.hid h2;clear h2
 have HX:=Lib.hid hX;clear hX
 obtain⟨p1,p2,p3,p4,rfl,rfl,rfl,rfl⟩:=hp.shape
 obtain⟨t1,t2,t3,t4,rfl,rfl,rfl,rfl⟩:=ht.shape
 clear ht hp
 obtain⟨x1,hx1⟩:∃ x,p.binds.length=x:=⟨_,rfl⟩
 obtain⟨x2,hx2⟩:∃ x,p.args.length=x:=⟨_,rfl⟩
 obtain⟨x3,hx3⟩:∃ x,p.kind=x:=⟨_,rfl⟩
 obtain⟨x4,hx4⟩:∃ x,p.index=x:=⟨_,rfl⟩
 rw[hx1,hx2,hx3,hx4] at Hxp ⊢
 rw[hx1] at hpl
 have Hx1:=Lib.hid hx1
 clear hx1 hx2 hx3 hx4
 obtain⟨z1,hz1⟩:∃ x,t.binds.length=x:=⟨_,rfl⟩
 obtain⟨z2,hz2⟩:∃ x,t.args.length=x:=⟨_,rfl⟩
 obtain⟨z3,hz3⟩:∃ x,t.kind=x:=⟨_,rfl⟩
 obtain⟨z4,hz4⟩:∃ x,t.index=x:=⟨_,rfl⟩
 rw[hz1,hz2,hz3,hz4] at Ht Hxt ⊢
 clear hz1 hz2 hz3 hz4
 obtain⟨r,hr⟩:∃ r,Pn.fnd p t=r:=⟨_,rfl⟩
 rw[hr]
 have Hr:=Lib.hid hr;clear hr
 refine callsIn_of_wp_marks Tryz.func21 rfl trivial ?_ rfl
 simp only[Tryz.ntmps21,List.size_toArray,List.length_cons,List.length_nil,Nat.reduceAdd,Nat.reduceSub,Array.replicate_succ,Array.replicate_zero,List.push_toArray,List.append_toArray,List.nil_append,List.cons_append]
 by_cases hb:(0:Int) < (x1:Int)
 ·have Hre:r=([],[],1):=by
   rw[←Hr.out,Pn.fnd,if_pos]
   intro h
   have:=Hx1.out
   rw[h] at this
   simp at this;omega
  gi_wp2_with fail
  refine⟨.tuple #[.slice none 0 0,.slice none 0 0,.int .i64 1],by simp[results,Tryz.results21,go_sem],?_⟩
  subst Hre
  exact⟨_,_,rfl,(((((Below.refl _ w).alloc (Nat.le_refl _) _).alloc (by simp) _).alloc (by simp;omega) _).alloc (by simp;omega) _).alloc (by simp;omega) _,rx_nil _ _ _,rx_nil _ _ _⟩
 ·obtain⟨w5,hw5⟩:∃ w5,((((w.alloc (.cells #[.slice p1 x1 p2,.int .i64 x3,.int .i64 x4,.slice p3 x2 p4] 41)).alloc (.cells #[.slice t1 z1 t2,.int .i64 z3,.int .i64 z4,.slice t3 z2 t4] 41)).alloc (.cells #[.slice none 0 0] 59)).alloc (.cells #[.slice none 0 0] 51)).alloc (.cells #[.int .i64 0] 45)=w5:=⟨_,rfl⟩
  have B5:Below w.heap.size w w5:=by rw[←hw5];exact(((((Below.refl _ w).alloc (Nat.le_refl _) _).alloc (by simp) _).alloc (by simp;omega) _).alloc (by simp;omega) _).alloc (by simp;omega) _
  have hs5:w5.heap.size=w.heap.size + 5:=by rw[←hw5];simp
  have y0:Blk w5 w.heap.size #[.slice p1 x1 p2,.int .i64 x3,.int .i64 x4,.slice p3 x2 p4] 41:=by rw[←hw5];exact((((Blk.new _ _ _ rfl).alloc _).alloc _).alloc _).alloc _
  have y1:Blk w5 (w.heap.size + 1) #[.slice t1 z1 t2,.int .i64 z3,.int .i64 z4,.slice t3 z2 t4] 41:=by rw[←hw5];exact(((Blk.new _ _ _ (by simp)).alloc _).alloc _).alloc _
  have y4:Blk w5 (w.heap.size + 1 + 1) #[.slice none 0 0] 59:=by rw[←hw5];exact((Blk.new _ _ _ (by simp)).alloc _).alloc _
  have y5:Blk w5 (w.heap.size + 1 + 1 + 1) #[.slice none 0 0] 51:=by rw[←hw5];exact(Blk.new _ _ _ (by simp)).alloc _
  have y6:Blk w5 (w.heap.size + 1 + 1 + 1 + 1) #[.int .i64 0] 45:=by rw[←hw5];exact Blk.new _ _ _ (by simp)
  have c0:w5.cell? ⟨w.heap.size,0,none⟩=some (.slice p1 x1 p2):=y0.cell rfl
  have c1:w5.cell? ⟨w.heap.size,1,none⟩=some (.int .i64 x3):=y0.cell rfl
  have c2:w5.cell? ⟨w.heap.size,2,none⟩=some (.int .i64 x4):=y0.cell rfl
  have c3:w5.cell? ⟨w.heap.size,3,none⟩=some (.slice p3 x2 p4):=y0.cell rfl
  gi_wp2_with fail
  try rw[hw5]
  clear hw5 c0 c1 c2 c3
  refine⟨trivial,callsIn_wide.2 ((calls_rx (mmay_d p (by have:=H1.out.1;omega) H1.out.2) (vs:=[.agg #[.slice p1 x1 p2,.int .i64 x3,.int .i64 x4,.slice p3 x2 p4]]) ⟨Hxp.out.keep (fun _ _ h=>h) (fun b o v hx hv=>(B5.cell (p:=⟨b,o,none⟩) (HX.out b o hx)).trans hv),trivial⟩).mono ?_)⟩
  rintro e w6 ⟨v,rfl,hb6,hv⟩
  have:=rx_v hv
  subst this
  clear hv
  have B6:=B5.trans (hb6.mono (by omega))
  have hs6:=hb6.size
  have y0:=y0.below hb6
  have y1:=y1.below hb6
  have y4:=y4.below hb6
  have y5:=y5.below hb6
  have y6:=y6.below hb6
  obtain⟨e0,he0⟩:∃ e0,Pn.may p=e0:=⟨_,rfl⟩
  rw[he0]
  have He0:=Lib.hid he0
  clear he0 hb6
  by_cases hm:e0=0
  ·subst hm
   have c0:w6.cell? ⟨w.heap.size + 1,0,none⟩=some (.slice t1 z1 t2):=y1.cell rfl
   have c1:w6.cell? ⟨w.heap.size + 1,1,none⟩=some (.int .i64 z3):=y1.cell rfl
   have c2:w6.cell? ⟨w.heap.size + 1,2,none⟩=some (.int .i64 z4):=y1.cell rfl
   have c3:w6.cell? ⟨w.heap.size + 1,3,none⟩=some (.slice t3 z2 t4):=y1.cell rfl
   gi_wp2_with fail
   refine⟨trivial,(seach_k _ _ _ _ _ _ ⟨_,_,_,rfl⟩ ⟨_,rfl⟩ ⟨_,rfl⟩ ⟨_,_,_,rfl⟩).mono ?_⟩
   rintro e w7 ⟨rfl,hw7⟩
   have b7:Below w6.heap.size w6 w7:=by rw[hw7];exact(Below.refl _ _).alloc (Nat.le_refl _) _
   have y7:Blk w7 w6.heap.size #[.slice t1 z1 t2,.int .i64 z3,.int .i64 z4,.slice t3 z2 t4] 41:=by rw[hw7];exact Blk.new _ _ _ rfl
   have hs7:w6.heap.size < w7.heap.size:=by rw[hw7];simp
   clear hw7 c0 c1 c2 c3
   have B7:=B6.trans (b7.mono B6.size)
   have y0:=y0.below b7
   have y4:=y4.below b7
   have y5:=y5.below b7
   have y6:=y6.below b7
   clear y1
   have hHit:∀ s∈Pn.subs t [] [],PureC Tryz.prog 17 [.ag (eTm p),.ag (eTm (Pn.nb s.1))] (.tu [.sl 5 (ePairs (Pn.mAll [(p,Pn.nb s.1)]).1) none,.v (.int .i64 (Pn.mAll [(p,Pn.nb s.1)]).2)])∧s.1.full≤10000∧s.1.Fit:=fun s hs=>by
    have r2:=subs_part t [] [] H2.out.2.2 s hs
    have r3:=Pn.subs_low t H2.out.2.1 [] [] s hs
    have r4:=H2.out.1
    have r5:=r2.1
    refine⟨mMatch_d p _ ⟨H1.out.1,H1.out.2,?_,Pn.nb_low r3,Pn.nb_fit r2.2⟩,by omega,r2.2⟩
    have:(Pn.nb s.1).full≤s.1.full:=by obtain⟨⟨b,k,i,a⟩,_⟩:=s;show (Tm.mk [] k i a).full≤_;rw[Tm.full_eq,Tm.full_eq];simp[Ty.sizes]
    dsimp only;omega
   have HHit:=Lib.hid hHit;clear hHit
   gi_wp2_with fail
   refine range_softR (Ok:=NoCell) (fun o h=>h) rfl (by omega) (gf:=121) (lb:=#[.pointer (some ⟨w6.heap.size,0,none⟩)]) rfl trivial (enters_of Tryz.func121 (by kernel_rfl) rfl)
    (seach_soft (fun k=>w7.heap.size≤k) (fun b o=>X b o∨w7.heap.size≤b) (fun s=>s∈Pn.subs t [] []) w7.heap.size (fun k h=>h) (fun k o h=>.inr h) (by have:=H2.out.1;omega) H2.out.2.2 (9 - 1) w7 (fun s h=>h) (Ht.out.bel B7) (Hxt.out.keep (fun _ _ h=>.inl h) (fun b o v _ hv=>(B7.cell (p:=⟨b,o,none⟩) (Keep.lt hv)).trans hv)) (Nat.le_refl _) w6.heap.size y7)
    (fun h h'=>h.trans h') (fun h h'=>(h.lower (fun _ _ _=>trivial)).trans h') (fun h h'=>h.trans (h'.lower (fun _ _ _=>trivial))) (fun W l o o' _ hl ho _=>KeepC.putObj _ W l o o' hl ho) (Below.refl _ _) (fun _=>rfl)
    (fun pre W=>Hid (∀ x∈pre,Pn.hit p x.s=false)∧Below w7.heap.size w7 W)
    (fun c pre W=>c=.ret∧∃ v1 v2,Hid (∃ pre' x,pre=pre' ++ [x]∧(∀ y∈pre',Pn.hit p y.s=false)∧Pn.hit p x.s=true∧RX (fun b o=>X b o∨w7.heap.size≤b) W v1 (.sl 1 (eIs x.s.2.2) none)∧RX (fun b o=>X b o∨w7.heap.size≤b) W v2 (.sl 5 (ePairs (Pn.mAll [(p,Pn.nb x.s.1)]).1) none)) ∧
     Blk W (w.heap.size + 1 + 1) #[v1] 59∧Blk W (w.heap.size + 1 + 1 + 1) #[v2] 51∧Blk W (w.heap.size + 1 + 1 + 1 + 1) #[.int .i64 0] 45∧Below w.heap.size w W)
    (fun s W W' row hs hg hr=>⟨hs.1,hs.2.grown hg hs.2.size (fun k e=>(hr k e).1)⟩)
    (fun c s W W' row hs hg hr=>by
     obtain⟨rfl,v1,v2,hh,q1,q2,q3,q4⟩:=hs
     obtain⟨pre',x,e1,e2,e3,e4,e5⟩:=hh.out
     have hr':∀ r,row=some r→∃ o:Obj,W.heap[r]?=some o∧NoCell o:=fun r e=>(hr r e).2
     refine⟨rfl,v1,v2,⟨pre',x,e1,e2,e3,e4.keep (fun _ _ h=>h) (fun b o v _ hv=>cell_soft hg hr' hv),e5.keep (fun _ _ h=>h) (fun b o v _ hv=>cell_soft hg hr' hv)⟩,blk_soft hg hr' q1,blk_soft hg hr' q2,blk_soft hg hr' q3,q4.grown hg q4.size (fun k e=>by have:=(hr k e).1;omega)⟩)
    ⟨fun x hx=>(by cases hx),Below.refl _ _⟩
    (fun x a' W=>∃ Bx,w7.heap.size≤Bx∧Blk W Bx #[.slice x.pb x.s.1.binds.length x.cb,.int .i64 x.s.1.kind,.int .i64 x.s.1.index,.slice x.pa x.s.1.args.length x.ca] 41∧HitS.R (fun k=>w7.heap.size≤k) (fun b o=>X b o∨w7.heap.size≤b) (fun s=>s∈Pn.subs t [] []) x W∧a'={ tmps:=#[.agg #[.slice p1 x1 p2,.int .i64 x3,.int .i64 x4,.slice p3 x2 p4],.agg #[.slice t1 z1 t2,.int .i64 z3,.int .i64 z4,.slice t3 z2 t4],.pointer (some ⟨w.heap.size,0,none⟩),.pointer (some ⟨w.heap.size + 1,0,none⟩),.pointer (some ⟨w.heap.size + 1 + 1,0,none⟩),.pointer (some ⟨w.heap.size + 1 + 1 + 1,0,none⟩),.pointer (some ⟨w.heap.size + 1 + 1 + 1 + 1,0,none⟩),.int .i64 0,x.path,.pointer (some ⟨Bx,0,none⟩),undef,undef,.pointer (some ⟨w.heap.size,0,none⟩),.slice p1 x1 p2,.int .i64 ↑x1,.bool false,.agg #[.slice p1 x1 p2,.int .i64 x3,.int .i64 x4,.slice p3 x2 p4],.int .i64 0,.int .i64 0,.bool false,undef,.agg #[.slice t1 z1 t2,.int .i64 z3,.int .i64 z4,.slice t3 z2 t4],.func (.func 121) #[] #[.pointer (some ⟨w6.heap.size,0,none⟩)],x.path,x.term,undef,undef,undef,undef,undef,undef,undef,undef,undef,undef,undef],defers:=[] })
    (fun x a' W l o o' hl ho hoc=>by
     rintro⟨Bx,h1,h2,h3,h4⟩
     have hg:W.grownBy (W.putObj l o') (some l):=grownBy_putObj' W l o'
     have hr':∀ r,some l=some r→∃ o:Obj,W.heap[r]?=some o∧NoCell o:=fun r e=>by cases e;exact⟨o,ho,hoc⟩
     have hk:Keep (fun k=>w7.heap.size≤k) W (W.putObj l o'):=fun k o v _ hv=>cell_soft hg hr' hv
     exact⟨Bx,h1,blk_soft hg hr' h2,⟨h3.1,h3.2.1.keep (fun _ h=>h) hk,h3.2.2.keep (fun _ _ h=>h) (fun b o v _ hv=>cell_soft hg hr' hv)⟩,h4⟩) ?assign ?body ?done ?stop
   case assign=>
    rintro l pre x W K ⟨hp,hB⟩ hR hK
    have HK:=Lib.hid hK;clear hK
    have HR:=Lib.hid hR;clear hR
    have Hp:=Lib.hid hp;clear hp
    simp only[HitS.enc,HitS.term]
    gi_wp2
    have ba:Below W.heap.size W (W.alloc (.cells #[.slice x.pb x.s.1.binds.length x.cb,.int .i64 x.s.1.kind,.int .i64 x.s.1.index,.slice x.pa x.s.1.args.length x.ca] 41)):=(Below.refl _ _).alloc (Nat.le_refl _) _
    exact HK.out _ _ ((KeepsOthers.alloc _ _).from _) ((KeepC.refl _ W).alloc _) ⟨Hp.out,hB.alloc hB.size _⟩ ⟨W.heap.size,hB.size,Blk.new _ _ _ rfl,⟨HR.out.1,HR.out.2.1.bel ba,HR.out.2.2.keep (fun _ _ h=>h) (fun b o v _ hv=>(ba.cell (p:=⟨b,o,none⟩) (Keep.lt hv)).trans hv)⟩,rfl⟩
   case body=>
    rintro l pre x a' W ⟨hp,hB⟩ hlt ⟨Bx,hBx,bX,hR,rfl⟩
    have HR:=Lib.hid hR;clear hR
    have Hp:=Lib.hid hp.out;clear hp
    simp only[HitS.path]
    have Y0:=y0.below hB
    have Y4:=y4.below hB
    have Y5:=y5.below hB
    have Y6:=y6.below hB
    gi_wp2_with fail
    refine wpIn_region_need (S:=fun w'=>w'.cell? ⟨w.heap.size,0,none⟩=some (.slice p1 x1 p2)∧w'.cell? ⟨w.heap.size,1,none⟩=some (.int .i64 x3)∧w'.cell? ⟨w.heap.size,2,none⟩=some (.int .i64 x4)∧w'.cell? ⟨w.heap.size,3,none⟩=some (.slice p3 x2 p4)∧w'.cell? ⟨Bx,0,none⟩=some (.slice x.pb x.s.1.binds.length x.cb)∧w'.cell? ⟨Bx,1,none⟩=some (.int .i64 x.s.1.kind)∧w'.cell? ⟨Bx,2,none⟩=some (.int .i64 x.s.1.index)∧w'.cell? ⟨Bx,3,none⟩=some (.slice x.pa x.s.1.args.length x.ca)) ((wide_round l)) (by kernel_rfl) (by kernel_rfl) ?_
    have hS:(W.drew).cell? ⟨w.heap.size,0,none⟩=some (.slice p1 x1 p2)∧(W.drew).cell? ⟨w.heap.size,1,none⟩=some (.int .i64 x3)∧(W.drew).cell? ⟨w.heap.size,2,none⟩=some (.int .i64 x4)∧(W.drew).cell? ⟨w.heap.size,3,none⟩=some (.slice p3 x2 p4)∧(W.drew).cell? ⟨Bx,0,none⟩=some (.slice x.pb x.s.1.binds.length x.cb)∧(W.drew).cell? ⟨Bx,1,none⟩=some (.int .i64 x.s.1.kind)∧(W.drew).cell? ⟨Bx,2,none⟩=some (.int .i64 x.s.1.index)∧(W.drew).cell? ⟨Bx,3,none⟩=some (.slice x.pa x.s.1.args.length x.ca):=⟨Y0.drew.cell rfl,Y0.drew.cell rfl,Y0.drew.cell rfl,Y0.drew.cell rfl,bX.drew.cell rfl,bX.drew.cell rfl,bX.drew.cell rfl,bX.drew.cell rfl⟩
    refine wpN_take (i:=0) (v:=?v1) rfl (by kernel_rfl) (fun _ _ _ h=>h) hS (Or.inl ⟨by rfl,?hy1⟩) ?hr1
    case hy1=>(intro wS hSw;(try dsimp only at hSw);go_simp;(try with_reducible rfl))
    try simp only[Act.put,List.setIfInBounds_toArray,List.set_cons_zero,List.set_cons_succ,List.getElem_toArray,List.getElem_cons_zero,List.getElem_cons_succ]
    refine wpN_take (i:=1) (v:=?v2) rfl (by kernel_rfl) (fun _ _ _ h=>h) hS (Or.inl ⟨by rfl,?hy2⟩) ?hr2
    case hy2=>(intro wS hSw;(try dsimp only at hSw);go_simp;(try with_reducible rfl))
    try simp only[Act.put,List.setIfInBounds_toArray,List.set_cons_zero,List.set_cons_succ,List.getElem_toArray,List.getElem_cons_zero,List.getElem_cons_succ]
    refine wpN_step (i:=2) (by kernel_rfl) rfl (fun K hK=>?_)
    go_simp
    refine(calls_rx (body_d x.s.1 (by have:=(HHit.out _ HR.out.1).2.1;omega) (HHit.out _ HR.out.1).2.2) (X:=(fun b o=>X b o∨w7.heap.size≤b)) (vs:=[.agg #[.slice x.pb x.s.1.binds.length x.cb,.int .i64 x.s.1.kind,.int .i64 x.s.1.index,.slice x.pa x.s.1.args.length x.ca]]) ⟨HR.out.2.2.keep (w':=W.drew) (fun _ _ h=>h) (fun b o v _ hv=>hv),trivial⟩).mono ?_
    rintro e W2 ⟨vn,rfl,hb2,hN⟩
    obtain⟨nb',nk,ni,na,rfl,-⟩:=agTm hN
    have b2:Below W.heap.size W W2:=(Below.refl _ _).drew.trans hb2
    have hS:(W2).cell? ⟨w.heap.size,0,none⟩=some (.slice p1 x1 p2)∧(W2).cell? ⟨w.heap.size,1,none⟩=some (.int .i64 x3)∧(W2).cell? ⟨w.heap.size,2,none⟩=some (.int .i64 x4)∧(W2).cell? ⟨w.heap.size,3,none⟩=some (.slice p3 x2 p4)∧(W2).cell? ⟨Bx,0,none⟩=some (.slice x.pb x.s.1.binds.length x.cb)∧(W2).cell? ⟨Bx,1,none⟩=some (.int .i64 x.s.1.kind)∧(W2).cell? ⟨Bx,2,none⟩=some (.int .i64 x.s.1.index)∧(W2).cell? ⟨Bx,3,none⟩=some (.slice x.pa x.s.1.args.length x.ca):=⟨(Y0.below b2).cell rfl,(Y0.below b2).cell rfl,(Y0.below b2).cell rfl,(Y0.below b2).cell rfl,(bX.below b2).cell rfl,(bX.below b2).cell rfl,(bX.below b2).cell rfl,(bX.below b2).cell rfl⟩
    refine hK.out _ _ (fun _=>hS) ?_
    clear hK K
    try simp only[Act.put,List.setIfInBounds_toArray,List.set_cons_zero,List.set_cons_succ,List.getElem_toArray,List.getElem_cons_zero,List.getElem_cons_succ]
    refine wpN_step (i:=3) (by kernel_rfl) rfl (fun K hK=>?_)
    go_simp
    have hxp2:RX (fun b o=>X b o∨w7.heap.size≤b) W2 (.agg #[.slice p1 x1 p2,.int .i64 x3,.int .i64 x4,.slice p3 x2 p4]) (.ag (eTm p)):=Hxp.out.keep (fun _ _ h=>.inl h) (fun b o v hx hv=>by
     have h0:=HX.out b o hx
     have h1:=(B7.cell (p:=⟨b,o,none⟩) h0).trans hv
     have h2:=(hB.cell (p:=⟨b,o,none⟩) (by show b < w7.heap.size;have:=B7.size;omega)).trans h1
     exact(b2.cell (p:=⟨b,o,none⟩) (by show b < W.heap.size;have:=B7.size;have:=hB.size;omega)).trans h2)
    have hxn2:RX (fun b o=>X b o∨w7.heap.size≤b) W2 (.agg #[nb',nk,ni,na]) (.ag (eTm (Pn.nb x.s.1))):=hN.keep (fun b o h=>h.elim id fun h=>.inr (by have h':W.heap.size≤b:=h;have:=hB.size;omega)) (fun _ _ _ _ h=>h)
    refine(calls_rx (HHit.out _ HR.out.1).1 (vs:=[.agg #[.slice p1 x1 p2,.int .i64 x3,.int .i64 x4,.slice p3 x2 p4],.agg #[nb',nk,ni,na]]) ⟨hxp2,hxn2,trivial⟩).mono ?_
    rintro e W3 ⟨v,rfl,hb3,hv⟩
    have b3:Below W.heap.size W W3:=b2.trans (hb3.mono b2.size)
    clear hxp2 hxn2 hN hb2
    obtain⟨cs,rfl,hcs⟩:=rel_tu.1 hv
    obtain⟨v2,v3,rfl⟩:∃ v2 v3,cs=[v2,v3]:=by
     match cs,hcs with
     | [a,b],_=>exact⟨a,b,rfl⟩
    have hv3:=rel_v.1 hcs.2.1
    subst hv3
    obtain⟨a2,k2,_,_,_,hv2e,_⟩:=rel_sl hcs.1
    obtain⟨n2,hn2⟩:∃ n,(ePairs (Pn.mAll [(p,Pn.nb x.s.1)]).1).length=n:=⟨_,rfl⟩
    rw[hn2] at hv2e
    clear hn2
    subst hv2e
    have Hv2:Hid (RX (fun b o=>X b o∨w7.heap.size≤b) W3 (.slice a2 n2 k2) (.sl 5 (ePairs (Pn.mAll [(p,Pn.nb x.s.1)]).1) none)):=RX.keep hcs.1 (fun b o h=>by
     rcases h with h | h
     ·exact h
     ·exact .inr (by have:=b2.size;have:=hB.size;omega)) (fun _ _ _ _ h=>h)
    have hhit:Pn.hit p x.s=decide ((Pn.mAll [(p,Pn.nb x.s.1)]).2=0):=rfl
    obtain⟨e3,he3⟩:∃ e3,(Pn.mAll [(p,Pn.nb x.s.1)]).2=e3:=⟨_,rfl⟩
    rw[he3] at hhit ⊢
    have Hhit:=Lib.hid hhit
    clear hv hcs he3 hhit hb3
    have hS:(W3).cell? ⟨w.heap.size,0,none⟩=some (.slice p1 x1 p2)∧(W3).cell? ⟨w.heap.size,1,none⟩=some (.int .i64 x3)∧(W3).cell? ⟨w.heap.size,2,none⟩=some (.int .i64 x4)∧(W3).cell? ⟨w.heap.size,3,none⟩=some (.slice p3 x2 p4)∧(W3).cell? ⟨Bx,0,none⟩=some (.slice x.pb x.s.1.binds.length x.cb)∧(W3).cell? ⟨Bx,1,none⟩=some (.int .i64 x.s.1.kind)∧(W3).cell? ⟨Bx,2,none⟩=some (.int .i64 x.s.1.index)∧(W3).cell? ⟨Bx,3,none⟩=some (.slice x.pa x.s.1.args.length x.ca):=⟨(Y0.below b3).cell rfl,(Y0.below b3).cell rfl,(Y0.below b3).cell rfl,(Y0.below b3).cell rfl,(bX.below b3).cell rfl,(bX.below b3).cell rfl,(bX.below b3).cell rfl,(bX.below b3).cell rfl⟩
    refine hK.out _ _ (fun _=>hS) ?_
    clear hK K
    try simp only[Act.put,List.setIfInBounds_toArray,List.set_cons_zero,List.set_cons_succ,List.getElem_toArray,List.getElem_cons_zero,List.getElem_cons_succ]
    refine wpN_pure (i:=4) (v:=?v3) rfl (by kernel_rfl) (fun _ _ _ h=>h) (Or.inl ⟨by rfl,?hy3⟩) ?hr3
    case hy3=>(intro wS hSw;go_simp;(try with_reducible rfl))
    try simp only[Act.put,List.setIfInBounds_toArray,List.set_cons_zero,List.set_cons_succ,List.getElem_toArray,List.getElem_cons_zero,List.getElem_cons_succ]
    refine wpN_pure (i:=5) (v:=?v4) rfl (by kernel_rfl) (fun _ _ _ h=>h) (Or.inl ⟨by rfl,?hy4⟩) ?hr4
    case hy4=>(intro wS hSw;go_simp;(try with_reducible rfl))
    try simp only[Act.put,List.setIfInBounds_toArray,List.set_cons_zero,List.set_cons_succ,List.getElem_toArray,List.getElem_cons_zero,List.getElem_cons_succ]
    refine wpN_pure (i:=6) (v:=?v5) rfl (by kernel_rfl) (fun _ _ _ h=>h) (Or.inl ⟨by rfl,?hy5⟩) ?hr5
    case hy5=>(intro wS hSw;go_simp;(try with_reducible rfl))
    try simp only[Act.put,List.setIfInBounds_toArray,List.set_cons_zero,List.set_cons_succ,List.getElem_toArray,List.getElem_cons_zero,List.getElem_cons_succ]
    refine wpN_pure (i:=7) (v:=?v6) rfl (by kernel_rfl) (fun _ _ _ h=>h) (Or.inl ⟨by rfl,?hy6⟩) ?hr6
    case hy6=>(intro wS hSw;go_simp;(try with_reducible rfl))
    try simp only[Act.put,List.setIfInBounds_toArray,List.set_cons_zero,List.set_cons_succ,List.getElem_toArray,List.getElem_cons_zero,List.getElem_cons_succ]
    refine wpN_pure (i:=8) (v:=?v7) rfl (by kernel_rfl) (fun _ _ _ h=>h) (Or.inl ⟨by rfl,?hy7⟩) ?hr7
    case hy7=>(intro wS hSw;go_simp;(try with_reducible rfl))
    try simp only[Act.put,List.setIfInBounds_toArray,List.set_cons_zero,List.set_cons_succ,List.getElem_toArray,List.getElem_cons_zero,List.getElem_cons_succ]
    refine wpN_done (by kernel_rfl) ?_
    refine OnlyN.normal ?_
    have Y4:=Y4.below b3
    have Y5:=Y5.below b3
    have Y6:=Y6.below b3
    have hkf:KeepsFrom w7.heap.size W W3:=⟨b3.size,fun k o _ ho _=>(b3.block k (Array.getElem?_eq_some_iff.1 ho).1).trans ho⟩
    have Hkf:=Lib.hid hkf;clear hkf
    by_cases h3:e3=0
    ·subst h3
     have c4:W3.cell? ⟨w.heap.size + 1 + 1,0,none⟩=some (.slice none 0 0):=Y4.cell rfl
     have c5:W3.cell? ⟨w.heap.size + 1 + 1 + 1,0,none⟩=some (.slice none 0 0):=Y5.cell rfl
     have c6:W3.cell? ⟨w.heap.size + 1 + 1 + 1 + 1,0,none⟩=some (.int .i64 0):=Y6.cell rfl
     have f4:=Y4.free 0
     have f5:=Y5.free 0
     have f6:=Y6.free 0
     gi_wp2_with fail
     obtain⟨W5,hW5⟩:∃ W5,((W3.setCell ⟨w.heap.size + 1 + 1,0,none⟩ (.slice x.va x.s.2.2.length x.vc)).setCell ⟨w.heap.size + 1 + 1 + 1,0,none⟩ (.slice a2 n2 k2)).setCell ⟨w.heap.size + 1 + 1 + 1 + 1,0,none⟩ (.int .i64 0)=W5:=⟨_,rfl⟩
     have K5:Keep (fun b=>b < w.heap.size∨w7.heap.size≤b) W3 W5:=by rw[←hW5];exact(((Keep.refl _ _).setCell ⟨w.heap.size + 1 + 1,0,none⟩ _ (by simp <;> omega)).setCell ⟨w.heap.size + 1 + 1 + 1,0,none⟩ _ (by simp <;> omega)).setCell ⟨w.heap.size + 1 + 1 + 1 + 1,0,none⟩ _ (by simp <;> omega)
     have Z4:Blk W5 (w.heap.size + 1 + 1) #[.slice x.va x.s.2.2.length x.vc] 59:=by rw[←hW5];exact((Y4.set 0 _).far ⟨w.heap.size + 1 + 1 + 1,0,none⟩ _ (by simp <;> omega)).far ⟨w.heap.size + 1 + 1 + 1 + 1,0,none⟩ _ (by simp <;> omega)
     have Z5:Blk W5 (w.heap.size + 1 + 1 + 1) #[.slice a2 n2 k2] 51:=by rw[←hW5];exact((Y5.far ⟨w.heap.size + 1 + 1,0,none⟩ _ (by simp <;> omega)).set 0 _).far ⟨w.heap.size + 1 + 1 + 1 + 1,0,none⟩ _ (by simp <;> omega)
     have Z6:Blk W5 (w.heap.size + 1 + 1 + 1 + 1) #[.int .i64 0] 45:=by rw[←hW5];exact((Y6.far ⟨w.heap.size + 1 + 1,0,none⟩ _ (by simp <;> omega)).far ⟨w.heap.size + 1 + 1 + 1,0,none⟩ _ (by simp <;> omega)).set 0 _
     have kf:KeepsFrom w7.heap.size W3 W5:=by rw[←hW5];exact(((KeepsOthers.setCell W3 _ _).trans (KeepsOthers.setCell _ _ _)).trans (KeepsOthers.setCell _ _ _)).from _
     have kc:KeepC (FromC w7.heap.size) W3 W5:=by rw[←hW5];exact(((KeepC.refl _ W3).setCell _ _ (by simp[FromC] <;> omega)).setCell _ _ (by simp[FromC] <;> omega)).setCell _ _ (by simp[FromC] <;> omega)
     have hbW:Below w.heap.size w W3:=(B7.trans (hB.mono B7.size)).trans (b3.mono (by have:=B7.size;have:=hB.size;omega))
     have bW5:Below w.heap.size w W5:=by rw[←hW5];exact((hbW.setCell (by simp <;> omega) _).setCell (by simp <;> omega) _).setCell (by simp <;> omega) _
     try rw[hW5]
     have hpath:RX (fun b o=>X b o∨w7.heap.size≤b) W5 (.slice x.va x.s.2.2.length x.vc) (.sl 1 (eIs x.s.2.2) none):=RX.keep (X:=fun b _=>w7.heap.size≤b) HR.out.2.1 (fun b o h=>.inr h) (fun b o v hb hv=>K5 b o v (.inr hb) ((b3.cell (p:=⟨b,o,none⟩) (Keep.lt hv)).trans hv))
     have hsub:RX (fun b o=>X b o∨w7.heap.size≤b) W5 (.slice a2 n2 k2) (.sl 5 (ePairs (Pn.mAll [(p,Pn.nb x.s.1)]).1) none):=Hv2.out.keep (fun b o h=>h) (fun b o v hb hv=>K5 b o v (hb.imp (HX.out b o) id) hv)
     exact⟨⟨Nat.le_trans Hkf.out.size kf.size,fun k o hk ho hc=>kf.same k o hk (Hkf.out.same k o hk ho hc) hc⟩,((KeepC.of_below b3).lower (fun _ _ _=>trivial)).trans kc,rfl,_,_,⟨pre,x,rfl,Hp.out,by rw[Hhit.out];rfl,hpath,hsub⟩,Z4,Z5,Z6,bW5⟩
    ·have H3:Hid (¬ e3=0):=h3
     gi_wp2_with fail
     refine⟨Hkf.out,KeepC.of_below b3,fun y hy=>?_,hB.trans (b3.mono hB.size)⟩
     rcases List.mem_append.1 hy with hy | hy
     ·exact Hp.out y hy
     ·rw[List.mem_singleton] at hy
      subst hy
      rw[Hhit.out]
      exact decide_eq_false H3.out
   case done=>
    rintro Dd ys W hD hys ⟨hp,hB⟩ hK
    have Hys:=Lib.hid hys;clear hys
    have Hp:=Lib.hid hp.out;clear hp
    have Y4:=y4.below hB
    have Y5:=y5.below hB
    have Y6:=y6.below hB
    have c4:W.cell? ⟨w.heap.size + 1 + 1,0,none⟩=some (.slice none 0 0):=Y4.cell rfl
    have c5:W.cell? ⟨w.heap.size + 1 + 1 + 1,0,none⟩=some (.slice none 0 0):=Y5.cell rfl
    have c6:W.cell? ⟨w.heap.size + 1 + 1 + 1 + 1,0,none⟩=some (.int .i64 0):=Y6.cell rfl
    have f4:=Y4.free 0
    have f5:=Y5.free 0
    have f6:=Y6.free 0
    gi_wp2_with fail
    obtain⟨W5,hW5⟩:∃ W5,((W.setCell ⟨w.heap.size + 1 + 1,0,none⟩ (.slice none 0 0)).setCell ⟨w.heap.size + 1 + 1 + 1,0,none⟩ (.slice none 0 0)).setCell ⟨w.heap.size + 1 + 1 + 1 + 1,0,none⟩ (.int .i64 10)=W5:=⟨_,rfl⟩
    have Z4:Blk W5 (w.heap.size + 1 + 1) #[.slice none 0 0] 59:=by rw[←hW5];exact((Y4.set 0 _).far ⟨w.heap.size + 1 + 1 + 1,0,none⟩ _ (by simp <;> omega)).far ⟨w.heap.size + 1 + 1 + 1 + 1,0,none⟩ _ (by simp <;> omega)
    have Z5:Blk W5 (w.heap.size + 1 + 1 + 1) #[.slice none 0 0] 51:=by rw[←hW5];exact((Y5.far ⟨w.heap.size + 1 + 1,0,none⟩ _ (by simp <;> omega)).set 0 _).far ⟨w.heap.size + 1 + 1 + 1 + 1,0,none⟩ _ (by simp <;> omega)
    have Z6:Blk W5 (w.heap.size + 1 + 1 + 1 + 1) #[.int .i64 10] 45:=by rw[←hW5];exact((Y6.far ⟨w.heap.size + 1 + 1,0,none⟩ _ (by simp <;> omega)).far ⟨w.heap.size + 1 + 1 + 1,0,none⟩ _ (by simp <;> omega)).set 0 _
    have hK':W5.heap[Dd]?=some (.deferred (some [])):=by rw[←hW5];exact(((KeepsOthers.setCell W _ _).trans (KeepsOthers.setCell _ _ _)).trans (KeepsOthers.setCell _ _ _)).same Dd _ hK rfl
    have bW5:Below w.heap.size w W5:=by rw[←hW5];exact(((B7.trans (hB.mono B7.size)).setCell (by simp <;> omega) _).setCell (by simp <;> omega) _).setCell (by simp <;> omega) _
    try rw[hW5]
    refine⟨by simp,.inl ⟨_,_,rfl,run_takeDeferred hK',?_⟩⟩
    have g4:=cell_kept (Z4.cell (i:=0) (v:=.slice none 0 0) rfl) (grownBy_putObj' _ Dd (.deferred none)) (fun r e=>by cases e;exact⟨_,hK',rfl⟩)
    have g5:=cell_kept (Z5.cell (i:=0) (v:=.slice none 0 0) rfl) (grownBy_putObj' _ Dd (.deferred none)) (fun r e=>by cases e;exact⟨_,hK',rfl⟩)
    have g6:=cell_kept (Z6.cell (i:=0) (v:=.int .i64 10) rfl) (grownBy_putObj' _ Dd (.deferred none)) (fun r e=>by cases e;exact⟨_,hK',rfl⟩)
    have Hre:r=([],[],10):=by
     rw[←Hr.out,Pn.fnd,if_neg (fun h=>?_),if_neg (fun h=>h He0.out),Pn.find_none]
     ·intro i hi
      rw[←Hys.out] at hi
      rw[List.length_map] at hi
      simp only[←Hys.out,List.getElem_map]
      exact Hp.out _ (List.getElem_mem hi)
     ·have:=Hx1.out
      cases hq:p.binds with
      | nil=>exact h hq
      | cons a l=>rw[hq] at this;simp at this;omega
    subst Hre
    refine⟨.tuple #[.slice none 0 0,.slice none 0 0,.int .i64 10],by simp[results,Tryz.results21,go_sem,g4,g5,g6],?_⟩
    exact⟨_,_,rfl,bW5.trans (belowK_b (w:=w) (Nat.le_refl _) _ Dd _ _ (by have:=B7.size;omega) hK' rfl rfl),rx_nil _ _ _,rx_nil _ _ _⟩
   case stop=>
    rintro Dd c pre W hD hpre ⟨rfl,v1,v2,hh,q1,q2,q3,hB⟩ hK
    have Hh:=Lib.hid hh.out;clear hh
    have Hpre:=Lib.hid hpre;clear hpre
    gi_wp2_with fail
    refine⟨by simp,.inl ⟨_,_,rfl,run_takeDeferred hK,?_⟩⟩
    have hg:W.grownBy (W.putObj Dd (.deferred none)) (some Dd):=grownBy_putObj' _ Dd (.deferred none)
    have hr':∀ r,some Dd=some r→∃ o:Obj,W.heap[r]?=some o∧NoCell o:=fun r e=>by cases e;exact⟨_,hK,rfl⟩
    have g4:=cell_soft hg hr' (q1.cell (i:=0) (v:=v1) rfl)
    have g5:=cell_soft hg hr' (q2.cell (i:=0) (v:=v2) rfl)
    have g6:=cell_soft hg hr' (q3.cell (i:=0) (v:=.int .i64 0) rfl)
    obtain⟨pre',x,e1,e2,e3,e4,e5⟩:=Hh.out
    have Hre:r=(x.s.2.2,(Pn.mAll [(p,Pn.nb x.s.1)]).1,0):=by
     have hfi:(Pn.subs t [] []).find? (Pn.hit p)=some x.s:=by
      obtain⟨q,hq⟩:=Hpre.out
      rw[←hq,e1,List.map_append,List.map_cons,List.map_nil,List.append_assoc,List.find?_append,List.find?_eq_none.2,Option.none_or]
      ·simp[e3]
      ·intro s hs
       obtain⟨y,hy,rfl⟩:=List.mem_map.1 hs
       rw[e2 y hy];simp
     rw[←Hr.out,Pn.fnd,if_neg (fun h=>?_),if_neg (fun h=>h He0.out),hfi]
     have:=Hx1.out
     cases hq:p.binds with
     | nil=>exact h hq
     | cons a l=>rw[hq] at this;simp at this;omega
    subst Hre
    refine⟨.tuple #[v1,v2,.int .i64 0],by simp[results,Tryz.results21,go_sem,g4,g5,g6],?_⟩
    have hXX:∀ b o,(X b o∨w7.heap.size≤b)→X b o∨w.heap.size≤b:=fun b o h=>h.imp id fun h=>by have:=B7.size;omega
    exact⟨_,_,rfl,hB.trans (belowK_b (w:=w) (Nat.le_refl _) _ Dd _ _ (by have:=B7.size;omega) hK rfl rfl),e4.keep hXX (fun b o v _ hv=>cell_soft hg hr' hv),e5.keep hXX (fun b o v _ hv=>cell_soft hg hr' hv)⟩
  ·have Hm:Hid (¬ e0=0):=hm
   have c4:w6.cell? ⟨w.heap.size + 1 + 1,0,none⟩=some (.slice none 0 0):=y4.cell rfl
   have c5:w6.cell? ⟨w.heap.size + 1 + 1 + 1,0,none⟩=some (.slice none 0 0):=y5.cell rfl
   have c6:w6.cell? ⟨w.heap.size + 1 + 1 + 1 + 1,0,none⟩=some (.int .i64 0):=y6.cell rfl
   have f4:=y4.free 0
   have f5:=y5.free 0
   have f6:=y6.free 0
   gi_wp2_with fail
   have q4:=(((y4.set 0 (.slice none 0 0)).far ⟨w.heap.size + 1 + 1 + 1,0,none⟩ (.slice none 0 0) (by simp <;> omega)).far ⟨w.heap.size + 1 + 1 + 1 + 1,0,none⟩ (.int .i64 e0) (by simp <;> omega)).cell (i:=0) (v:=.slice none 0 0) rfl
   have q5:=(((y5.far ⟨w.heap.size + 1 + 1,0,none⟩ (.slice none 0 0) (by simp <;> omega)).set 0 (.slice none 0 0)).far ⟨w.heap.size + 1 + 1 + 1 + 1,0,none⟩ (.int .i64 e0) (by simp <;> omega)).cell (i:=0) (v:=.slice none 0 0) rfl
   have q6:=(((y6.far ⟨w.heap.size + 1 + 1,0,none⟩ (.slice none 0 0) (by simp <;> omega)).far ⟨w.heap.size + 1 + 1 + 1,0,none⟩ (.slice none 0 0) (by simp <;> omega)).set 0 (.int .i64 e0)).cell (i:=0) (v:=.int .i64 e0) rfl
   refine⟨.tuple #[.slice none 0 0,.slice none 0 0,.int .i64 e0],by simp[results,Tryz.results21,go_sem,q4,q5,q6],?_⟩
   have Hre:r=([],[],e0):=by
    rw[←Hr.out,Pn.fnd,if_neg,He0.out,if_pos Hm.out]
    intro h
    have:=Hx1.out
    cases hq:p.binds with
    | nil=>exact h hq
    | cons a l=>rw[hq] at this;simp at this;omega
   subst Hre
   exact⟨_,_,rfl,((B6.setCell (by simp;omega) _).setCell (by simp;omega) _).setCell (by simp;omega) _,rx_nil _ _ _,rx_nil _ _ _⟩
end Go.Proofs.YtflbnonbfmmchaaGreat
namespace Go.Proofs.YtflbnonbfmmchaaGreat
open Go.RowKit
theorem mFind_d (p t:Tm)(h1:p.full≤250∧p.Fit)(h2:t.full≤10000∧lowB t=true∧t.Fit):
  PureC Tryz.prog 21 [.ag (eTm p),.ag (eTm t)] (.tu [.sl 1 (eIs (Pn.fnd p t).1) none,.sl 5 (ePairs (Pn.fnd p t).2.1) none,.v (.int .i64 (Pn.fnd p t).2.2)]):=by
 refine pure_below (by kernel_rfl) fun m Im w vs hv=>?_
 match vs,hv with
 | [x1,x2],hv=>
  obtain⟨pb,pk,pi,pa,rfl,hp⟩:=agTm hv.1
  obtain⟨tb,tk,ti,ta,rfl,ht⟩:=agTm hv.2.1
  have hx:RX (fun b o=>Im b o∧∃ v,w.cell? ⟨b,o,none⟩=some v) w (.agg #[pb,pk,pi,pa]) (.ag (eTm p)):=RX.of (rel_cell hv.1) (by simp[D.ok,eTm_ok]) (fun b o h=>h)
  have hy:RX (fun b o=>Im b o∧∃ v,w.cell? ⟨b,o,none⟩=some v) w (.agg #[tb,tk,ti,ta]) (.ag (eTm t)):=RX.of (rel_cell hv.2.1) (by simp[D.ok,eTm_ok]) (fun b o h=>h)
  refine(find_k hp ht hx hy (fun b o h=>by obtain⟨v,hv⟩:=h.2;exact Keep.lt hv) h1 h2).mono ?_
  rintro e w' ⟨v1,v2,rfl,hb,r1,r2⟩
  have hle:m00.le m:=⟨fun _ _ h=>(by cases h),fun _ _ h=>(by cases h),fun _ _ h=>(by cases h)⟩
  refine⟨_,rfl,hb,fun Im' hi hI=>rel_tu.2 ⟨[v1,v2,_],rfl,?_,?_,.v _,trivial⟩⟩
  ·exact Rel.mono r1 hle (KeepI.refl _ _) (fun b o h=>by
    obtain⟨h,v,hv⟩:=h
    rcases h with h | h
    ·exact hi b o h.1
    ·exact hI b o v h hv)
  ·exact Rel.mono r2 hle (KeepI.refl _ _) (fun b o h=>by
    obtain⟨h,v,hv⟩:=h
    rcases h with h | h
    ·exact hi b o h.1
    ·exact hI b o v h hv)
def TAT_41:TI:=⟨4,true,[Value.slice none 0 0,Value.int IntKind.i64 0,Value.int IntKind.i64 0,Value.slice none 0 0],[(0,1,false),(1,2,true),(3,1,false)],none,64,6,none,false⟩
theorem TAT_41_ok:TypOk Tryz.prog 41 TAT_41:=by constructor <;> kernel_rfl
def TAT_33:TI:=⟨1,false,[Value.slice none 0 0],[],some 44,24,5,none,false⟩
theorem TAT_33_ok:TypOk Tryz.prog 33 TAT_33:=by constructor <;> kernel_rfl
def TAT_3:TI:=⟨1,false,[Value.int IntKind.i64 0],[],none,8,2,none,false⟩
theorem TAT_3_ok:TypOk Tryz.prog 3 TAT_3:=by constructor <;> kernel_rfl
def TAT_39:TI:=⟨1,false,[Value.slice none 0 0],[],some 41,24,5,none,false⟩
theorem TAT_39_ok:TypOk Tryz.prog 39 TAT_39:=by constructor <;> kernel_rfl
def TAT_44:TI:=⟨2,true,[Value.slice none 0 0,Value.int IntKind.i64 0],[(0,1,false),(1,1,false)],none,32,6,none,false⟩
theorem TAT_44_ok:TypOk Tryz.prog 44 TAT_44:=by constructor <;> kernel_rfl
def TAT_59:TI:=⟨1,false,[Value.slice none 0 0],[],some 3,24,5,none,false⟩
theorem TAT_59_ok:TypOk Tryz.prog 59 TAT_59:=by constructor <;> kernel_rfl
def TAT:List (Nat×TI):=[(41,TAT_41),(33,TAT_33),(3,TAT_3),(39,TAT_39),(44,TAT_44),(59,TAT_59)]
theorem TAT_ok:TabOk Tryz.prog TAT:=(((((((TabOk.nil _).cons TAT_59_ok).cons TAT_44_ok).cons TAT_39_ok).cons TAT_3_ok).cons TAT_33_ok).cons TAT_41_ok)

theorem cloneT_nil (a:Option Addr)(c nm:Nat):CallN Tryz.prog 73 [.v (.slice a 0 c)] [] nm [(.r nm,.rp 44 2 [])] (.ps nm 0):=by
 refine callPriv_of_dw 8 [ResultVar.tmp 2] TAT_ok (by kernel_rfl) Tryz.func73 rfl Tryz.ntmps73 rfl (by simp) (by simp[D.ok]) (by simp[D.okss]) ?dbody nm
 case dbody=>
  intro cx hnt hn0
  refine dw_seq ?_;refine dwk [] TAT_ok hnt fun K hK=>hK _ _ ?_;clear hK K
  cases a with
  | none=>
   refine dw_seq ?_;refine dw_seq ?_;refine dwk [(4,.v (.bool true))] TAT_ok hnt fun K hK=>?_;refine And.intro (VLe.refl _) ?_;refine hK _ _ ?_;clear hK K;refine dw_cond (t:=true) rfl ?_;rw[if_pos rfl];refine dw_seq ?_;refine dwk [] TAT_ok hnt fun K hK=>hK _ _ ?_;clear hK K
   refine DW.vs (VS.rowPT (x:=2) (by rw[hnt];decide) 44 2 rfl) ?_
   refine dw_ret ?_
   exact⟨.inr rfl,_,rfl,rfl⟩
  | some a=>
   refine dw_seq ?_;refine dw_seq ?_;refine dwk [(4,.v (.bool false))] TAT_ok hnt fun K hK=>?_;refine And.intro (VLe.refl _) ?_;refine hK _ _ ?_;clear hK K;refine dw_cond (t:=false) rfl ?_;rw[if_neg (by simp)];refine dw_skip ?_;refine dw_seq ?_;refine dwk [(5,.ps 3 0)] TAT_ok hnt fun K hK=>?_;refine And.intro (VLe.ps0 _ _) ?_;refine And.intro (by decide) ?_;refine hK _ _ ?_;clear hK K
   refine dw_ret ?_
   exact⟨.inr rfl,_,rfl,rfl⟩
theorem cloneT_cons (x:Ty)(l:List Ty)(hl:l.length≤900000)(nm:Nat):CallN Tryz.prog 73 [.sl 2 (eTys (x :: l)) none] [] nm [(.r nm,.rp 44 2 (eTys (x :: l)))] (.ps nm (x :: l).length):=by
 refine callPriv_of_dw 8 [ResultVar.tmp 2] TAT_ok (by kernel_rfl) Tryz.func73 rfl Tryz.ntmps73 rfl (by simp) (by simp[D.ok,eTys_ok]) (by simp[D.okss,eTys_ok]) ?dbody nm
 case dbody=>
  intro cx hnt hn0
  refine dw_seq ?_;refine dwk [] TAT_ok hnt fun K hK=>hK _ _ ?_;clear hK K;refine dw_seq ?_;refine dw_seq ?_;refine dwk [(4,.v (.bool false))] TAT_ok hnt fun K hK=>?_;refine And.intro (VLe.refl _) ?_;refine hK _ _ ?_;clear hK K;refine dw_cond (t:=false) rfl ?_;rw[if_neg (by simp)];refine dw_skip ?_;refine dw_seq ?_;refine dwk [(5,.ps 3 0)] TAT_ok hnt fun K hK=>?_;refine And.intro (VLe.ps0 _ _) ?_
  refine And.intro (by rw[eTys_len];simp;omega) ?_;refine hK _ _ ?_;clear hK K;refine dw_ret ?_
  exact⟨.inr rfl,3,by rw[show (x :: l).length=(eTys (x :: l)).length by rw[eTys_len]];rfl,rfl⟩
theorem cloneT_d (l:List Ty)(hl:l.length≤900000)(nm:Nat):CallN Tryz.prog 73 [.sl 2 (eTys l) none] [] nm [(.r nm,.rp 44 2 (eTys l))] (.ps nm l.length):=by
 cases l with
 | cons x l=>exact cloneT_cons x l (by simp at hl;omega) nm
 | nil=>
  refine⟨by kernel_rfl,fun cx Fr m Im w a σ vs hnm hs hv hR=>?_⟩
  match vs,hv with
  | [v],hv=>
   obtain⟨a0,c,bl,off,X,rfl,_⟩:=rel_sl hv.1
   exact(cloneT_nil a0 c nm).2 cx Fr m Im w a σ _ hnm hs ⟨.v _,trivial⟩ hR

def satV (r:Option (Tm×List Ty)):D:=match r with
 | some r=>.tu [.ag (eTm r.1),.sl 2 (eTys r.2) none,.v (.int .i64 0)]
 | none=>.tu [.ag (eTm Tm.zero),.sl 2 [] none,.v (.int .i64 10)]
theorem atP_step (t:Tm)(p:List Int)(j:Nat)(hj:j < p.length)(u:Tm)(l:List Ty)(h:Pn.atP (p.take j) t=some (u,l)):
  Pn.atP (p.take (j + 1)) t=if 0≤p[j]∧p[j] < (u.args.length:Int) then some (u.args.getD p[j].toNat Tm.zero,l ++ (u.args.getD p[j].toNat Tm.zero).binds) else none:=by
 rw[List.take_add_one,List.getElem?_eq_getElem hj,Option.toList_some,Pn.atP_app,h]
 show (Pn.atP [p[j]] u).map _=_
 rw[Pn.atP]
 by_cases hc:0≤p[j]∧p[j] < (u.args.length:Int)
 ·rw[if_pos hc,if_pos hc,Pn.atP]
  simp
 ·rw[if_neg hc,if_neg hc];rfl
theorem atP_stop (t:Tm)(p:List Int)(j:Nat)(hj:j < p.length)(h:Pn.atP (p.take (j + 1)) t=none):Pn.atP p t=none:=by
 rw[←List.take_append_drop (j + 1) p,Pn.atP_app,h];rfl
theorem atP_full {P:Tm→Prop}(hP:∀ u,P u→∀ x∈u.args,P x):∀ (p:List Int) (t:Tm) (r:Tm×List Ty),P t→Pn.atP p t=some r→P r.1
 | [],t,r,ht,h=>by rw[Pn.atP] at h;cases h;exact ht
 | j :: p,t,r,ht,h=>by
  rw[Pn.atP] at h
  split at h
  ·rename_i hj
   cases h2:Pn.atP p (t.args.getD j.toNat Tm.zero) with
   | none=>rw[h2] at h;cases h
   | some r'=>
    rw[h2] at h;cases h
    have hlt:j.toNat < t.args.length:=by omega
    have e:t.args.getD j.toNat Tm.zero=t.args[j.toNat]:=by rw[List.getD_eq_getElem?_getD,List.getElem?_eq_getElem hlt];rfl
    rw[e] at h2
    exact atP_full hP p _ r' (hP _ ht _ (List.getElem_mem hlt)) h2
  ·cases h
@[simp] theorem satV_ok (f g:Nat→Bool) (r:Option (Tm×List Ty)):D.ok f g (satV r)=true:=by
 cases r <;> simp[satV,D.ok,D.oks,D.okss,eTm_ok,eTys_ok]
theorem fit_argsAt (u:Tm)(h:u.Fit):∀ x∈u.args,x.Fit:=by
 obtain⟨b,k,i,a⟩:=u
 exact(Tm.fit_iff.1 h).2.2
set_option maxHeartbeats 2000000 in
theorem sat_d (t:Tm)(p:List Int)(hz:t.full≤80000)(hf:t.Fit)(hp:p.length≤100000):PureC Tryz.prog 22 [.ag (eTm t),.sl 1 (eIs p) none] (satV (Pn.atP p t)):=by
 have hbl:=Ty.le_sizes t.binds
 have hft:=full_args t
 have hcl:=cloneT_d t.binds (by omega)
 rw[eTm_eq]
 refine calldw 0 45 [ResultVar.cell 4 41,ResultVar.tmp 5,ResultVar.tmp 6] TAT_ok Tryz.func22 rfl Tryz.ntmps22 rfl fun cx hnt hn0=>?_
 ·skip
  refine dw_seq ?_;refine dwk [] TAT_ok hnt fun K hK=>hK _ _ ?_;clear hK K;refine dw_seq ?_;refine dwk [] TAT_ok hnt fun K hK=>?_;refine dcn (hcl _) ?_;refine hK _ _ ?_;clear hK K;refine dw_seq ?_;refine dw_seq ?_;refine dwk [(14,.v (.int .i64 (↑p.length)))] TAT_ok hnt fun K hK=>?_;refine And.intro (dintE (by rw[eIs_len])) ?_;refine hK _ _ ?_;clear hK K;refine dw_block ?_
  refine dw_loop (ι:={ x:Nat×Tm×List Ty // x.1≤p.length∧Pn.atP (p.take x.1) t=some x.2 }) (fun x=>[(.t 2,.p 0 0),(.t 4,.p 1 0),(.t 7,.ps 6 x.1.2.2.length),(.t 13,.sl 1 (eIs p) none),(.t 14,.v (.int .i64 ↑p.length)),(.t 15,.v (.int .i64 ↑x.1.1)),(.r 6,.rp 44 2 (eTys x.1.2.2)),(.c 0 0,.sl 2 (eTys x.1.2.1.binds) none),(.c 0 1,.v (.int .i64 x.1.2.1.kind)),(.c 0 2,.v (.int .i64 x.1.2.1.index)),(.c 0 3,.sl 4 (eTms x.1.2.1.args) none),(.c 1 0,.v (.slice none 0 0)),(.c 1 1,.v (.int .i64 0)),(.c 1 2,.v (.int .i64 0)),(.c 1 3,.v (.slice none 0 0))]) 7 (fun x=>p.length - x.1.1) (⟨(0,t,t.binds),Nat.zero_le _,by simp[Pn.atP]⟩) (VS.toA) fun x=>?_
  obtain⟨⟨j,u,l⟩,hj,hu⟩:=x
  dsimp only at hj hu
  dsimp only
  obtain⟨hs1,hs2,hs3,hs4⟩:=atP_sizes _ _ _ hu
  have hfu:u.Fit:=atP_full fit_argsAt _ _ _ hf hu
  dsimp only at hs1 hs2 hs3 hs4
  have hfa:=full_args u
  by_cases hlt:j < p.length
  ·have hst:=atP_step t p j hlt u l hu
   by_cases hc:0≤p[j]∧p[j] < (u.args.length:Int)
   ·rw[if_pos hc] at hst
    obtain⟨n,hn⟩:∃ n:Nat,p[j]=n:=⟨p[j].toNat,by omega⟩
    have hlt2:n < u.args.length:=by omega
    have e:u.args.getD p[j].toNat Tm.zero=u.args[n]:=by rw[hn,Int.toNat_natCast,List.getD_eq_getElem?_getD,List.getElem?_eq_getElem hlt2];rfl
    rw[e] at hst
    obtain⟨x,hx⟩:∃ x,u.args[n]=x:=⟨_,rfl⟩
    rw[hx] at hst
    have hsn:=(atP_sizes _ _ _ hst).2.2.1
    dsimp only at hsn
    rw[List.length_append] at hsn
    have hgx:(eTms u.args).getD n []=[.sl 2 (eTys x.binds) none,.v (.int .i64 x.kind),.v (.int .i64 x.index),.sl 4 (eTms x.args) none]:=by rw[eTms_getD u.args n hlt2,hx,eTm_eq]
    refine dw_seq ?_;refine dwk [(16,.v (.bool true))] TAT_ok hnt fun K hK=>?_;refine And.intro auT ?_;refine hK _ _ ?_;clear hK K;refine dw_seq ?_;refine dw_cond (t:=true) rfl ?_;rw[if_pos rfl];refine dw_skip ?_;refine dw_seq ?_;refine dw_block ?_;refine dw_seq ?_;refine dwk [(17,.q [.v (.int .i64 (p[j]))])] TAT_ok hnt fun K hK=>?_;refine And.intro (elo (eIs_len p)) ?_;refine And.intro (elv (eIs_getD p j) rfl) ?_
    refine hK _ _ ?_;clear hK K;refine dw_seq ?_;refine dw_seq ?_;refine dwk [(20,.v (.bool false)),(25,.v (.int .i64 (↑u.args.length))),(26,.v (.bool false))] TAT_ok hnt fun K hK=>?_;refine And.intro auF ?_;refine And.intro (dintE (by rw[eTms_len])) ?_;refine And.intro auF ?_;refine hK _ _ ?_;clear hK K;refine dw_cond (t:=false) rfl ?_;rw[if_neg (by simp)];refine dw_skip ?_;refine dw_seq ?_
    refine dwk [(31,.v (.int .i64 (↑n))),(32,.q [.sl 2 (eTys x.binds) none,.v (.int .i64 x.kind),.v (.int .i64 x.index),.sl 4 (eTms x.args) none])] TAT_ok hnt fun K hK=>?_;refine And.intro (dintE (by exact hn)) ?_;refine And.intro (⟨by omega,by rw[eTms_len];omega⟩) ?_;refine And.intro (VLe.of_eq (by rw[Int.toNat_natCast,hgx])) ?_;refine hK _ _ ?_;clear hK K;refine dwk [(37,.ps 6 (l.length + x.binds.length))] TAT_ok hnt fun K hK=>?_
    refine And.intro (⟨by rw[eTys_len],by rw[eTys_len,eTys_len];omega⟩) ?_;refine And.intro (VLe.of_eq (by rw[eTys_len])) ?_;refine hK _ _ ?_;clear hK K
    rw[←eTys_append,←List.length_append]
    refine dwk [(38,.v (.int .i64 (↑(j + 1))))] TAT_ok hnt fun K hK=>?_;refine And.intro auI ?_;refine hK _ _ ?_;clear hK K
    refine⟨⟨(j + 1,x,l ++ x.binds),by omega,hst⟩,by first | omega | (dsimp only;omega),VS.toA⟩
   ·rw[if_neg hc] at hst
    rw[atP_stop t p j hlt hst]
    by_cases h0:p[j] < 0
    ·skip
     refine dw_seq ?_;refine dwk [(16,.v (.bool true))] TAT_ok hnt fun K hK=>?_;refine And.intro auT ?_;refine hK _ _ ?_;clear hK K;refine dw_seq ?_;refine dw_cond (t:=true) rfl ?_;rw[if_pos rfl];refine dw_skip ?_;refine dw_seq ?_;refine dw_block ?_;refine dw_seq ?_;refine dwk [(17,.q [.v (.int .i64 (p[j]))])] TAT_ok hnt fun K hK=>?_;refine And.intro (elo (eIs_len p)) ?_;refine And.intro (elv (eIs_getD p j) rfl) ?_
     refine hK _ _ ?_;clear hK K;refine dw_seq ?_;refine dw_seq ?_;refine dwk [(20,.v (.bool true))] TAT_ok hnt fun K hK=>?_;refine And.intro auT ?_;refine hK _ _ ?_;clear hK K;refine dw_cond (t:=true) rfl ?_;rw[if_pos rfl];refine dw_seq ?_;refine dwk [] TAT_ok hnt fun K hK=>hK _ _ ?_;clear hK K;refine dw_ret ?_
     exact reta rfl
    ·skip
     refine dw_seq ?_;refine dwk [(16,.v (.bool true))] TAT_ok hnt fun K hK=>?_;refine And.intro auT ?_;refine hK _ _ ?_;clear hK K;refine dw_seq ?_;refine dw_cond (t:=true) rfl ?_;rw[if_pos rfl];refine dw_skip ?_;refine dw_seq ?_;refine dw_block ?_;refine dw_seq ?_;refine dwk [(17,.q [.v (.int .i64 (p[j]))])] TAT_ok hnt fun K hK=>?_;refine And.intro (elo (eIs_len p)) ?_;refine And.intro (elv (eIs_getD p j) rfl) ?_
     refine hK _ _ ?_;clear hK K;refine dw_seq ?_;refine dw_seq ?_;refine dwk [(20,.v (.bool false)),(25,.v (.int .i64 (↑u.args.length))),(26,.v (.bool true))] TAT_ok hnt fun K hK=>?_;refine And.intro auF ?_;refine And.intro (dintE (by rw[eTms_len])) ?_;refine And.intro auT ?_;refine hK _ _ ?_;clear hK K;refine dw_cond (t:=true) rfl ?_;rw[if_pos rfl];refine dw_seq ?_;refine dwk [] TAT_ok hnt fun K hK=>?_
     refine hK _ _ ?_;clear hK K;refine dw_ret ?_
     exact reta rfl
  ·have hjp:p.take j=p:=List.take_of_length_le (by omega)
   rw[hjp] at hu
   rw[hu,show satV (some (u,l))=.tu [.ag [.sl 2 (eTys u.binds) none,.v (.int .i64 u.kind),.v (.int .i64 u.index),.sl 4 (eTms u.args) none],.sl 2 (eTys l) none,.v (.int .i64 0)] by rw[←eTm_eq];rfl]
   have hcp:=copy_d u (by omega) hfu
   have hs0:(Ty.mk [] 0).size=1:=by simp[Ty.size,Ty.sizes]
   have harr:=arrow_d (.mk [] 0) l (by omega)
   dsimp only[Ty.args,Ty.base] at harr
   rw[List.append_nil,eTy_eq,eTy_eq] at harr
   dsimp only[Ty.args,Ty.base,eTys] at harr
   rw[eTm_eq] at hcp
   refine dw_seq ?_;refine dwk [(16,.v (.bool false))] TAT_ok hnt fun K hK=>?_;refine And.intro auF ?_;refine hK _ _ ?_;clear hK K;refine dw_seq ?_;refine dw_cond (t:=false) rfl ?_;rw[if_neg (by simp)]
   refine dw_freeze (x:=7) (g:=6) rfl rfl (eTys_len _) ?_
   rw[eTys_len]
   refine dw_exit ?_;refine dw_seq ?_;refine dwk [(41,.ag [.sl 2 [] none,.v (.int .i64 0)]),(42,.sl 2 (eTys l) none)] TAT_ok hnt fun K hK=>?_;refine dcl (hcp) ?_;refine And.intro (auV) ?_;refine And.intro (VLe.untag _ _ _) ?_;refine dcl (harr) ?_;refine hK _ _ ?_;clear hK K;refine dw_ret ?_
   exact reta rfl
def TS9_22:TI:=⟨1,false,[Value.slice none 0 0],[],some 103,24,5,none,false⟩
theorem TS9_22_ok:TypOk Tryz.prog 22 TS9_22:=by constructor <;> kernel_rfl
def TS9_3:TI:=⟨1,false,[Value.int IntKind.i64 0],[],none,8,2,none,false⟩
theorem TS9_3_ok:TypOk Tryz.prog 3 TS9_3:=by constructor <;> kernel_rfl
def TS9_24:TI:=⟨3,true,[Value.int IntKind.i64 0,Value.slice none 0 0,Value.slice none 0 0],[(0,1,false),(1,1,false),(2,1,false)],none,56,6,none,false⟩
theorem TS9_24_ok:TypOk Tryz.prog 24 TS9_24:=by constructor <;> kernel_rfl
def TS9_103:TI:=⟨2,true,[Value.slice none 0 0,Value.int IntKind.i64 0],[(0,1,false),(1,1,false)],none,32,6,none,false⟩
theorem TS9_103_ok:TypOk Tryz.prog 103 TS9_103:=by constructor <;> kernel_rfl
def TS9:List (Nat×TI):=[(22,TS9_22),(3,TS9_3),(24,TS9_24),(103,TS9_103)]
theorem TS9_ok:TabOk Tryz.prog TS9:=(((((TabOk.nil _).cons TS9_103_ok).cons TS9_24_ok).cons TS9_3_ok).cons TS9_22_ok)
def few4B (t:Ty):Bool:=decide (fewT 60 t 60≤60)
theorem fewT60 {t:Ty}(h:few4B t=true):t.size≤60:=by
 unfold few4B at h
 rw[decide_eq_true_eq] at h
 have:=fewT_size (by decide) 1000 t 60 (by decide) h
 omega
set_option maxHeartbeats 1000000 in
theorem small_d (b:Int)(C M X:List Ty)(h1:C.length≤20)(h2:M.length≤20)(h3:X.length≤20):PureC Tryz.prog 9 [.ag [.v (.int .i64 b),.sl 2 (eTys C) none,.sl 2 (eTys M) none],.sl 2 (eTys X) none] (.v (.bool (((C ++ M) ++ X).all few4B))):=by
 have hB:=rbehind_d C M (by omega)
 have hB2:=rbehind_d (C ++ M) X (by simp;omega)
 obtain⟨l,hl⟩:∃ l,(C ++ M) ++ X=l:=⟨_,rfl⟩
 rw[hl] at hB2 ⊢
 have hll:l.length≤60:=by rw[←hl];simp;omega
 refine call_of_dw 0 41 [ResultVar.tmp 4] TS9_ok (by kernel_rfl) Tryz.func9 rfl Tryz.ntmps9 rfl (by simp) ?dwords ?dbody
 case dwords=>simp[wordsOk,D.ok,D.oks,rnames,eTys_ok]
 case dbody=>
  intro cx hnt hn0
  refine dw_seq ?_;refine dwk [] TS9_ok hnt fun K hK=>hK _ _ ?_;clear hK K;refine dw_seq (dw_seq ?_);refine dwk [(10,.v (.bool false)),(15,.v (.bool false)),(20,.v (.bool false))] TS9_ok hnt fun K hK=>?_;refine And.intro (dfalse (by rw[eTys_len];omega)) ?_;refine And.intro (dfalse (by rw[eTys_len];omega)) ?_;refine And.intro (dfalse (by rw[eTys_len];omega)) ?_;refine hK _ _ ?_;clear hK K
  refine dw_cond (t:=false) rfl ?_;rw[if_neg (by simp)];refine dw_skip ?_;refine dw_seq ?_;refine dwk [] TS9_ok hnt fun K hK=>?_;refine dcl (hB) ?_;refine dcl (hB2) ?_;refine hK _ _ ?_;clear hK K;refine dw_seq (dw_seq ?_);refine dwk [] TS9_ok hnt fun K hK=>hK _ _ ?_;clear hK K;refine dw_block ?_
  refine dw_loop (ι:={ j:Nat // ∀ i (h:i < l.length),i < j→few4B l[i]=true }) (fun j=>[(.t 5,.sl 2 (eTys l) none),(.t 6,.v (.int .i64 (j.1:Int)))]) 1 (fun j=>l.length - j.1) ⟨0,fun i h1 h2=>by omega⟩ VS.toA fun j=>?_
  obtain⟨j,hj⟩:=j
  dsimp only
  refine dw_seq (dw_seq ?_)
  by_cases hlt:j < l.length
  ·have hi:=Few4_d 60 (by decide) (by decide) l[j] 60 (by decide) (by decide)
   rw[eTy_eq] at hi
   have hq:(eTys l).getD (j:Int).toNat []=[.sl 2 (eTys l[j].args) none,.v (.int .i64 l[j].base)]:=by rw[Int.toNat_natCast,eTys_getD l j hlt,eTy_eq]
   have hb:(0:Int)≤(j:Int)∧(j:Int) < ((eTys l).length:Int):=⟨by omega,by rw[eTys_len];omega⟩
   refine dwk [(32,.v (.bool true))] TS9_ok hnt fun K hK=>?_;refine And.intro (dtrue (by rw[eTys_len];omega)) ?_;refine hK _ _ ?_;clear hK K;refine dw_cond (t:=true) rfl ?_;rw[if_pos rfl];refine dw_skip ?_;refine dw_seq (dw_block (dw_seq ?_))
   cases hf:few4B l[j] with
   | true=>
    have hf2:=hf
    unfold few4B at hf2
    rw[hf2] at hi
    refine dwk [(37,.q [.sl 2 (eTys l[j].args) none,.v (.int .i64 l[j].base)])] TS9_ok hnt fun K hK=>?_;refine And.intro (hb) ?_;refine And.intro (VLe.of_eq (by rw[hq])) ?_;refine dcl (hi) ?_;refine hK _ _ ?_;clear hK K;refine dw_cond (t:=false) rfl ?_;rw[if_neg (by simp)];refine dw_skip ?_;refine dwk [(34,.v (.int .i64 ((j + 1:Nat):Int)))] TS9_ok hnt fun K hK=>?_;refine And.intro (dintE (by rw[IntWalk.i64_in _ (by omega)];omega)) ?_
    refine hK _ _ ?_;clear hK K
    refine⟨⟨j + 1,fun i h1 h2=>?_⟩,by dsimp only;omega,VS.toA⟩
    by_cases he:i=j
    ·subst he;exact hf
    ·exact hj i h1 (by omega)
   | false=>
    have hf2:=hf
    unfold few4B at hf2
    rw[hf2] at hi
    have ha:l.all few4B=false:=by rw[List.all_eq_false];exact⟨l[j],List.getElem_mem hlt,by rw[hf];simp⟩
    rw[ha]
    refine dwk [(37,.q [.sl 2 (eTys l[j].args) none,.v (.int .i64 l[j].base)])] TS9_ok hnt fun K hK=>?_;refine And.intro (hb) ?_;refine And.intro (VLe.of_eq (by rw[hq])) ?_;refine dcl (hi) ?_;refine hK _ _ ?_;clear hK K;refine dw_cond (t:=true) rfl ?_;rw[if_pos rfl];refine dw_seq ?_;refine dwk [] TS9_ok hnt fun K hK=>hK _ _ ?_;clear hK K;refine dw_ret ?_
    exact retv (N:=0) (.inr rfl) rfl (VLe.refl _) trivial
  ·have ha:l.all few4B=true:=by
    rw[List.all_eq_true]
    intro t ht
    obtain⟨i,hi,rfl⟩:=List.getElem_of_mem ht
    exact hj i hi (by omega)
   rw[ha]
   refine dwk [(32,.v (.bool false))] TS9_ok hnt fun K hK=>?_;refine And.intro (dfalse (by rw[eTys_len];omega)) ?_;refine hK _ _ ?_;clear hK K;refine dw_cond (t:=false) rfl ?_;rw[if_neg (by simp)];refine dw_exit ?_;refine dw_seq ?_;refine dwk [] TS9_ok hnt fun K hK=>hK _ _ ?_;clear hK K;refine dw_ret ?_
   exact retv (N:=0) (.inr rfl) rfl (VLe.refl _) trivial
set_option maxHeartbeats 1000000 in
theorem small_no (b:Int)(C M X:List Ty)(h:¬ (C.length≤20∧M.length≤20∧X.length≤20)):PureC Tryz.prog 9 [.ag [.v (.int .i64 b),.sl 2 (eTys C) none,.sl 2 (eTys M) none],.sl 2 (eTys X) none] (.v (.bool false)):=by
 refine call_of_dw 0 41 [ResultVar.tmp 4] TS9_ok (by kernel_rfl) Tryz.func9 rfl Tryz.ntmps9 rfl (by simp) ?dwords ?dbody
 case dwords=>simp[wordsOk,D.ok,D.oks,rnames,eTys_ok]
 case dbody=>
  intro cx hnt hn0
  refine dw_seq ?_;refine dwk [] TS9_ok hnt fun K hK=>hK _ _ ?_;clear hK K;refine dw_seq (dw_seq ?_)
  by_cases h1:C.length≤20
  ·by_cases h2:M.length≤20
   ·skip
    refine dwk [(10,.v (.bool false)),(15,.v (.bool false)),(20,.v (.bool true))] TS9_ok hnt fun K hK=>?_;refine And.intro (dfalse (by rw[eTys_len];omega)) ?_;refine And.intro (dfalse (by rw[eTys_len];omega)) ?_;refine And.intro (dtrue (by rw[eTys_len];omega)) ?_;refine hK _ _ ?_;clear hK K;refine dw_cond (t:=true) rfl ?_;rw[if_pos rfl];refine dw_seq ?_;refine dwk [] TS9_ok hnt fun K hK=>?_
    refine hK _ _ ?_;clear hK K;refine dw_ret ?_
    exact retv (N:=0) (.inr rfl) rfl (VLe.refl _) trivial
   ·skip
    refine dwk [(10,.v (.bool false)),(15,.v (.bool true))] TS9_ok hnt fun K hK=>?_;refine And.intro (dfalse (by rw[eTys_len];omega)) ?_;refine And.intro (dtrue (by rw[eTys_len];omega)) ?_;refine hK _ _ ?_;clear hK K;refine dw_cond (t:=true) rfl ?_;rw[if_pos rfl];refine dw_seq ?_;refine dwk [] TS9_ok hnt fun K hK=>hK _ _ ?_;clear hK K;refine dw_ret ?_
    exact retv (N:=0) (.inr rfl) rfl (VLe.refl _) trivial
  ·skip
   refine dwk [(10,.v (.bool true))] TS9_ok hnt fun K hK=>?_;refine And.intro (dtrue (by rw[eTys_len];omega)) ?_;refine hK _ _ ?_;clear hK K;refine dw_cond (t:=true) rfl ?_;rw[if_pos rfl];refine dw_seq ?_;refine dwk [] TS9_ok hnt fun K hK=>hK _ _ ?_;clear hK K;refine dw_ret ?_
   exact retv (N:=0) (.inr rfl) rfl (VLe.refl _) trivial
namespace Li
structure Pr where
 l:Tm
 r:Tm
 m:List Ty
instance:DecidableEq Pr:=fun p q=>decidable_of_iff (p.l=q.l∧p.r=q.r∧p.m=q.m) (by cases p;cases q;simp)
def Pr.z:Pr:=⟨Tm.zero,Tm.zero,[]⟩
end Li
def ePr (p:Li.Pr):List D:=[.sl 2 (eTys p.l.binds) none,.v (.int .i64 p.l.kind),.v (.int .i64 p.l.index),.sl 4 (eTms p.l.args) none,.sl 2 (eTys p.r.binds) none,.v (.int .i64 p.r.kind),.v (.int .i64 p.r.index),.sl 4 (eTms p.r.args) none,.sl 2 (eTys p.m) none]
@[simp] theorem ePr_ok (f g:Nat→Bool) (p:Li.Pr):D.oks f g (ePr p)=true:=by simp[ePr,D.oks,D.ok]
def ePrs (l:List Li.Pr):List (List D):=l.map ePr
@[simp] theorem ePrs_ok (f g:Nat→Bool) (l:List Li.Pr):D.okss f g (ePrs l)=true:=D.okss_map _ l fun l _=>ePr_ok f g l
namespace Ru
def ix (m:Int):List Int→Nat
 | []=>0
 | x :: l=>if x=m then 0 else ix m l + 1
def met (o:List Int)(m:Int):List Int:=if m∈o then o else o ++ [m]
mutual
def tr:Tm→List Int→List Int×Tm
 | .mk b k i a,o=>((trs a (if k=2 then met o i else o)).1,.mk b k (if k=2 then (ix i o:Int) else i) (trs a (if k=2 then met o i else o)).2)
def trs:List Tm→List Int→List Int×List Tm
 | [],o=>(o,[])
 | t :: l,o=>((trs l (tr t o).1).1,(tr t o).2 :: (trs l (tr t o).1).2)
end
def eN:List Int→Nat→List (Int×D)
 | [],_=>[]
 | x :: l,n=>(x,.v (.int .i64 ((n:Nat):Int))) :: eN l (n + 1)
@[simp] theorem eN_ok (f g:Nat→Bool):∀ (o:List Int) (n:Nat),D.okm f g (eN o n)=true
 | [],_=>by simp[eN,D.okm]
 | x :: l,n=>by simp[eN,D.okm,D.ok,eN_ok f g l (n + 1)]
end Ru
namespace Ru
open Li (Pr)
def bad (M:List Ty)(x:Int):Bool:=decide (x < 0∨(M.length:Int)≤x)
def mt (M:List Ty)(x:Int):Ty:=M.getD x.toNat (.mk [] 0)
def own (p:Pr):Pr×Int:=
 if (tr p.r (tr p.l []).1).1.any (bad p.m) then (.z,10) else (⟨(tr p.l []).2,(tr p.r (tr p.l []).1).2,(tr p.r (tr p.l []).1).1.map (mt p.m)⟩,0)
end Ru
namespace Ru
end Ru
namespace Ru
/-! renamed -/
mutual
def rn (l:List Int):Tm→Tm
 | .mk b k i a=>.mk b k (if k=2∧i∈l then (ix i l:Int) else i) (rns l a)
def rns (l:List Int):List Tm→List Tm
 | []=>[]
 | t :: r=>rn l t :: rns l r
end
end Ru
namespace Ru
end Ru
namespace Ru
def cur (l:List Int)(i:Int)(j:Nat):Int:=if i∈l.take j then (ix i l:Int) else i
end Ru
/-! slices.Concat of terms -/
def eTmss (ls:List (List Tm)):List (List D):=ls.map fun l=>[.sl 4 (eTms l) none]
@[simp] theorem eTmss_ok (f g:Nat→Bool) (l:List (List Tm)):D.okss f g (eTmss l)=true:=D.okss_map _ l fun l _=>by simp[D.oks,D.ok,eTms_ok]
/-! variables -/
namespace Li
def vars (B:List Ty)(n:Int):List Tm:=B.mapIdx fun i b=>Ty.Eta b 0 (n + B.length - 1 - i)
mutual
def lif (B:List Ty):Tm→Int→Tm
 | .mk b k i a,n=>.mk b k i ((if k=2 then vars B (n + b.length) else []) ++ lifs B a (n + b.length))
def lifs (B:List Ty):List Tm→Int→List Tm
 | [],_=>[]
 | t :: l,n=>lif B t n :: lifs B l n
end
end Li
variable {β:Type} {Ok:Obj→Prop} {B:Nat} {I I':β→World→Prop}

end Go.Proofs.YtflbnonbfmmchaaGreat
namespace Go.Proofs.YtflbnonbfmmchaaGreat
open Go.RowKit

namespace Tm
mutual
def heads:Tm→Int→List (Int×Int)
 | .mk b k i a,n=>(if k≠0 then [(k,i)] else if n + (b.length:Int)≤i then [(0,i - (n + (b.length:Int)))] else []) ++ headss a (n + (b.length:Int))
def headss:List Tm→Int→List (Int×Int)
 | [],_=>[]
 | t :: l,n=>heads t n ++ headss l n
end
end Tm

end Go.Proofs.YtflbnonbfmmchaaGreat
namespace Go.Proofs.YtflbnonbfmmchaaGreat
open Go.RowKit Go.Shelf
attribute [local go_sem] Oper.semAt_some

end Go.Proofs.YtflbnonbfmmchaaGreat
namespace Go.Proofs.YtflbnonbfmmchaaGreat
open Go.RowKit

def sortU (zs:List Int):List Int:=Lib.compact (zs.mergeSort fun x y=>decide (x≤y))

theorem keepsOthers_grown {W W':World}{row:Option Nat}(hg:W.grownBy W' row)(hr:∀ r,row=some r→∃ o:Obj,W.heap[r]?=some o∧o.isCells=true):KeepsOthers W W':=
 ⟨hg.size,fun k o ho hc=>(hg.block k (Array.getElem?_eq_some_iff.1 ho).1 (fun e=>by
  obtain⟨o',ho',hc'⟩:=hr k e.symm
  rw[ho] at ho';cases ho';rw[hc] at hc';cases hc')).trans ho⟩

theorem own_row {w:World}{base:Nat}{e:TypeId}{size:Nat}{v:Value}{n:Nat}{xs:List Value}(h:w.ownsRow base e size v n xs):∀ r,v.ownBlock=some r→base≤r∧∃ cs,w.heap[r]?=some (.cells cs e (0,0)):=by
 intro r hr
 rcases h.2 with⟨rfl,_⟩ | ⟨g,cap,cur,rfl,hb,hg,_⟩
 ·cases hr
 ·cases hr;exact⟨hb,_,hg⟩
theorem own_kept {w w':World}{base:Nat}{e:TypeId}{size:Nat}{v:Value}{n:Nat}{xs:List Value}{row:Option Nat}(h:w.ownsRow base e size v n xs)(hg:w.grownBy w' row) 
  (hr:∀ r,row=some r→∃ o:Obj,w.heap[r]?=some o∧∀ cs,o≠.cells cs e (0,0)):w'.ownsRow base e size v n xs:=by
 refine h.kept hg ?_
 cases hv:v.ownBlock with
 | none=>exact .inl rfl
 | some g=>
  refine .inr fun e'=>?_
  obtain⟨_,cs,hc⟩:=own_row h g hv
  obtain⟨o,ho,hne⟩:=hr g e'.symm
  rw[hc] at ho;cases ho;exact hne cs rfl

structure OutAt (w:World) (Ds:List Nat) (vv:Value) (zs:List Int) (W:World):Prop where
 box:Blk W w.heap.size #[vv] 59
 own:W.ownsRow (w.heap.size + 1) 3 1 vv zs.length (zs.map (Value.int .i64))
 nod:Ds.Nodup
 marks:∀ D∈Ds,w.heap.size + 1≤D∧W.heap[D]?=some (.deferred (some []))
 below:Below w.heap.size w W
def OutG (B k:Nat)(t:TypeId):Prop:=k < B∨(B < k∧t≠3)
namespace OutAt
variable {w W W':World} {Ds:List Nat} {vv:Value} {zs:List Int}
theorem lt (h:OutAt w Ds vv zs W):∀ D∈Ds,D < W.heap.size:=fun D hD=>(Array.getElem?_eq_some_iff.1 (h.marks D hD).2).1
theorem blw (h:OutAt w Ds vv zs W)(hb:Below W.heap.size W W'):OutAt w Ds vv zs W':=
 ⟨h.box.below hb,ownsRow_below h.own hb,h.nod,fun D hD=>⟨(h.marks D hD).1,(hb.block D (h.lt D hD)).trans (h.marks D hD).2⟩,h.below.trans (hb.mono h.below.size)⟩
theorem alloc (h:OutAt w Ds vv zs W)(o:Obj):OutAt w Ds vv zs (W.alloc o):=h.blw ((Below.refl _ _).alloc (Nat.le_refl _) _)
theorem grown {B:Nat}{row:Option Nat}(h:OutAt w Ds vv zs W)(hlt:∀ D∈Ds,D < B)(hwB:w.heap.size < B)(hg:W.grownBy W' row) 
  (hr:∀ r,row=some r→B≤r∧∃ o:Obj,W.heap[r]?=some o∧∀ cs,o≠.cells cs 3 (0,0)):OutAt w Ds vv zs W':=
 ⟨h.box.grown hg (fun e=>by have:=(hr _ e).1;omega),own_kept h.own hg (fun r e=>(hr r e).2),h.nod,
  fun D hD=>⟨(h.marks D hD).1,(hg.block D (h.lt D hD) (fun e=>by have:=(hr _ e.symm).1;have:=hlt D hD;omega)).trans (h.marks D hD).2⟩,
  h.below.grown hg h.below.size (fun r e=>by have:=(hr r e).1;omega)⟩
theorem push (h:OutAt w Ds vv zs W)(x:Int){w3:World}{v':Value}(hg:(W.alloc (.cells #[.int .i64 x] 3)).grownBy w3 vv.ownBlock) 
  (hown:w3.ownsRow (w.heap.size + 1) 3 1 v' (zs.length + 1) (zs.map (Value.int .i64) ++ [.int .i64 x])) :
  OutAt w Ds v' (zs ++ [x]) (w3.setCell ⟨w.heap.size,0,none⟩ v')∧KeepsOthers W (w3.setCell ⟨w.heap.size,0,none⟩ v')∧KeepC (OutG w.heap.size) W (w3.setCell ⟨w.heap.size,0,none⟩ v'):=by
 have ho1:=h.own.alloc (.cells #[.int .i64 x] 3)
 have h1:=h.alloc (.cells #[.int .i64 x] 3)
 have hrow:=own_row ho1
 have hk3:KeepsOthers (W.alloc (.cells #[.int .i64 x] 3)) w3:=keepsOthers_grown hg (fun r e=>by
  obtain⟨_,cs,hc⟩:=hrow r e;exact⟨_,hc,rfl⟩)
 have hbox3:Blk w3 w.heap.size #[vv] 59:=h1.box.grown hg (fun e=>by have:=(hrow _ e).1;omega)
 have hbel3:Below w.heap.size w w3:=h1.below.grown hg h1.below.size (fun r e=>by have:=(hrow r e).1;omega)
 have hkc:KeepC (OutG w.heap.size) (W.alloc (.cells #[.int .i64 x] 3)) w3:=⟨hg.size,fun k cs t fr hk hc=>(hg.block k (Array.getElem?_eq_some_iff.1 hc).1 (fun e=>by
  obtain⟨hle,cs',hc'⟩:=hrow k e.symm
  rw[hc] at hc';cases hc'
  rcases hk with hk | hk
  ·omega
  ·exact hk.2 rfl)).trans hc⟩
 refine⟨⟨hbox3.set 0 _,?_,h.nod,fun D hD=>⟨(h1.marks D hD).1,?_⟩,hbel3.setCell (by simp) _⟩,(((KeepsOthers.alloc W _).trans hk3).trans (KeepsOthers.setCell _ _ _)),?_⟩
 ·have:=ownsRow_setCell_below hown (a:=⟨w.heap.size,0,none⟩) (by simp) v'
  simpa using this
 ·exact(KeepsOthers.setCell w3 _ v').same D _ (hk3.same D _ (h1.marks D hD).2 rfl) rfl
 ·exact(((KeepC.refl _ W).alloc _).trans hkc).setCell _ _ (fun t ht=>by rcases ht with h | h <;> simp at h)
theorem turned (h:OutAt w Ds vv zs W){ys:List Int}{W':World}(hg:W.grownBy W' vv.ownBlock){v':Value}(hown:W'.ownsRow (w.heap.size + 1) 3 1 v' ys.length (ys.map (Value.int .i64))):
  (Blk W' w.heap.size #[vv] 59∧∀ D∈Ds,w.heap.size + 1≤D∧W'.heap[D]?=some (.deferred (some [])))∧Below w.heap.size w W':=by
 have hrow:=own_row h.own
 refine⟨⟨h.box.grown hg (fun e=>by have:=(hrow _ e).1;omega),fun D hD=>⟨(h.marks D hD).1,?_⟩⟩,h.below.grown hg h.below.size (fun r e=>by have:=(hrow r e).1;omega)⟩
 refine(hg.block D (h.lt D hD) (fun e=>?_)).trans (h.marks D hD).2
 obtain⟨_,cs,hc⟩:=hrow D e.symm
 rw[(h.marks D hD).2] at hc;cases hc
end OutAt
end Go.Proofs.YtflbnonbfmmchaaGreat
namespace Go.Proofs.YtflbnonbfmmchaaGreat
open Go.RowKit Go.Shelf
attribute [local go_sem] Oper.semAt_some

def metasP (l:List (Nat×Nat×Tm)):List Int:=l.filterMap fun p=>if p.2.2.kind=2 then some p.2.2.index else none
def metasL (l:List Tm):List Int:=l.flatMap fun t=>metasP (t.pre 0 1)
end Go.Proofs.YtflbnonbfmmchaaGreat
namespace Go.Proofs.YtflbnonbfmmchaaGreat
open Go.RowKit
namespace Li
def lo (t:Tm):Bool:=decide ((t.looses 0).foldl looseL 0 > 0)
def rt (t:Tm):Bool:=decide (t.size≤5000∧t.depth≤60)
def may (L R:Tm)(M B:List Ty):Int:=
 if (lo L || lo R)=true then 1
 else if ((sortU (metasL [L,R])).any fun x=>decide (x < 0∨(M.length:Int)≤x))=true then 10
 else if (decide ((B.length:Int) > 900) || (!rt L || !rt R))=true then 2 else 0
def done (p:Pr):Pr×Int:=if (rt p.l && rt p.r)=true then (p,0) else (.z,2)
def cl (t:Tm)(B:List Ty):Tm:=.mk (B ++ t.binds) t.kind t.index t.args
def arr (B:List Ty)(t:Ty):Ty:=.mk (B ++ t.args) t.base
def up (p:Pr)(B:List Ty):Pr:=⟨lif B p.l 0,lif B p.r 0,p.m.map (arr B)⟩
def over (p:Pr)(B:List Ty):Pr×Int:=if may p.l p.r p.m B≠0 then (.z,may p.l p.r p.m B) else done (up p B)
def clP (p:Pr)(B:List Ty):Pr:=⟨cl p.l B,cl p.r B,p.m⟩
def closed (p:Pr)(B:List Ty):Pr×Int:=if (over p B).2≠0 then (.z,(over p B).2) else done (clP (over p B).1 B)
end Li
/-! the example -/
namespace Li
end Li
/-! the law -/
theorem sizes_le22 {l:List Ty}{n:Nat}(h:∀ t∈l,t.size≤n):Ty.sizes l≤l.length * n:=by
 induction l with
 | nil=>simp[Ty.sizes]
 | cons t l ih=>
  have h1:=h t (by simp)
  have h2:=ih fun u hu=>h u (by simp[hu])
  rw[Ty.sizes,List.length_cons,Nat.add_mul];omega
namespace Li
end Li
def eHs (l:List (Int×Int)):List (List D):=l.map fun h=>[.v (.int .i64 h.1),.v (.int .i64 h.2)]
@[simp] theorem eHs_ok (f g:Nat→Bool) (l:List (Int×Int)):D.okss f g (eHs l)=true:=D.okss_map _ l fun _ _=>rfl

def sgn (x y:Int):Int:=if x < y then -1 else if y < x then 1 else 0
def orl (a b:Int):Int:=if a=0 then b else a
@[simp] theorem orl_zero (b:Int):orl 0 b=b:=by simp[orl]
@[simp] theorem orl_zero_right (a:Int):orl a 0=a:=by unfold orl;split <;> simp_all
namespace Ty
mutual
def cmp:Ty→Ty→Int
 | .mk l b,.mk l' b'=>orl (orl (orl (sgn (Ty.sizes l + 1:Nat) (Ty.sizes l' + 1:Nat)) (sgn (l.length:Nat) (l'.length:Nat))) (cmps l l')) (sgn b b')
def cmps:List Ty→List Ty→Int
 | [],_=>0
 | _ :: _,[]=>0
 | t :: l,u :: l'=>orl (cmp t u) (cmps l l')
end
@[simp] theorem cmps_nil (l:List Ty):cmps [] l=0:=by rw[cmps]

end Ty

namespace Tm
def cmpB (l l':List Ty):Int:=orl (sgn (l.length:Nat) (l'.length:Nat)) (Ty.cmps l l')
mutual
def cmp:Tm→Tm→Int
 | .mk b k i a,.mk b' k' i' a'=>orl (sgn (Tm.sizes a + 1:Nat) (Tm.sizes a' + 1:Nat)) (orl (cmpB b b') (orl (sgn k k') (orl (sgn i i') (orl (sgn (a.length:Nat) (a'.length:Nat)) (cmps a a')))))
def cmps:List Tm→List Tm→Int
 | [],_=>0
 | _ :: _,[]=>0
 | t :: l,u :: l'=>orl (cmp t u) (cmps l l')
end
@[simp] theorem cmps_nil (l:List Tm):cmps [] l=0:=by rw[cmps]
end Tm

namespace Ty
end Ty

theorem IsSl.bel {α:Type}{r:Rp α}{F:Nat→Prop}{w w':World}{v:Value}{l:List α}(h:IsSl r F w v l)(hb:Below w.heap.size w w'):IsSl r F w' v l:=h.keep ((Keep.refl _ _).below hb)

def checkCode (C M:List Ty)(t:Tm)(X:List Ty)(u:Ty)(c:Int):Prop:=(¬ (t.size≤5000∧t.depth≤60)∧c=2)∨((t.size≤5000∧t.depth≤60)∧¬ IsOf C M t X u∧c=5)∨((t.size≤5000∧t.depth≤60)∧IsOf C M t X u∧c=0)
namespace Li
def bad (M:List Ty)(x:Int):Bool:=decide (x < 0∨(M.length:Int)≤x)
end Li

def RightTy (bases:Int)(t:Ty):Prop:=t.size≤1000∧t.depth≤60∧Ty.Low bases t

set_option maxRecDepth 100000 in
theorem rightWorld1_k {F:Nat→Prop}{w:World}{s d:Value}{t:Ty}{b:Int}{B:Nat}(ht:IsTy F w s d t)(hz:t.size≤400000)(hB:w.cell? ⟨B,0,none⟩=some (.int .i64 b)):
  Calls Tryz.prog 59 #[.agg #[s,d],.pointer (some ⟨B,0,none⟩)] w (RetB (¬ RightTy b t) w):=by
 have Hr:=Lib.hid fun(w':World) (hb:Below w.heap.size w w')=>right_k (ht.bel hb) b (by omega)
 obtain⟨a,c,rfl,rfl⟩:=ht.shape
 clear ht
 obtain⟨n1,hn1⟩:∃ n,t.args.length=n:=⟨_,rfl⟩
 obtain⟨n2,hn2⟩:∃ n,t.base=n:=⟨_,rfl⟩
 rw[hn1,hn2] at Hr ⊢
 clear hn1 hn2
 have hl:=Keep.lt hB
 go_enter Tryz.func59,Tryz.ntmps59
 go_wp2_with fail
 have hb1:Below w.heap.size w (w.alloc (.cells #[.slice a n1 c,.int .i64 n2] 44)):=(Below.refl _ _).alloc (Nat.le_refl _) _
 refine(Hr.out _ hb1).mono ?_
 intro e w2 h
 obtain⟨r,Hq,rfl,hb2⟩:=of_retB' h
 clear h
 go_wp2_with fail
 go_ret
 exact⟨_,by have:=Hq.out;unfold RightTy;cases r <;> simp_all,rfl,hb1.trans (hb2.mono hb1.size)⟩

set_option maxRecDepth 100000 in
theorem indexFunc_k {G F:Nat→Prop}{w:World}{v:Value}{l:List Ty}{b:Int}{B:Nat}(h:IsSl2 rpTy G F w v l)(hz:∀ t∈l,t.size≤400000)(hB:w.cell? ⟨B,0,none⟩=some (.int .i64 b)):
  Calls Tryz.prog 108 #[v,.func (.func 59) #[] #[.pointer (some ⟨B,0,none⟩)]] w fun e w'=>∃ i:Int,Hid (0≤i↔∃ t∈l,¬ RightTy b t)∧e=.returned (.int .i64 i)∧Below w.heap.size w w':=by
 obtain⟨a,c,rfl⟩:=h.shape
 have Hat:=Lib.hid (sl_at h)
 have hl:(l.length:Int)≤9223372036854775807:=by obtain⟨_,_,_,_,_,_,hm,_⟩:=h;unfold maxLen at hm;omega
 clear h
 have Hz:=Lib.hid hz;clear hz
 go_enter Tryz.func108,Tryz.ntmps108
 go_wp2_with fail
 go_loopw [5,8] (fun _ i wr=>∃ k:Nat,i=.int .i64 k∧k≤l.length∧Hid (∀ m (h:m < l.length),m < k→RightTy b l[m])∧Below w.heap.size w wr) (fun _ i _=>l.length - (intOf i).toNat)
 case atStart=>exact⟨0,rfl,by omega,fun m _ h=>absurd h (by omega),Below.refl _ _⟩
 case round=>
  obtain⟨k,rfl,hk,hrel,hb⟩:=hrel
  by_cases hlt:k < l.length
  ·obtain⟨bl,off,A,N,C,Bb,rfl,_,e1,e2,hT⟩:=Hat.out k hlt
   have hkx:Keep (fun _=>True) w wr:=(Keep.refl _ _).below hb
   have e1:=hkx _ _ _ trivial e1
   have e2:=hkx _ _ _ trivial e2
   have HT:=Lib.hid (hT.bel hb);clear hT
   have i1:(k:Int) < (l.length:Int):=by omega
   have HB:=Lib.hid (hkx _ _ _ trivial hB)
   clear hkx
   go_wp2_with fail
   refine(rightWorld1_k HT.out (Hz.out _ (List.getElem_mem hlt)) HB.out).mono ?_
   intro e w2 h
   obtain⟨r,Hq,rfl,hb2⟩:=of_retB' h
   clear h e1 e2
   cases r
   ·have Hq2:=Lib.hid (no_of Hq.out)
    go_wp2_with fail
    go_roundw
    case rel=>exact⟨k + 1,by go_num,by omega,fun m h hm=>by
     by_cases hmk:m < k
     ·exact hrel.out m h hmk
     ·obtain rfl:m=k:=by omega
      exact Classical.not_not.1 Hq2.out,hb.trans (hb2.mono hb.size)⟩
    case measure=>simp[intOf];omega
   ·have Hq2:=Lib.hid (yes_of Hq.out)
    go_wp2_with fail
    go_ret
    exact⟨_,⟨fun _=>⟨_,List.getElem_mem hlt,Hq2.out⟩,fun _=>by omega⟩,rfl,hb.trans (hb2.mono hb.size)⟩
  ·go_wp2_with fail
   go_ret
   refine⟨_,⟨fun h=>absurd h (by omega),fun⟨t,ht,hn⟩=>?_⟩,rfl,hb⟩
   obtain⟨m,hm,rfl⟩:=List.getElem_of_mem ht
   exact absurd (hrel.out m hm (by omega)) hn

set_option maxRecDepth 100000 in
theorem containsFunc_k {G F:Nat→Prop}{w:World}{v:Value}{l:List Ty}{b:Int}{B:Nat}(h:IsSl2 rpTy G F w v l)(hz:∀ t∈l,t.size≤400000)(hB:w.cell? ⟨B,0,none⟩=some (.int .i64 b)):
  Calls Tryz.prog 57 #[v,.func (.func 59) #[] #[.pointer (some ⟨B,0,none⟩)]] w (RetB (∃ t∈l,¬ RightTy b t) w):=by
 have Hi:=Lib.hid (indexFunc_k h hz hB)
 obtain⟨a,c,rfl⟩:=h.shape
 clear h hz hB
 go_enter Tryz.func57,Tryz.ntmps57
 go_wp2_with fail
 refine Hi.out.mono ?_
 rintro e w1 ⟨i,hi,rfl,hb⟩
 go_wp2_with fail
 go_ret
 exact⟨_,by rw[←hi.out];simp,rfl,hb⟩

def RightWd (b:Int)(C M:List Ty):Prop:=C.length + M.length≤1000∧∀ t∈C ++ M,RightTy b t

set_option maxRecDepth 100000 in
set_option maxHeartbeats 1000000 in
theorem RightWorld_k {F:Nat→Prop}{w:World}{b:Int}{cv mv:Value}{C M:List Ty}(hc:IsSl rpTy F w cv C)(hm:IsSl rpTy F w mv M)(hz:∀ t∈C ++ M,t.size≤400000):
  Calls Tryz.prog 15 #[.agg #[.int .i64 b,cv,mv]] w (RetB (RightWd b C M) w):=by
 obtain⟨ca,cc,rfl⟩:=hc.shape
 obtain⟨ma,mc,rfl⟩:=hm.shape
 have hlc:(C.length:Int)≤9223372036854775807:=by obtain⟨_,_,_,_,_,_,h,_⟩:=hc;unfold maxLen at h;omega
 have hlm:(M.length:Int)≤9223372036854775807:=by obtain⟨_,_,_,_,_,_,h,_⟩:=hm;unfold maxLen at h;omega
 have Hc:=Lib.hid hc;have Hm:=Lib.hid hm;have Hz:=Lib.hid hz
 clear hc hm hz
 by_cases g1:(1000:Int) < (C.length:Int)
 ·skip
  go_enter Tryz.func15,Tryz.ntmps15
  go_wp2_with fail
  go_ret
  exact⟨false,by unfold RightWd;simp;omega,rfl,(Below.refl _ _).alloc (Nat.le_refl _) _⟩
 have hq:IntKind.i64.wrap (1000 - (C.length:Int))=1000 - (C.length:Int):=IntWalk.i64_in _ (by omega)
 by_cases g2:1000 - (C.length:Int) < (M.length:Int)
 ·skip
  go_enter Tryz.func15,Tryz.ntmps15
  go_wp2_with fail
  go_ret
  exact⟨false,by unfold RightWd;simp;omega,rfl,(Below.refl _ _).alloc (Nat.le_refl _) _⟩
 go_enter Tryz.func15,Tryz.ntmps15
 go_wp2_with fail
 obtain⟨w2,hw2⟩:∃ w2,(w.alloc (.cells #[.int .i64 b,.slice ca C.length cc,.slice ma M.length mc] 35)).alloc (.cells #[.slice ca C.length cc,.slice ma M.length mc] 33)=w2:=⟨_,rfl⟩
 have B2:Below w.heap.size w w2:=by rw[←hw2];exact((Below.refl _ _).alloc (Nat.le_refl _) _).alloc (by simp) _
 have x0:Blk w2 w.heap.size #[.int .i64 b,.slice ca C.length cc,.slice ma M.length mc] 35:=by rw[←hw2];exact(Blk.new _ _ _ rfl).alloc _
 have x1:Blk w2 (w.heap.size + 1) #[.slice ca C.length cc,.slice ma M.length mc] 33:=by rw[←hw2];exact Blk.new _ _ _ (by simp)
 rw[hw2]
 clear hw2
 refine(concat_any2 x1 (IsSl2.of (Hc.out.bel B2)) (IsSl2.of (Hm.out.bel B2)) (by omega)).mono ?_
 rintro e w3 ⟨a3,c3,rfl,hT,hb3⟩
 have HT:=Lib.hid hT;clear hT
 have x0':=x0.below hb3
 have B3:=B2.trans (hb3.mono B2.size)
 obtain⟨Y,hY⟩:∃ Y,C ++ M=Y:=⟨_,rfl⟩
 have HY:=Lib.hid hY
 rw[hY] at HT Hz ⊢
 clear hY
 go_wp2_with fail
 refine(containsFunc_k HT.out Hz.out (x0'.cell rfl)).mono ?_
 intro e w4 h
 obtain⟨r,Hq,rfl,hb4⟩:=of_retB' h
 clear h
 go_wp2_with fail
 go_ret
 refine⟨_,?_,rfl,B3.trans (hb4.mono B3.size)⟩
 have h2:(r=true↔∃ t∈Y,¬ RightTy b t):=Hq.out
 have h3:C.length + M.length≤1000:=by omega
 unfold RightWd
 rw[HY.out]
 cases r
 ·simp only[Bool.not_false,true_iff]
  refine⟨h3,fun t ht=>Classical.not_not.1 fun hn=>?_⟩
  exact absurd (h2.2 ⟨t,ht,hn⟩) (by simp)
 ·simp only[Bool.not_true,Bool.false_eq_true,false_iff]
  rintro⟨_,h⟩
  obtain⟨t,ht,hn⟩:=h2.1 rfl
  exact hn (h t ht)

section
variable {w:World} {b:Int} {cv mv xv tb tk ti ta s ub:Value} {C M X:List Ty} {t:Tm} {u:Ty}
end

theorem isTrue {F:Nat→Prop}{w:World}{v:Value}{l:List Ty}(h:IsSl rpTy F w v l):IsSl rpTy (fun _=>True) w v l:=h.weaken (by decide) fun _ _ _=>trivial
theorem slTy9 {m:Mp}{Im:Nat→Nat→Prop}{w:World}{v:Value}{l:List Ty}(h:Rel m Im w v (.sl 2 (eTys l) none)):IsSl rpTy (fun _=>True) w v l:=
 isTrue (sl_of_rel (r:=rpTy) (e:=eTy) eTy_len (fun x t hx _=>ty_of_rel t hx) (by decide) (by rw[eTys_map] at h;exact h))
theorem agWorld {m:Mp}{Im:Nat→Nat→Prop}{w:World}{x:Value}{b:Int}{C M:List Ty}(h:Rel m Im w x (.ag [.v (.int .i64 b),.sl 2 (eTys C) none,.sl 2 (eTys M) none])):∃ cv mv,x=.agg #[.int .i64 b,cv,mv]∧IsSl rpTy (fun _=>True) w cv C∧IsSl rpTy (fun _=>True) w mv M:=by
 obtain⟨cs,rfl,hr⟩:=rel_ag.1 h
 match cs,hr with
 | [x,y,z],hr=>
  have:=rel_v.1 hr.1;subst this
  exact⟨y,z,rfl,slTy9 hr.2.1,slTy9 hr.2.2.1⟩
theorem tyZ_eq:eTy tyZ=[.sl 2 [] none,.v (.int .i64 0)]:=rfl
def TRT6_44:TI:=⟨2,true,[Value.slice none 0 0,Value.int IntKind.i64 0],[(0,1,false),(1,1,false)],none,32,6,none,false⟩
theorem TRT6_44_ok:TypOk Tryz.prog 44 TRT6_44:=by constructor <;> kernel_rfl
def TRT6_33:TI:=⟨1,false,[Value.slice none 0 0],[],some 44,24,5,none,false⟩
theorem TRT6_33_ok:TypOk Tryz.prog 33 TRT6_33:=by constructor <;> kernel_rfl
def TRT6_3:TI:=⟨1,false,[Value.int IntKind.i64 0],[],none,8,2,none,false⟩
theorem TRT6_3_ok:TypOk Tryz.prog 3 TRT6_3:=by constructor <;> kernel_rfl
def TRT6_41:TI:=⟨4,true,[Value.slice none 0 0,Value.int IntKind.i64 0,Value.int IntKind.i64 0,Value.slice none 0 0],[(0,1,false),(1,2,true),(3,1,false)],none,64,6,none,false⟩
theorem TRT6_41_ok:TypOk Tryz.prog 41 TRT6_41:=by constructor <;> kernel_rfl
def TRT6_35:TI:=⟨3,true,[Value.int IntKind.i64 0,Value.slice none 0 0,Value.slice none 0 0],[(0,1,false),(1,1,false),(2,1,false)],none,56,6,none,false⟩
theorem TRT6_35_ok:TypOk Tryz.prog 35 TRT6_35:=by constructor <;> kernel_rfl
def TRT6_38:TI:=⟨2,true,[Value.int IntKind.i64 0,Value.int IntKind.i64 0],[(0,1,false),(1,1,false)],none,16,6,none,true⟩
theorem TRT6_38_ok:TypOk Tryz.prog 38 TRT6_38:=by constructor <;> kernel_rfl
def TRT6_39:TI:=⟨1,false,[Value.slice none 0 0],[],some 41,24,5,none,false⟩
theorem TRT6_39_ok:TypOk Tryz.prog 39 TRT6_39:=by constructor <;> kernel_rfl
def TRT6_192:TI:=⟨1,false,[Value.slice none 0 0],[],some 33,24,5,none,false⟩
theorem TRT6_192_ok:TypOk Tryz.prog 192 TRT6_192:=by constructor <;> kernel_rfl
def TRT6_144:TI:=⟨1,false,[Value.nilFunc],[],none,8,8,none,false⟩
theorem TRT6_144_ok:TypOk Tryz.prog 144 TRT6_144:=by constructor <;> kernel_rfl
def TRT6:List (Nat×TI):=[(44,TRT6_44),(33,TRT6_33),(3,TRT6_3),(41,TRT6_41),(35,TRT6_35),(38,TRT6_38),(39,TRT6_39),(192,TRT6_192),(144,TRT6_144)]
theorem TRT6_ok:TabOk Tryz.prog TRT6:=((((((((((TabOk.nil _).cons TRT6_144_ok).cons TRT6_192_ok).cons TRT6_39_ok).cons TRT6_38_ok).cons TRT6_35_ok).cons TRT6_41_ok).cons TRT6_3_ok).cons TRT6_33_ok).cons TRT6_44_ok)
def tyOf (C M:List Ty)(t:Tm):Option Ty:=(headTy C M ([] ++ t.binds) t.kind t.index).map fun h=>.mk t.binds h.base
theorem isOf_no {C M X:List Ty}{b:List Ty}{k i:Int}{a:List Tm}{u:Ty}(h:∀ x,headTy C M (X ++ b) k i=some x→b=u.args→x.base=u.base→x.args.length=a.length→False):¬ IsOf C M (.mk b k i a) X u:=fun hi=>by
 obtain⟨h1,x,h2,h3,h4⟩:=isOf_mk.1 hi
 exact h x h2 h1 h3 (isOfs_iff.1 h4).1
theorem within_d (l r:List Ty)(h:l.length + r.length≤800000):PureC Tryz.prog 55 [.sl 2 (eTys l) none,.sl 2 (eTys r) none] (.sl 2 (eTys (l ++ r)) none):=by
 have hcat:=concat_d [l,r] (by simp[lens];omega) (by simp)
 simp only[List.flatten_cons,List.flatten_nil,List.append_nil] at hcat
 refine calldw 0 9 [ResultVar.tmp 4] TRT6_ok Tryz.func55 rfl Tryz.ntmps55 rfl fun cx hnt hn0=>?_
 ·skip
  refine dw_seq ?_;refine dwk [] TRT6_ok hnt fun K hK=>hK _ _ ?_;clear hK K;refine dw_seq ?_;refine dwk [(7,.sl 1 (eTyss [l,r]) none)] TRT6_ok hnt fun K hK=>?_;refine And.intro (VLe.untag _ _ _) ?_;refine dcl (hcat) ?_;refine hK _ _ ?_;clear hK K;refine dw_ret ?_
  exact reta rfl
set_option maxHeartbeats 2000000 in
theorem theadA_d (b:Int)(C M X:List Ty)(k i:Int)(hi:i≤9223372036854775807)(hC:C.length≤1000000)(hM:M.length≤1000000)(hX:X.length≤1000000):PureC Tryz.prog 54 [.ag [.v (.int .i64 b),.sl 2 (eTys C) none,.sl 2 (eTys M) none],.sl 2 (eTys X) none,.ag [.v (.int .i64 k),.v (.int .i64 i)]] (.tu [.ag (eTy ((headTy C M X k i).getD tyZ)),.v (.bool (headTy C M X k i).isSome)]):=by
 by_cases k1:k=1
 ·skip
  subst k1
  by_cases hn:i < 0
  ·rw[headTy_neg hn]
   simp only[Option.getD_none,Option.isSome_none]
   rw[tyZ_eq]
   refine calldw 0 51 [ResultVar.cell 6 44,ResultVar.tmp 7] TRT6_ok Tryz.func54 rfl Tryz.ntmps54 rfl fun cx hnt hn0=>?_
   ·skip
    refine dw_seq ?_;refine dwk [] TRT6_ok hnt fun K hK=>hK _ _ ?_;clear hK K;refine dw_seq ?_;refine dwk [] TRT6_ok hnt fun K hK=>hK _ _ ?_;clear hK K;refine dw_seq ?_;refine dwk [] TRT6_ok hnt fun K hK=>hK _ _ ?_;clear hK K;refine dw_seq ?_;refine dw_seq ?_;refine dwk [] TRT6_ok hnt fun K hK=>hK _ _ ?_;clear hK K;refine dw_block ?_;refine dw_seq ?_
    refine dwk [(21,.v (.bool true))] TRT6_ok hnt fun K hK=>?_;refine And.intro (VLe.refl _) ?_;refine hK _ _ ?_;clear hK K;refine dw_cond (t:=true) rfl ?_;rw[if_pos rfl];refine dwkD [] TRT6_ok hnt fun K hK=>?_;refine hK _ _ (by kernel_rfl) ?_;clear hK K;refine dw_seq ?_;refine dw_seq ?_;refine dwk [(39,.v (.bool true))] TRT6_ok hnt fun K hK=>?_;refine And.intro auT ?_;refine hK _ _ ?_;clear hK K
    refine dw_cond (t:=true) rfl ?_;rw[if_pos rfl];refine dw_seq ?_;refine dwk [] TRT6_ok hnt fun K hK=>hK _ _ ?_;clear hK K;refine dw_ret ?_
    exact reta rfl
  ·obtain⟨n,rfl⟩:=Int.eq_ofNat_of_zero_le (Int.not_lt.1 hn)
   rw[headTy_1]
   by_cases hl:n < C.length
   ·rw[List.getElem?_eq_getElem hl]
    simp only[Option.getD_some,Option.isSome_some]
    rw[eTy_eq]
    refine calldw 0 51 [ResultVar.cell 6 44,ResultVar.tmp 7] TRT6_ok Tryz.func54 rfl Tryz.ntmps54 rfl fun cx hnt hn0=>?_
    ·skip
     refine dw_seq ?_;refine dwk [] TRT6_ok hnt fun K hK=>hK _ _ ?_;clear hK K;refine dw_seq ?_;refine dwk [] TRT6_ok hnt fun K hK=>hK _ _ ?_;clear hK K;refine dw_seq ?_;refine dwk [] TRT6_ok hnt fun K hK=>hK _ _ ?_;clear hK K;refine dw_seq ?_;refine dw_seq ?_;refine dwk [] TRT6_ok hnt fun K hK=>hK _ _ ?_;clear hK K;refine dw_block ?_;refine dw_seq ?_
     refine dwk [(21,.v (.bool true))] TRT6_ok hnt fun K hK=>?_;refine And.intro (VLe.refl _) ?_;refine hK _ _ ?_;clear hK K;refine dw_cond (t:=true) rfl ?_;rw[if_pos rfl];refine dwkD [] TRT6_ok hnt fun K hK=>?_;refine hK _ _ (by kernel_rfl) ?_;clear hK K;refine dw_seq ?_;refine dw_seq ?_;refine dwk [(39,.v (.bool false)),(43,.v (.int .i64 (↑C.length))),(44,.v (.bool false))] TRT6_ok hnt fun K hK=>?_
     refine And.intro auF ?_;refine And.intro (dintE (by rw[eTys_len])) ?_;refine And.intro auF ?_;refine hK _ _ ?_;clear hK K;refine dw_cond (t:=false) rfl ?_;rw[if_neg (by simp)];refine dw_skip ?_;refine dw_seq ?_;refine dwk [(49,.q [.sl 2 (eTys C[n].args) none,.v (.int .i64 C[n].base)])] TRT6_ok hnt fun K hK=>?_;refine And.intro (elo (eTys_len C)) ?_;refine And.intro (elv (eTys_getD C n) (eTy_eq _)) ?_
     refine hK _ _ ?_;clear hK K;refine dw_ret ?_
     exact reta rfl
   ·rw[List.getElem?_eq_none (by omega)]
    simp only[Option.getD_none,Option.isSome_none]
    rw[tyZ_eq]
    refine calldw 0 51 [ResultVar.cell 6 44,ResultVar.tmp 7] TRT6_ok Tryz.func54 rfl Tryz.ntmps54 rfl fun cx hnt hn0=>?_
    ·skip
     refine dw_seq ?_;refine dwk [] TRT6_ok hnt fun K hK=>hK _ _ ?_;clear hK K;refine dw_seq ?_;refine dwk [] TRT6_ok hnt fun K hK=>hK _ _ ?_;clear hK K;refine dw_seq ?_;refine dwk [] TRT6_ok hnt fun K hK=>hK _ _ ?_;clear hK K;refine dw_seq ?_;refine dw_seq ?_;refine dwk [] TRT6_ok hnt fun K hK=>hK _ _ ?_;clear hK K;refine dw_block ?_;refine dw_seq ?_
     refine dwk [(21,.v (.bool true))] TRT6_ok hnt fun K hK=>?_;refine And.intro (VLe.refl _) ?_;refine hK _ _ ?_;clear hK K;refine dw_cond (t:=true) rfl ?_;rw[if_pos rfl];refine dwkD [] TRT6_ok hnt fun K hK=>?_;refine hK _ _ (by kernel_rfl) ?_;clear hK K;refine dw_seq ?_;refine dw_seq ?_;refine dwk [(39,.v (.bool false)),(43,.v (.int .i64 (↑C.length))),(44,.v (.bool true))] TRT6_ok hnt fun K hK=>?_
     refine And.intro auF ?_;refine And.intro (dintE (by rw[eTys_len])) ?_;refine And.intro auT ?_;refine hK _ _ ?_;clear hK K;refine dw_cond (t:=true) rfl ?_;rw[if_pos rfl];refine dw_seq ?_;refine dwk [] TRT6_ok hnt fun K hK=>hK _ _ ?_;clear hK K;refine dw_ret ?_
     exact reta rfl
 by_cases k2:k=2
 ·skip
  subst k2
  by_cases hn:i < 0
  ·rw[headTy_neg hn]
   simp only[Option.getD_none,Option.isSome_none]
   rw[tyZ_eq]
   refine calldw 0 51 [ResultVar.cell 6 44,ResultVar.tmp 7] TRT6_ok Tryz.func54 rfl Tryz.ntmps54 rfl fun cx hnt hn0=>?_
   ·skip
    refine dw_seq ?_;refine dwk [] TRT6_ok hnt fun K hK=>hK _ _ ?_;clear hK K;refine dw_seq ?_;refine dwk [] TRT6_ok hnt fun K hK=>hK _ _ ?_;clear hK K;refine dw_seq ?_;refine dwk [] TRT6_ok hnt fun K hK=>hK _ _ ?_;clear hK K;refine dw_seq ?_;refine dw_seq ?_;refine dwk [] TRT6_ok hnt fun K hK=>hK _ _ ?_;clear hK K;refine dw_block ?_;refine dw_seq ?_
    refine dwk [(21,.v (.bool false))] TRT6_ok hnt fun K hK=>?_;refine And.intro (VLe.refl _) ?_;refine hK _ _ ?_;clear hK K;refine dw_cond (t:=false) rfl ?_;rw[if_neg (by simp)];refine dw_seq ?_;refine dwk [(27,.v (.bool true))] TRT6_ok hnt fun K hK=>?_;refine And.intro (VLe.refl _) ?_;refine hK _ _ ?_;clear hK K;refine dw_cond (t:=true) rfl ?_;rw[if_pos rfl];refine dwkD [] TRT6_ok hnt fun K hK=>?_
    refine hK _ _ (by kernel_rfl) ?_;clear hK K;refine dw_seq ?_;refine dw_seq ?_;refine dwk [(39,.v (.bool true))] TRT6_ok hnt fun K hK=>?_;refine And.intro auT ?_;refine hK _ _ ?_;clear hK K;refine dw_cond (t:=true) rfl ?_;rw[if_pos rfl];refine dw_seq ?_;refine dwk [] TRT6_ok hnt fun K hK=>hK _ _ ?_;clear hK K;refine dw_ret ?_
    exact reta rfl
  ·obtain⟨n,rfl⟩:=Int.eq_ofNat_of_zero_le (Int.not_lt.1 hn)
   rw[headTy_2]
   by_cases hl:n < M.length
   ·rw[List.getElem?_eq_getElem hl]
    simp only[Option.getD_some,Option.isSome_some]
    rw[eTy_eq]
    refine calldw 0 51 [ResultVar.cell 6 44,ResultVar.tmp 7] TRT6_ok Tryz.func54 rfl Tryz.ntmps54 rfl fun cx hnt hn0=>?_
    ·skip
     refine dw_seq ?_;refine dwk [] TRT6_ok hnt fun K hK=>hK _ _ ?_;clear hK K;refine dw_seq ?_;refine dwk [] TRT6_ok hnt fun K hK=>hK _ _ ?_;clear hK K;refine dw_seq ?_;refine dwk [] TRT6_ok hnt fun K hK=>hK _ _ ?_;clear hK K;refine dw_seq ?_;refine dw_seq ?_;refine dwk [] TRT6_ok hnt fun K hK=>hK _ _ ?_;clear hK K;refine dw_block ?_;refine dw_seq ?_
     refine dwk [(21,.v (.bool false))] TRT6_ok hnt fun K hK=>?_;refine And.intro (VLe.refl _) ?_;refine hK _ _ ?_;clear hK K;refine dw_cond (t:=false) rfl ?_;rw[if_neg (by simp)];refine dw_seq ?_;refine dwk [(27,.v (.bool true))] TRT6_ok hnt fun K hK=>?_;refine And.intro (VLe.refl _) ?_;refine hK _ _ ?_;clear hK K;refine dw_cond (t:=true) rfl ?_;rw[if_pos rfl];refine dwkD [] TRT6_ok hnt fun K hK=>?_
     refine hK _ _ (by kernel_rfl) ?_;clear hK K;refine dw_seq ?_;refine dw_seq ?_;refine dwk [(39,.v (.bool false)),(43,.v (.int .i64 (↑M.length))),(44,.v (.bool false))] TRT6_ok hnt fun K hK=>?_;refine And.intro auF ?_;refine And.intro (dintE (by rw[eTys_len])) ?_;refine And.intro auF ?_;refine hK _ _ ?_;clear hK K;refine dw_cond (t:=false) rfl ?_;rw[if_neg (by simp)];refine dw_skip ?_
     refine dw_seq ?_;refine dwk [(49,.q [.sl 2 (eTys M[n].args) none,.v (.int .i64 M[n].base)])] TRT6_ok hnt fun K hK=>?_;refine And.intro (elo (eTys_len M)) ?_;refine And.intro (elv (eTys_getD M n) (eTy_eq _)) ?_;refine hK _ _ ?_;clear hK K;refine dw_ret ?_
     exact reta rfl
   ·rw[List.getElem?_eq_none (by omega)]
    simp only[Option.getD_none,Option.isSome_none]
    rw[tyZ_eq]
    refine calldw 0 51 [ResultVar.cell 6 44,ResultVar.tmp 7] TRT6_ok Tryz.func54 rfl Tryz.ntmps54 rfl fun cx hnt hn0=>?_
    ·skip
     refine dw_seq ?_;refine dwk [] TRT6_ok hnt fun K hK=>hK _ _ ?_;clear hK K;refine dw_seq ?_;refine dwk [] TRT6_ok hnt fun K hK=>hK _ _ ?_;clear hK K;refine dw_seq ?_;refine dwk [] TRT6_ok hnt fun K hK=>hK _ _ ?_;clear hK K;refine dw_seq ?_;refine dw_seq ?_;refine dwk [] TRT6_ok hnt fun K hK=>hK _ _ ?_;clear hK K;refine dw_block ?_;refine dw_seq ?_
     refine dwk [(21,.v (.bool false))] TRT6_ok hnt fun K hK=>?_;refine And.intro (VLe.refl _) ?_;refine hK _ _ ?_;clear hK K;refine dw_cond (t:=false) rfl ?_;rw[if_neg (by simp)];refine dw_seq ?_;refine dwk [(27,.v (.bool true))] TRT6_ok hnt fun K hK=>?_;refine And.intro (VLe.refl _) ?_;refine hK _ _ ?_;clear hK K;refine dw_cond (t:=true) rfl ?_;rw[if_pos rfl];refine dwkD [] TRT6_ok hnt fun K hK=>?_
     refine hK _ _ (by kernel_rfl) ?_;clear hK K;refine dw_seq ?_;refine dw_seq ?_;refine dwk [(39,.v (.bool false)),(43,.v (.int .i64 (↑M.length))),(44,.v (.bool true))] TRT6_ok hnt fun K hK=>?_;refine And.intro auF ?_;refine And.intro (dintE (by rw[eTys_len])) ?_;refine And.intro auT ?_;refine hK _ _ ?_;clear hK K;refine dw_cond (t:=true) rfl ?_;rw[if_pos rfl];refine dw_seq ?_;refine dwk [] TRT6_ok hnt fun K hK=>?_
     refine hK _ _ ?_;clear hK K;refine dw_ret ?_
     exact reta rfl
 by_cases k0:k=0
 ·subst k0
  by_cases hn:i < 0
  ·rw[headTy_neg hn]
   simp only[Option.getD_none,Option.isSome_none]
   rw[tyZ_eq]
   refine calldw 0 51 [ResultVar.cell 6 44,ResultVar.tmp 7] TRT6_ok Tryz.func54 rfl Tryz.ntmps54 rfl fun cx hnt hn0=>?_
   ·skip
    refine dw_seq ?_;refine dwk [] TRT6_ok hnt fun K hK=>hK _ _ ?_;clear hK K;refine dw_seq ?_;refine dwk [] TRT6_ok hnt fun K hK=>hK _ _ ?_;clear hK K;refine dw_seq ?_;refine dwk [] TRT6_ok hnt fun K hK=>hK _ _ ?_;clear hK K;refine dw_seq ?_;refine dw_seq ?_;refine dwk [] TRT6_ok hnt fun K hK=>hK _ _ ?_;clear hK K;refine dw_block ?_;refine dw_seq ?_
    refine dwk [(21,.v (.bool false))] TRT6_ok hnt fun K hK=>?_;refine And.intro (VLe.refl _) ?_;refine hK _ _ ?_;clear hK K;refine dw_cond (t:=false) rfl ?_;rw[if_neg (by simp)];refine dw_seq ?_;refine dwk [(27,.v (.bool false))] TRT6_ok hnt fun K hK=>?_;refine And.intro (VLe.refl _) ?_;refine hK _ _ ?_;clear hK K;refine dw_cond (t:=false) rfl ?_;rw[if_neg (by simp)];refine dw_seq ?_
    refine dwk [(33,.v (.bool true))] TRT6_ok hnt fun K hK=>?_;refine And.intro (VLe.refl _) ?_;refine hK _ _ ?_;clear hK K;refine dw_cond (t:=true) rfl ?_;rw[if_pos rfl];refine dw_seq ?_;refine dwk [(36,.v (.bool true))] TRT6_ok hnt fun K hK=>?_;refine And.intro auT ?_;refine hK _ _ ?_;clear hK K;refine dw_cond (t:=true) rfl ?_;rw[if_pos rfl];refine dw_seq ?_;refine dwk [] TRT6_ok hnt fun K hK=>?_
    refine hK _ _ ?_;clear hK K;refine dw_ret ?_
    exact reta rfl
  ·obtain⟨n,rfl⟩:=Int.eq_ofNat_of_zero_le (Int.not_lt.1 hn)
   rw[headTy_0]
   by_cases hl:n < X.length
   ·have hx:X.length - 1 - n < X.length:=by omega
    rw[List.getElem?_reverse (by omega),List.getElem?_eq_getElem hx]
    simp only[Option.getD_some,Option.isSome_some]
    rw[eTy_eq]
    have hg:(eTys X).getD ((X.length:Int) - 1 - (n:Int)).toNat []=[.sl 2 (eTys (X[X.length - 1 - n]).args) none,.v (.int .i64 (X[X.length - 1 - n]).base)]:=by rw[show ((X.length:Int) - 1 - (n:Int)).toNat=X.length - 1 - n by omega,eTys_getD X _ hx,eTy_eq]
    refine calldw 0 51 [ResultVar.cell 6 44,ResultVar.tmp 7] TRT6_ok Tryz.func54 rfl Tryz.ntmps54 rfl fun cx hnt hn0=>?_
    ·skip
     refine dw_seq ?_;refine dwk [] TRT6_ok hnt fun K hK=>hK _ _ ?_;clear hK K;refine dw_seq ?_;refine dwk [] TRT6_ok hnt fun K hK=>hK _ _ ?_;clear hK K;refine dw_seq ?_;refine dwk [(12,.v (.int .i64 (↑X.length))),(13,.v (.int .i64 ((↑X.length - 1)))),(16,.v (.int .i64 ((↑X.length - 1 - ↑n))))] TRT6_ok hnt fun K hK=>?_;refine And.intro (dintE (by rw[eTys_len])) ?_
     refine And.intro auI ?_;refine And.intro auI ?_;refine hK _ _ ?_;clear hK K;refine dw_seq ?_;refine dw_seq ?_;refine dwk [] TRT6_ok hnt fun K hK=>hK _ _ ?_;clear hK K;refine dw_block ?_;refine dw_seq ?_;refine dwk [(21,.v (.bool false))] TRT6_ok hnt fun K hK=>?_;refine And.intro (VLe.refl _) ?_;refine hK _ _ ?_;clear hK K;refine dw_cond (t:=false) rfl ?_;rw[if_neg (by simp)]
     refine dw_seq ?_;refine dwk [(27,.v (.bool false))] TRT6_ok hnt fun K hK=>?_;refine And.intro (VLe.refl _) ?_;refine hK _ _ ?_;clear hK K;refine dw_cond (t:=false) rfl ?_;rw[if_neg (by simp)];refine dw_seq ?_;refine dwk [(33,.v (.bool true))] TRT6_ok hnt fun K hK=>?_;refine And.intro (VLe.refl _) ?_;refine hK _ _ ?_;clear hK K;refine dw_cond (t:=true) rfl ?_;rw[if_pos rfl]
     refine dw_seq ?_;refine dwk [(36,.v (.bool false))] TRT6_ok hnt fun K hK=>?_;refine And.intro auF ?_;refine hK _ _ ?_;clear hK K;refine dw_cond (t:=false) rfl ?_;rw[if_neg (by simp)];refine dw_skip ?_;refine dw_seq ?_;refine dw_seq ?_;refine dwk [(39,.v (.bool false)),(43,.v (.int .i64 (↑X.length))),(44,.v (.bool false))] TRT6_ok hnt fun K hK=>?_;refine And.intro auF ?_;refine And.intro (dintE (by rw[eTys_len])) ?_
     refine And.intro auF ?_;refine hK _ _ ?_;clear hK K;refine dw_cond (t:=false) rfl ?_;rw[if_neg (by simp)];refine dw_skip ?_;refine dw_seq ?_;refine dwk [(49,.q [.sl 2 (eTys (X[X.length - 1 - n]).args) none,.v (.int .i64 (X[X.length - 1 - n]).base)])] TRT6_ok hnt fun K hK=>?_;refine And.intro (⟨by omega,by rw[eTys_len];omega⟩) ?_;refine And.intro (VLe.of_eq (by rw[hg])) ?_;refine hK _ _ ?_;clear hK K
     refine dw_ret ?_
     exact reta rfl
   ·rw[List.getElem?_eq_none (by simp;omega)]
    simp only[Option.getD_none,Option.isSome_none]
    rw[tyZ_eq]
    refine calldw 0 51 [ResultVar.cell 6 44,ResultVar.tmp 7] TRT6_ok Tryz.func54 rfl Tryz.ntmps54 rfl fun cx hnt hn0=>?_
    ·skip
     refine dw_seq ?_;refine dwk [] TRT6_ok hnt fun K hK=>hK _ _ ?_;clear hK K;refine dw_seq ?_;refine dwk [] TRT6_ok hnt fun K hK=>hK _ _ ?_;clear hK K;refine dw_seq ?_;refine dwk [(12,.v (.int .i64 (↑X.length))),(13,.v (.int .i64 ((↑X.length - 1)))),(16,.v (.int .i64 ((↑X.length - 1 - ↑n))))] TRT6_ok hnt fun K hK=>?_;refine And.intro (dintE (by rw[eTys_len])) ?_
     refine And.intro auI ?_;refine And.intro auI ?_;refine hK _ _ ?_;clear hK K;refine dw_seq ?_;refine dw_seq ?_;refine dwk [] TRT6_ok hnt fun K hK=>hK _ _ ?_;clear hK K;refine dw_block ?_;refine dw_seq ?_;refine dwk [(21,.v (.bool false))] TRT6_ok hnt fun K hK=>?_;refine And.intro (VLe.refl _) ?_;refine hK _ _ ?_;clear hK K;refine dw_cond (t:=false) rfl ?_;rw[if_neg (by simp)]
     refine dw_seq ?_;refine dwk [(27,.v (.bool false))] TRT6_ok hnt fun K hK=>?_;refine And.intro (VLe.refl _) ?_;refine hK _ _ ?_;clear hK K;refine dw_cond (t:=false) rfl ?_;rw[if_neg (by simp)];refine dw_seq ?_;refine dwk [(33,.v (.bool true))] TRT6_ok hnt fun K hK=>?_;refine And.intro (VLe.refl _) ?_;refine hK _ _ ?_;clear hK K;refine dw_cond (t:=true) rfl ?_;rw[if_pos rfl]
     refine dw_seq ?_;refine dwk [(36,.v (.bool false))] TRT6_ok hnt fun K hK=>?_;refine And.intro auF ?_;refine hK _ _ ?_;clear hK K;refine dw_cond (t:=false) rfl ?_;rw[if_neg (by simp)];refine dw_skip ?_;refine dw_seq ?_;refine dw_seq ?_;refine dwk [(39,.v (.bool true))] TRT6_ok hnt fun K hK=>?_;refine And.intro auT ?_;refine hK _ _ ?_;clear hK K;refine dw_cond (t:=true) rfl ?_
     rw[if_pos rfl];refine dw_seq ?_;refine dwk [] TRT6_ok hnt fun K hK=>hK _ _ ?_;clear hK K;refine dw_ret ?_
     exact reta rfl
 ·rw[headTy_o k0 k1 k2]
  simp only[Option.getD_none,Option.isSome_none]
  rw[tyZ_eq]
  refine calldw 0 51 [ResultVar.cell 6 44,ResultVar.tmp 7] TRT6_ok Tryz.func54 rfl Tryz.ntmps54 rfl fun cx hnt hn0=>?_
  ·skip
   refine dw_seq ?_;refine dwk [] TRT6_ok hnt fun K hK=>hK _ _ ?_;clear hK K;refine dw_seq ?_;refine dwk [] TRT6_ok hnt fun K hK=>hK _ _ ?_;clear hK K;refine dw_seq ?_;refine dwk [] TRT6_ok hnt fun K hK=>hK _ _ ?_;clear hK K;refine dw_seq ?_;refine dw_seq ?_;refine dwk [] TRT6_ok hnt fun K hK=>hK _ _ ?_;clear hK K;refine dw_block ?_;refine dw_seq ?_
   refine dwk [(21,.v (.bool false))] TRT6_ok hnt fun K hK=>?_;refine And.intro (beqF k1) ?_;refine hK _ _ ?_;clear hK K;refine dw_cond (t:=false) rfl ?_;rw[if_neg (by simp)];refine dw_seq ?_;refine dwk [(27,.v (.bool false))] TRT6_ok hnt fun K hK=>?_;refine And.intro (beqF k2) ?_;refine hK _ _ ?_;clear hK K;refine dw_cond (t:=false) rfl ?_;rw[if_neg (by simp)];refine dw_seq ?_
   refine dwk [(33,.v (.bool false))] TRT6_ok hnt fun K hK=>?_;refine And.intro (beqF k0) ?_;refine hK _ _ ?_;clear hK K;refine dw_cond (t:=false) rfl ?_;rw[if_neg (by simp)];refine dw_seq ?_;refine dwk [] TRT6_ok hnt fun K hK=>hK _ _ ?_;clear hK K;refine dw_ret ?_
   exact reta rfl
theorem ttype_d (b:Int)(C M:List Ty)(t:Tm)(hi:t.index≤9223372036854775807)(hC:C.length≤1000000)(hM:M.length≤1000000)(hz:t.full≤780000):
  PureC Tryz.prog 14 [.ag [.v (.int .i64 b),.sl 2 (eTys C) none,.sl 2 (eTys M) none],.v (.slice none 0 0),.ag (eTm t)] (.tu [.ag (eTy ((tyOf C M t).getD tyZ)),.v (.int .i64 (if (tyOf C M t).isSome then 0 else 10))]):=by
 have hbl:=Ty.le_sizes t.binds
 have hfl:=full_args t
 have hbe:PureC Tryz.prog 55 [.v (.slice none 0 0),.sl 2 (eTys t.binds) none] (.sl 2 (eTys ([] ++ t.binds)) none):=CallC.vle (within_d [] t.binds (by simp;omega)) (.cons (VLe.nil _) (.cons (VLe.refl _) .nil)) (VLe.refl _)
 have hh:=theadA_d b C M ([] ++ t.binds) t.kind t.index hi hC hM (by simp;omega)
 unfold tyOf
 obtain⟨o,ho⟩:∃ o,headTy C M ([] ++ t.binds) t.kind t.index=o:=⟨_,rfl⟩
 obtain⟨X,hX⟩:∃ X,[] ++ t.binds=X:=⟨_,rfl⟩
 rw[hX] at hh hbe ho ⊢
 rw[ho] at hh ⊢
 rw[eTm_eq]
 cases o with
 | none=>
  simp only[Option.map_none,Option.getD_none,Option.isSome_none,Bool.false_eq_true,if_false] at hh ⊢
  rw[tyZ_eq] at hh ⊢
  refine calldw 0 29 [ResultVar.cell 6 44,ResultVar.tmp 7] TRT6_ok Tryz.func14 rfl Tryz.ntmps14 rfl fun cx hnt hn0=>?_
  ·skip
   refine dw_seq ?_;refine dwk [] TRT6_ok hnt fun K hK=>hK _ _ ?_;clear hK K;refine dw_seq ?_;refine dwkD [] TRT6_ok hnt fun K hK=>?_;refine dcl (hbe) ?_;refine dcl (hh) ?_;refine hK _ _ (by kernel_rfl) ?_;clear hK K;refine dw_seq ?_;refine dw_seq ?_;refine dwk [] TRT6_ok hnt fun K hK=>hK _ _ ?_;clear hK K;refine dw_cond (t:=true) rfl ?_;rw[if_pos rfl];refine dw_seq ?_
   refine dwk [] TRT6_ok hnt fun K hK=>hK _ _ ?_;clear hK K;refine dw_ret ?_
   exact reta rfl
 | some h=>
  simp only[Option.map_some,Option.getD_some,Option.isSome_some,if_true] at hh ⊢
  have hk:=kOf_d h.base t.binds (by omega)
  rw[eTy_eq] at hh hk ⊢
  simp only[args_mk',base_mk'] at hk ⊢
  refine calldw 0 29 [ResultVar.cell 6 44,ResultVar.tmp 7] TRT6_ok Tryz.func14 rfl Tryz.ntmps14 rfl fun cx hnt hn0=>?_
  ·skip
   refine dw_seq ?_;refine dwk [] TRT6_ok hnt fun K hK=>hK _ _ ?_;clear hK K;refine dw_seq ?_;refine dwkD [] TRT6_ok hnt fun K hK=>?_;refine dcl (hbe) ?_;refine dcl (hh) ?_;refine hK _ _ (by kernel_rfl) ?_;clear hK K;refine dw_seq ?_;refine dw_seq ?_;refine dwk [] TRT6_ok hnt fun K hK=>hK _ _ ?_;clear hK K;refine dw_cond (t:=false) rfl ?_;rw[if_neg (by simp)]
   refine dw_skip ?_;refine dw_seq ?_;refine dwk [] TRT6_ok hnt fun K hK=>?_;refine dcl (hk) ?_;refine hK _ _ ?_;clear hK K;refine dw_ret ?_
   exact reta rfl
set_option maxHeartbeats 4000000 in
theorem tisX_d (b:Int)(C M:List Ty)(hC:C.length≤1000000)(hM:M.length≤1000000):∀ (t:Tm) (X:List Ty) (u:Ty) (c:Bool),(c=true↔IsOf C M t X u)→X.length + t.full≤780000→t.Fit →
  PureC Tryz.prog 62 [.ag [.v (.int .i64 b),.sl 2 (eTys C) none,.sl 2 (eTys M) none],.sl 2 (eTys X) none,.ag (eTm t),.ag (eTy u)] (.v (.bool c)):=by
 intro t
 induction t using Tm.ind with
 | h bs k i a ih=>
 intro X u c hc hz hf
 obtain⟨_,f2,f3⟩:=Tm.fit_iff.1 hf
 rw[Tm.full_eq] at hz
 have hal:=cFulls_len a
 have hbl:=Ty.le_sizes bs
 have hbe:=within_d X bs (by omega)
 have hh:=theadA_d b C M (X ++ bs) k i f2 hC hM (by simp;omega)
 obtain⟨o,ho⟩:∃ o,headTy C M (X ++ bs) k i=o:=⟨_,rfl⟩
 obtain⟨Y,hY⟩:∃ Y,X ++ bs=Y:=⟨_,rfl⟩
 have hYl:Y.length=X.length + bs.length:=by rw[←hY];simp
 have hty:=eqTys_d bs u.args 69 rfl
 have no:∀ (h:∀ x,headTy C M (X ++ bs) k i=some x→bs=u.args→x.base=u.base→x.args.length=a.length→False),c=false:=fun h=>by
  rw[Bool.eq_false_iff];exact fun hc1=>isOf_no h (hc.1 hc1)
 rw[ho] at hh no
 rw[eTm_eq,eTy_eq]
 simp only[bindsT,kindT,indexT,argsTm]
 rw[hY] at hbe hh
 by_cases hb:bs=u.args
 ·rw[decide_eq_true hb] at hty
  cases o with
  | none=>
   simp only[Option.getD_none,Option.isSome_none] at hh
   rw[tyZ_eq] at hh
   rw[no (fun x h=>by cases h)]
   refine calldw 0 69 [ResultVar.tmp 8] TRT6_ok Tryz.func62 rfl Tryz.ntmps62 rfl fun cx hnt hn0=>?_
   ·skip
    refine dw_seq ?_;refine dwk [] TRT6_ok hnt fun K hK=>hK _ _ ?_;clear hK K;refine dw_seq ?_;refine dw_seq ?_;refine dwk [] TRT6_ok hnt fun K hK=>?_;refine dcl (hty) ?_;refine hK _ _ ?_;clear hK K;refine dw_cond (t:=false) rfl ?_;rw[if_neg (by simp)];refine dw_skip ?_;refine dw_seq ?_;refine dwk [] TRT6_ok hnt fun K hK=>?_;refine dcl (hbe) ?_;refine hK _ _ ?_;clear hK K
    refine dw_seq ?_;refine dwk [] TRT6_ok hnt fun K hK=>?_;refine dcl (hh) ?_;refine hK _ _ ?_;clear hK K;refine dw_seq ?_;refine dw_seq ?_;refine dwk [] TRT6_ok hnt fun K hK=>hK _ _ ?_;clear hK K;refine dw_cond (t:=true) rfl ?_;rw[if_pos rfl];refine dw_seq ?_;refine dwk [] TRT6_ok hnt fun K hK=>hK _ _ ?_;clear hK K;refine dw_ret ?_
    exact reta rfl
  | some h=>
  simp only[Option.getD_some,Option.isSome_some] at hh
  rw[eTy_eq] at hh
  by_cases hbs:h.base=u.base
  ·by_cases hln:h.args.length=a.length
   ·have hIff:c=true↔∀ j (h1:j < a.length) (h2:j < h.args.length),IsOf C M a[j] Y h.args[j]:=by
     rw[hc,isOf_mk,hY]
     constructor
     ·rintro⟨_,x,h2,_,h4⟩ j j1 j2
      rw[←hY,ho] at h2;cases h2
      exact(isOfs_iff.1 h4).2 j j1 j2
     ·intro hall
      exact⟨hb,h,by rw[←hY,ho],hbs,isOfs_iff.2 ⟨hln,hall⟩⟩
    have hI:∀ j (h1:j < a.length) (h2:j < h.args.length) (d:Bool),(d=true↔IsOf C M a[j] Y h.args[j])→PureC Tryz.prog 62 [.ag [.v (.int .i64 b),.sl 2 (eTys C) none,.sl 2 (eTys M) none],.sl 2 (eTys Y) none,.ag (eTm a[j]),.ag (eTy h.args[j])] (.v (.bool d)):=fun j h1 h2 d hd=>ih _ (List.getElem_mem h1) Y _ d hd (by have:=Tm.full_mem (List.getElem_mem h1);omega) (f3 _ (List.getElem_mem h1))
    clear ih no hc
    refine calldw 0 69 [ResultVar.tmp 8] TRT6_ok Tryz.func62 rfl Tryz.ntmps62 rfl fun cx hnt hn0=>?_
    ·skip
     refine dw_seq ?_;refine dwk [] TRT6_ok hnt fun K hK=>hK _ _ ?_;clear hK K;refine dw_seq ?_;refine dw_seq ?_;refine dwk [] TRT6_ok hnt fun K hK=>?_;refine dcl (hty) ?_;refine hK _ _ ?_;clear hK K;refine dw_cond (t:=false) rfl ?_;rw[if_neg (by simp)];refine dw_skip ?_;refine dw_seq ?_;refine dwk [] TRT6_ok hnt fun K hK=>?_;refine dcl (hbe) ?_;refine hK _ _ ?_;clear hK K
     refine dw_seq ?_;refine dwk [] TRT6_ok hnt fun K hK=>?_;refine dcl (hh) ?_;refine hK _ _ ?_;clear hK K;refine dw_seq ?_;refine dw_seq ?_;refine dwk [(39,.v (.bool false)),(44,.v (.int .i64 (↑h.args.length))),(47,.v (.int .i64 (↑a.length))),(48,.v (.bool false))] TRT6_ok hnt fun K hK=>?_;refine And.intro (bneF hbs) ?_;refine And.intro (dintE (by rw[eTys_len])) ?_;refine And.intro (dintE (by rw[eTms_len])) ?_
     refine And.intro (bneF (by omega)) ?_;refine hK _ _ ?_;clear hK K;refine dw_cond (t:=false) rfl ?_;rw[if_neg (by simp)];refine dw_skip ?_;refine dw_seq ?_;refine dw_seq ?_;refine dwk [(52,.v (.int .i64 (↑a.length)))] TRT6_ok hnt fun K hK=>?_;refine And.intro (dintE (by rw[eTms_len])) ?_;refine hK _ _ ?_;clear hK K;refine dw_block ?_
     refine dw_loop (ι:={ j:Nat // ∀ i (h1:i < a.length) (h2:i < h.args.length),i < j→IsOf C M a[i] Y h.args[i] }) (fun j=>[(.t 4,.p 0 0),(.t 6,.p 1 0),(.t 7,.p 2 0),(.t 9,.sl 2 (eTys Y) none),(.t 10,.p 23 0),(.t 51,.sl 4 (eTms a) none),(.t 52,.v (.int .i64 ↑a.length)),(.t 53,.v (.int .i64 ↑j.1)),(.c 0 0,.v (.int .i64 b)),(.c 0 1,.sl 2 (eTys C) none),(.c 0 2,.sl 2 (eTys M) none),(.c 23 0,.sl 2 (eTys h.args) none),(.c 23 1,.v (.int .i64 h.base))]) 24 (fun j=>a.length - j.1) (⟨0,fun i h1 h2 h3=>by omega⟩) (VS.toA) fun j=>?_
     obtain⟨j,hj⟩:=j
     dsimp only
     by_cases hlt:j < a.length
     ·have hlt2:j < h.args.length:=by omega
      by_cases hio:IsOf C M a[j] Y h.args[j]
      ·have hi:=hI j hlt hlt2 true (by simp[hio])
       rw[eTm_eq,eTy_eq] at hi
       refine dw_seq ?_;refine dwk [(54,.v (.bool true))] TRT6_ok hnt fun K hK=>?_;refine And.intro auT ?_;refine hK _ _ ?_;clear hK K;refine dw_seq ?_;refine dw_cond (t:=true) rfl ?_;rw[if_pos rfl];refine dw_skip ?_;refine dw_seq ?_;refine dw_block ?_;refine dw_seq ?_;refine dwk [(56,.q [.sl 2 (eTys a[j].binds) none,.v (.int .i64 a[j].kind),.v (.int .i64 a[j].index),.sl 4 (eTms a[j].args) none])] TRT6_ok hnt fun K hK=>?_
       refine And.intro (elo (eTms_len a)) ?_;refine And.intro (elv (eTms_getD a j) (eTm_eq _)) ?_;refine hK _ _ ?_;clear hK K;refine dw_seq ?_;refine dwkD [(64,.q [.sl 2 (eTys h.args[j].args) none,.v (.int .i64 h.args[j].base)])] TRT6_ok hnt fun K hK=>?_;refine And.intro (elo (eTys_len h.args)) ?_;refine And.intro (elv (eTys_getD h.args j) (eTy_eq _)) ?_;refine dcl (hi) ?_;refine hK _ _ (by kernel_rfl) ?_;clear hK K
       refine dw_cond (t:=false) rfl ?_;rw[if_neg (by simp)];refine dw_skip ?_;refine dwk [(68,.v (.int .i64 (↑(j + 1))))] TRT6_ok hnt fun K hK=>?_;refine And.intro auI ?_;refine hK _ _ ?_;clear hK K
       refine⟨⟨j + 1,fun q h1 h2 h3=>if e:q=j then by subst e;exact hio else hj q h1 h2 (by omega)⟩,by first | omega | (dsimp only;omega),VS.toA⟩
      ·have hi:=hI j hlt hlt2 false (by simp[hio])
       rw[eTm_eq,eTy_eq] at hi
       have hcf:c=false:=by rw[Bool.eq_false_iff];exact fun h1=>hio (hIff.1 h1 j hlt hlt2)
       rw[hcf]
       refine dw_seq ?_;refine dwk [(54,.v (.bool true))] TRT6_ok hnt fun K hK=>?_;refine And.intro auT ?_;refine hK _ _ ?_;clear hK K;refine dw_seq ?_;refine dw_cond (t:=true) rfl ?_;rw[if_pos rfl];refine dw_skip ?_;refine dw_seq ?_;refine dw_block ?_;refine dw_seq ?_;refine dwk [(56,.q [.sl 2 (eTys a[j].binds) none,.v (.int .i64 a[j].kind),.v (.int .i64 a[j].index),.sl 4 (eTms a[j].args) none])] TRT6_ok hnt fun K hK=>?_
       refine And.intro (elo (eTms_len a)) ?_;refine And.intro (elv (eTms_getD a j) (eTm_eq _)) ?_;refine hK _ _ ?_;clear hK K;refine dw_seq ?_;refine dwkD [(64,.q [.sl 2 (eTys h.args[j].args) none,.v (.int .i64 h.args[j].base)])] TRT6_ok hnt fun K hK=>?_;refine And.intro (elo (eTys_len h.args)) ?_;refine And.intro (elv (eTys_getD h.args j) (eTy_eq _)) ?_;refine dcl (hi) ?_;refine hK _ _ (by kernel_rfl) ?_;clear hK K
       refine dw_cond (t:=true) rfl ?_;rw[if_pos rfl];refine dw_seq ?_;refine dwk [] TRT6_ok hnt fun K hK=>hK _ _ ?_;clear hK K;refine dw_ret ?_
       exact reta rfl
     ·rw[hIff.2 fun q h1 h2=>hj q h1 h2 (by omega)]
      refine dw_seq ?_;refine dwk [(54,.v (.bool false))] TRT6_ok hnt fun K hK=>?_;refine And.intro auF ?_;refine hK _ _ ?_;clear hK K;refine dw_seq ?_;refine dw_cond (t:=false) rfl ?_;rw[if_neg (by simp)];refine dw_exit ?_;refine dw_seq ?_;refine dwk [] TRT6_ok hnt fun K hK=>hK _ _ ?_;clear hK K;refine dw_ret ?_
      exact reta rfl
   ·rw[no (fun x h1 _ _ h4=>by cases h1;exact hln h4)]
    refine calldw 0 69 [ResultVar.tmp 8] TRT6_ok Tryz.func62 rfl Tryz.ntmps62 rfl fun cx hnt hn0=>?_
    ·skip
     refine dw_seq ?_;refine dwk [] TRT6_ok hnt fun K hK=>hK _ _ ?_;clear hK K;refine dw_seq ?_;refine dw_seq ?_;refine dwk [] TRT6_ok hnt fun K hK=>?_;refine dcl (hty) ?_;refine hK _ _ ?_;clear hK K;refine dw_cond (t:=false) rfl ?_;rw[if_neg (by simp)];refine dw_skip ?_;refine dw_seq ?_;refine dwk [] TRT6_ok hnt fun K hK=>?_;refine dcl (hbe) ?_;refine hK _ _ ?_;clear hK K
     refine dw_seq ?_;refine dwk [] TRT6_ok hnt fun K hK=>?_;refine dcl (hh) ?_;refine hK _ _ ?_;clear hK K;refine dw_seq ?_;refine dw_seq ?_;refine dwk [(39,.v (.bool false)),(44,.v (.int .i64 (↑h.args.length))),(47,.v (.int .i64 (↑a.length))),(48,.v (.bool true))] TRT6_ok hnt fun K hK=>?_;refine And.intro (bneF hbs) ?_;refine And.intro (dintE (by rw[eTys_len])) ?_;refine And.intro (dintE (by rw[eTms_len])) ?_
     refine And.intro (bneT (by omega)) ?_;refine hK _ _ ?_;clear hK K;refine dw_cond (t:=true) rfl ?_;rw[if_pos rfl];refine dw_seq ?_;refine dwk [] TRT6_ok hnt fun K hK=>hK _ _ ?_;clear hK K;refine dw_ret ?_
     exact reta rfl
  ·rw[no (fun x h1 _ h3 _=>by cases h1;exact hbs h3)]
   refine calldw 0 69 [ResultVar.tmp 8] TRT6_ok Tryz.func62 rfl Tryz.ntmps62 rfl fun cx hnt hn0=>?_
   ·skip
    refine dw_seq ?_;refine dwk [] TRT6_ok hnt fun K hK=>hK _ _ ?_;clear hK K;refine dw_seq ?_;refine dw_seq ?_;refine dwk [] TRT6_ok hnt fun K hK=>?_;refine dcl (hty) ?_;refine hK _ _ ?_;clear hK K;refine dw_cond (t:=false) rfl ?_;rw[if_neg (by simp)];refine dw_skip ?_;refine dw_seq ?_;refine dwk [] TRT6_ok hnt fun K hK=>?_;refine dcl (hbe) ?_;refine hK _ _ ?_;clear hK K
    refine dw_seq ?_;refine dwk [] TRT6_ok hnt fun K hK=>?_;refine dcl (hh) ?_;refine hK _ _ ?_;clear hK K;refine dw_seq ?_;refine dw_seq ?_;refine dwk [(39,.v (.bool true))] TRT6_ok hnt fun K hK=>?_;refine And.intro (bneT hbs) ?_;refine hK _ _ ?_;clear hK K;refine dw_cond (t:=true) rfl ?_;rw[if_pos rfl];refine dw_seq ?_;refine dwk [] TRT6_ok hnt fun K hK=>hK _ _ ?_;clear hK K
    refine dw_ret ?_
    exact reta rfl
 ·rw[decide_eq_false hb] at hty
  rw[no (fun x _ h2 _ _=>hb h2)]
  refine calldw 0 69 [ResultVar.tmp 8] TRT6_ok Tryz.func62 rfl Tryz.ntmps62 rfl fun cx hnt hn0=>?_
  ·skip
   refine dw_seq ?_;refine dwk [] TRT6_ok hnt fun K hK=>hK _ _ ?_;clear hK K;refine dw_seq ?_;refine dw_seq ?_;refine dwk [] TRT6_ok hnt fun K hK=>?_;refine dcl (hty) ?_;refine hK _ _ ?_;clear hK K;refine dw_cond (t:=true) rfl ?_;rw[if_pos rfl];refine dw_seq ?_;refine dwk [] TRT6_ok hnt fun K hK=>hK _ _ ?_;clear hK K;refine dw_ret ?_
   exact reta rfl
theorem tcheckX_d (b:Int)(C M X:List Ty)(t:Tm)(u:Ty)(c:Int)(hC:C.length≤1000000)(hM:M.length≤1000000)(hc:checkCode C M t X u c)(hz:X.length + t.full≤780000)(hf:t.Fit):
  PureC Tryz.prog 16 [.ag [.v (.int .i64 b),.sl 2 (eTys C) none,.sl 2 (eTys M) none],.sl 2 (eTys X) none,.ag (eTm t),.ag (eTy u)] (.v (.int .i64 c)):=by
 have hr:=right_d t (by omega)
 have hi:=fun d hd=>tisX_d b C M hC hM t X u d hd hz hf
 rw[eTm_eq,eTy_eq] at hi
 rw[eTm_eq] at hr
 rw[eTm_eq,eTy_eq]
 rcases hc with⟨h1,rfl⟩ | ⟨h1,h2,rfl⟩ | ⟨h1,h2,rfl⟩
 ·rw[decide_eq_false h1] at hr
  refine calldw 0 20 [ResultVar.tmp 8] TRT6_ok Tryz.func16 rfl Tryz.ntmps16 rfl fun cx hnt hn0=>?_
  ·skip
   refine dw_seq ?_;refine dwk [] TRT6_ok hnt fun K hK=>hK _ _ ?_;clear hK K;refine dw_seq ?_;refine dw_block ?_;refine dw_seq ?_;refine dwk [] TRT6_ok hnt fun K hK=>?_;refine dcl (hr) ?_;refine hK _ _ ?_;clear hK K;refine dw_cond (t:=true) rfl ?_;rw[if_pos rfl];refine dw_seq ?_;refine dwk [] TRT6_ok hnt fun K hK=>hK _ _ ?_;clear hK K;refine dw_ret ?_
   exact reta rfl
 ·rw[decide_eq_true h1] at hr
  have hi:=hi false (by simp[h2])
  refine calldw 0 20 [ResultVar.tmp 8] TRT6_ok Tryz.func16 rfl Tryz.ntmps16 rfl fun cx hnt hn0=>?_
  ·skip
   refine dw_seq ?_;refine dwk [] TRT6_ok hnt fun K hK=>hK _ _ ?_;clear hK K;refine dw_seq ?_;refine dw_block ?_;refine dw_seq ?_;refine dwk [] TRT6_ok hnt fun K hK=>?_;refine dcl (hr) ?_;refine hK _ _ ?_;clear hK K;refine dw_cond (t:=false) rfl ?_;rw[if_neg (by simp)];refine dw_seq ?_;refine dwk [] TRT6_ok hnt fun K hK=>?_;refine dcl (hi) ?_;refine hK _ _ ?_;clear hK K
   refine dw_cond (t:=true) rfl ?_;rw[if_pos rfl];refine dw_seq ?_;refine dwk [] TRT6_ok hnt fun K hK=>hK _ _ ?_;clear hK K;refine dw_ret ?_
   exact reta rfl
 ·rw[decide_eq_true h1] at hr
  have hi:=hi true (by simp[h2])
  refine calldw 0 20 [ResultVar.tmp 8] TRT6_ok Tryz.func16 rfl Tryz.ntmps16 rfl fun cx hnt hn0=>?_
  ·skip
   refine dw_seq ?_;refine dwk [] TRT6_ok hnt fun K hK=>hK _ _ ?_;clear hK K;refine dw_seq ?_;refine dw_block ?_;refine dw_seq ?_;refine dwk [] TRT6_ok hnt fun K hK=>?_;refine dcl (hr) ?_;refine hK _ _ ?_;clear hK K;refine dw_cond (t:=false) rfl ?_;rw[if_neg (by simp)];refine dw_seq ?_;refine dwk [] TRT6_ok hnt fun K hK=>?_;refine dcl (hi) ?_;refine hK _ _ ?_;clear hK K
   refine dw_cond (t:=false) rfl ?_;rw[if_neg (by simp)];refine dw_skip ?_;refine dw_seq ?_;refine dwk [] TRT6_ok hnt fun K hK=>hK _ _ ?_;clear hK K;refine dw_ret ?_
   exact reta rfl
theorem tcheck_d (b:Int)(C M:List Ty)(t:Tm)(u:Ty)(c:Int)(hC:C.length≤1000000)(hM:M.length≤1000000)(hc:checkCode C M t [] u c)(hz:t.full≤780000)(hfit:t.Fit):
  PureC Tryz.prog 16 [.ag [.v (.int .i64 b),.sl 2 (eTys C) none,.sl 2 (eTys M) none],.v (.slice none 0 0),.ag (eTm t),.ag (eTy u)] (.v (.int .i64 c)):=
 CallC.vle (tcheckX_d b C M [] t u c hC hM hc (by simp;omega) hfit) (.cons (VLe.refl _) (.cons (VLe.nil _) (.cons (VLe.refl _) (.cons (VLe.refl _) .nil)))) (VLe.refl _)
theorem tworld_d (b:Int)(C M:List Ty)(c:Bool)(hc:c=true↔RightWd b C M)(hz:∀ t∈C ++ M,t.size≤400000):PureC Tryz.prog 15 [.ag [.v (.int .i64 b),.sl 2 (eTys C) none,.sl 2 (eTys M) none]] (.v (.bool c)):=by
 refine pure_below (by kernel_rfl) fun m Im w vs hv=>?_
 match vs,hv with
 | [x1],hv=>
  obtain⟨cv,mv,rfl,h1,h2⟩:=agWorld hv.1
  refine(RightWorld_k h1 h2 hz).mono ?_
  rintro e w' ⟨c',hc',rfl,hb⟩
  have:c'=c:=by rw[Bool.eq_iff_iff,hc',hc]
  subst this
  exact⟨_,rfl,hb,fun _ _ _=>.v _⟩
namespace Ru
end Ru
namespace Ru
def ms (t:Tm):List Int:=sortU (metasL [t])
def chk (p:Li.Pr):Int:=if p.l.kind≠1 then 6 else if (Pn.uses p.l [] []).2=false then 6 else if ((ms p.r).any fun x=>!((ms p.l).contains x))=true then 7 else 0
end Ru
namespace Ru
def kc (i:Int)(l:List Tm):Tm:=.mk [] 1 i l
end Ru
namespace Ru
def rg:Nat→List Int
 | 0=>[]
 | n + 1=>rg n ++ [(n:Int)]
theorem ix_lt {m:Int}:∀ {o:List Int},m∈o→ix m o < o.length
 | [],h=>by cases h
 | x :: l,h=>by
  rw[ix]
  by_cases hx:x=m
  ·rw[if_pos hx];simp
  ·rw[if_neg hx]
   have:=ix_lt (m:=m) (o:=l) (by rcases List.mem_cons.1 h with h | h;exact absurd h.symm hx;exact h)
   simp only[List.length_cons];omega
end Ru
namespace Ru
/-! metavariables -/
mutual
def AllIn (o:List Int):Tm→Prop
 | .mk _ k i a=>(k=2→i∈o)∧AllIns o a
def AllIns (o:List Int):List Tm→Prop
 | []=>True
 | t :: l=>AllIn o t∧AllIns o l
end
theorem ix_get {m:Int}:∀ {o:List Int},m∈o→o[ix m o]?=some m
 | [],h=>by cases h
 | x :: l,h=>by
  rw[ix]
  by_cases hx:x=m
  ·rw[if_pos hx];simp[hx]
  ·rw[if_neg hx]
   have:=ix_get (m:=m) (o:=l) (by rcases List.mem_cons.1 h with h | h;exact absurd h.symm hx;exact h)
   simpa using this
/-! typed -/
variable {C M:List Ty} {o:List Int}
/-! patterns -/
mutual
def K0:Tm→Prop
 | .mk _ k _ a=>k≠2∧K0s a
def K0s:List Tm→Prop
 | []=>True
 | t :: l=>K0 t∧K0s l
end
/-! which metavariables -/
def g (f:List Int)(x:Int):Int:=if x∈f then (ix x f:Int) else x
end Ru
end Go.Proofs.YtflbnonbfmmchaaGreat
namespace Go.Proofs.YtflbnonbfmmchaaGreat
open Go.RowKit
namespace Ru
variable {C M:List Ty}
end Ru

def swR (kw kb:Nat)(l:List (Int×Tm))(s:Nm.St):List (Key×D):=[(.c kw 0,.o kb),(.c kw 1,.sl 5 (ePairs l) none),(.c kw 2,.v (.int .i64 s.e)),(.o kb,.ob (BudJ s.left s.dry))]
theorem sthr_at (kw kb:Nat)(hk:kw≠kb)(l:List (Int×Tm))(hl:l.length≤1000000)(t:Tm)(ht:Wide t)(ins:Int)(s:Nm.St)(hs:InR s)(ho:thOk l t ins s):
  CallC Tryz.prog 65 [.p kw 0,.ag (eTm t),.v (.int .i64 ins)] (swR kw kb l s) (swR kw kb l (Sb.through l t ins s).2) (.ag (eTm (Sb.through l t ins s).1)):=by
 have h:=(sthr_d l hl t ht ins s hs ho).ren (ren2 kw kb) (by simp[renOk,swE,D.ok,D.oks,rnames,inN,ckey,eTm_ok,eTms_ok,eTys_ok,ePairs_ok]) (by
  intro k h1 k' h2
  simp[rnames,swE] at h1 h2
  rcases h1 with rfl | rfl <;> rcases h2 with rfl | rfl <;> simp[ren2,hk,hk.symm])
 simpa[D.ren,eTm_ren,eTms_ren,ePairs_ren,swE,swR,renE,Key.ren,ren2] using h

theorem app_1 {l:List (Int×Tm)}{t:Tm}{left:Int}{dry:Bool}(h:Sb.right l=false):Sb.apply l t left dry=(Nm.tz,⟨left,dry,0,1⟩):=if_pos h
theorem app_2 {l:List (Int×Tm)}{t:Tm}{left:Int}{dry:Bool}(h:Sb.right l=true):Sb.apply l t left dry =
  (let r:=Sb.through l t 0 ⟨left,dry,0,0⟩;let s:Nm.St:=if r.2.e=0∧¬ (r.1.size≤5000∧r.1.depth≤60) then { r.2 with e:=2 } else r.2;if s.e≠0 then (Nm.tz,s) else (r.1,s)):=if_neg (by rw[h];simp)
def endA (t:Tm)(s:Nm.St):Tm×Nm.St:=let s':Nm.St:=if s.e=0∧¬ (t.size≤5000∧t.depth≤60) then { s with e:=2 } else s;if s'.e≠0 then (Nm.tz,s') else (t,s')
theorem end_1 {t:Tm}(h:t.size≤5000∧t.depth≤60)(l:Int)(d:Bool)(c:Int):endA t ⟨l,d,c,0⟩=(t,⟨l,d,c,0⟩):=by
 have:¬ ((0:Int)=0∧¬ (t.size≤5000∧t.depth≤60)):=fun h'=>h'.2 h
 unfold endA;dsimp only;rw[if_neg this];simp
theorem end_2 {t:Tm}(h:¬ (t.size≤5000∧t.depth≤60))(l:Int)(d:Bool)(c:Int):endA t ⟨l,d,c,0⟩=(Nm.tz,⟨l,d,c,2⟩):=by
 have:(0:Int)=0∧¬ (t.size≤5000∧t.depth≤60):=⟨rfl,h⟩
 unfold endA;dsimp only;rw[if_pos this];rfl
theorem end_3 {t:Tm}{e:Int}(h:e≠0)(l:Int)(d:Bool)(c:Int):endA t ⟨l,d,c,e⟩=(Nm.tz,⟨l,d,c,e⟩):=by
 have:¬ (e=0∧¬ (t.size≤5000∧t.depth≤60)):=fun h'=>h h'.1
 unfold endA;dsimp only;rw[if_neg this];exact if_pos h

set_option maxHeartbeats 1000000 in
theorem apply_d (l:List (Int×Tm))(hl:l.length≤1000000)(t:Tm)(ht:Wide t)(left:Int)(dry:Bool)(h0:0≤left∧left≤1000000000)(ho:Sb.right l=true→thOk l t 0 ⟨left,dry,0,0⟩∧((Sb.through l t 0 ⟨left,dry,0,0⟩).2.e=0→DoneOk (Sb.through l t 0 ⟨left,dry,0,0⟩).1)):
  CallC Tryz.prog 18 [.sl 5 (ePairs l) none,.ag (eTm t),.o 1] [(.o 1,.ob (BudJ left dry))] [(.o 1,.ob (BudJ (Sb.apply l t left dry).2.left (Sb.apply l t left dry).2.dry))] (.tu [.ag (eTm (Sb.apply l t left dry).1),.v (.int .i64 (Sb.apply l t left dry).2.e)]):=by
 obtain⟨p,hp⟩:∃ p,Sb.apply l t left dry=p:=⟨_,rfl⟩
 rw[hp]
 have hrt:=sright_d l hl
 have hth:=fun h=>sthr_at 15 1 (by decide) l hl t ht 0 ⟨left,dry,0,0⟩ h0 (ho h).1
 rw[eTm_eq t] at hth ⊢
 refine call_of_dw 2 50 [ResultVar.cell 6 41,ResultVar.tmp 7] TS2_ok (by kernel_rfl) Tryz.func18 rfl Tryz.ntmps18 rfl (by simp) ?dwords ?dbody
 case dwords=>simp[wordsOk,D.ok,D.oks,rnames,inN,ckey,eTm_ok,eTms_ok,eTys_ok,ePairs_ok]
 case dbody=>
  intro cx hnt hn0
  refine dw_seq ?_;refine dwk [] TS2_ok hnt fun K hK=>hK _ _ ?_;clear hK K;refine dw_seq (dw_seq ?_)
  cases hr:Sb.right l with
  | false=>
   rw[hr] at hrt
   rw[app_1 hr] at hp
   subst hp
   refine dwk [] TS2_ok hnt fun K hK=>?_;refine dcl (hrt) ?_;refine hK _ _ ?_;clear hK K;refine dw_cond (t:=true) rfl ?_;rw[if_pos rfl];refine dw_seq ?_;refine dwk [] TS2_ok hnt fun K hK=>hK _ _ ?_;clear hK K;refine dw_ret ?_
   rw[tz_eq]
   exact retv (N:=0) (.inr rfl) rfl (by repeat first | exact VLe.refl _ | exact VLe.nil _ | exact VLe.untag _ _ _ | refine VLe.ag ?_ | refine VLe.tu ?_ | refine VLeL.cons ?_ ?_ | exact VLeL.nil) (by repeat first | exact trivial | refine And.intro rfl ?_)
  | true=>
   rw[hr] at hrt
   have ho:=(ho hr).2
   have hth:=hth hr
   rw[app_2 hr] at hp
   obtain⟨r,hrr⟩:∃ r,Sb.through l t 0 ⟨left,dry,0,0⟩=r:=⟨_,rfl⟩
   rw[hrr] at hp ho hth
   have hp:endA r.1 r.2=p:=hp
   clear hrr
   obtain⟨u,s1⟩:=r
   obtain⟨left',dry',count,er⟩:=s1
   dsimp only at hp ho hth
   refine dwk [] TS2_ok hnt fun K hK=>?_;refine dcl (hrt) ?_;refine hK _ _ ?_;clear hK K;refine dw_cond (t:=false) rfl ?_;rw[if_neg (by simp)];refine dw_skip ?_;refine dw_seq ?_;refine dwk [] TS2_ok hnt fun K hK=>hK _ _ ?_;clear hK K;refine dw_seq ?_
   have hru:er=0→PureC Tryz.prog 61 [.ag (eTm u)] (.v (.bool (decide (u.size≤5000∧u.depth≤60)))):=fun h=>right_d u (by have:=(ho h).right;omega)
   have hcu:er=0→(u.size≤5000∧u.depth≤60)→PureC Tryz.prog 66 [.ag (eTm u)] (.ag (eTm u)):=fun h h'=>copyW_d u ((ho h).copy h').1 ((ho h).copy h').2
   rw[eTm_eq u] at hth hru hcu
   refine dwk [] TS2_ok hnt fun K hK=>?_;refine dcl (hth) ?_;refine hK _ _ ?_;clear hK K;refine dw_seq (dw_seq ?_)
   by_cases he:er=0
   ·subst he
    have hru:=hru rfl
    by_cases hR:u.size≤5000∧u.depth≤60
    ·have hcu:=hcu rfl hR
     rw[end_1 hR] at hp
     subst hp
     rw[decide_eq_true hR] at hru
     refine dwk [(29,.v (.bool true))] TS2_ok hnt fun K hK=>?_;refine And.intro (VLe.refl _) ?_;refine dcl (hru) ?_;refine hK _ _ ?_;clear hK K;refine dw_cond (t:=false) rfl ?_;rw[if_neg (by simp)];refine dw_skip ?_;refine dw_seq (dw_seq ?_);refine dwk [(42,.v (.bool false))] TS2_ok hnt fun K hK=>?_;refine And.intro (VLe.refl _) ?_;refine hK _ _ ?_;clear hK K;refine dw_cond (t:=false) rfl ?_
     rw[if_neg (by simp)];refine dw_skip ?_;refine dw_seq ?_;refine dwk [] TS2_ok hnt fun K hK=>?_;refine dcl (hcu) ?_;refine hK _ _ ?_;clear hK K;refine dw_ret ?_
     rw[eTm_eq]
     exact retv (N:=0) (.inr rfl) rfl (by repeat first | exact VLe.refl _ | exact VLe.nil _ | exact VLe.untag _ _ _ | refine VLe.ag ?_ | refine VLe.tu ?_ | refine VLeL.cons ?_ ?_ | exact VLeL.nil) (by repeat first | exact trivial | refine And.intro rfl ?_)
    ·rw[end_2 hR] at hp
     subst hp
     rw[decide_eq_false hR] at hru
     refine dwk [(29,.v (.bool true))] TS2_ok hnt fun K hK=>?_;refine And.intro (VLe.refl _) ?_;refine dcl (hru) ?_;refine hK _ _ ?_;clear hK K;refine dw_cond (t:=true) rfl ?_;rw[if_pos rfl];refine dwk [] TS2_ok hnt fun K hK=>hK _ _ ?_;clear hK K;refine dw_seq (dw_seq ?_);refine dwk [(42,.v (.bool true))] TS2_ok hnt fun K hK=>?_;refine And.intro (VLe.refl _) ?_;refine hK _ _ ?_;clear hK K
     refine dw_cond (t:=true) rfl ?_;rw[if_pos rfl];refine dw_seq ?_;refine dwkD [] TS2_ok hnt fun K hK=>?_;refine hK _ _ (by kernel_rfl) ?_;clear hK K;refine dw_ret ?_
     rw[tz_eq]
     exact retv (N:=0) (.inr rfl) rfl (by repeat first | exact VLe.refl _ | exact VLe.nil _ | exact VLe.untag _ _ _ | refine VLe.ag ?_ | refine VLe.tu ?_ | refine VLeL.cons ?_ ?_ | exact VLeL.nil) (by repeat first | exact trivial | refine And.intro rfl ?_)
   ·rw[end_3 he] at hp
    subst hp
    refine dwk [(29,.v (.bool false))] TS2_ok hnt fun K hK=>?_;refine And.intro (VLe.of_eq (by simp[he])) ?_;refine hK _ _ ?_;clear hK K;refine dw_cond (t:=false) rfl ?_;rw[if_neg (by simp)];refine dw_skip ?_;refine dw_seq (dw_seq ?_);refine dwk [(42,.v (.bool true))] TS2_ok hnt fun K hK=>?_;refine And.intro (VLe.of_eq (by simp[he])) ?_;refine hK _ _ ?_;clear hK K;refine dw_cond (t:=true) rfl ?_
    rw[if_pos rfl];refine dw_seq ?_;refine dwkD [] TS2_ok hnt fun K hK=>?_;refine hK _ _ (by kernel_rfl) ?_;clear hK K;refine dw_ret ?_
    rw[tz_eq]
    exact retv (N:=0) (.inr rfl) rfl (by repeat first | exact VLe.refl _ | exact VLe.nil _ | exact VLe.untag _ _ _ | refine VLe.ag ?_ | refine VLe.tu ?_ | refine VLeL.cons ?_ ?_ | exact VLeL.nil) (by repeat first | exact trivial | refine And.intro rfl ?_)
theorem apply_at (kb:Nat)(l:List (Int×Tm))(hl:l.length≤1000000)(t:Tm)(ht:Wide t)(left:Int)(dry:Bool)(h0:0≤left∧left≤1000000000)(ho:Sb.right l=true→thOk l t 0 ⟨left,dry,0,0⟩∧((Sb.through l t 0 ⟨left,dry,0,0⟩).2.e=0→DoneOk (Sb.through l t 0 ⟨left,dry,0,0⟩).1)):
  CallC Tryz.prog 18 [.sl 5 (ePairs l) none,.ag (eTm t),.o kb] [(.o kb,.ob (BudJ left dry))] [(.o kb,.ob (BudJ (Sb.apply l t left dry).2.left (Sb.apply l t left dry).2.dry))] (.tu [.ag (eTm (Sb.apply l t left dry).1),.v (.int .i64 (Sb.apply l t left dry).2.e)]):=by
 have h:=(apply_d l hl t ht left dry h0 ho).ren (fun _=>kb) (by simp[renOk,D.ok,D.oks,rnames,inN,ckey,eTm_ok,ePairs_ok]) (by
  intro k h1 k' h2 _
  simp[rnames] at h1 h2
  rw[h1,h2])
 simpa[D.ren,D.rens,eTm_ren,ePairs_ren,renE,Key.ren] using h
namespace Ru
end Ru
namespace Ru
def swap (p:Li.Pr):Li.Pr:=⟨p.r,p.l,p.m⟩
end Ru
def TRM_35:TI:=⟨3,true,[Value.int IntKind.i64 0,Value.slice none 0 0,Value.slice none 0 0],[(0,1,false),(1,1,false),(2,1,false)],none,56,6,none,false⟩
theorem TRM_35_ok:TypOk Tryz.prog 35 TRM_35:=by constructor <;> kernel_rfl
def TRM_33:TI:=⟨1,false,[Value.slice none 0 0],[],some 44,24,5,none,false⟩
theorem TRM_33_ok:TypOk Tryz.prog 33 TRM_33:=by constructor <;> kernel_rfl
def TRM_24:TI:=⟨3,true,[Value.int IntKind.i64 0,Value.slice none 0 0,Value.slice none 0 0],[(0,1,false),(1,1,false),(2,1,false)],none,56,6,none,false⟩
theorem TRM_24_ok:TypOk Tryz.prog 24 TRM_24:=by constructor <;> kernel_rfl
def TRM_22:TI:=⟨1,false,[Value.slice none 0 0],[],some 103,24,5,none,false⟩
theorem TRM_22_ok:TypOk Tryz.prog 22 TRM_22:=by constructor <;> kernel_rfl
def TRM_86:TI:=⟨9,true,[Value.slice none 0 0,Value.int IntKind.i64 0,Value.int IntKind.i64 0,Value.slice none 0 0,Value.slice none 0 0,Value.int IntKind.i64 0,Value.int IntKind.i64 0,Value.slice none 0 0,Value.slice none 0 0],[(0,4,true),(4,4,true),(8,1,false)],none,152,6,none,false⟩
theorem TRM_86_ok:TypOk Tryz.prog 86 TRM_86:=by constructor <;> kernel_rfl
def TRM_3:TI:=⟨1,false,[Value.int IntKind.i64 0],[],none,8,2,none,false⟩
theorem TRM_3_ok:TypOk Tryz.prog 3 TRM_3:=by constructor <;> kernel_rfl
def TRM_103:TI:=⟨2,true,[Value.slice none 0 0,Value.int IntKind.i64 0],[(0,1,false),(1,1,false)],none,32,6,none,false⟩
theorem TRM_103_ok:TypOk Tryz.prog 103 TRM_103:=by constructor <;> kernel_rfl
def TRM_44:TI:=⟨2,true,[Value.slice none 0 0,Value.int IntKind.i64 0],[(0,1,false),(1,1,false)],none,32,6,none,false⟩
theorem TRM_44_ok:TypOk Tryz.prog 44 TRM_44:=by constructor <;> kernel_rfl
def TRM:List (Nat×TI):=[(35,TRM_35),(33,TRM_33),(24,TRM_24),(22,TRM_22),(86,TRM_86),(3,TRM_3),(103,TRM_103),(44,TRM_44)]
theorem TRM_ok:TabOk Tryz.prog TRM:=(((((((((TabOk.nil _).cons TRM_44_ok).cons TRM_103_ok).cons TRM_3_ok).cons TRM_86_ok).cons TRM_22_ok).cons TRM_24_ok).cons TRM_33_ok).cons TRM_35_ok)
namespace Ru
end Ru
theorem twd_d (b:Int)(C M:List Ty)(h1:Ty.sizes C≤900000)(h2:Ty.sizes M≤900000):PureC Tryz.prog 11 [.ag [.v (.int .i64 b),.sl 2 (eTys C) none,.sl 2 (eTys M) none]] (.ag [.v (.int .i64 b),.sl 2 (eTys C) none,.sl 2 (eTys M) none]):=by
 have hC:=toTys_d C h1
 have hM:=toTys_d M h2
 refine calldw 0 12 [ResultVar.cell 2 35] TRM_ok Tryz.func11 rfl Tryz.ntmps11 rfl fun cx hnt hn0=>?_
 ·skip
  refine dw_seq ?_;refine dwk [] TRM_ok hnt fun K hK=>hK _ _ ?_;clear hK K;refine dw_seq ?_;refine dwkD [] TRM_ok hnt fun K hK=>?_;refine dcl (hC) ?_;refine dcl (hM) ?_;refine hK _ _ (by kernel_rfl) ?_;clear hK K;refine dw_ret ?_
  exact reta rfl
namespace Ru
def wB (C M:List Ty):Bool:=decide (C.length≤20∧M.length≤20) && (C ++ M).all few4B
end Ru
namespace Ru
def wt (p:Li.Pr):Int:=(p.l.size:Int) + (p.r.size:Int)
def cmp (a b:Li.Pr):Int:=orl (sgn (wt a) (wt b)) (orl (Tm.cmp a.l b.l) (orl (Tm.cmp a.r b.r) (Tm.cmpB a.m b.m)))
end Ru
namespace Ru
end Ru
theorem code_ex2 (C M X:List Ty)(t:Tm)(u:Ty):∃ c,checkCode C M t X u c:=by
 by_cases h1:t.size≤5000∧t.depth≤60
 ·by_cases h2:IsOf C M t X u
  ·exact⟨0,.inr (.inr ⟨h1,h2,rfl⟩)⟩
  ·exact⟨5,.inr (.inl ⟨h1,h2,rfl⟩)⟩
 ·exact⟨2,.inl ⟨h1,rfl⟩⟩
end Go.Proofs.YtflbnonbfmmchaaGreat
