/-
  Package subst's lists, walked in the deep way: Set, Domain, Get, Equal; terms that are the same. Package subst's lists, walked in the deep way: Get, Equal. The document's lists of pairs, walked in the deep way: Sorted, Get, Without, Domain, Same. LiftSubsts, walked in the deep way. How large long forms are, and that their indexes fit. How large lifted terms are, and that their indexes fit. The document's Like. The document's Metas. The document's Metas, walked in the deep way. Which of two types is less: by size, by how many arguments, argument by argument, by base; and what that order promises. Which of two terms is less: the plain law. sign, cmp.Compare and cmp.Or of ints. The document's order of types. The document's order of terms. A context with more binders: the program's and the document's. term.is: whether a term is of a type. The document's Is: whether a term is of a type. The document's Depth, Right, Check; term.Check. The document's answer of layer 22: lifted, Over, Closed. What the members of a gathering yield: a list of standard shapes. term.HeadType, term.TypeOf. The document's TypeOf. Whether a world may be: the program's RightWorld and the document's. The laws' worlds: World, Small; the document's RightWorld. The contracts of heads and types once more, where all of memory may be read. Checks of substitutions: what is called, as deep contracts. term's TypeOf and Check, walked in the deep way. What rule.Typed and the document's Typed call, as deep contracts. Typed and Check: rule's and the document's. Check: rule's and the document's. The known answer of the laws of layer 17. RuleOwns, walked in the deep way. A rule in its own numbers is a rule, in plain Lean. A typed pair in its own numbers: typed, a rule just where the pair is one; plain. subst.Apply, walked in the deep way. The known answer of the laws of layer 9. rule.Instance, walked in the deep way. What the law SubstKeeps asks of the plain model: one substitution behind the other, as subst.Compose makes it. subst.Compose, walked in the deep way. A pattern matches what a substitution made of it: by the pattern; plain. The document's lists of pairs, walked in the deep way: Sorted and Without hand back rows of their own; Like. The document's matching, walked in the deep way: rigid, All. The document's matching, walked in the deep way: several at once. MatchAlls, walked in the deep way. Variants and what is more general, walked in the deep way; MatchOrders. match.Find in plain words, and the document's answer for it. What the law MatchSound asks of the plain model. Long forms and shifted terms are well typed: the plain law. What the law MatchBack asks of the plain model. Loops over an iterator that hands out what it has just made. A region that draws its order where several operations can come up. A region that draws its order, walked outside any fence, is taken into the fence that asks nothing, in a round of a loop or not. spot.Each: all places, each handed out as copies that have just been made. spot.Each as an iterator; match.Find. match.Find: the first place where a pattern matches. The law MatchFinds.
-/
import Derived.Test.YtflbnonbfmmchaaGreatRowSubstKeepsp8
import Derived.Test.YtflbnonbfmmchaaGreatRowSubstKeepsp7
import Derived.Test.YtflbnonbfmmchaaGreatRowSubstKeepsp1
import Derived.Test.YtflbnonbfmmchaaGreatRowSubstKeepsp6
import Derived.Test.YtflbnonbfmmchaaGreatRowSubstKeepsp5
import Derived.Test.YtflbnonbfmmchaaGreatRowSubstKeepsp4
import Derived.RegionTactic
import Derived.OrdersIn
import Derived.RangeFuncCalls
set_option maxRecDepth 100000
set_option maxHeartbeats 1000000
set_option linter.unusedVariables false
set_option linter.unusedSimpArgs false
namespace Go.Proofs.YtflbnonbfmmchaaGreat
open Go.RowKit
def TSQ_79:TI:=⟨5,true,[Value.int IntKind.i64 0,Value.slice none 0 0,Value.int IntKind.i64 0,Value.int IntKind.i64 0,Value.slice none 0 0],[(0,1,false),(1,4,true)],none,72,6,none,false⟩
theorem TSQ_79_ok:TypOk Tryz.prog 79 TSQ_79:=by constructor <;> kernel_rfl
def TSQ_41:TI:=⟨4,true,[Value.slice none 0 0,Value.int IntKind.i64 0,Value.int IntKind.i64 0,Value.slice none 0 0],[(0,1,false),(1,2,true),(3,1,false)],none,64,6,none,false⟩
theorem TSQ_41_ok:TypOk Tryz.prog 41 TSQ_41:=by constructor <;> kernel_rfl
def TSQ_51:TI:=⟨1,false,[Value.slice none 0 0],[],some 79,24,5,none,false⟩
theorem TSQ_51_ok:TypOk Tryz.prog 51 TSQ_51:=by constructor <;> kernel_rfl
def TSQ_3:TI:=⟨1,false,[Value.int IntKind.i64 0],[],none,8,2,none,false⟩
theorem TSQ_3_ok:TypOk Tryz.prog 3 TSQ_3:=by constructor <;> kernel_rfl
def TSQ_59:TI:=⟨1,false,[Value.slice none 0 0],[],some 3,24,5,none,false⟩
theorem TSQ_59_ok:TypOk Tryz.prog 59 TSQ_59:=by constructor <;> kernel_rfl
def TSQ_174:TI:=⟨1,false,[Value.pointer none],[],none,8,4,none,false⟩
theorem TSQ_174_ok:TypOk Tryz.prog 174 TSQ_174:=by constructor <;> kernel_rfl
def TSQ_153:TI:=⟨1,false,[Value.nilFunc],[],none,8,8,none,false⟩
theorem TSQ_153_ok:TypOk Tryz.prog 153 TSQ_153:=by constructor <;> kernel_rfl
def TSQ:List (Nat×TI):=[(79,TSQ_79),(41,TSQ_41),(51,TSQ_51),(3,TSQ_3),(59,TSQ_59),(174,TSQ_174),(153,TSQ_153)]
theorem TSQ_ok:TabOk Tryz.prog TSQ:=((((((((TabOk.nil _).cons TSQ_153_ok).cons TSQ_174_ok).cons TSQ_59_ok).cons TSQ_3_ok).cons TSQ_51_ok).cons TSQ_41_ok).cons TSQ_79_ok)
theorem ePairs_snoc (l:List (Int×Tm))(p:Int×Tm):ePairs l++[[.v (.int .i64 p.1),.sl 2 (eTys p.2.binds) none,.v (.int .i64 p.2.kind),.v (.int .i64 p.2.index),.sl 4 (eTms p.2.args) none]]=ePairs (l++[p]):=by
 rw[←ePair_eq];unfold ePairs;rw[List.map_append];rfl
theorem domain_d (l:List (Int×Tm))(hl:l.length≤900000):PureC Tryz.prog 82 [.sl 5 (ePairs l) none] (.sl 1 (eIs (l.map (·.1))) none):=by
 refine calldw 0 19 [ResultVar.tmp 2] TSQ_ok Tryz.func82 rfl Tryz.ntmps82 rfl fun cx hnt hn0=>?_
 ·skip
  refine dw_seq ?_;refine dwk [] TSQ_ok hnt fun _ z9=>z9 _ _ ?_
  refine dw_cut (τ:=[(.t 0,.sl 5 (ePairs l) none),(.t 3,.v (.slice none 0 0))]) (N1:=0) ?_ ?_
  ·skip
   refine dwk [] TSQ_ok hnt fun _ z9=>z9 _ _ ?_
   exact cut_ok (VS.toK (by omega) (by repeat first | exact trivial | refine And.intro (And.intro (by first | rfl | simp[D.ok,D.oks,D.okss,D.okm,upto,keyOk,argsT]) (by first | exact Or.inl rfl | exact Or.inr ⟨_,rfl,(by repeat first | exact VLe.refl _ | exact VLe.nil _ | exact VLe.untag _ _ _ | refine VLe.ag ?_ | refine VLe.tu ?_ | refine VLeL.cons ?_ ?_ | exact VLeL.nil),trivial⟩ | simp[get,Key.eq,argsT])) ?_))
  ·refine DW.vs (VS.rowT (x:=3) (by rw[hnt];decide) 3 1 rfl) ?_
   refine dw_seq ?_;refine dw_seq ?_;refine dwk [(7,.v (.int .i64 (↑l.length)))] TSQ_ok hnt fun K hK=>?_;refine And.intro (dintE (by rw[ePairs_len])) ?_;refine hK _ _ ?_;clear hK K;refine dw_block ?_
   refine dw_loop (ι:={ k:Nat // k≤l.length }) (fun k=>[(.t 3,.sl 1 (eIs ((l.take k.1).map (·.1))) (some 0)),(.t 6,.sl 5 (ePairs l) none),(.t 7,.v (.int .i64 ↑l.length)),(.t 8,.v (.int .i64 ↑k.1)),(.r 0,.rw 3 1 k.1)]) 1 (fun k=>l.length-k.1) (⟨0,Nat.zero_le _⟩) ((VS.toK (by omega) (by repeat first | exact trivial | refine And.intro (And.intro (by first | rfl | simp[D.ok,D.oks,D.okss,D.okm,upto,keyOk,argsT]) (by first | exact Or.inl rfl | exact Or.inr ⟨_,rfl,(by repeat first | exact VLe.refl _ | exact VLe.nil _ | exact VLe.untag _ _ _ | refine VLe.ag ?_ | refine VLe.tu ?_ | refine VLeL.cons ?_ ?_ | exact VLeL.nil),trivial⟩ | simp[get,Key.eq,argsT])) ?_))) fun k=>?_
   obtain⟨k,hk⟩:=k
   dsimp only
   by_cases hlt:k<l.length
   ·have htk:eIs ((l.take k).map (·.1))++[[.v (.int .i64 l[k].1)]]=eIs ((l.take (k+1)).map (·.1)):=by
     rw[List.take_add_one,List.getElem?_eq_getElem hlt,Option.toList_some,List.map_append,eIs_append];rfl
    have hle:(eIs ((l.take k).map (·.1))).length=k:=by rw[eIs_len];simp;omega
    have hle2:(eIs ((l.take (k+1)).map (·.1))).length=k+1:=by rw[eIs_len];simp;omega
    refine dw_seq ?_;refine dwk [(9,.v (.bool true))] TSQ_ok hnt fun K hK=>?_;refine And.intro auT ?_;refine hK _ _ ?_;clear hK K;refine dw_seq ?_;refine dw_cond (t:=true) rfl ?_;rw[if_pos rfl];refine dw_skip ?_;refine dw_seq ?_;refine dw_block ?_;refine dw_seq ?_;refine dwk [(10,.q [.v (.int .i64 l[k].1),.sl 2 (eTys l[k].2.binds) none,.v (.int .i64 l[k].2.kind),.v (.int .i64 l[k].2.index),.sl 4 (eTms l[k].2.args) none])] TSQ_ok hnt fun K hK=>?_
    refine And.intro (elo (ePairs_len l)) ?_;refine And.intro (elv (ePairs_getD l k) (ePair_eq _)) ?_;refine hK _ _ ?_;clear hK K;refine dwk [] TSQ_ok hnt fun K hK=>?_;refine And.intro (⟨by omega,by rw[hle];simp;omega⟩) ?_;refine hK _ _ ?_;clear hK K
    rw[htk,hle2]
    refine dwk [(17,.v (.int .i64 (↑(k+1))))] TSQ_ok hnt fun K hK=>?_;refine And.intro auI ?_;refine hK _ _ ?_;clear hK K
    refine⟨⟨k+1,by omega⟩,by first | omega | (dsimp only;omega),VS.toA⟩
   ·rw[List.take_of_length_le (by omega)]
    refine dw_seq ?_;refine dwk [(9,.v (.bool false))] TSQ_ok hnt fun K hK=>?_;refine And.intro auF ?_;refine hK _ _ ?_;clear hK K;refine dw_seq ?_;refine dw_cond (t:=false) rfl ?_;rw[if_neg (by simp)];refine dw_exit ?_;refine dw_seq ?_;refine dwk [] TSQ_ok hnt fun _ z9=>z9 _ _ ?_;refine dw_ret ?_
    exact reta rfl
/-! the example -/
namespace Li
def kA:Ty:=.mk [] 0
def kX:Tm:=.mk [] 2 0 []
def kC:Tm:=.mk [] 1 0 [kX]
end Li
/-! the law -/
theorem sizes_le22 {l:List Ty}{n:Nat}(h:∀ t∈l,t.size≤n):Ty.sizes l≤l.length * n:=by
 induction l with
 | nil=>simp[Ty.sizes]
 | cons t l ih=>
  have h1:=h t (by simp)
  have h2:=ih fun u hu=>h u (by simp[hu])
  rw[Ty.sizes,List.length_cons,Nat.add_mul];omega
namespace Li
end Li
def eHs (l:List (Int×Int)):List (List D):=l.map fun h=>[.v (.int .i64 h.1),.v (.int .i64 h.2)]
@[simp] theorem eHs_ok (f g:Nat→Bool) (l:List (Int×Int)):D.okss f g (eHs l)=true:=D.okss_map _ l fun _ _=>rfl
def sgn (x y:Int):Int:=if x<y then -1 else if y<x then 1 else 0
def orl (a b:Int):Int:=if a=0 then b else a
@[simp] theorem orl_zero (b:Int):orl 0 b=b:=by simp[orl]
@[simp] theorem orl_zero_right (a:Int):orl a 0=a:=by unfold orl;split <;> simp_all
namespace Ty
mutual
def cmp:Ty→Ty→Int
 | .mk l b,.mk l' b'=>orl (orl (orl (sgn (Ty.sizes l+1:Nat) (Ty.sizes l'+1:Nat)) (sgn (l.length:Nat) (l'.length:Nat))) (cmps l l')) (sgn b b')
def cmps:List Ty→List Ty→Int
 | [],_=>0
 | _ :: _,[]=>0
 | t :: l,u :: l'=>orl (cmp t u) (cmps l l')
end
@[simp] theorem cmps_nil (l:List Ty):cmps [] l=0:=by rw[cmps]
end Ty
namespace Tm
def cmpB (l l':List Ty):Int:=orl (sgn (l.length:Nat) (l'.length:Nat)) (Ty.cmps l l')
mutual
def cmp:Tm→Tm→Int
 | .mk b k i a,.mk b' k' i' a'=>orl (sgn (Tm.sizes a+1:Nat) (Tm.sizes a'+1:Nat)) (orl (cmpB b b') (orl (sgn k k') (orl (sgn i i') (orl (sgn (a.length:Nat) (a'.length:Nat)) (cmps a a')))))
def cmps:List Tm→List Tm→Int
 | [],_=>0
 | _ :: _,[]=>0
 | t :: l,u :: l'=>orl (cmp t u) (cmps l l')
end
@[simp] theorem cmps_nil (l:List Tm):cmps [] l=0:=by rw[cmps]
end Tm
namespace Ty
end Ty
theorem IsSl.bel {α:Type}{r:Rp α}{F:Nat→Prop}{w w':World}{v:Value}{l:List α}(h:IsSl r F w v l)(hb:Below w.heap.size w w'):IsSl r F w' v l:=h.keep ((Keep.refl _ _).below hb)
set_option maxRecDepth 100000 in
set_option maxHeartbeats 1000000 in
theorem within_k {G G' F:Nat→Prop}{w:World}{v v':Value}{l l':List Ty}(h:IsSl2 rpTy G F w v l)(h':IsSl2 rpTy G' F w v' l')(hl:l.length+l'.length≤100000):
  Calls Tryz.prog 55 #[v,v'] w (OutSl2 F (l++l') w):=by
 obtain⟨a,c,rfl⟩:=h.shape
 obtain⟨a',c',rfl⟩:=h'.shape
 have H:=Lib.hid h;have H':=Lib.hid h'
 clear h h'
 obtain⟨r,hr⟩:∃ r,l++l'=r:=⟨_,rfl⟩
 have Hr:=Lib.hid hr
 rw[hr]
 clear hr
 go_enter Tryz.func55,Tryz.ntmps55
 go_wp2_with fail
 obtain⟨w1,hw1⟩:∃ w1,w.alloc (.cells #[.slice a l.length c,.slice a' l'.length c'] 33)=w1:=⟨_,rfl⟩
 have hb1:Below w.heap.size w w1:=by rw[←hw1];exact(Below.refl _ _).alloc (Nat.le_refl _) _
 have x:Blk w1 w.heap.size #[.slice a l.length c,.slice a' l'.length c'] 33:=by rw[←hw1];exact Blk.new _ _ _ rfl
 try rw[hw1]
 clear hw1
 refine(concat_any2 x (H.out.bel hb1) (H'.out.bel hb1) hl).mono ?_
 rintro e w2 ⟨a2,c2,rfl,hT,hb2⟩
 have hs1:=hb1.size
 have HT:=Lib.hid (hT.weaken (G':=fun q=>w.heap.size≤q) (F':=F) (by decide) (fun q _ h=>by omega) fun _ _ h=>h);clear hT
 rw[Hr.out] at HT ⊢
 go_wp2_with fail
 go_ret
 exact⟨_,_,rfl,HT.out,hb1.trans (hb2.mono hb1.size)⟩
set_option maxRecDepth 100000 in
set_option maxHeartbeats 8000000 in
theorem is_k {F:Nat→Prop}{b:Int}{C M:List Ty}:∀ (t:Tm) (w:World) (cv mv xv tb tk ti ta s ub:Value) (X:List Ty) (u:Ty),(∀ q,F q→q<w.heap.size)→IsSl rpTy F w cv C→IsSl rpTy F w mv M→IsSl2 rpTy (fun _=>True) F w xv X→IsTm F w tb tk ti ta t→IsTy F w s ub u →
  X.length+t.full≤90000→t.Fit →
  Calls Tryz.prog 62 #[.agg #[.int .i64 b,cv,mv],xv,.agg #[tb,tk,ti,ta],.agg #[s,ub]] w (RetB (IsOf C M t X u) w):=Tm.ind fun binds k i args ih=>by
 intro w cv mv xv tb tk ti ta s ub X u hF hc hm hx ht hu hz hfit
 obtain⟨ca,cc,rfl⟩:=hc.shape
 obtain⟨ma,mc,rfl⟩:=hm.shape
 obtain⟨xa,xc,rfl⟩:=hx.shape
 obtain⟨rfl,rfl,hbi,hsa⟩:=ht.inv
 obtain⟨rfl,hus⟩:=hu.inv
 simp only[Tm.binds,Tm.kind,Tm.index,Tm.args] at hbi hsa ⊢
 obtain⟨pa,pc,rfl⟩:=hbi.shape
 obtain⟨qa,qc,rfl⟩:=hsa.shape
 obtain⟨ua,uc,rfl⟩:=hus.shape
 obtain⟨_,hma,bl,off,PA,A,PN,PC,N,Cc,Kd,Ix,ha,h1,h2,h3,h4,h5⟩:=sl_cells6 hsa
 unfold maxLen at hma
 have hi:i≤9223372036854775807:=(Tm.fit_iff.1 hfit).2.1
 have Hfit:Hid (∀ t∈args,Tm.Fit t):=(Tm.fit_iff.1 hfit).2.2
 obtain⟨Y,hY⟩:∃ Y,X++binds=Y:=⟨_,rfl⟩
 have hYl:Y.length=X.length+binds.length:=by rw[←hY];simp
 have hbl:binds.length≤Ty.sizes binds:=Ty.le_sizes binds
 have Hz:Hid (∀ t∈args,Y.length+t.full≤90000):=fun t ht=>by have:=Tm.full_mem ht;rw[Tm.full_eq] at hz;omega
 have hla:X.length+binds.length≤100000:=by rw[Tm.full_eq] at hz;omega
 have H0:=Lib.hid hF;have Hc:=Lib.hid hc;have Hm:=Lib.hid hm
 have Heq:=Lib.hid fun(w':World) (hb:Below w.heap.size w w')=>equalFunc_k hbi hus (fun t _=>equal_k t) w' ((Keep.refl _ _).below hb) ((Keep.refl _ _).below hb)
 have Hwi:=Lib.hid fun(w':World) (hb:Below w.heap.size w w')=>within_k (hx.bel hb) (IsSl2.of (hbi.bel hb)) hla
 have Hhd:=Lib.hid fun(w':World) (yv:Value) (hb:Below w.heap.size w w') (hy:IsSl2 rpTy (fun _=>True) F w' yv Y)=>headType_k (b:=b) (fun q hq=>Nat.lt_of_lt_of_le (hF q hq) hb.size) (hc.bel hb) (hm.bel hb) hy k i hi
 have H5:=Lib.hid h5;have Hih:=Lib.hid ih
 have Hh:Hid (∀ o,headTy C M Y k i=o→(IsOf C M (.mk binds k i args) X u↔binds=u.args∧∃ h,o=some h∧h.base=u.base∧IsOfs C M args Y h.args)):=fun o ho=>by rw[isOf_mk,hY,ho]
 rw[hY] at Hwi
 obtain⟨P,hP⟩:∃ P,IsOf C M (.mk binds k i args) X u=P:=⟨_,rfl⟩
 rw[hP] at Hh ⊢
 obtain⟨o,ho⟩:∃ o,headTy C M Y k i=o:=⟨_,rfl⟩
 have HP:=Lib.hid (Hh.out o ho)
 rw[ho] at Hhd
 obtain⟨ul,hul⟩:∃ ul,u.args=ul:=⟨_,rfl⟩
 obtain⟨ud,hud⟩:∃ ud,u.base=ud:=⟨_,rfl⟩
 rw[hul] at Heq HP hus ⊢
 rw[hud] at HP ⊢
 clear hP ho hul hud Hh hY hF hc hm hx ht hu hz hfit hbi hsa hus h5 ih hla hYl hbl
 go_enter Tryz.func62,Tryz.ntmps62
 go_wp2_with fail
 obtain⟨w3,hw3⟩:∃ w3,((w.alloc (.cells #[.int .i64 b,.slice ca C.length cc,.slice ma M.length mc] 35)).alloc (.cells #[.slice pa binds.length pc,.int .i64 k,.int .i64 i,.slice qa args.length qc] 41)).alloc (.cells #[.slice ua ul.length uc,.int .i64 ud] 44)=w3:=⟨_,rfl⟩
 have B_w3:Below w.heap.size w w3:=by rw[←hw3];exact(((Below.refl _ _).alloc (Nat.le_refl _) _).alloc (by simp) _).alloc (by simp;omega) _
 have x0_w3:Blk w3 w.heap.size #[.int .i64 b,.slice ca C.length cc,.slice ma M.length mc] 35:=by rw[←hw3];exact((Blk.new _ _ _ rfl).alloc _).alloc _
 have x1_w3:Blk w3 (w.heap.size+1) #[.slice pa binds.length pc,.int .i64 k,.int .i64 i,.slice qa args.length qc] 41:=by rw[←hw3];exact(Blk.new _ _ _ (by simp)).alloc _
 have x2_w3:Blk w3 (w.heap.size+1+1) #[.slice ua ul.length uc,.int .i64 ud] 44:=by rw[←hw3];exact Blk.new _ _ _ (by simp)
 rw[hw3]
 clear hw3
 refine(Heq.out w3 B_w3).mono ?_
 intro e w4 h
 obtain⟨r,Hr,rfl,hbx0⟩:=of_retB' h
 clear h
 have hbx:Below w3.heap.size w3 w4:=hbx0
 clear hbx0
 have x0_w4:=x0_w3.below hbx
 have x1_w4:=x1_w3.below hbx
 have x2_w4:=x2_w3.below hbx
 have B_w4:=B_w3.trans (hbx.mono B_w3.size)
 clear x0_w3 x1_w3 x2_w3 B_w3 hbx
 cases r
 ·have hn:¬ P:=fun hp=>no_of Hr ((HP.out.1 hp).1)
  go_wp2_with fail
  go_ret
  exact⟨false,by simp[hn],rfl,B_w4⟩
 have hbu:=yes_of Hr
 subst hbu
 clear Hr
 have cx00:w4.cell? ⟨w.heap.size,0,none⟩=some (.int .i64 b):=x0_w4.cell rfl
 have cx01:w4.cell? ⟨w.heap.size,1,none⟩=some (.slice ca C.length cc):=x0_w4.cell rfl
 have cx02:w4.cell? ⟨w.heap.size,2,none⟩=some (.slice ma M.length mc):=x0_w4.cell rfl
 have lx0:=x0_w4.lt
 have cx10:w4.cell? ⟨w.heap.size+1,0,none⟩=some (.slice pa binds.length pc):=x1_w4.cell rfl
 have cx11:w4.cell? ⟨w.heap.size+1,1,none⟩=some (.int .i64 k):=x1_w4.cell rfl
 have cx12:w4.cell? ⟨w.heap.size+1,2,none⟩=some (.int .i64 i):=x1_w4.cell rfl
 have cx13:w4.cell? ⟨w.heap.size+1,3,none⟩=some (.slice qa args.length qc):=x1_w4.cell rfl
 have lx1:=x1_w4.lt
 have cx20:w4.cell? ⟨w.heap.size+1+1,0,none⟩=some (.slice ua binds.length uc):=x2_w4.cell rfl
 have cx21:w4.cell? ⟨w.heap.size+1+1,1,none⟩=some (.int .i64 ud):=x2_w4.cell rfl
 have lx2:=x2_w4.lt
 go_wp2_with fail
 refine(Hwi.out w4 B_w4).mono ?_
 rintro e w5 ⟨ya,yc,rfl,hT,hbx0⟩
 have hbx:Below w4.heap.size w4 w5:=hbx0
 clear hbx0
 clear cx00 cx01 cx02 lx0 cx10 cx11 cx12 cx13 lx1 cx20 cx21 lx2
 have x0_w5:=x0_w4.below hbx
 have x1_w5:=x1_w4.below hbx
 have x2_w5:=x2_w4.below hbx
 have B_w5:=B_w4.trans (hbx.mono B_w4.size)
 clear x0_w4 x1_w4 x2_w4 B_w4 hbx
 have T_w5:=Lib.hid (hT.anyRow (by decide))
 clear hT
 have cx00:w5.cell? ⟨w.heap.size,0,none⟩=some (.int .i64 b):=x0_w5.cell rfl
 have cx01:w5.cell? ⟨w.heap.size,1,none⟩=some (.slice ca C.length cc):=x0_w5.cell rfl
 have cx02:w5.cell? ⟨w.heap.size,2,none⟩=some (.slice ma M.length mc):=x0_w5.cell rfl
 have lx0:=x0_w5.lt
 have cx10:w5.cell? ⟨w.heap.size+1,0,none⟩=some (.slice pa binds.length pc):=x1_w5.cell rfl
 have cx11:w5.cell? ⟨w.heap.size+1,1,none⟩=some (.int .i64 k):=x1_w5.cell rfl
 have cx12:w5.cell? ⟨w.heap.size+1,2,none⟩=some (.int .i64 i):=x1_w5.cell rfl
 have cx13:w5.cell? ⟨w.heap.size+1,3,none⟩=some (.slice qa args.length qc):=x1_w5.cell rfl
 have lx1:=x1_w5.lt
 have cx20:w5.cell? ⟨w.heap.size+1+1,0,none⟩=some (.slice ua binds.length uc):=x2_w5.cell rfl
 have cx21:w5.cell? ⟨w.heap.size+1+1,1,none⟩=some (.int .i64 ud):=x2_w5.cell rfl
 have lx2:=x2_w5.lt
 go_wp2_with fail
 refine(Hhd.out w5 _ B_w5 T_w5.out).mono ?_
 rintro e w6 ⟨s6,b6,rfl,hT,hbx0⟩
 have hbx:Below w5.heap.size w5 w6:=hbx0
 clear hbx0
 clear cx00 cx01 cx02 lx0 cx10 cx11 cx12 cx13 lx1 cx20 cx21 lx2
 have x0_w6:=x0_w5.below hbx
 have x1_w6:=x1_w5.below hbx
 have x2_w6:=x2_w5.below hbx
 have T_w6:=Lib.hid (T_w5.out.bel hbx)
 have B_w6:=B_w5.trans (hbx.mono B_w5.size)
 clear x0_w5 x1_w5 x2_w5 T_w5 B_w5 hbx
 obtain⟨h0,hh0⟩:∃ h0,o.getD tyZ=h0:=⟨_,rfl⟩
 have Hh0:=Lib.hid hh0
 rw[hh0] at hT
 clear hh0
 obtain⟨ha6,hc6,rfl,rfl⟩:=hT.shape
 have hat:=sl_at (IsSl2.of hT.inv.2)
 obtain⟨n0,hn0⟩:∃ n0,h0.args.length=n0:=⟨_,rfl⟩
 obtain⟨d0,hd0⟩:∃ d0,h0.base=d0:=⟨_,rfl⟩
 rw[hn0] at hT ⊢
 rw[hd0] at hT ⊢
 have Hn0:=Lib.hid hn0;have Hd0:=Lib.hid hd0
 have Hat:=Lib.hid hat
 clear hT hn0 hd0 hat
 cases hs:o.isSome
 ·have hn:¬ P:=fun hp=>by
   obtain⟨_,h,e,_⟩:=HP.out.1 hp
   rw[e] at hs;cases hs
  have cx00:w6.cell? ⟨w.heap.size,0,none⟩=some (.int .i64 b):=x0_w6.cell rfl
  have cx01:w6.cell? ⟨w.heap.size,1,none⟩=some (.slice ca C.length cc):=x0_w6.cell rfl
  have cx02:w6.cell? ⟨w.heap.size,2,none⟩=some (.slice ma M.length mc):=x0_w6.cell rfl
  have lx0:=x0_w6.lt
  have cx10:w6.cell? ⟨w.heap.size+1,0,none⟩=some (.slice pa binds.length pc):=x1_w6.cell rfl
  have cx11:w6.cell? ⟨w.heap.size+1,1,none⟩=some (.int .i64 k):=x1_w6.cell rfl
  have cx12:w6.cell? ⟨w.heap.size+1,2,none⟩=some (.int .i64 i):=x1_w6.cell rfl
  have cx13:w6.cell? ⟨w.heap.size+1,3,none⟩=some (.slice qa args.length qc):=x1_w6.cell rfl
  have lx1:=x1_w6.lt
  have cx20:w6.cell? ⟨w.heap.size+1+1,0,none⟩=some (.slice ua binds.length uc):=x2_w6.cell rfl
  have cx21:w6.cell? ⟨w.heap.size+1+1,1,none⟩=some (.int .i64 ud):=x2_w6.cell rfl
  have lx2:=x2_w6.lt
  go_wp2_with fail
  go_ret
  exact⟨false,by simp[hn],rfl,by first | exact B_w6.alloc B_w6.size _ | exact B_w6⟩
 obtain⟨h0',rfl⟩:=Option.isSome_iff_exists.1 hs
 obtain rfl:h0'=h0:=Hh0.out
 have HP2:Hid (P↔d0=ud∧IsOfs C M args Y h0'.args):=by
  show P↔_
  rw[HP.out,←Hd0.out]
  simp
 clear HP hs Hh0
 have cx00:w6.cell? ⟨w.heap.size,0,none⟩=some (.int .i64 b):=x0_w6.cell rfl
 have cx01:w6.cell? ⟨w.heap.size,1,none⟩=some (.slice ca C.length cc):=x0_w6.cell rfl
 have cx02:w6.cell? ⟨w.heap.size,2,none⟩=some (.slice ma M.length mc):=x0_w6.cell rfl
 have lx0:=x0_w6.lt
 have cx10:w6.cell? ⟨w.heap.size+1,0,none⟩=some (.slice pa binds.length pc):=x1_w6.cell rfl
 have cx11:w6.cell? ⟨w.heap.size+1,1,none⟩=some (.int .i64 k):=x1_w6.cell rfl
 have cx12:w6.cell? ⟨w.heap.size+1,2,none⟩=some (.int .i64 i):=x1_w6.cell rfl
 have cx13:w6.cell? ⟨w.heap.size+1,3,none⟩=some (.slice qa args.length qc):=x1_w6.cell rfl
 have lx1:=x1_w6.lt
 have cx20:w6.cell? ⟨w.heap.size+1+1,0,none⟩=some (.slice ua binds.length uc):=x2_w6.cell rfl
 have cx21:w6.cell? ⟨w.heap.size+1+1,1,none⟩=some (.int .i64 ud):=x2_w6.cell rfl
 have lx2:=x2_w6.lt
 by_cases hd:d0=ud
 rotate_left
 ·have hn:¬ P:=fun hp=>hd (HP2.out.1 hp).1
  have g1:(d0==ud)=false:=by simpa using hd
  have g2:(d0 != ud)=true:=by simpa using hd
  go_wp2_with fail
  go_ret
  exact⟨false,by simp[hn],rfl,by first | exact B_w6.alloc B_w6.size _ | exact B_w6⟩
 subst hd
 by_cases hn:(n0:Int)=(args.length:Int)
 rotate_left
 ·have hnn:¬ P:=fun hp=>by
   have h:=(isOfs_iff.1 (HP2.out.1 hp).2).1
   have:=Hn0.out
   omega
  have g1:((n0:Int)==(args.length:Int))=false:=by simpa using hn
  have g2:((n0:Int) != (args.length:Int))=true:=by simpa using hn
  go_wp2_with fail
  go_ret
  exact⟨false,by simp[hnn],rfl,by first | exact B_w6.alloc B_w6.size _ | exact B_w6⟩
 have hnn:n0=args.length:=by omega
 subst hnn
 clear hn
 have HP3:Hid (P↔∀ j (h:j<args.length) (h':j<h0'.args.length),IsOf C M args[j] Y h0'.args[j]):=by
  show P↔_
  rw[HP2.out,isOfs_iff]
  simp[Hn0.out]
 clear HP2
 go_wp2_with fail
 obtain⟨w7,hw7⟩:∃ w7,w6.alloc (.cells #[.slice ha6 args.length hc6,.int .i64 d0] 44)=w7:=⟨_,rfl⟩
 have hbx:Below w6.heap.size w6 w7:=by rw[←hw7];exact(Below.refl _ _).alloc (Nat.le_refl _) _
 obtain⟨p,hp⟩:∃ p,w6.heap.size=p:=⟨_,rfl⟩
 have xh_w7:Blk w7 p #[.slice ha6 args.length hc6,.int .i64 d0] 44:=by rw[←hw7];exact Blk.new _ _ _ hp.symm
 try rw[hw7]
 try rw[hp]
 clear cx00 cx01 cx02 cx10 cx11 cx12 cx13 cx20 cx21 lx0 lx1 lx2 hw7
 have Hbx:=Lib.hid hbx
 have x0_w7:=x0_w6.below hbx
 have x1_w7:=x1_w6.below hbx
 have x2_w7:=x2_w6.below hbx
 have T_w7:=Lib.hid (T_w6.out.bel hbx)
 have B_w7:=B_w6.trans (hbx.mono B_w6.size)
 clear x0_w6 x1_w6 x2_w6 T_w6 B_w6 hbx
 clear hp
 have H0':=Lib.hid fun q hq=>Nat.lt_of_lt_of_le (H0.out q hq) B_w7.size
 have Bw7:=Lib.hid B_w7
 clear B_w7
 go_loopw [12,13,53] (fun _ _ c wr=>∃ j:Nat,c=.int .i64 j∧j≤args.length∧Hid (∀ m (h:m<args.length) (h':m<h0'.args.length),m<j→IsOf C M args[m] Y h0'.args[m])∧Below w7.heap.size w7 wr) (fun _ _ c _=>args.length-(intOf c).toNat)
 case atStart=>exact⟨0,rfl,by omega,fun m _ _ h=>absurd h (by omega),Below.refl _ _⟩
 case round=>
  obtain⟨j,rfl,hj,hrel,hbr⟩:=hrel
  have Hbr:=Lib.hid hbr
  have B_wr:=Bw7.out.trans (hbr.mono Bw7.out.size)
  have x0_wr:=x0_w7.below hbr;have x1_wr:=x1_w7.below hbr;have x2_wr:=x2_w7.below hbr;have xh_wr:=xh_w7.below hbr
  have T_wr:=Lib.hid (T_w7.out.bel hbr)
  clear x0_w7 x1_w7 x2_w7 xh_w7 T_w7 hbr
  by_cases hlt:j<args.length
  ·obtain⟨rfl,hF⟩:=ha (by omega)
   have i1:(j:Int)<(args.length:Int):=by omega
   have hj':j<h0'.args.length:=by have:=Hn0.out;omega
   obtain⟨bl',off',A',N',C',B',rfl,hF',e5,e6,hU⟩:=Hat.out j hj'
   have Kp:Keep F w wr:=(Keep.refl _ _).below B_wr
   have e1:=Kp _ _ _ hF (h1 j hlt)
   have e2:=Kp _ _ _ hF (h2 j hlt)
   have e3:=Kp _ _ _ hF (h3 j hlt)
   have e4:=Kp _ _ _ hF (h4 j hlt)
   have B6r:Below w6.heap.size w6 wr:=Hbx.out.trans (Hbr.out.mono Hbx.out.size)
   have e5wr:=((Keep.refl (fun _=>True) _).below B6r) _ _ _ trivial e5
   have e6wr:=((Keep.refl (fun _=>True) _).below B6r) _ _ _ trivial e6
   have U_wr:=Lib.hid (hU.bel B6r)
   have V_wr:=Lib.hid ((H5.out j hlt).bel B_wr)
   clear e5 e6 hU B6r Kp
   go_wp2_with fail
   clear e1 e2 e3 e4
   obtain⟨v1,hv1⟩:∃ v1,wr.alloc (.cells #[.slice (PA j) (PN j) (PC j),.int .i64 (Kd j),.int .i64 (Ix j),.slice (A j) (N j) (Cc j)] 41)=v1:=⟨_,rfl⟩
   have hbx:Below wr.heap.size wr v1:=by rw[←hv1];exact(Below.refl _ _).alloc (Nat.le_refl _) _
   obtain⟨q,hq⟩:∃ q,wr.heap.size=q:=⟨_,rfl⟩
   have xa_v1:Blk v1 q #[.slice (PA j) (PN j) (PC j),.int .i64 (Kd j),.int .i64 (Ix j),.slice (A j) (N j) (Cc j)] 41:=by rw[←hv1];exact Blk.new _ _ _ hq.symm
   try rw[hv1]
   try rw[hq]
   have e5v1:=((Keep.refl (fun _=>True) _).below hbx) _ _ _ trivial e5wr
   have e6v1:=((Keep.refl (fun _=>True) _).below hbx) _ _ _ trivial e6wr
   clear e5wr e6wr hv1
   have B7v:Below w7.heap.size w7 v1:=Hbr.out.trans (hbx.mono Hbr.out.size)
   have x0_v1:=x0_wr.below hbx
   have xh_v1:=xh_wr.below hbx
   have T_v1:=Lib.hid (T_wr.out.bel hbx)
   have U_v1:=Lib.hid (U_wr.out.bel hbx)
   have V_v1:=Lib.hid (V_wr.out.bel hbx)
   have B_v1:=B_wr.trans (hbx.mono B_wr.size)
   clear x0_wr xh_wr T_wr U_wr V_wr B_wr hbx
   clear hq
   refine wp_region_noPanic (wp_region_need (S:=fun w'=>w'.cell? ⟨w.heap.size,0,none⟩=some (.int .i64 b)∧w'.cell? ⟨w.heap.size,1,none⟩=some (.slice ca C.length cc)∧w'.cell? ⟨w.heap.size,2,none⟩=some (.slice ma M.length mc)∧w'.cell? ⟨p,0,none⟩=some (.slice (some ⟨bl',off',none⟩) args.length hc6)∧w'.cell? ⟨p,1,none⟩=some (.int .i64 d0)∧w'.cell? ⟨q,0,none⟩=some (.slice (PA j) (PN j) (PC j))∧w'.cell? ⟨q,1,none⟩=some (.int .i64 (Kd j))∧w'.cell? ⟨q,2,none⟩=some (.int .i64 (Ix j))∧w'.cell? ⟨q,3,none⟩=some (.slice (A j) (N j) (Cc j))∧w'.cell? ⟨bl',off'+j * 2,none⟩=some (.slice A' N' C')∧w'.cell? ⟨bl',off'+j * 2+1,none⟩=some (.int .i64 B')) (by kernel_rfl) ?_)
   have hS:(v1.drew).cell? ⟨w.heap.size,0,none⟩=some (.int .i64 b)∧(v1.drew).cell? ⟨w.heap.size,1,none⟩=some (.slice ca C.length cc)∧(v1.drew).cell? ⟨w.heap.size,2,none⟩=some (.slice ma M.length mc)∧(v1.drew).cell? ⟨p,0,none⟩=some (.slice (some ⟨bl',off',none⟩) args.length hc6)∧(v1.drew).cell? ⟨p,1,none⟩=some (.int .i64 d0)∧(v1.drew).cell? ⟨q,0,none⟩=some (.slice (PA j) (PN j) (PC j))∧(v1.drew).cell? ⟨q,1,none⟩=some (.int .i64 (Kd j))∧(v1.drew).cell? ⟨q,2,none⟩=some (.int .i64 (Ix j))∧(v1.drew).cell? ⟨q,3,none⟩=some (.slice (A j) (N j) (Cc j))∧(v1.drew).cell? ⟨bl',off'+j * 2,none⟩=some (.slice A' N' C')∧(v1.drew).cell? ⟨bl',off'+j * 2+1,none⟩=some (.int .i64 B'):=⟨x0_v1.drew.cell rfl,x0_v1.drew.cell rfl,x0_v1.drew.cell rfl,xh_v1.drew.cell rfl,xh_v1.drew.cell rfl,xa_v1.drew.cell rfl,xa_v1.drew.cell rfl,xa_v1.drew.cell rfl,xa_v1.drew.cell rfl,e5v1,e6v1⟩
   refine wpN_take (i:=0) (v:=?v1) rfl (by kernel_rfl) (fun _ _ _ h=>h) hS (Or.inl ⟨by rfl,?hy1⟩) ?hr1
   case hy1=>(intro wS hSw;(try dsimp only at hSw);go_simp;(try with_reducible rfl))
   try simp only[Act.put,List.setIfInBounds_toArray,List.set_cons_zero,List.set_cons_succ,List.getElem_toArray,List.getElem_cons_zero,List.getElem_cons_succ]
   refine wpN_take (i:=1) (v:=?v2) rfl (by kernel_rfl) (fun _ _ _ h=>h) hS (Or.inl ⟨by rfl,?hy2⟩) ?hr2
   case hy2=>(intro wS hSw;(try dsimp only at hSw);go_simp;(try with_reducible rfl))
   try simp only[Act.put,List.setIfInBounds_toArray,List.set_cons_zero,List.set_cons_succ,List.getElem_toArray,List.getElem_cons_zero,List.getElem_cons_succ]
   refine wpN_take (i:=2) (v:=?v3) rfl (by kernel_rfl) (fun _ _ _ h=>h) hS (Or.inl ⟨by rfl,?hy3⟩) ?hr3
   case hy3=>(intro wS hSw;(try dsimp only at hSw);go_simp;(try with_reducible rfl))
   try simp only[Act.put,List.setIfInBounds_toArray,List.set_cons_zero,List.set_cons_succ,List.getElem_toArray,List.getElem_cons_zero,List.getElem_cons_succ]
   refine wpN_take (i:=3) (v:=?v4) rfl (by kernel_rfl) (fun _ _ _ h=>h) hS (Or.inl ⟨by rfl,?hy4⟩) ?hr4
   case hy4=>(intro wS hSw;(try dsimp only at hSw);go_simp;(try with_reducible rfl))
   try simp only[Act.put,List.setIfInBounds_toArray,List.set_cons_zero,List.set_cons_succ,List.getElem_toArray,List.getElem_cons_zero,List.getElem_cons_succ]
   refine wpN_take (i:=4) (v:=?v5) rfl (by kernel_rfl) (fun _ _ _ h=>h) hS (Or.inl ⟨by rfl,?hy5⟩) ?hr5
   case hy5=>(intro wS hSw;(try dsimp only at hSw);go_simp;(try with_reducible rfl))
   try simp only[Act.put,List.setIfInBounds_toArray,List.set_cons_zero,List.set_cons_succ,List.getElem_toArray,List.getElem_cons_zero,List.getElem_cons_succ]
   refine wpN_take (i:=5) (v:=?v6) rfl (by kernel_rfl) (fun _ _ _ h=>h) hS (Or.inl ⟨by rfl,?hy6⟩) ?hr6
   case hy6=>(intro wS hSw;(try dsimp only at hSw);go_simp;(try with_reducible rfl))
   try simp only[Act.put,List.setIfInBounds_toArray,List.set_cons_zero,List.set_cons_succ,List.getElem_toArray,List.getElem_cons_zero,List.getElem_cons_succ]
   refine wpN_take (i:=6) (v:=?v7) rfl (by kernel_rfl) (fun _ _ _ h=>h) hS (Or.inl ⟨by rfl,?hy7⟩) ?hr7
   case hy7=>(intro wS hSw;(try dsimp only at hSw);go_simp;(try with_reducible rfl))
   try simp only[Act.put,List.setIfInBounds_toArray,List.set_cons_zero,List.set_cons_succ,List.getElem_toArray,List.getElem_cons_zero,List.getElem_cons_succ]
   refine wpN_take (i:=7) (v:=?v8) rfl (by kernel_rfl) (fun _ _ _ h=>h) hS (Or.inl ⟨by rfl,?hy8⟩) ?hr8
   case hy8=>(intro wS hSw;(try dsimp only at hSw);go_simp;(try with_reducible rfl))
   try simp only[Act.put,List.setIfInBounds_toArray,List.set_cons_zero,List.set_cons_succ,List.getElem_toArray,List.getElem_cons_zero,List.getElem_cons_succ]
   refine wpN_step (i:=8) (by kernel_rfl) rfl (fun K hK=>?_)
   go_simp
   have hb0:Below w.heap.size w v1.drew:=B_v1.drew
   refine(Hih.out _ (List.getElem_mem hlt) v1.drew _ _ _ _ _ _ _ _ _ Y h0'.args[j] (fun q hq=>Nat.lt_of_lt_of_le (H0.out q hq) hb0.size) (Hc.out.bel hb0) (Hm.out.bel hb0) (T_v1.out.bel (Below.refl _ _).drew) (V_v1.out.bel (Below.refl _ _).drew) (U_v1.out.bel (Below.refl _ _).drew) (Hz.out _ (List.getElem_mem hlt)) (Hfit.out _ (List.getElem_mem hlt))).mono ?_
   intro e v2 h
   obtain⟨r,Hr,rfl,hbx0⟩:=of_retB' h
   clear h
   have hbx:Below v1.heap.size v1 v2:=(Below.refl _ _).drew.trans hbx0
   have e5v2:=((Keep.refl (fun _=>True) _).below hbx) _ _ _ trivial e5v1
   have e6v2:=((Keep.refl (fun _=>True) _).below hbx) _ _ _ trivial e6v1
   have B72:Below w7.heap.size w7 v2:=B7v.trans (hbx.mono B7v.size)
   have xa_v2:=xa_v1.below hbx
   clear hbx0 hb0 e5v1 e6v1 B7v xa_v1
   have x0_v2:=x0_v1.below hbx
   have xh_v2:=xh_v1.below hbx
   have T_v2:=Lib.hid (T_v1.out.bel hbx)
   have U_v2:=Lib.hid (U_v1.out.bel hbx)
   have V_v2:=Lib.hid (V_v1.out.bel hbx)
   have B_v2:=B_v1.trans (hbx.mono B_v1.size)
   clear x0_v1 xh_v1 T_v1 U_v1 V_v1 B_v1 hbx
   have hS:(v2).cell? ⟨w.heap.size,0,none⟩=some (.int .i64 b)∧(v2).cell? ⟨w.heap.size,1,none⟩=some (.slice ca C.length cc)∧(v2).cell? ⟨w.heap.size,2,none⟩=some (.slice ma M.length mc)∧(v2).cell? ⟨p,0,none⟩=some (.slice (some ⟨bl',off',none⟩) args.length hc6)∧(v2).cell? ⟨p,1,none⟩=some (.int .i64 d0)∧(v2).cell? ⟨q,0,none⟩=some (.slice (PA j) (PN j) (PC j))∧(v2).cell? ⟨q,1,none⟩=some (.int .i64 (Kd j))∧(v2).cell? ⟨q,2,none⟩=some (.int .i64 (Ix j))∧(v2).cell? ⟨q,3,none⟩=some (.slice (A j) (N j) (Cc j))∧(v2).cell? ⟨bl',off'+j * 2,none⟩=some (.slice A' N' C')∧(v2).cell? ⟨bl',off'+j * 2+1,none⟩=some (.int .i64 B'):=⟨x0_v2.cell rfl,x0_v2.cell rfl,x0_v2.cell rfl,xh_v2.cell rfl,xh_v2.cell rfl,xa_v2.cell rfl,xa_v2.cell rfl,xa_v2.cell rfl,xa_v2.cell rfl,e5v2,e6v2⟩
   refine hK.out _ _ (fun _=>hS) ?_
   clear hK K
   try simp only[Act.put,List.setIfInBounds_toArray,List.set_cons_zero,List.set_cons_succ,List.getElem_toArray,List.getElem_cons_zero,List.getElem_cons_succ]
   refine wpN_take (i:=9) (v:=?v9) rfl (by kernel_rfl) (fun _ _ _ h=>h) hS (Or.inl ⟨by rfl,?hy9⟩) ?hr9
   case hy9=>(intro wS hSw;(try dsimp only at hSw);go_simp;(try with_reducible rfl))
   try simp only[Act.put,List.setIfInBounds_toArray,List.set_cons_zero,List.set_cons_succ,List.getElem_toArray,List.getElem_cons_zero,List.getElem_cons_succ]
   refine wpN_done (by kernel_rfl) ?_
   refine NoPanic.normal ?_
   clear hS
   cases r
   ·have hn:¬ P:=fun hp=>no_of Hr.out (HP3.out.1 hp j hlt hj')
    go_wp2_with fail
    go_ret
    exact⟨false,by simp[hn],rfl,B_v2⟩
   ·have Hy:=Lib.hid (yes_of Hr.out)
    go_wp2_with fail
    go_roundw
    case rel=>exact⟨j+1,by go_num,by omega,fun m h h' hm=>by
     by_cases hmj:m<j
     ·exact hrel.out m h h' hmj
     ·obtain rfl:m=j:=by omega
      exact Hy.out,B72⟩
    case measure=>simp[intOf];omega
  ·have hp:P:=HP3.out.2 fun m h h'=>hrel.out m h h' (by omega)
   go_wp2_with fail
   go_ret
   exact⟨true,by simp[hp],rfl,B_wr⟩
def checkCode (C M:List Ty)(t:Tm)(X:List Ty)(u:Ty)(c:Int):Prop:=(¬ (t.size≤5000∧t.depth≤60)∧c=2)∨((t.size≤5000∧t.depth≤60)∧¬ IsOf C M t X u∧c=5)∨((t.size≤5000∧t.depth≤60)∧IsOf C M t X u∧c=0)
theorem checkCode_uniq {C M:List Ty}{t:Tm}{X:List Ty}{u:Ty}{c c':Int}(h:checkCode C M t X u c)(h':checkCode C M t X u c'):c=c':=by
 unfold checkCode at h h'
 rcases h with⟨h1,h2⟩ | ⟨h1,h2,h3⟩ | ⟨h1,h2,h3⟩ <;> rcases h' with⟨g1,g2⟩ | ⟨g1,g2,g3⟩ | ⟨g1,g2,g3⟩ <;> first | omega | exact absurd h1 g1 | exact absurd g1 h1 | exact absurd h2 g2 | exact absurd g2 h2
def RetCheck (C M:List Ty)(t:Tm)(X:List Ty)(u:Ty)(w:World)(e:Ending)(w':World):Prop:=∃ c:Int,Hid (checkCode C M t X u c)∧e=.returned (.int .i64 c)∧Below w.heap.size w w'
set_option maxRecDepth 100000 in
set_option maxHeartbeats 4000000 in
theorem Check_k {F:Nat→Prop}{b:Int}{C M:List Ty}(t:Tm)(w:World)(cv mv xv tb tk ti ta s ub:Value)(X:List Ty)(u:Ty)(hF:∀ q,F q→q<w.heap.size)(hc:IsSl rpTy F w cv C)(hm:IsSl rpTy F w mv M)(hx:IsSl2 rpTy (fun _=>True) F w xv X)(ht:IsTm F w tb tk ti ta t)(hu:IsTy F w s ub u) 
  (hz:X.length+t.full≤90000) (hfit:t.Fit) :
  Calls Tryz.prog 16 #[.agg #[.int .i64 b,cv,mv],xv,.agg #[tb,tk,ti,ta],.agg #[s,ub]] w (RetCheck C M t X u w):=by
 have Hi:=Lib.hid fun(w':World) (hb:Below w.heap.size w w')=>is_k (b:=b) t w' cv mv xv tb tk ti ta s ub X u (fun q hq=>Nat.lt_of_lt_of_le (hF q hq) hb.size) (hc.bel hb) (hm.bel hb) (hx.bel hb) (ht.bel hb) (hu.bel hb) hz hfit
 have Hrt:=Lib.hid fun(w':World) (hb:Below w.heap.size w w')=>right6_k (ht.bel hb) (by omega)
 obtain⟨ca,cc,rfl⟩:=hc.shape
 obtain⟨ma,mc,rfl⟩:=hm.shape
 obtain⟨xa,xc,rfl⟩:=hx.shape
 obtain⟨ua,uc,rfl,rfl⟩:=hu.shape
 obtain⟨t_pa,t_pc,t_qa,t_qc,rfl,rfl,rfl,rfl⟩:=ht.shape
 obtain⟨t_n,ht_n⟩:∃ x,t.binds.length=x:=⟨_,rfl⟩
 obtain⟨t_m,ht_m⟩:∃ x,t.args.length=x:=⟨_,rfl⟩
 obtain⟨t_k,ht_k⟩:∃ x,t.kind=x:=⟨_,rfl⟩
 obtain⟨t_i,ht_i⟩:∃ x,t.index=x:=⟨_,rfl⟩
 rw[ht_n,ht_m,ht_k,ht_i] at ht ⊢
 have Et_n:=Lib.hid ht_n
 have Et_m:=Lib.hid ht_m
 have Et_k:=Lib.hid ht_k
 have Et_i:=Lib.hid ht_i
 clear ht_n ht_m ht_k ht_i
 obtain⟨n1,hn1⟩:∃ n,u.args.length=n:=⟨_,rfl⟩
 obtain⟨n2,hn2⟩:∃ n,u.base=n:=⟨_,rfl⟩
 rw[hn1,hn2] at Hi ⊢
 rw[Et_n.out,Et_m.out,Et_k.out,Et_i.out] at Hi Hrt
 clear hn1 hn2 hc hm hx ht hu hz hfit hF
 go_enter Tryz.func16,Tryz.ntmps16
 go_wp2_with fail
 obtain⟨w3,hw3⟩:∃ w3,((w.alloc (.cells #[.int .i64 b,.slice ca C.length cc,.slice ma M.length mc] 35)).alloc (.cells #[.slice t_pa t_n t_pc,.int .i64 t_k,.int .i64 t_i,.slice t_qa t_m t_qc] 41)).alloc (.cells #[.slice ua n1 uc,.int .i64 n2] 44)=w3:=⟨_,rfl⟩
 have B_w3:Below w.heap.size w w3:=by rw[←hw3];exact(((Below.refl _ _).alloc (Nat.le_refl _) _).alloc (by simp) _).alloc (by simp;omega) _
 have x0_w3:Blk w3 w.heap.size #[.int .i64 b,.slice ca C.length cc,.slice ma M.length mc] 35:=by rw[←hw3];exact((Blk.new _ _ _ rfl).alloc _).alloc _
 have x1_w3:Blk w3 (w.heap.size+1) #[.slice t_pa t_n t_pc,.int .i64 t_k,.int .i64 t_i,.slice t_qa t_m t_qc] 41:=by rw[←hw3];exact(Blk.new _ _ _ (by simp)).alloc _
 have x2_w3:Blk w3 (w.heap.size+1+1) #[.slice ua n1 uc,.int .i64 n2] 44:=by rw[←hw3];exact Blk.new _ _ _ (by simp)
 rw[hw3]
 clear hw3
 refine(Hrt.out w3 B_w3).mono ?_
 intro e w4 h
 obtain⟨r,Hr,rfl,hbx0⟩:=of_retB' h
 clear h
 have hbx:Below w3.heap.size w3 w4:=hbx0
 clear hbx0
 have x0_w4:=x0_w3.below hbx
 have x1_w4:=x1_w3.below hbx
 have x2_w4:=x2_w3.below hbx
 have B_w4:=B_w3.trans (hbx.mono B_w3.size)
 clear x0_w3 x1_w3 x2_w3 B_w3 hbx
 cases r
 ·go_wp2_with fail
  go_ret
  exact⟨_,.inl ⟨no_of Hr.out,rfl⟩,rfl,B_w4⟩
 have hy:=Lib.hid (yes_of Hr.out)
 clear Hr
 have cx00:w4.cell? ⟨w.heap.size,0,none⟩=some (.int .i64 b):=x0_w4.cell rfl
 have cx01:w4.cell? ⟨w.heap.size,1,none⟩=some (.slice ca C.length cc):=x0_w4.cell rfl
 have cx02:w4.cell? ⟨w.heap.size,2,none⟩=some (.slice ma M.length mc):=x0_w4.cell rfl
 have lx0:=x0_w4.lt
 have cx10:w4.cell? ⟨w.heap.size+1,0,none⟩=some (.slice t_pa t_n t_pc):=x1_w4.cell rfl
 have cx11:w4.cell? ⟨w.heap.size+1,1,none⟩=some (.int .i64 t_k):=x1_w4.cell rfl
 have cx12:w4.cell? ⟨w.heap.size+1,2,none⟩=some (.int .i64 t_i):=x1_w4.cell rfl
 have cx13:w4.cell? ⟨w.heap.size+1,3,none⟩=some (.slice t_qa t_m t_qc):=x1_w4.cell rfl
 have lx1:=x1_w4.lt
 have cx20:w4.cell? ⟨w.heap.size+1+1,0,none⟩=some (.slice ua n1 uc):=x2_w4.cell rfl
 have cx21:w4.cell? ⟨w.heap.size+1+1,1,none⟩=some (.int .i64 n2):=x2_w4.cell rfl
 have lx2:=x2_w4.lt
 go_wp2_with fail
 refine(Hi.out w4 B_w4).mono ?_
 intro e w5 h
 obtain⟨r2,Hr2,rfl,hbx0⟩:=of_retB' h
 clear h
 have hbx:Below w4.heap.size w4 w5:=hbx0
 clear hbx0
 clear cx00 cx01 cx02 lx0 cx10 cx11 cx12 cx13 lx1 cx20 cx21 lx2
 have x0_w5:=x0_w4.below hbx
 have x1_w5:=x1_w4.below hbx
 have x2_w5:=x2_w4.below hbx
 have B_w5:=B_w4.trans (hbx.mono B_w4.size)
 clear x0_w4 x1_w4 x2_w4 B_w4 hbx
 cases r2
 ·go_wp2_with fail
  go_ret
  exact⟨_,.inr (.inl ⟨hy.out,no_of Hr2.out,rfl⟩),rfl,B_w5⟩
 ·have hy2:=Lib.hid (yes_of Hr2.out)
  clear Hr2
  go_wp2_with fail
  go_ret
  exact⟨_,.inr (.inr ⟨hy.out,hy2.out,rfl⟩),rfl,B_w5⟩
namespace Li
def bad (M:List Ty)(x:Int):Bool:=decide (x<0∨(M.length:Int)≤x)
end Li
def TyPostE (F:Nat→Prop)(o:Option Ty)(w:World)(e:Ending)(w':World):Prop:=∃ s b,e=.returned (.tuple #[.agg #[s,b],.int .i64 (if o.isSome then 0 else 10)])∧IsTy F w' s b (o.getD tyZ)∧Below w.heap.size w w'
theorem IsTy.trueb {F:Nat→Prop}{w:World}{s b:Value}{t:Ty}(h:IsTy F w s b t):IsTy (fun _=>True) w s b t:=h.weaken fun _ _ _=>trivial
set_option maxRecDepth 100000 in
set_option maxHeartbeats 4000000 in
theorem HeadType_k {F:Nat→Prop}{w:World}{b:Int}{cv mv xv:Value}{C M X:List Ty}(hF:∀ q,F q→q<w.heap.size)(hc:IsSl rpTy F w cv C)(hm:IsSl rpTy F w mv M)(hx:IsSl2 rpTy (fun _=>True) F w xv X)(k i:Int)(hi:i≤9223372036854775807) 
  (hsz:∀ t,headTy C M X k i=some t→t.size≤90000) :
  Calls Tryz.prog 81 #[.agg #[.int .i64 b,cv,mv],xv,.agg #[.int .i64 k,.int .i64 i]] w (TyPostE (fun q=>w.heap.size≤q) (headTy C M X k i) w):=by
 have Hcall:=Lib.hid fun(w':World) (hb:Below w.heap.size w w')=>headType_k (b:=b) (fun q h=>Nat.lt_of_lt_of_le (hF q h) hb.size) (hc.bel hb) (hm.bel hb) (hx.bel hb) k i hi
 obtain⟨ca,cc,rfl⟩:=hc.shape
 obtain⟨ma,mc,rfl⟩:=hm.shape
 obtain⟨xa,xc,rfl⟩:=hx.shape
 clear hc hm hx
 obtain⟨o,ho⟩:∃ o,headTy C M X k i=o:=⟨_,rfl⟩
 rw[ho] at Hcall hsz ⊢
 have Hsz:=Lib.hid hsz
 clear ho hsz
 go_enter Tryz.func81,Tryz.ntmps81
 go_wp2_with fail
 obtain⟨w3,hw3⟩:∃ w3,((w.alloc (.cells #[.int .i64 b,.slice ca C.length cc,.slice ma M.length mc] 35)).alloc (.cells #[.int .i64 k,.int .i64 i] 38)).alloc (.cells #[.slice none 0 0,.int .i64 0] 44)=w3:=⟨_,rfl⟩
 have B_w3:Below w.heap.size w w3:=by rw[←hw3];exact(((Below.refl _ _).alloc (Nat.le_refl _) _).alloc (by simp) _).alloc (by simp;omega) _
 have x2_w3:Blk w3 (w.heap.size+1+1) #[.slice none 0 0,.int .i64 0] 44:=by rw[←hw3];exact Blk.new _ _ _ (by simp)
 rw[hw3]
 clear hw3
 refine(Hcall.out w3 B_w3).mono ?_
 rintro e w4 ⟨s,b',rfl,hT,hbx0⟩
 have hbx:Below w3.heap.size w3 w4:=hbx0
 clear hbx0
 have x2_w4:=x2_w3.below hbx
 have B_w4:=B_w3.trans (hbx.mono B_w3.size)
 clear x2_w3 B_w3 hbx
 obtain⟨sa,sc,rfl,rfl⟩:=hT.shape
 cases hs:o.isSome
 ·have ho:o=none:=by simpa using hs
  subst ho
  simp only[Option.getD_none,tyZ,Ty.args,Ty.base,List.length_nil] at hT ⊢
  clear hT
  have cx20:w4.cell? ⟨w.heap.size+1+1,0,none⟩=some (.slice none 0 0):=x2_w4.cell rfl
  have cx21:w4.cell? ⟨w.heap.size+1+1,1,none⟩=some (.int .i64 0):=x2_w4.cell rfl
  have lx2:=x2_w4.lt
  have f0:=x2_w4.free 0
  have f1:=x2_w4.free 1
  go_wp2_with fail
  have y0:=((((x2_w4).set 0 (.slice none 0 0)).set 1 (.int .i64 0)).alloc (.cells #[.slice sa 0 sc,.int .i64 0] 44)).cell (i:=0) (v:=.slice none 0 0) rfl
  have y1:=((((x2_w4).set 0 (.slice none 0 0)).set 1 (.int .i64 0)).alloc (.cells #[.slice sa 0 sc,.int .i64 0] 44)).cell (i:=1) (v:=.int .i64 0) rfl
  have z0_0:=((x2_w4).set 0 (.slice none 0 0)).cell (i:=0) (v:=.slice none 0 0) rfl
  have z0_1:=(((x2_w4).set 0 (.slice none 0 0)).set 1 (.int .i64 0)).cell (i:=0) (v:=.slice none 0 0) rfl
  have z1_1:=(((x2_w4).set 0 (.slice none 0 0)).set 1 (.int .i64 0)).cell (i:=1) (v:=.int .i64 0) rfl
  refine bodyPost_ret (v:=.tuple #[.agg #[.slice none 0 0,.int .i64 0],.int .i64 10]) (by simp[results,Tryz.results81,go_sem,y0,y1,z0_0,z0_1,z1_1]) rfl ?_
  clear y0 y1 z0_0 z0_1 z1_1
  exact⟨_,_,rfl,isTy_zero _ _,((B_w4.setCell (by simp;omega) _).setCell (by simp;omega) _).alloc (by have:=B_w4.size;simp;omega) _⟩
 ·obtain⟨t,rfl⟩:=Option.isSome_iff_exists.1 hs
  have hz:=Hsz.out t rfl
  simp only[Option.getD_some] at hT ⊢
  obtain⟨n,hn⟩:∃ n,t.args.length=n:=⟨_,rfl⟩
  obtain⟨d,hd⟩:∃ d,t.base=d:=⟨_,rfl⟩
  rw[hn,hd] at hT ⊢
  have T_w4:=Lib.hid hT
  clear hT
  have lx:=x2_w4.lt
  go_wp2_with fail
  obtain⟨w5,hw5⟩:∃ w5,w4.alloc (.cells #[.slice sa n sc,.int .i64 d] 44)=w5:=⟨_,rfl⟩
  have hbx:Below w4.heap.size w4 w5:=by rw[←hw5];exact(Below.refl _ _).alloc (Nat.le_refl _) _
  try rw[hw5]
  clear hw5
  have hs5:=hbx.size
  have hs4:w.heap.size+3≤w4.heap.size:=lx
  have x2_w5:=x2_w4.below hbx
  have T_w5:=Lib.hid (T_w4.out.bel hbx)
  have B_w5:=B_w4.trans (hbx.mono B_w4.size)
  clear x2_w4 T_w4 B_w4 hbx
  refine(arrow_k T_w5.out (isSl_nil rpTy F _) (by simp[Ty.sizes];omega)).mono ?_
  rintro e w6 ⟨s6,b6,rfl,hT,hbx0⟩
  have hbx:Below w5.heap.size w5 w6:=hbx0
  clear hbx0
  have x2_w6:=x2_w5.below hbx
  have T_w6:=Lib.hid (T_w5.out.bel hbx)
  have B_w6:=B_w5.trans (hbx.mono B_w5.size)
  clear x2_w5 T_w5 B_w5 hbx
  have ht:Ty.mk ([]++t.args) t.base=t:=by cases t;rfl
  rw[ht] at hT
  clear ht
  obtain⟨a6,c6,rfl,rfl⟩:=hT.shape
  rw[hn,hd] at hT ⊢
  have hs6:=B_w6.size
  have T6:=Lib.hid (hT.weaken (F':=fun q=>w.heap.size+3≤q) fun q _ h=>by omega)
  clear hT
  have cx20:w6.cell? ⟨w.heap.size+1+1,0,none⟩=some (.slice none 0 0):=x2_w6.cell rfl
  have cx21:w6.cell? ⟨w.heap.size+1+1,1,none⟩=some (.int .i64 0):=x2_w6.cell rfl
  have lx2:=x2_w6.lt
  have f0:=x2_w6.free 0
  have f1:=x2_w6.free 1
  go_wp2_with fail
  have z0_0:=((x2_w6).set 0 (.slice a6 n c6)).cell (i:=0) (v:=.slice a6 n c6) rfl
  have z0_1:=(((x2_w6).set 0 (.slice a6 n c6)).set 1 (.int .i64 d)).cell (i:=0) (v:=.slice a6 n c6) rfl
  have z1_1:=(((x2_w6).set 0 (.slice a6 n c6)).set 1 (.int .i64 d)).cell (i:=1) (v:=.int .i64 d) rfl
  refine bodyPost_ret (v:=.tuple #[.agg #[.slice a6 n c6,.int .i64 d],.int .i64 0]) (by simp[results,Tryz.results81,go_sem,z0_0,z0_1,z1_1]) rfl ?_
  clear z0_0 z0_1 z1_1
  exact⟨_,_,rfl,(T6.out.keep (((Keep.refl _ _).setCell _ _ (by simp)).setCell _ _ (by simp))).weaken fun q _ h=>by omega,(B_w6.setCell (by simp;omega) _).setCell (by simp;omega) _⟩
def RightTy (bases:Int)(t:Ty):Prop:=t.size≤1000∧t.depth≤60∧Ty.Low bases t
set_option maxRecDepth 100000 in
theorem rightWorld1_k {F:Nat→Prop}{w:World}{s d:Value}{t:Ty}{b:Int}{B:Nat}(ht:IsTy F w s d t)(hz:t.size≤400000)(hB:w.cell? ⟨B,0,none⟩=some (.int .i64 b)):
  Calls Tryz.prog 59 #[.agg #[s,d],.pointer (some ⟨B,0,none⟩)] w (RetB (¬ RightTy b t) w):=by
 have Hr:=Lib.hid fun(w':World) (hb:Below w.heap.size w w')=>right_k (ht.bel hb) b (by omega)
 obtain⟨a,c,rfl,rfl⟩:=ht.shape
 clear ht
 obtain⟨n1,hn1⟩:∃ n,t.args.length=n:=⟨_,rfl⟩
 obtain⟨n2,hn2⟩:∃ n,t.base=n:=⟨_,rfl⟩
 rw[hn1,hn2] at Hr ⊢
 clear hn1 hn2
 have hl:=Keep.lt hB
 go_enter Tryz.func59,Tryz.ntmps59
 go_wp2_with fail
 have hb1:Below w.heap.size w (w.alloc (.cells #[.slice a n1 c,.int .i64 n2] 44)):=(Below.refl _ _).alloc (Nat.le_refl _) _
 refine(Hr.out _ hb1).mono ?_
 intro e w2 h
 obtain⟨r,Hq,rfl,hb2⟩:=of_retB' h
 clear h
 go_wp2_with fail
 go_ret
 exact⟨_,by have:=Hq.out;unfold RightTy;cases r <;> simp_all,rfl,hb1.trans (hb2.mono hb1.size)⟩
set_option maxRecDepth 100000 in
theorem indexFunc_k {G F:Nat→Prop}{w:World}{v:Value}{l:List Ty}{b:Int}{B:Nat}(h:IsSl2 rpTy G F w v l)(hz:∀ t∈l,t.size≤400000)(hB:w.cell? ⟨B,0,none⟩=some (.int .i64 b)):
  Calls Tryz.prog 108 #[v,.func (.func 59) #[] #[.pointer (some ⟨B,0,none⟩)]] w fun e w'=>∃ i:Int,Hid (0≤i↔∃ t∈l,¬ RightTy b t)∧e=.returned (.int .i64 i)∧Below w.heap.size w w':=by
 obtain⟨a,c,rfl⟩:=h.shape
 have Hat:=Lib.hid (sl_at h)
 have hl:(l.length:Int)≤9223372036854775807:=by obtain⟨_,_,_,_,_,_,hm,_⟩:=h;unfold maxLen at hm;omega
 clear h
 have Hz:=Lib.hid hz;clear hz
 go_enter Tryz.func108,Tryz.ntmps108
 go_wp2_with fail
 go_loopw [5,8] (fun _ i wr=>∃ k:Nat,i=.int .i64 k∧k≤l.length∧Hid (∀ m (h:m<l.length),m<k→RightTy b l[m])∧Below w.heap.size w wr) (fun _ i _=>l.length-(intOf i).toNat)
 case atStart=>exact⟨0,rfl,by omega,fun m _ h=>absurd h (by omega),Below.refl _ _⟩
 case round=>
  obtain⟨k,rfl,hk,hrel,hb⟩:=hrel
  by_cases hlt:k<l.length
  ·obtain⟨bl,off,A,N,C,Bb,rfl,_,e1,e2,hT⟩:=Hat.out k hlt
   have hkx:Keep (fun _=>True) w wr:=(Keep.refl _ _).below hb
   have e1:=hkx _ _ _ trivial e1
   have e2:=hkx _ _ _ trivial e2
   have HT:=Lib.hid (hT.bel hb);clear hT
   have i1:(k:Int)<(l.length:Int):=by omega
   have HB:=Lib.hid (hkx _ _ _ trivial hB)
   clear hkx
   go_wp2_with fail
   refine(rightWorld1_k HT.out (Hz.out _ (List.getElem_mem hlt)) HB.out).mono ?_
   intro e w2 h
   obtain⟨r,Hq,rfl,hb2⟩:=of_retB' h
   clear h e1 e2
   cases r
   ·have Hq2:=Lib.hid (no_of Hq.out)
    go_wp2_with fail
    go_roundw
    case rel=>exact⟨k+1,by go_num,by omega,fun m h hm=>by
     by_cases hmk:m<k
     ·exact hrel.out m h hmk
     ·obtain rfl:m=k:=by omega
      exact Classical.not_not.1 Hq2.out,hb.trans (hb2.mono hb.size)⟩
    case measure=>simp[intOf];omega
   ·have Hq2:=Lib.hid (yes_of Hq.out)
    go_wp2_with fail
    go_ret
    exact⟨_,⟨fun _=>⟨_,List.getElem_mem hlt,Hq2.out⟩,fun _=>by omega⟩,rfl,hb.trans (hb2.mono hb.size)⟩
  ·go_wp2_with fail
   go_ret
   refine⟨_,⟨fun h=>absurd h (by omega),fun⟨t,ht,hn⟩=>?_⟩,rfl,hb⟩
   obtain⟨m,hm,rfl⟩:=List.getElem_of_mem ht
   exact absurd (hrel.out m hm (by omega)) hn
set_option maxRecDepth 100000 in
theorem containsFunc_k {G F:Nat→Prop}{w:World}{v:Value}{l:List Ty}{b:Int}{B:Nat}(h:IsSl2 rpTy G F w v l)(hz:∀ t∈l,t.size≤400000)(hB:w.cell? ⟨B,0,none⟩=some (.int .i64 b)):
  Calls Tryz.prog 57 #[v,.func (.func 59) #[] #[.pointer (some ⟨B,0,none⟩)]] w (RetB (∃ t∈l,¬ RightTy b t) w):=by
 have Hi:=Lib.hid (indexFunc_k h hz hB)
 obtain⟨a,c,rfl⟩:=h.shape
 clear h hz hB
 go_enter Tryz.func57,Tryz.ntmps57
 go_wp2_with fail
 refine Hi.out.mono ?_
 rintro e w1 ⟨i,hi,rfl,hb⟩
 go_wp2_with fail
 go_ret
 exact⟨_,by rw[←hi.out];simp,rfl,hb⟩
def RightWd (b:Int)(C M:List Ty):Prop:=C.length+M.length≤1000∧∀ t∈C++M,RightTy b t
set_option maxRecDepth 100000 in
set_option maxHeartbeats 1000000 in
theorem RightWorld_k {F:Nat→Prop}{w:World}{b:Int}{cv mv:Value}{C M:List Ty}(hc:IsSl rpTy F w cv C)(hm:IsSl rpTy F w mv M)(hz:∀ t∈C++M,t.size≤400000):
  Calls Tryz.prog 15 #[.agg #[.int .i64 b,cv,mv]] w (RetB (RightWd b C M) w):=by
 obtain⟨ca,cc,rfl⟩:=hc.shape
 obtain⟨ma,mc,rfl⟩:=hm.shape
 have hlc:(C.length:Int)≤9223372036854775807:=by obtain⟨_,_,_,_,_,_,h,_⟩:=hc;unfold maxLen at h;omega
 have hlm:(M.length:Int)≤9223372036854775807:=by obtain⟨_,_,_,_,_,_,h,_⟩:=hm;unfold maxLen at h;omega
 have Hc:=Lib.hid hc;have Hm:=Lib.hid hm;have Hz:=Lib.hid hz
 clear hc hm hz
 by_cases g1:(1000:Int)<(C.length:Int)
 ·skip
  go_enter Tryz.func15,Tryz.ntmps15
  go_wp2_with fail
  go_ret
  exact⟨false,by unfold RightWd;simp;omega,rfl,(Below.refl _ _).alloc (Nat.le_refl _) _⟩
 have hq:IntKind.i64.wrap (1000-(C.length:Int))=1000-(C.length:Int):=IntWalk.i64_in _ (by omega)
 by_cases g2:1000-(C.length:Int)<(M.length:Int)
 ·skip
  go_enter Tryz.func15,Tryz.ntmps15
  go_wp2_with fail
  go_ret
  exact⟨false,by unfold RightWd;simp;omega,rfl,(Below.refl _ _).alloc (Nat.le_refl _) _⟩
 go_enter Tryz.func15,Tryz.ntmps15
 go_wp2_with fail
 obtain⟨w2,hw2⟩:∃ w2,(w.alloc (.cells #[.int .i64 b,.slice ca C.length cc,.slice ma M.length mc] 35)).alloc (.cells #[.slice ca C.length cc,.slice ma M.length mc] 33)=w2:=⟨_,rfl⟩
 have B2:Below w.heap.size w w2:=by rw[←hw2];exact((Below.refl _ _).alloc (Nat.le_refl _) _).alloc (by simp) _
 have x0:Blk w2 w.heap.size #[.int .i64 b,.slice ca C.length cc,.slice ma M.length mc] 35:=by rw[←hw2];exact(Blk.new _ _ _ rfl).alloc _
 have x1:Blk w2 (w.heap.size+1) #[.slice ca C.length cc,.slice ma M.length mc] 33:=by rw[←hw2];exact Blk.new _ _ _ (by simp)
 rw[hw2]
 clear hw2
 refine(concat_any2 x1 (IsSl2.of (Hc.out.bel B2)) (IsSl2.of (Hm.out.bel B2)) (by omega)).mono ?_
 rintro e w3 ⟨a3,c3,rfl,hT,hb3⟩
 have HT:=Lib.hid hT;clear hT
 have x0':=x0.below hb3
 have B3:=B2.trans (hb3.mono B2.size)
 obtain⟨Y,hY⟩:∃ Y,C++M=Y:=⟨_,rfl⟩
 have HY:=Lib.hid hY
 rw[hY] at HT Hz ⊢
 clear hY
 go_wp2_with fail
 refine(containsFunc_k HT.out Hz.out (x0'.cell rfl)).mono ?_
 intro e w4 h
 obtain⟨r,Hq,rfl,hb4⟩:=of_retB' h
 clear h
 go_wp2_with fail
 go_ret
 refine⟨_,?_,rfl,B3.trans (hb4.mono B3.size)⟩
 have h2:(r=true↔∃ t∈Y,¬ RightTy b t):=Hq.out
 have h3:C.length+M.length≤1000:=by omega
 unfold RightWd
 rw[HY.out]
 cases r
 ·simp only[Bool.not_false,true_iff]
  refine⟨h3,fun t ht=>Classical.not_not.1 fun hn=>?_⟩
  exact absurd (h2.2 ⟨t,ht,hn⟩) (by simp)
 ·simp only[Bool.not_true,Bool.false_eq_true,false_iff]
  rintro⟨_,h⟩
  obtain⟨t,ht,hn⟩:=h2.1 rfl
  exact hn (h t ht)
section
variable {w:World} {b:Int} {cv mv xv tb tk ti ta s ub:Value} {C M X:List Ty} {t:Tm} {u:Ty}
theorem IsSl.low {α:Type}{r:Rp α}{v:Value}{l:List α}(hn:0<r.n)(h:IsSl r (fun _=>True) w v l):IsSl r (fun q=>q<w.heap.size) w v l:=h.weaken hn fun _ hq _=>hq
theorem TyPostE.true {F:Nat→Prop}{o:Option Ty}{e:Ending}{w':World}(h:TyPostE F o w e w'):TyPostE (fun _=>True) o w e w':=by
 obtain⟨s,b,h1,h2,h3⟩:=h
 exact⟨s,b,h1,h2.trueb,h3⟩
theorem HeadPost.true {F:Nat→Prop}{o:Option Ty}{e:Ending}{w':World}(h:HeadPost F o w e w'):HeadPost (fun _=>True) o w e w':=by
 obtain⟨s,b,h1,h2,h3⟩:=h
 exact⟨s,b,h1,h2.trueb,h3⟩
theorem Check_kT (hc:IsSl rpTy (fun _=>True) w cv C)(hm:IsSl rpTy (fun _=>True) w mv M)(hx:IsSl rpTy (fun _=>True) w xv X)(ht:IsTm (fun _=>True) w tb tk ti ta t)(hu:IsTy (fun _=>True) w s ub u)(hz:X.length+t.full≤90000)(hfit:t.Fit):
  Calls Tryz.prog 16 #[.agg #[.int .i64 b,cv,mv],xv,.agg #[tb,tk,ti,ta],.agg #[s,ub]] w (RetCheck C M t X u w):=
 Check_k (F:=fun q=>q<w.heap.size) t w _ _ _ _ _ _ _ _ _ X u (fun _ h=>h) (hc.low (by decide)) (hm.low (by decide)) ((IsSl2.of (hx.low (by decide))).anyRow (by decide)) (ht.weaken fun _ hq _=>hq) (hu.weaken fun _ hq _=>hq) hz hfit
end
def TyRet (z:Ty)(c:Int)(w:World)(e:Ending)(w':World):Prop:=∃ s b,e=.returned (.tuple #[.agg #[s,b],.int .i64 c])∧IsTy (fun _=>True) w' s b z∧Below w.heap.size w w'
def HdRet (z:Ty)(k:Bool)(w:World)(e:Ending)(w':World):Prop:=∃ s b,e=.returned (.tuple #[.agg #[s,b],.bool k])∧IsTy (fun _=>True) w' s b z∧Below w.heap.size w w'
theorem TyPostE.to {o:Option Ty}{z:Ty}{k:Bool}{c:Int}{w:World}{e:Ending}{w':World}(hk:o.isSome=k)(hz:o.getD tyZ=z)(hc:c=if k then 0 else 10)(h:TyPostE (fun _=>True) o w e w'):TyRet z c w e w':=by
 subst hk hz hc;exact h
theorem HeadPost.to {o:Option Ty}{z:Ty}{k:Bool}{w:World}{e:Ending}{w':World}(hk:o.isSome=k)(hz:o.getD tyZ=z)(h:HeadPost (fun _=>True) o w e w'):HdRet z k w e w':=by
 subst hk hz;exact h
theorem headTy_mem {C M X:List Ty}{k i:Int}{t:Ty}(h:headTy C M X k i=some t):t∈(C++M)++X:=by
 unfold headTy at h
 simp only[List.mem_append]
 split at h
 ·cases h
 split at h
 ·exact .inr (by have:=List.mem_of_getElem? h;simpa using this)
 split at h
 ·exact .inl (.inl (List.mem_of_getElem? h))
 split at h
 ·exact .inl (.inr (List.mem_of_getElem? h))
 ·cases h
theorem isTrue {F:Nat→Prop}{w:World}{v:Value}{l:List Ty}(h:IsSl rpTy F w v l):IsSl rpTy (fun _=>True) w v l:=h.weaken (by decide) fun _ _ _=>trivial
theorem slTy9 {m:Mp}{Im:Nat→Nat→Prop}{w:World}{v:Value}{l:List Ty}(h:Rel m Im w v (.sl 2 (eTys l) none)):IsSl rpTy (fun _=>True) w v l:=
 isTrue (sl_of_rel (r:=rpTy) (e:=eTy) eTy_len (fun x t hx _=>ty_of_rel t hx) (by decide) (by rw[eTys_map] at h;exact h))
theorem agWorld {m:Mp}{Im:Nat→Nat→Prop}{w:World}{x:Value}{b:Int}{C M:List Ty}(h:Rel m Im w x (.ag [.v (.int .i64 b),.sl 2 (eTys C) none,.sl 2 (eTys M) none])):∃ cv mv,x=.agg #[.int .i64 b,cv,mv]∧IsSl rpTy (fun _=>True) w cv C∧IsSl rpTy (fun _=>True) w mv M:=by
 obtain⟨cs,rfl,hr⟩:=rel_ag.1 h
 match cs,hr with
 | [x,y,z],hr=>
  have:=rel_v.1 hr.1;subst this
  exact⟨y,z,rfl,slTy9 hr.2.1,slTy9 hr.2.2.1⟩
theorem agTy9 {m:Mp}{Im:Nat→Nat→Prop}{w:World}{x:Value}{t:Ty}(h:Rel m Im w x (.ag (eTy t))):∃ s b,x=.agg #[s,b]∧IsTy (fun _=>True) w s b t:=by
 obtain⟨cs,rfl,hr⟩:=rel_ag.1 h
 obtain⟨s,b,rfl,ht⟩:=ty_of_rel t hr
 exact⟨s,b,rfl,ht.weaken fun _ _ _=>trivial⟩
theorem check_d (b:Int)(C M X:List Ty)(t:Tm)(u:Ty)(c:Int)(hc:checkCode C M t X u c)(hz:X.length+t.full≤90000)(hfit:t.Fit):
  PureC Tryz.prog 16 [.ag [.v (.int .i64 b),.sl 2 (eTys C) none,.sl 2 (eTys M) none],.sl 2 (eTys X) none,.ag (eTm t),.ag (eTy u)] (.v (.int .i64 c)):=by
 refine pure_below (by kernel_rfl) fun m Im w vs hv=>?_
 match vs,hv with
 | [x1,x2,x3,x4],hv=>
  obtain⟨cv,mv,rfl,h1,h2⟩:=agWorld hv.1
  obtain⟨b0,k,i,a,rfl,ht⟩:=agTm hv.2.2.1
  obtain⟨s,ub,rfl,hu⟩:=agTy9 hv.2.2.2.1
  refine(Check_kT h1 h2 (slTy9 hv.2.1) (ht.weaken fun _ _ _=>trivial) hu hz hfit).mono ?_
  rintro e w' ⟨c',hc',rfl,hb⟩
  have:=checkCode_uniq hc hc'.out;subst this
  exact⟨_,rfl,hb,fun _ _ _=>.v _⟩
theorem head_d (b:Int)(C M:List Ty)(k i:Int)(hi:i≤9223372036854775807)(o:Option Ty)(ho:headTy C M [] k i=o)(hsz:∀ t,o=some t→t.size≤90000):
  PureC Tryz.prog 81 [.ag [.v (.int .i64 b),.sl 2 (eTys C) none,.sl 2 (eTys M) none],.v (.slice none 0 0),.ag [.v (.int .i64 k),.v (.int .i64 i)]] (.tu [.ag (eTy (o.getD tyZ)),.v (.int .i64 (if o.isSome then 0 else 10))]):=by
 subst ho
 refine pure_below (by kernel_rfl) fun m Im w vs hv=>?_
 match vs,hv with
 | [x1,x2,x3],hv=>
  obtain⟨cv,mv,rfl,h1,h2⟩:=agWorld hv.1
  have:=rel_v.1 hv.2.1;subst this
  obtain⟨cs,rfl,hr⟩:=rel_ag.1 hv.2.2.1
  match cs,hr with
  | [y,z],hr=>
   have:=rel_v.1 hr.1;subst this
   have:=rel_v.1 hr.2.1;subst this
   refine(HeadType_k (F:=fun q=>q<w.heap.size) (fun _ h=>h) (h1.low (by decide)) (h2.low (by decide)) ((IsSl2.of ((isSl_nil rpTy (fun _=>True) w).low (by decide))).anyRow (by decide)) k i hi hsz).mono ?_
   rintro e w' ⟨s,ub,rfl,h3,hb⟩
   exact⟨_,rfl,hb,fun Im' _ hI=>rel_tu.2 ⟨_,rfl,rel_ag.2 ⟨_,rfl,rel_of_ty (fun b o v hq hc=>hI b o v hq hc) _ h3⟩,.v _,trivial⟩⟩
def TC9_35:TI:=⟨3,true,[Value.int IntKind.i64 0,Value.slice none 0 0,Value.slice none 0 0],[(0,1,false),(1,1,false),(2,1,false)],none,56,6,none,false⟩
theorem TC9_35_ok:TypOk Tryz.prog 35 TC9_35:=by constructor <;> kernel_rfl
def TC9_79:TI:=⟨5,true,[Value.int IntKind.i64 0,Value.slice none 0 0,Value.int IntKind.i64 0,Value.int IntKind.i64 0,Value.slice none 0 0],[(0,1,false),(1,4,true)],none,72,6,none,false⟩
theorem TC9_79_ok:TypOk Tryz.prog 79 TC9_79:=by constructor <;> kernel_rfl
def TC9_44:TI:=⟨2,true,[Value.slice none 0 0,Value.int IntKind.i64 0],[(0,1,false),(1,1,false)],none,32,6,none,false⟩
theorem TC9_44_ok:TypOk Tryz.prog 44 TC9_44:=by constructor <;> kernel_rfl
def TC9_51:TI:=⟨1,false,[Value.slice none 0 0],[],some 79,24,5,none,false⟩
theorem TC9_51_ok:TypOk Tryz.prog 51 TC9_51:=by constructor <;> kernel_rfl
def TC9_3:TI:=⟨1,false,[Value.int IntKind.i64 0],[],none,8,2,none,false⟩
theorem TC9_3_ok:TypOk Tryz.prog 3 TC9_3:=by constructor <;> kernel_rfl
def TC9_38:TI:=⟨2,true,[Value.int IntKind.i64 0,Value.int IntKind.i64 0],[(0,1,false),(1,1,false)],none,16,6,none,true⟩
theorem TC9_38_ok:TypOk Tryz.prog 38 TC9_38:=by constructor <;> kernel_rfl
def TC9_41:TI:=⟨4,true,[Value.slice none 0 0,Value.int IntKind.i64 0,Value.int IntKind.i64 0,Value.slice none 0 0],[(0,1,false),(1,2,true),(3,1,false)],none,64,6,none,false⟩
theorem TC9_41_ok:TypOk Tryz.prog 41 TC9_41:=by constructor <;> kernel_rfl
def TC9_45:TI:=⟨1,false,[Value.int IntKind.i64 0],[],none,8,2,none,false⟩
theorem TC9_45_ok:TypOk Tryz.prog 45 TC9_45:=by constructor <;> kernel_rfl
def TC9_33:TI:=⟨1,false,[Value.slice none 0 0],[],some 44,24,5,none,false⟩
theorem TC9_33_ok:TypOk Tryz.prog 33 TC9_33:=by constructor <;> kernel_rfl
def TC9:List (Nat×TI):=[(35,TC9_35),(79,TC9_79),(44,TC9_44),(51,TC9_51),(3,TC9_3),(38,TC9_38),(41,TC9_41),(45,TC9_45),(33,TC9_33)]
theorem TC9_ok:TabOk Tryz.prog TC9:=((((((((((TabOk.nil _).cons TC9_33_ok).cons TC9_45_ok).cons TC9_41_ok).cons TC9_38_ok).cons TC9_3_ok).cons TC9_51_ok).cons TC9_44_ok).cons TC9_79_ok).cons TC9_35_ok)
def chkL (code:Tm→Ty→Int)(M:List Ty):List (Int×Tm)→Int
 | []=>0
 | p :: l=>match headTy [] M [] 2 p.1 with
  | none=>10
  | some u=>if code p.2 u≠0 then code p.2 u else chkL code M l
theorem tyZ_eq:eTy tyZ=[.sl 2 [] none,.v (.int .i64 0)]:=rfl
set_option maxHeartbeats 1000000 in
theorem scheck_d (b:Int)(C M X:List Ty)(l:List (Int×Tm))(hl:l.length≤100000)(code:Tm→Ty→Int)(hc:∀ t u,checkCode C M t X u (code t u))(hz:∀ p∈l,X.length+p.2.full≤90000∧p.2.Fit∧p.1≤9223372036854775807)(hM:∀ u∈M,u.size≤90000):
  PureC Tryz.prog 28 [.ag [.v (.int .i64 b),.sl 2 (eTys C) none,.sl 2 (eTys M) none],.sl 2 (eTys X) none,.sl 5 (ePairs l) none] (.v (.int .i64 (if Sb.right l=true then chkL code M l else 1))):=by
 have hR:=sright_d l (by omega)
 refine call_of_dw 0 42 [ResultVar.tmp 6] TC9_ok (by kernel_rfl) Tryz.func28 rfl Tryz.ntmps28 rfl (by simp) ?dwords ?dbody
 case dwords=>simp[wordsOk,D.ok,D.oks,rnames,eTys_ok,ePairs_ok]
 case dbody=>
  intro cx hnt hn0
  refine dw_seq ?_;refine dwk [] TC9_ok hnt fun _ z9=>z9 _ _ ?_;refine dw_seq (dw_seq ?_)
  cases hr:Sb.right l with
  | false=>
   rw[hr] at hR
   refine dwk [] TC9_ok hnt fun K hK=>?_;refine dcl (hR) ?_;refine hK _ _ ?_;clear hK K;refine dw_cond (t:=true) rfl ?_;rw[if_pos rfl];refine dw_seq ?_;refine dwk [] TC9_ok hnt fun _ z9=>z9 _ _ ?_;refine dw_ret ?_
   exact retv (N:=0) (.inr rfl) rfl (VLe.refl _) trivial
  | true=>
   rw[hr] at hR
   refine dwk [] TC9_ok hnt fun K hK=>?_;refine dcl (hR) ?_;refine hK _ _ ?_;clear hK K;refine dw_cond (t:=false) rfl ?_;rw[if_neg (by simp)];refine dw_skip ?_;rw[if_pos rfl];refine dw_seq (dw_seq ?_);refine dwk [(16,.v (.int .i64 l.length))] TC9_ok hnt fun K hK=>?_;refine And.intro (dintE (by rw[ePairs_len])) ?_;refine hK _ _ ?_;clear hK K;refine dw_block ?_
   refine dw_loop (ι:={ j:Nat // chkL code M (l.drop j)=chkL code M l∧j≤l.length }) (fun j=>[(.t 1,.sl 2 (eTys X) none),(.t 3,.p 0 0),(.t 15,.sl 5 (ePairs l) none),(.t 16,.v (.int .i64 l.length)),(.t 17,.v (.int .i64 (j.1:Int))),(.c 0 0,.v (.int .i64 b)),(.c 0 1,.sl 2 (eTys C) none),(.c 0 2,.sl 2 (eTys M) none)]) 1 (fun j=>l.length-j.1) ⟨0,rfl,Nat.zero_le _⟩ VS.toA fun j=>?_
   obtain⟨j,hj,hj2⟩:=j
   dsimp only
   refine dw_seq ?_
   by_cases hlt:j<l.length
   ·rw[List.drop_eq_getElem_cons hlt,chkL] at hj
    obtain⟨hz1,hz2,hz3⟩:=hz _ (List.getElem_mem hlt)
    have hho:headTy C M [] 2 l[j].1=headTy [] M [] 2 l[j].1:=by simp[headTy]
    have hhd:=head_d b C M 2 l[j].1 hz3 _ hho (fun u hu=>hM u (by
     rw[←hho] at hu
     have:=headTy_mem hu
     unfold headTy at hu
     split at hu
     ·cases hu
     ·simp at hu;exact List.mem_of_getElem? hu))
    refine dwk [(18,.v (.bool true))] TC9_ok hnt fun K hK=>?_;refine And.intro (dtrue (by omega)) ?_;refine hK _ _ ?_;clear hK K;refine dw_seq (dw_cond (t:=true) rfl ?_);rw[if_pos rfl];refine dw_skip (dw_seq (dw_block (dw_seq ?_)));refine dwk [(19,.q [.v (.int .i64 l[j].1),.sl 2 (eTys l[j].2.binds) none,.v (.int .i64 l[j].2.kind),.v (.int .i64 l[j].2.index),.sl 4 (eTms l[j].2.args) none])] TC9_ok hnt fun K hK=>?_
    refine And.intro (⟨by omega,by rw[ePairs_len];omega⟩) ?_;refine And.intro (VLe.of_eq (by rw[Int.toNat_natCast,ePairs_getD l j hlt,ePair_eq])) ?_;refine hK _ _ ?_;clear hK K;refine dw_seq ?_
    cases ho:headTy [] M [] 2 l[j].1 with
    | none=>
     rw[ho] at hhd hj
     dsimp only at hj
     rw[←hj]
     simp only[Option.getD_none,tyZ_eq] at hhd
     refine dwk [] TC9_ok hnt fun K hK=>?_;refine dcl (hhd) ?_;refine hK _ _ ?_;clear hK K;refine dw_seq (dw_seq ?_);refine dwk [] TC9_ok hnt fun _ z9=>z9 _ _ ?_;refine dw_cond (t:=true) rfl ?_;rw[if_pos rfl];refine dw_seq ?_;refine dwk [] TC9_ok hnt fun _ z9=>z9 _ _ ?_;refine dw_ret ?_
     exact retv (N:=0) (.inr rfl) rfl (VLe.refl _) trivial
    | some u=>
     rw[ho] at hhd hj
     dsimp only at hj
     have hck:=check_d b C M X l[j].2 u (code l[j].2 u) (hc _ _) hz1 hz2
     simp only[Option.getD_some] at hhd
     rw[eTy_eq] at hhd
     rw[eTm_eq,eTy_eq] at hck
     refine dwk [] TC9_ok hnt fun K hK=>?_;refine dcl (hhd) ?_;refine hK _ _ ?_;clear hK K;refine dw_seq (dw_seq ?_);refine dwk [] TC9_ok hnt fun _ z9=>z9 _ _ ?_;refine dw_cond (t:=false) rfl ?_;rw[if_neg (by simp)];refine dw_skip ?_;refine dw_seq ?_;refine dwk [] TC9_ok hnt fun K hK=>?_;refine dcl (hck) ?_;refine hK _ _ ?_;clear hK K;refine dw_seq ?_
     by_cases he:code l[j].2 u=0
     ·rw[if_neg (by simp[he])] at hj;refine dwk [(39,.v (.bool false))] TC9_ok hnt fun K hK=>?_;refine And.intro (VLe.of_eq (by simp[he])) ?_;refine hK _ _ ?_;clear hK K;refine dw_cond (t:=false) rfl ?_;rw[if_neg (by simp)];refine dw_skip ?_;refine dwk [(41,.v (.int .i64 ((j+1:Nat):Int)))] TC9_ok hnt fun K hK=>?_;refine And.intro (dintE (by rw[IntWalk.i64_in _ (by omega)];omega)) ?_
      refine hK _ _ ?_;clear hK K
      exact⟨⟨j+1,hj,hlt⟩,by dsimp only;omega,VS.toA⟩
     ·rw[if_pos he] at hj
      rw[←hj]
      refine dwk [(39,.v (.bool true))] TC9_ok hnt fun K hK=>?_;refine And.intro (VLe.of_eq (by simp[he])) ?_;refine hK _ _ ?_;clear hK K;refine dw_cond (t:=true) rfl ?_;rw[if_pos rfl];refine dw_seq ?_;refine dwk [] TC9_ok hnt fun _ z9=>z9 _ _ ?_;refine dw_ret ?_
      exact retv (N:=0) (.inr rfl) rfl (VLe.refl _) trivial
   ·rw[List.drop_eq_nil_of_le (by omega),chkL] at hj
    rw[←hj]
    refine dwk [(18,.v (.bool false))] TC9_ok hnt fun K hK=>?_;refine And.intro (dfalse (by omega)) ?_;refine hK _ _ ?_;clear hK K;refine dw_seq (dw_cond (t:=false) rfl ?_);rw[if_neg (by simp)];refine dw_exit ?_;refine dw_seq ?_;refine dwk [] TC9_ok hnt fun _ z9=>z9 _ _ ?_;refine dw_ret ?_
    exact retv (N:=0) (.inr rfl) rfl (VLe.refl _) trivial
def TRT6_44:TI:=⟨2,true,[Value.slice none 0 0,Value.int IntKind.i64 0],[(0,1,false),(1,1,false)],none,32,6,none,false⟩
theorem TRT6_44_ok:TypOk Tryz.prog 44 TRT6_44:=by constructor <;> kernel_rfl
def TRT6_33:TI:=⟨1,false,[Value.slice none 0 0],[],some 44,24,5,none,false⟩
theorem TRT6_33_ok:TypOk Tryz.prog 33 TRT6_33:=by constructor <;> kernel_rfl
def TRT6_3:TI:=⟨1,false,[Value.int IntKind.i64 0],[],none,8,2,none,false⟩
theorem TRT6_3_ok:TypOk Tryz.prog 3 TRT6_3:=by constructor <;> kernel_rfl
def TRT6_41:TI:=⟨4,true,[Value.slice none 0 0,Value.int IntKind.i64 0,Value.int IntKind.i64 0,Value.slice none 0 0],[(0,1,false),(1,2,true),(3,1,false)],none,64,6,none,false⟩
theorem TRT6_41_ok:TypOk Tryz.prog 41 TRT6_41:=by constructor <;> kernel_rfl
def TRT6_35:TI:=⟨3,true,[Value.int IntKind.i64 0,Value.slice none 0 0,Value.slice none 0 0],[(0,1,false),(1,1,false),(2,1,false)],none,56,6,none,false⟩
theorem TRT6_35_ok:TypOk Tryz.prog 35 TRT6_35:=by constructor <;> kernel_rfl
def TRT6_38:TI:=⟨2,true,[Value.int IntKind.i64 0,Value.int IntKind.i64 0],[(0,1,false),(1,1,false)],none,16,6,none,true⟩
theorem TRT6_38_ok:TypOk Tryz.prog 38 TRT6_38:=by constructor <;> kernel_rfl
def TRT6_39:TI:=⟨1,false,[Value.slice none 0 0],[],some 41,24,5,none,false⟩
theorem TRT6_39_ok:TypOk Tryz.prog 39 TRT6_39:=by constructor <;> kernel_rfl
def TRT6_192:TI:=⟨1,false,[Value.slice none 0 0],[],some 33,24,5,none,false⟩
theorem TRT6_192_ok:TypOk Tryz.prog 192 TRT6_192:=by constructor <;> kernel_rfl
def TRT6_144:TI:=⟨1,false,[Value.nilFunc],[],none,8,8,none,false⟩
theorem TRT6_144_ok:TypOk Tryz.prog 144 TRT6_144:=by constructor <;> kernel_rfl
def TRT6:List (Nat×TI):=[(44,TRT6_44),(33,TRT6_33),(3,TRT6_3),(41,TRT6_41),(35,TRT6_35),(38,TRT6_38),(39,TRT6_39),(192,TRT6_192),(144,TRT6_144)]
theorem TRT6_ok:TabOk Tryz.prog TRT6:=((((((((((TabOk.nil _).cons TRT6_144_ok).cons TRT6_192_ok).cons TRT6_39_ok).cons TRT6_38_ok).cons TRT6_35_ok).cons TRT6_41_ok).cons TRT6_3_ok).cons TRT6_33_ok).cons TRT6_44_ok)
def tyOf (C M:List Ty)(t:Tm):Option Ty:=(headTy C M ([]++t.binds) t.kind t.index).map fun h=>.mk t.binds h.base
theorem isOf_no {C M X:List Ty}{b:List Ty}{k i:Int}{a:List Tm}{u:Ty}(h:∀ x,headTy C M (X++b) k i=some x→b=u.args→x.base=u.base→x.args.length=a.length→False):¬ IsOf C M (.mk b k i a) X u:=fun hi=>by
 obtain⟨h1,x,h2,h3,h4⟩:=isOf_mk.1 hi
 exact h x h2 h1 h3 (isOfs_iff.1 h4).1
theorem within_d (l r:List Ty)(h:l.length+r.length≤800000):PureC Tryz.prog 55 [.sl 2 (eTys l) none,.sl 2 (eTys r) none] (.sl 2 (eTys (l++r)) none):=by
 have hcat:=concat_d [l,r] (by simp[lens];omega) (by simp)
 simp only[List.flatten_cons,List.flatten_nil,List.append_nil] at hcat
 refine calldw 0 9 [ResultVar.tmp 4] TRT6_ok Tryz.func55 rfl Tryz.ntmps55 rfl fun cx hnt hn0=>?_
 ·skip
  refine dw_seq ?_;refine dwk [] TRT6_ok hnt fun _ z9=>z9 _ _ ?_;refine dw_seq ?_;refine dwk [(7,.sl 1 (eTyss [l,r]) none)] TRT6_ok hnt fun K hK=>?_;refine And.intro (VLe.untag _ _ _) ?_;refine dcl (hcat) ?_;refine hK _ _ ?_;clear hK K;refine dw_ret ?_
  exact reta rfl
set_option maxHeartbeats 2000000 in
theorem theadA_d (b:Int)(C M X:List Ty)(k i:Int)(hi:i≤9223372036854775807)(hC:C.length≤1000000)(hM:M.length≤1000000)(hX:X.length≤1000000):PureC Tryz.prog 54 [.ag [.v (.int .i64 b),.sl 2 (eTys C) none,.sl 2 (eTys M) none],.sl 2 (eTys X) none,.ag [.v (.int .i64 k),.v (.int .i64 i)]] (.tu [.ag (eTy ((headTy C M X k i).getD tyZ)),.v (.bool (headTy C M X k i).isSome)]):=by
 by_cases k1:k=1
 ·skip
  subst k1
  by_cases hn:i<0
  ·rw[headTy_neg hn]
   simp only[Option.getD_none,Option.isSome_none]
   rw[tyZ_eq]
   refine calldw 0 51 [ResultVar.cell 6 44,ResultVar.tmp 7] TRT6_ok Tryz.func54 rfl Tryz.ntmps54 rfl fun cx hnt hn0=>?_
   ·skip
    refine dw_seq ?_;refine dwk [] TRT6_ok hnt fun _ z9=>z9 _ _ ?_;refine dw_seq ?_;refine dwk [] TRT6_ok hnt fun _ z9=>z9 _ _ ?_;refine dw_seq ?_;refine dwk [] TRT6_ok hnt fun _ z9=>z9 _ _ ?_;refine dw_seq ?_;refine dw_seq ?_;refine dwk [] TRT6_ok hnt fun _ z9=>z9 _ _ ?_;refine dw_block ?_;refine dw_seq ?_
    refine dwk [(21,.v (.bool true))] TRT6_ok hnt fun K hK=>?_;refine And.intro (VLe.refl _) ?_;refine hK _ _ ?_;clear hK K;refine dw_cond (t:=true) rfl ?_;rw[if_pos rfl];refine dwkD [] TRT6_ok hnt fun K hK=>?_;refine hK _ _ (by kernel_rfl) ?_;clear hK K;refine dw_seq ?_;refine dw_seq ?_;refine dwk [(39,.v (.bool true))] TRT6_ok hnt fun K hK=>?_;refine And.intro auT ?_;refine hK _ _ ?_;clear hK K
    refine dw_cond (t:=true) rfl ?_;rw[if_pos rfl];refine dw_seq ?_;refine dwk [] TRT6_ok hnt fun _ z9=>z9 _ _ ?_;refine dw_ret ?_
    exact reta rfl
  ·obtain⟨n,rfl⟩:=Int.eq_ofNat_of_zero_le (Int.not_lt.1 hn)
   rw[headTy_1]
   by_cases hl:n<C.length
   ·rw[List.getElem?_eq_getElem hl]
    simp only[Option.getD_some,Option.isSome_some]
    rw[eTy_eq]
    refine calldw 0 51 [ResultVar.cell 6 44,ResultVar.tmp 7] TRT6_ok Tryz.func54 rfl Tryz.ntmps54 rfl fun cx hnt hn0=>?_
    ·skip
     refine dw_seq ?_;refine dwk [] TRT6_ok hnt fun _ z9=>z9 _ _ ?_;refine dw_seq ?_;refine dwk [] TRT6_ok hnt fun _ z9=>z9 _ _ ?_;refine dw_seq ?_;refine dwk [] TRT6_ok hnt fun _ z9=>z9 _ _ ?_;refine dw_seq ?_;refine dw_seq ?_;refine dwk [] TRT6_ok hnt fun _ z9=>z9 _ _ ?_;refine dw_block ?_;refine dw_seq ?_
     refine dwk [(21,.v (.bool true))] TRT6_ok hnt fun K hK=>?_;refine And.intro (VLe.refl _) ?_;refine hK _ _ ?_;clear hK K;refine dw_cond (t:=true) rfl ?_;rw[if_pos rfl];refine dwkD [] TRT6_ok hnt fun K hK=>?_;refine hK _ _ (by kernel_rfl) ?_;clear hK K;refine dw_seq ?_;refine dw_seq ?_;refine dwk [(39,.v (.bool false)),(43,.v (.int .i64 (↑C.length))),(44,.v (.bool false))] TRT6_ok hnt fun K hK=>?_
     refine And.intro auF ?_;refine And.intro (dintE (by rw[eTys_len])) ?_;refine And.intro auF ?_;refine hK _ _ ?_;clear hK K;refine dw_cond (t:=false) rfl ?_;rw[if_neg (by simp)];refine dw_skip ?_;refine dw_seq ?_;refine dwk [(49,.q [.sl 2 (eTys C[n].args) none,.v (.int .i64 C[n].base)])] TRT6_ok hnt fun K hK=>?_;refine And.intro (elo (eTys_len C)) ?_;refine And.intro (elv (eTys_getD C n) (eTy_eq _)) ?_
     refine hK _ _ ?_;clear hK K;refine dw_ret ?_
     exact reta rfl
   ·rw[List.getElem?_eq_none (by omega)]
    simp only[Option.getD_none,Option.isSome_none]
    rw[tyZ_eq]
    refine calldw 0 51 [ResultVar.cell 6 44,ResultVar.tmp 7] TRT6_ok Tryz.func54 rfl Tryz.ntmps54 rfl fun cx hnt hn0=>?_
    ·skip
     refine dw_seq ?_;refine dwk [] TRT6_ok hnt fun _ z9=>z9 _ _ ?_;refine dw_seq ?_;refine dwk [] TRT6_ok hnt fun _ z9=>z9 _ _ ?_;refine dw_seq ?_;refine dwk [] TRT6_ok hnt fun _ z9=>z9 _ _ ?_;refine dw_seq ?_;refine dw_seq ?_;refine dwk [] TRT6_ok hnt fun _ z9=>z9 _ _ ?_;refine dw_block ?_;refine dw_seq ?_
     refine dwk [(21,.v (.bool true))] TRT6_ok hnt fun K hK=>?_;refine And.intro (VLe.refl _) ?_;refine hK _ _ ?_;clear hK K;refine dw_cond (t:=true) rfl ?_;rw[if_pos rfl];refine dwkD [] TRT6_ok hnt fun K hK=>?_;refine hK _ _ (by kernel_rfl) ?_;clear hK K;refine dw_seq ?_;refine dw_seq ?_;refine dwk [(39,.v (.bool false)),(43,.v (.int .i64 (↑C.length))),(44,.v (.bool true))] TRT6_ok hnt fun K hK=>?_
     refine And.intro auF ?_;refine And.intro (dintE (by rw[eTys_len])) ?_;refine And.intro auT ?_;refine hK _ _ ?_;clear hK K;refine dw_cond (t:=true) rfl ?_;rw[if_pos rfl];refine dw_seq ?_;refine dwk [] TRT6_ok hnt fun _ z9=>z9 _ _ ?_;refine dw_ret ?_
     exact reta rfl
 by_cases k2:k=2
 ·skip
  subst k2
  by_cases hn:i<0
  ·rw[headTy_neg hn]
   simp only[Option.getD_none,Option.isSome_none]
   rw[tyZ_eq]
   refine calldw 0 51 [ResultVar.cell 6 44,ResultVar.tmp 7] TRT6_ok Tryz.func54 rfl Tryz.ntmps54 rfl fun cx hnt hn0=>?_
   ·skip
    refine dw_seq ?_;refine dwk [] TRT6_ok hnt fun _ z9=>z9 _ _ ?_;refine dw_seq ?_;refine dwk [] TRT6_ok hnt fun _ z9=>z9 _ _ ?_;refine dw_seq ?_;refine dwk [] TRT6_ok hnt fun _ z9=>z9 _ _ ?_;refine dw_seq ?_;refine dw_seq ?_;refine dwk [] TRT6_ok hnt fun _ z9=>z9 _ _ ?_;refine dw_block ?_;refine dw_seq ?_
    refine dwk [(21,.v (.bool false))] TRT6_ok hnt fun K hK=>?_;refine And.intro (VLe.refl _) ?_;refine hK _ _ ?_;clear hK K;refine dw_cond (t:=false) rfl ?_;rw[if_neg (by simp)];refine dw_seq ?_;refine dwk [(27,.v (.bool true))] TRT6_ok hnt fun K hK=>?_;refine And.intro (VLe.refl _) ?_;refine hK _ _ ?_;clear hK K;refine dw_cond (t:=true) rfl ?_;rw[if_pos rfl];refine dwkD [] TRT6_ok hnt fun K hK=>?_
    refine hK _ _ (by kernel_rfl) ?_;clear hK K;refine dw_seq ?_;refine dw_seq ?_;refine dwk [(39,.v (.bool true))] TRT6_ok hnt fun K hK=>?_;refine And.intro auT ?_;refine hK _ _ ?_;clear hK K;refine dw_cond (t:=true) rfl ?_;rw[if_pos rfl];refine dw_seq ?_;refine dwk [] TRT6_ok hnt fun _ z9=>z9 _ _ ?_;refine dw_ret ?_
    exact reta rfl
  ·obtain⟨n,rfl⟩:=Int.eq_ofNat_of_zero_le (Int.not_lt.1 hn)
   rw[headTy_2]
   by_cases hl:n<M.length
   ·rw[List.getElem?_eq_getElem hl]
    simp only[Option.getD_some,Option.isSome_some]
    rw[eTy_eq]
    refine calldw 0 51 [ResultVar.cell 6 44,ResultVar.tmp 7] TRT6_ok Tryz.func54 rfl Tryz.ntmps54 rfl fun cx hnt hn0=>?_
    ·skip
     refine dw_seq ?_;refine dwk [] TRT6_ok hnt fun _ z9=>z9 _ _ ?_;refine dw_seq ?_;refine dwk [] TRT6_ok hnt fun _ z9=>z9 _ _ ?_;refine dw_seq ?_;refine dwk [] TRT6_ok hnt fun _ z9=>z9 _ _ ?_;refine dw_seq ?_;refine dw_seq ?_;refine dwk [] TRT6_ok hnt fun _ z9=>z9 _ _ ?_;refine dw_block ?_;refine dw_seq ?_
     refine dwk [(21,.v (.bool false))] TRT6_ok hnt fun K hK=>?_;refine And.intro (VLe.refl _) ?_;refine hK _ _ ?_;clear hK K;refine dw_cond (t:=false) rfl ?_;rw[if_neg (by simp)];refine dw_seq ?_;refine dwk [(27,.v (.bool true))] TRT6_ok hnt fun K hK=>?_;refine And.intro (VLe.refl _) ?_;refine hK _ _ ?_;clear hK K;refine dw_cond (t:=true) rfl ?_;rw[if_pos rfl];refine dwkD [] TRT6_ok hnt fun K hK=>?_
     refine hK _ _ (by kernel_rfl) ?_;clear hK K;refine dw_seq ?_;refine dw_seq ?_;refine dwk [(39,.v (.bool false)),(43,.v (.int .i64 (↑M.length))),(44,.v (.bool false))] TRT6_ok hnt fun K hK=>?_;refine And.intro auF ?_;refine And.intro (dintE (by rw[eTys_len])) ?_;refine And.intro auF ?_;refine hK _ _ ?_;clear hK K;refine dw_cond (t:=false) rfl ?_;rw[if_neg (by simp)];refine dw_skip ?_
     refine dw_seq ?_;refine dwk [(49,.q [.sl 2 (eTys M[n].args) none,.v (.int .i64 M[n].base)])] TRT6_ok hnt fun K hK=>?_;refine And.intro (elo (eTys_len M)) ?_;refine And.intro (elv (eTys_getD M n) (eTy_eq _)) ?_;refine hK _ _ ?_;clear hK K;refine dw_ret ?_
     exact reta rfl
   ·rw[List.getElem?_eq_none (by omega)]
    simp only[Option.getD_none,Option.isSome_none]
    rw[tyZ_eq]
    refine calldw 0 51 [ResultVar.cell 6 44,ResultVar.tmp 7] TRT6_ok Tryz.func54 rfl Tryz.ntmps54 rfl fun cx hnt hn0=>?_
    ·skip
     refine dw_seq ?_;refine dwk [] TRT6_ok hnt fun _ z9=>z9 _ _ ?_;refine dw_seq ?_;refine dwk [] TRT6_ok hnt fun _ z9=>z9 _ _ ?_;refine dw_seq ?_;refine dwk [] TRT6_ok hnt fun _ z9=>z9 _ _ ?_;refine dw_seq ?_;refine dw_seq ?_;refine dwk [] TRT6_ok hnt fun _ z9=>z9 _ _ ?_;refine dw_block ?_;refine dw_seq ?_
     refine dwk [(21,.v (.bool false))] TRT6_ok hnt fun K hK=>?_;refine And.intro (VLe.refl _) ?_;refine hK _ _ ?_;clear hK K;refine dw_cond (t:=false) rfl ?_;rw[if_neg (by simp)];refine dw_seq ?_;refine dwk [(27,.v (.bool true))] TRT6_ok hnt fun K hK=>?_;refine And.intro (VLe.refl _) ?_;refine hK _ _ ?_;clear hK K;refine dw_cond (t:=true) rfl ?_;rw[if_pos rfl];refine dwkD [] TRT6_ok hnt fun K hK=>?_
     refine hK _ _ (by kernel_rfl) ?_;clear hK K;refine dw_seq ?_;refine dw_seq ?_;refine dwk [(39,.v (.bool false)),(43,.v (.int .i64 (↑M.length))),(44,.v (.bool true))] TRT6_ok hnt fun K hK=>?_;refine And.intro auF ?_;refine And.intro (dintE (by rw[eTys_len])) ?_;refine And.intro auT ?_;refine hK _ _ ?_;clear hK K;refine dw_cond (t:=true) rfl ?_;rw[if_pos rfl];refine dw_seq ?_;refine dwk [] TRT6_ok hnt fun K hK=>?_
     refine hK _ _ ?_;clear hK K;refine dw_ret ?_
     exact reta rfl
 by_cases k0:k=0
 ·subst k0
  by_cases hn:i<0
  ·rw[headTy_neg hn]
   simp only[Option.getD_none,Option.isSome_none]
   rw[tyZ_eq]
   refine calldw 0 51 [ResultVar.cell 6 44,ResultVar.tmp 7] TRT6_ok Tryz.func54 rfl Tryz.ntmps54 rfl fun cx hnt hn0=>?_
   ·skip
    refine dw_seq ?_;refine dwk [] TRT6_ok hnt fun _ z9=>z9 _ _ ?_;refine dw_seq ?_;refine dwk [] TRT6_ok hnt fun _ z9=>z9 _ _ ?_;refine dw_seq ?_;refine dwk [] TRT6_ok hnt fun _ z9=>z9 _ _ ?_;refine dw_seq ?_;refine dw_seq ?_;refine dwk [] TRT6_ok hnt fun _ z9=>z9 _ _ ?_;refine dw_block ?_;refine dw_seq ?_
    refine dwk [(21,.v (.bool false))] TRT6_ok hnt fun K hK=>?_;refine And.intro (VLe.refl _) ?_;refine hK _ _ ?_;clear hK K;refine dw_cond (t:=false) rfl ?_;rw[if_neg (by simp)];refine dw_seq ?_;refine dwk [(27,.v (.bool false))] TRT6_ok hnt fun K hK=>?_;refine And.intro (VLe.refl _) ?_;refine hK _ _ ?_;clear hK K;refine dw_cond (t:=false) rfl ?_;rw[if_neg (by simp)];refine dw_seq ?_
    refine dwk [(33,.v (.bool true))] TRT6_ok hnt fun K hK=>?_;refine And.intro (VLe.refl _) ?_;refine hK _ _ ?_;clear hK K;refine dw_cond (t:=true) rfl ?_;rw[if_pos rfl];refine dw_seq ?_;refine dwk [(36,.v (.bool true))] TRT6_ok hnt fun K hK=>?_;refine And.intro auT ?_;refine hK _ _ ?_;clear hK K;refine dw_cond (t:=true) rfl ?_;rw[if_pos rfl];refine dw_seq ?_;refine dwk [] TRT6_ok hnt fun K hK=>?_
    refine hK _ _ ?_;clear hK K;refine dw_ret ?_
    exact reta rfl
  ·obtain⟨n,rfl⟩:=Int.eq_ofNat_of_zero_le (Int.not_lt.1 hn)
   rw[headTy_0]
   by_cases hl:n<X.length
   ·have hx:X.length-1-n<X.length:=by omega
    rw[List.getElem?_reverse (by omega),List.getElem?_eq_getElem hx]
    simp only[Option.getD_some,Option.isSome_some]
    rw[eTy_eq]
    have hg:(eTys X).getD ((X.length:Int)-1-(n:Int)).toNat []=[.sl 2 (eTys (X[X.length-1-n]).args) none,.v (.int .i64 (X[X.length-1-n]).base)]:=by rw[show ((X.length:Int)-1-(n:Int)).toNat=X.length-1-n by omega,eTys_getD X _ hx,eTy_eq]
    refine calldw 0 51 [ResultVar.cell 6 44,ResultVar.tmp 7] TRT6_ok Tryz.func54 rfl Tryz.ntmps54 rfl fun cx hnt hn0=>?_
    ·skip
     refine dw_seq ?_;refine dwk [] TRT6_ok hnt fun _ z9=>z9 _ _ ?_;refine dw_seq ?_;refine dwk [] TRT6_ok hnt fun _ z9=>z9 _ _ ?_;refine dw_seq ?_;refine dwk [(12,.v (.int .i64 (↑X.length))),(13,.v (.int .i64 ((↑X.length-1)))),(16,.v (.int .i64 ((↑X.length-1 - ↑n))))] TRT6_ok hnt fun K hK=>?_;refine And.intro (dintE (by rw[eTys_len])) ?_
     refine And.intro auI ?_;refine And.intro auI ?_;refine hK _ _ ?_;clear hK K;refine dw_seq ?_;refine dw_seq ?_;refine dwk [] TRT6_ok hnt fun _ z9=>z9 _ _ ?_;refine dw_block ?_;refine dw_seq ?_;refine dwk [(21,.v (.bool false))] TRT6_ok hnt fun K hK=>?_;refine And.intro (VLe.refl _) ?_;refine hK _ _ ?_;clear hK K;refine dw_cond (t:=false) rfl ?_;rw[if_neg (by simp)]
     refine dw_seq ?_;refine dwk [(27,.v (.bool false))] TRT6_ok hnt fun K hK=>?_;refine And.intro (VLe.refl _) ?_;refine hK _ _ ?_;clear hK K;refine dw_cond (t:=false) rfl ?_;rw[if_neg (by simp)];refine dw_seq ?_;refine dwk [(33,.v (.bool true))] TRT6_ok hnt fun K hK=>?_;refine And.intro (VLe.refl _) ?_;refine hK _ _ ?_;clear hK K;refine dw_cond (t:=true) rfl ?_;rw[if_pos rfl]
     refine dw_seq ?_;refine dwk [(36,.v (.bool false))] TRT6_ok hnt fun K hK=>?_;refine And.intro auF ?_;refine hK _ _ ?_;clear hK K;refine dw_cond (t:=false) rfl ?_;rw[if_neg (by simp)];refine dw_skip ?_;refine dw_seq ?_;refine dw_seq ?_;refine dwk [(39,.v (.bool false)),(43,.v (.int .i64 (↑X.length))),(44,.v (.bool false))] TRT6_ok hnt fun K hK=>?_;refine And.intro auF ?_;refine And.intro (dintE (by rw[eTys_len])) ?_
     refine And.intro auF ?_;refine hK _ _ ?_;clear hK K;refine dw_cond (t:=false) rfl ?_;rw[if_neg (by simp)];refine dw_skip ?_;refine dw_seq ?_;refine dwk [(49,.q [.sl 2 (eTys (X[X.length-1-n]).args) none,.v (.int .i64 (X[X.length-1-n]).base)])] TRT6_ok hnt fun K hK=>?_;refine And.intro (⟨by omega,by rw[eTys_len];omega⟩) ?_;refine And.intro (VLe.of_eq (by rw[hg])) ?_;refine hK _ _ ?_;clear hK K
     refine dw_ret ?_
     exact reta rfl
   ·rw[List.getElem?_eq_none (by simp;omega)]
    simp only[Option.getD_none,Option.isSome_none]
    rw[tyZ_eq]
    refine calldw 0 51 [ResultVar.cell 6 44,ResultVar.tmp 7] TRT6_ok Tryz.func54 rfl Tryz.ntmps54 rfl fun cx hnt hn0=>?_
    ·skip
     refine dw_seq ?_;refine dwk [] TRT6_ok hnt fun _ z9=>z9 _ _ ?_;refine dw_seq ?_;refine dwk [] TRT6_ok hnt fun _ z9=>z9 _ _ ?_;refine dw_seq ?_;refine dwk [(12,.v (.int .i64 (↑X.length))),(13,.v (.int .i64 ((↑X.length-1)))),(16,.v (.int .i64 ((↑X.length-1 - ↑n))))] TRT6_ok hnt fun K hK=>?_;refine And.intro (dintE (by rw[eTys_len])) ?_
     refine And.intro auI ?_;refine And.intro auI ?_;refine hK _ _ ?_;clear hK K;refine dw_seq ?_;refine dw_seq ?_;refine dwk [] TRT6_ok hnt fun _ z9=>z9 _ _ ?_;refine dw_block ?_;refine dw_seq ?_;refine dwk [(21,.v (.bool false))] TRT6_ok hnt fun K hK=>?_;refine And.intro (VLe.refl _) ?_;refine hK _ _ ?_;clear hK K;refine dw_cond (t:=false) rfl ?_;rw[if_neg (by simp)]
     refine dw_seq ?_;refine dwk [(27,.v (.bool false))] TRT6_ok hnt fun K hK=>?_;refine And.intro (VLe.refl _) ?_;refine hK _ _ ?_;clear hK K;refine dw_cond (t:=false) rfl ?_;rw[if_neg (by simp)];refine dw_seq ?_;refine dwk [(33,.v (.bool true))] TRT6_ok hnt fun K hK=>?_;refine And.intro (VLe.refl _) ?_;refine hK _ _ ?_;clear hK K;refine dw_cond (t:=true) rfl ?_;rw[if_pos rfl]
     refine dw_seq ?_;refine dwk [(36,.v (.bool false))] TRT6_ok hnt fun K hK=>?_;refine And.intro auF ?_;refine hK _ _ ?_;clear hK K;refine dw_cond (t:=false) rfl ?_;rw[if_neg (by simp)];refine dw_skip ?_;refine dw_seq ?_;refine dw_seq ?_;refine dwk [(39,.v (.bool true))] TRT6_ok hnt fun K hK=>?_;refine And.intro auT ?_;refine hK _ _ ?_;clear hK K;refine dw_cond (t:=true) rfl ?_
     rw[if_pos rfl];refine dw_seq ?_;refine dwk [] TRT6_ok hnt fun _ z9=>z9 _ _ ?_;refine dw_ret ?_
     exact reta rfl
 ·rw[headTy_o k0 k1 k2]
  simp only[Option.getD_none,Option.isSome_none]
  rw[tyZ_eq]
  refine calldw 0 51 [ResultVar.cell 6 44,ResultVar.tmp 7] TRT6_ok Tryz.func54 rfl Tryz.ntmps54 rfl fun cx hnt hn0=>?_
  ·skip
   refine dw_seq ?_;refine dwk [] TRT6_ok hnt fun _ z9=>z9 _ _ ?_;refine dw_seq ?_;refine dwk [] TRT6_ok hnt fun _ z9=>z9 _ _ ?_;refine dw_seq ?_;refine dwk [] TRT6_ok hnt fun _ z9=>z9 _ _ ?_;refine dw_seq ?_;refine dw_seq ?_;refine dwk [] TRT6_ok hnt fun _ z9=>z9 _ _ ?_;refine dw_block ?_;refine dw_seq ?_
   refine dwk [(21,.v (.bool false))] TRT6_ok hnt fun K hK=>?_;refine And.intro (beqF k1) ?_;refine hK _ _ ?_;clear hK K;refine dw_cond (t:=false) rfl ?_;rw[if_neg (by simp)];refine dw_seq ?_;refine dwk [(27,.v (.bool false))] TRT6_ok hnt fun K hK=>?_;refine And.intro (beqF k2) ?_;refine hK _ _ ?_;clear hK K;refine dw_cond (t:=false) rfl ?_;rw[if_neg (by simp)];refine dw_seq ?_
   refine dwk [(33,.v (.bool false))] TRT6_ok hnt fun K hK=>?_;refine And.intro (beqF k0) ?_;refine hK _ _ ?_;clear hK K;refine dw_cond (t:=false) rfl ?_;rw[if_neg (by simp)];refine dw_seq ?_;refine dwk [] TRT6_ok hnt fun _ z9=>z9 _ _ ?_;refine dw_ret ?_
   exact reta rfl
theorem ttype_d (b:Int)(C M:List Ty)(t:Tm)(hi:t.index≤9223372036854775807)(hC:C.length≤1000000)(hM:M.length≤1000000)(hz:t.full≤780000):
  PureC Tryz.prog 14 [.ag [.v (.int .i64 b),.sl 2 (eTys C) none,.sl 2 (eTys M) none],.v (.slice none 0 0),.ag (eTm t)] (.tu [.ag (eTy ((tyOf C M t).getD tyZ)),.v (.int .i64 (if (tyOf C M t).isSome then 0 else 10))]):=by
 have hbl:=Ty.le_sizes t.binds
 have hfl:=full_args t
 have hbe:PureC Tryz.prog 55 [.v (.slice none 0 0),.sl 2 (eTys t.binds) none] (.sl 2 (eTys ([]++t.binds)) none):=CallC.vle (within_d [] t.binds (by simp;omega)) (.cons (VLe.nil _) (.cons (VLe.refl _) .nil)) (VLe.refl _)
 have hh:=theadA_d b C M ([]++t.binds) t.kind t.index hi hC hM (by simp;omega)
 unfold tyOf
 obtain⟨o,ho⟩:∃ o,headTy C M ([]++t.binds) t.kind t.index=o:=⟨_,rfl⟩
 obtain⟨X,hX⟩:∃ X,[]++t.binds=X:=⟨_,rfl⟩
 rw[hX] at hh hbe ho ⊢
 rw[ho] at hh ⊢
 rw[eTm_eq]
 cases o with
 | none=>
  simp only[Option.map_none,Option.getD_none,Option.isSome_none,Bool.false_eq_true,if_false] at hh ⊢
  rw[tyZ_eq] at hh ⊢
  refine calldw 0 29 [ResultVar.cell 6 44,ResultVar.tmp 7] TRT6_ok Tryz.func14 rfl Tryz.ntmps14 rfl fun cx hnt hn0=>?_
  ·skip
   refine dw_seq ?_;refine dwk [] TRT6_ok hnt fun _ z9=>z9 _ _ ?_;refine dw_seq ?_;refine dwkD [] TRT6_ok hnt fun K hK=>?_;refine dcl (hbe) ?_;refine dcl (hh) ?_;refine hK _ _ (by kernel_rfl) ?_;clear hK K;refine dw_seq ?_;refine dw_seq ?_;refine dwk [] TRT6_ok hnt fun _ z9=>z9 _ _ ?_;refine dw_cond (t:=true) rfl ?_;rw[if_pos rfl];refine dw_seq ?_
   refine dwk [] TRT6_ok hnt fun _ z9=>z9 _ _ ?_;refine dw_ret ?_
   exact reta rfl
 | some h=>
  simp only[Option.map_some,Option.getD_some,Option.isSome_some,if_true] at hh ⊢
  have hk:=kOf_d h.base t.binds (by omega)
  rw[eTy_eq] at hh hk ⊢
  simp only[args_mk',base_mk'] at hk ⊢
  refine calldw 0 29 [ResultVar.cell 6 44,ResultVar.tmp 7] TRT6_ok Tryz.func14 rfl Tryz.ntmps14 rfl fun cx hnt hn0=>?_
  ·skip
   refine dw_seq ?_;refine dwk [] TRT6_ok hnt fun _ z9=>z9 _ _ ?_;refine dw_seq ?_;refine dwkD [] TRT6_ok hnt fun K hK=>?_;refine dcl (hbe) ?_;refine dcl (hh) ?_;refine hK _ _ (by kernel_rfl) ?_;clear hK K;refine dw_seq ?_;refine dw_seq ?_;refine dwk [] TRT6_ok hnt fun _ z9=>z9 _ _ ?_;refine dw_cond (t:=false) rfl ?_;rw[if_neg (by simp)]
   refine dw_skip ?_;refine dw_seq ?_;refine dwk [] TRT6_ok hnt fun K hK=>?_;refine dcl (hk) ?_;refine hK _ _ ?_;clear hK K;refine dw_ret ?_
   exact reta rfl
set_option maxHeartbeats 4000000 in
theorem tisX_d (b:Int)(C M:List Ty)(hC:C.length≤1000000)(hM:M.length≤1000000):∀ (t:Tm) (X:List Ty) (u:Ty) (c:Bool),(c=true↔IsOf C M t X u)→X.length+t.full≤780000→t.Fit →
  PureC Tryz.prog 62 [.ag [.v (.int .i64 b),.sl 2 (eTys C) none,.sl 2 (eTys M) none],.sl 2 (eTys X) none,.ag (eTm t),.ag (eTy u)] (.v (.bool c)):=by
 intro t
 induction t using Tm.ind with
 | h bs k i a ih=>
 intro X u c hc hz hf
 obtain⟨_,f2,f3⟩:=Tm.fit_iff.1 hf
 rw[Tm.full_eq] at hz
 have hal:=cFulls_len a
 have hbl:=Ty.le_sizes bs
 have hbe:=within_d X bs (by omega)
 have hh:=theadA_d b C M (X++bs) k i f2 hC hM (by simp;omega)
 obtain⟨o,ho⟩:∃ o,headTy C M (X++bs) k i=o:=⟨_,rfl⟩
 obtain⟨Y,hY⟩:∃ Y,X++bs=Y:=⟨_,rfl⟩
 have hYl:Y.length=X.length+bs.length:=by rw[←hY];simp
 have hty:=eqTys_d bs u.args 69 rfl
 have no:∀ (h:∀ x,headTy C M (X++bs) k i=some x→bs=u.args→x.base=u.base→x.args.length=a.length→False),c=false:=fun h=>by
  rw[Bool.eq_false_iff];exact fun hc1=>isOf_no h (hc.1 hc1)
 rw[ho] at hh no
 rw[eTm_eq,eTy_eq]
 simp only[bindsT,kindT,indexT,argsTm]
 rw[hY] at hbe hh
 by_cases hb:bs=u.args
 ·rw[decide_eq_true hb] at hty
  cases o with
  | none=>
   simp only[Option.getD_none,Option.isSome_none] at hh
   rw[tyZ_eq] at hh
   rw[no (fun x h=>by cases h)]
   refine calldw 0 69 [ResultVar.tmp 8] TRT6_ok Tryz.func62 rfl Tryz.ntmps62 rfl fun cx hnt hn0=>?_
   ·skip
    refine dw_seq ?_;refine dwk [] TRT6_ok hnt fun _ z9=>z9 _ _ ?_;refine dw_seq ?_;refine dw_seq ?_;refine dwk [] TRT6_ok hnt fun K hK=>?_;refine dcl (hty) ?_;refine hK _ _ ?_;clear hK K;refine dw_cond (t:=false) rfl ?_;rw[if_neg (by simp)];refine dw_skip ?_;refine dw_seq ?_;refine dwk [] TRT6_ok hnt fun K hK=>?_;refine dcl (hbe) ?_;refine hK _ _ ?_;clear hK K
    refine dw_seq ?_;refine dwk [] TRT6_ok hnt fun K hK=>?_;refine dcl (hh) ?_;refine hK _ _ ?_;clear hK K;refine dw_seq ?_;refine dw_seq ?_;refine dwk [] TRT6_ok hnt fun _ z9=>z9 _ _ ?_;refine dw_cond (t:=true) rfl ?_;rw[if_pos rfl];refine dw_seq ?_;refine dwk [] TRT6_ok hnt fun _ z9=>z9 _ _ ?_;refine dw_ret ?_
    exact reta rfl
  | some h=>
  simp only[Option.getD_some,Option.isSome_some] at hh
  rw[eTy_eq] at hh
  by_cases hbs:h.base=u.base
  ·by_cases hln:h.args.length=a.length
   ·have hIff:c=true↔∀ j (h1:j<a.length) (h2:j<h.args.length),IsOf C M a[j] Y h.args[j]:=by
     rw[hc,isOf_mk,hY]
     constructor
     ·rintro⟨_,x,h2,_,h4⟩ j j1 j2
      rw[←hY,ho] at h2;cases h2
      exact(isOfs_iff.1 h4).2 j j1 j2
     ·intro hall
      exact⟨hb,h,by rw[←hY,ho],hbs,isOfs_iff.2 ⟨hln,hall⟩⟩
    have hI:∀ j (h1:j<a.length) (h2:j<h.args.length) (d:Bool),(d=true↔IsOf C M a[j] Y h.args[j])→PureC Tryz.prog 62 [.ag [.v (.int .i64 b),.sl 2 (eTys C) none,.sl 2 (eTys M) none],.sl 2 (eTys Y) none,.ag (eTm a[j]),.ag (eTy h.args[j])] (.v (.bool d)):=fun j h1 h2 d hd=>ih _ (List.getElem_mem h1) Y _ d hd (by have:=Tm.full_mem (List.getElem_mem h1);omega) (f3 _ (List.getElem_mem h1))
    clear ih no hc
    refine calldw 0 69 [ResultVar.tmp 8] TRT6_ok Tryz.func62 rfl Tryz.ntmps62 rfl fun cx hnt hn0=>?_
    ·skip
     refine dw_seq ?_;refine dwk [] TRT6_ok hnt fun _ z9=>z9 _ _ ?_;refine dw_seq ?_;refine dw_seq ?_;refine dwk [] TRT6_ok hnt fun K hK=>?_;refine dcl (hty) ?_;refine hK _ _ ?_;clear hK K;refine dw_cond (t:=false) rfl ?_;rw[if_neg (by simp)];refine dw_skip ?_;refine dw_seq ?_;refine dwk [] TRT6_ok hnt fun K hK=>?_;refine dcl (hbe) ?_;refine hK _ _ ?_;clear hK K
     refine dw_seq ?_;refine dwk [] TRT6_ok hnt fun K hK=>?_;refine dcl (hh) ?_;refine hK _ _ ?_;clear hK K;refine dw_seq ?_;refine dw_seq ?_;refine dwk [(39,.v (.bool false)),(44,.v (.int .i64 (↑h.args.length))),(47,.v (.int .i64 (↑a.length))),(48,.v (.bool false))] TRT6_ok hnt fun K hK=>?_;refine And.intro (bneF hbs) ?_;refine And.intro (dintE (by rw[eTys_len])) ?_;refine And.intro (dintE (by rw[eTms_len])) ?_
     refine And.intro (bneF (by omega)) ?_;refine hK _ _ ?_;clear hK K;refine dw_cond (t:=false) rfl ?_;rw[if_neg (by simp)];refine dw_skip ?_;refine dw_seq ?_;refine dw_seq ?_;refine dwk [(52,.v (.int .i64 (↑a.length)))] TRT6_ok hnt fun K hK=>?_;refine And.intro (dintE (by rw[eTms_len])) ?_;refine hK _ _ ?_;clear hK K;refine dw_block ?_
     refine dw_loop (ι:={ j:Nat // ∀ i (h1:i<a.length) (h2:i<h.args.length),i<j→IsOf C M a[i] Y h.args[i] }) (fun j=>[(.t 4,.p 0 0),(.t 6,.p 1 0),(.t 7,.p 2 0),(.t 9,.sl 2 (eTys Y) none),(.t 10,.p 23 0),(.t 51,.sl 4 (eTms a) none),(.t 52,.v (.int .i64 ↑a.length)),(.t 53,.v (.int .i64 ↑j.1)),(.c 0 0,.v (.int .i64 b)),(.c 0 1,.sl 2 (eTys C) none),(.c 0 2,.sl 2 (eTys M) none),(.c 23 0,.sl 2 (eTys h.args) none),(.c 23 1,.v (.int .i64 h.base))]) 24 (fun j=>a.length-j.1) (⟨0,fun i h1 h2 h3=>by omega⟩) (VS.toA) fun j=>?_
     obtain⟨j,hj⟩:=j
     dsimp only
     by_cases hlt:j<a.length
     ·have hlt2:j<h.args.length:=by omega
      by_cases hio:IsOf C M a[j] Y h.args[j]
      ·have hi:=hI j hlt hlt2 true (by simp[hio])
       rw[eTm_eq,eTy_eq] at hi
       refine dw_seq ?_;refine dwk [(54,.v (.bool true))] TRT6_ok hnt fun K hK=>?_;refine And.intro auT ?_;refine hK _ _ ?_;clear hK K;refine dw_seq ?_;refine dw_cond (t:=true) rfl ?_;rw[if_pos rfl];refine dw_skip ?_;refine dw_seq ?_;refine dw_block ?_;refine dw_seq ?_;refine dwk [(56,.q [.sl 2 (eTys a[j].binds) none,.v (.int .i64 a[j].kind),.v (.int .i64 a[j].index),.sl 4 (eTms a[j].args) none])] TRT6_ok hnt fun K hK=>?_
       refine And.intro (elo (eTms_len a)) ?_;refine And.intro (elv (eTms_getD a j) (eTm_eq _)) ?_;refine hK _ _ ?_;clear hK K;refine dw_seq ?_;refine dwkD [(64,.q [.sl 2 (eTys h.args[j].args) none,.v (.int .i64 h.args[j].base)])] TRT6_ok hnt fun K hK=>?_;refine And.intro (elo (eTys_len h.args)) ?_;refine And.intro (elv (eTys_getD h.args j) (eTy_eq _)) ?_;refine dcl (hi) ?_;refine hK _ _ (by kernel_rfl) ?_;clear hK K
       refine dw_cond (t:=false) rfl ?_;rw[if_neg (by simp)];refine dw_skip ?_;refine dwk [(68,.v (.int .i64 (↑(j+1))))] TRT6_ok hnt fun K hK=>?_;refine And.intro auI ?_;refine hK _ _ ?_;clear hK K
       refine⟨⟨j+1,fun q h1 h2 h3=>if e:q=j then by subst e;exact hio else hj q h1 h2 (by omega)⟩,by first | omega | (dsimp only;omega),VS.toA⟩
      ·have hi:=hI j hlt hlt2 false (by simp[hio])
       rw[eTm_eq,eTy_eq] at hi
       have hcf:c=false:=by rw[Bool.eq_false_iff];exact fun h1=>hio (hIff.1 h1 j hlt hlt2)
       rw[hcf]
       refine dw_seq ?_;refine dwk [(54,.v (.bool true))] TRT6_ok hnt fun K hK=>?_;refine And.intro auT ?_;refine hK _ _ ?_;clear hK K;refine dw_seq ?_;refine dw_cond (t:=true) rfl ?_;rw[if_pos rfl];refine dw_skip ?_;refine dw_seq ?_;refine dw_block ?_;refine dw_seq ?_;refine dwk [(56,.q [.sl 2 (eTys a[j].binds) none,.v (.int .i64 a[j].kind),.v (.int .i64 a[j].index),.sl 4 (eTms a[j].args) none])] TRT6_ok hnt fun K hK=>?_
       refine And.intro (elo (eTms_len a)) ?_;refine And.intro (elv (eTms_getD a j) (eTm_eq _)) ?_;refine hK _ _ ?_;clear hK K;refine dw_seq ?_;refine dwkD [(64,.q [.sl 2 (eTys h.args[j].args) none,.v (.int .i64 h.args[j].base)])] TRT6_ok hnt fun K hK=>?_;refine And.intro (elo (eTys_len h.args)) ?_;refine And.intro (elv (eTys_getD h.args j) (eTy_eq _)) ?_;refine dcl (hi) ?_;refine hK _ _ (by kernel_rfl) ?_;clear hK K
       refine dw_cond (t:=true) rfl ?_;rw[if_pos rfl];refine dw_seq ?_;refine dwk [] TRT6_ok hnt fun _ z9=>z9 _ _ ?_;refine dw_ret ?_
       exact reta rfl
     ·rw[hIff.2 fun q h1 h2=>hj q h1 h2 (by omega)]
      refine dw_seq ?_;refine dwk [(54,.v (.bool false))] TRT6_ok hnt fun K hK=>?_;refine And.intro auF ?_;refine hK _ _ ?_;clear hK K;refine dw_seq ?_;refine dw_cond (t:=false) rfl ?_;rw[if_neg (by simp)];refine dw_exit ?_;refine dw_seq ?_;refine dwk [] TRT6_ok hnt fun _ z9=>z9 _ _ ?_;refine dw_ret ?_
      exact reta rfl
   ·rw[no (fun x h1 _ _ h4=>by cases h1;exact hln h4)]
    refine calldw 0 69 [ResultVar.tmp 8] TRT6_ok Tryz.func62 rfl Tryz.ntmps62 rfl fun cx hnt hn0=>?_
    ·skip
     refine dw_seq ?_;refine dwk [] TRT6_ok hnt fun _ z9=>z9 _ _ ?_;refine dw_seq ?_;refine dw_seq ?_;refine dwk [] TRT6_ok hnt fun K hK=>?_;refine dcl (hty) ?_;refine hK _ _ ?_;clear hK K;refine dw_cond (t:=false) rfl ?_;rw[if_neg (by simp)];refine dw_skip ?_;refine dw_seq ?_;refine dwk [] TRT6_ok hnt fun K hK=>?_;refine dcl (hbe) ?_;refine hK _ _ ?_;clear hK K
     refine dw_seq ?_;refine dwk [] TRT6_ok hnt fun K hK=>?_;refine dcl (hh) ?_;refine hK _ _ ?_;clear hK K;refine dw_seq ?_;refine dw_seq ?_;refine dwk [(39,.v (.bool false)),(44,.v (.int .i64 (↑h.args.length))),(47,.v (.int .i64 (↑a.length))),(48,.v (.bool true))] TRT6_ok hnt fun K hK=>?_;refine And.intro (bneF hbs) ?_;refine And.intro (dintE (by rw[eTys_len])) ?_;refine And.intro (dintE (by rw[eTms_len])) ?_
     refine And.intro (bneT (by omega)) ?_;refine hK _ _ ?_;clear hK K;refine dw_cond (t:=true) rfl ?_;rw[if_pos rfl];refine dw_seq ?_;refine dwk [] TRT6_ok hnt fun _ z9=>z9 _ _ ?_;refine dw_ret ?_
     exact reta rfl
  ·rw[no (fun x h1 _ h3 _=>by cases h1;exact hbs h3)]
   refine calldw 0 69 [ResultVar.tmp 8] TRT6_ok Tryz.func62 rfl Tryz.ntmps62 rfl fun cx hnt hn0=>?_
   ·skip
    refine dw_seq ?_;refine dwk [] TRT6_ok hnt fun _ z9=>z9 _ _ ?_;refine dw_seq ?_;refine dw_seq ?_;refine dwk [] TRT6_ok hnt fun K hK=>?_;refine dcl (hty) ?_;refine hK _ _ ?_;clear hK K;refine dw_cond (t:=false) rfl ?_;rw[if_neg (by simp)];refine dw_skip ?_;refine dw_seq ?_;refine dwk [] TRT6_ok hnt fun K hK=>?_;refine dcl (hbe) ?_;refine hK _ _ ?_;clear hK K
    refine dw_seq ?_;refine dwk [] TRT6_ok hnt fun K hK=>?_;refine dcl (hh) ?_;refine hK _ _ ?_;clear hK K;refine dw_seq ?_;refine dw_seq ?_;refine dwk [(39,.v (.bool true))] TRT6_ok hnt fun K hK=>?_;refine And.intro (bneT hbs) ?_;refine hK _ _ ?_;clear hK K;refine dw_cond (t:=true) rfl ?_;rw[if_pos rfl];refine dw_seq ?_;refine dwk [] TRT6_ok hnt fun _ z9=>z9 _ _ ?_
    refine dw_ret ?_
    exact reta rfl
 ·rw[decide_eq_false hb] at hty
  rw[no (fun x _ h2 _ _=>hb h2)]
  refine calldw 0 69 [ResultVar.tmp 8] TRT6_ok Tryz.func62 rfl Tryz.ntmps62 rfl fun cx hnt hn0=>?_
  ·skip
   refine dw_seq ?_;refine dwk [] TRT6_ok hnt fun _ z9=>z9 _ _ ?_;refine dw_seq ?_;refine dw_seq ?_;refine dwk [] TRT6_ok hnt fun K hK=>?_;refine dcl (hty) ?_;refine hK _ _ ?_;clear hK K;refine dw_cond (t:=true) rfl ?_;rw[if_pos rfl];refine dw_seq ?_;refine dwk [] TRT6_ok hnt fun _ z9=>z9 _ _ ?_;refine dw_ret ?_
   exact reta rfl
theorem tcheckX_d (b:Int)(C M X:List Ty)(t:Tm)(u:Ty)(c:Int)(hC:C.length≤1000000)(hM:M.length≤1000000)(hc:checkCode C M t X u c)(hz:X.length+t.full≤780000)(hf:t.Fit):
  PureC Tryz.prog 16 [.ag [.v (.int .i64 b),.sl 2 (eTys C) none,.sl 2 (eTys M) none],.sl 2 (eTys X) none,.ag (eTm t),.ag (eTy u)] (.v (.int .i64 c)):=by
 have hr:=right_d t (by omega)
 have hi:=fun d hd=>tisX_d b C M hC hM t X u d hd hz hf
 rw[eTm_eq,eTy_eq] at hi
 rw[eTm_eq] at hr
 rw[eTm_eq,eTy_eq]
 rcases hc with⟨h1,rfl⟩ | ⟨h1,h2,rfl⟩ | ⟨h1,h2,rfl⟩
 ·rw[decide_eq_false h1] at hr
  refine calldw 0 20 [ResultVar.tmp 8] TRT6_ok Tryz.func16 rfl Tryz.ntmps16 rfl fun cx hnt hn0=>?_
  ·skip
   refine dw_seq ?_;refine dwk [] TRT6_ok hnt fun _ z9=>z9 _ _ ?_;refine dw_seq ?_;refine dw_block ?_;refine dw_seq ?_;refine dwk [] TRT6_ok hnt fun K hK=>?_;refine dcl (hr) ?_;refine hK _ _ ?_;clear hK K;refine dw_cond (t:=true) rfl ?_;rw[if_pos rfl];refine dw_seq ?_;refine dwk [] TRT6_ok hnt fun _ z9=>z9 _ _ ?_;refine dw_ret ?_
   exact reta rfl
 ·rw[decide_eq_true h1] at hr
  have hi:=hi false (by simp[h2])
  refine calldw 0 20 [ResultVar.tmp 8] TRT6_ok Tryz.func16 rfl Tryz.ntmps16 rfl fun cx hnt hn0=>?_
  ·skip
   refine dw_seq ?_;refine dwk [] TRT6_ok hnt fun _ z9=>z9 _ _ ?_;refine dw_seq ?_;refine dw_block ?_;refine dw_seq ?_;refine dwk [] TRT6_ok hnt fun K hK=>?_;refine dcl (hr) ?_;refine hK _ _ ?_;clear hK K;refine dw_cond (t:=false) rfl ?_;rw[if_neg (by simp)];refine dw_seq ?_;refine dwk [] TRT6_ok hnt fun K hK=>?_;refine dcl (hi) ?_;refine hK _ _ ?_;clear hK K
   refine dw_cond (t:=true) rfl ?_;rw[if_pos rfl];refine dw_seq ?_;refine dwk [] TRT6_ok hnt fun _ z9=>z9 _ _ ?_;refine dw_ret ?_
   exact reta rfl
 ·rw[decide_eq_true h1] at hr
  have hi:=hi true (by simp[h2])
  refine calldw 0 20 [ResultVar.tmp 8] TRT6_ok Tryz.func16 rfl Tryz.ntmps16 rfl fun cx hnt hn0=>?_
  ·skip
   refine dw_seq ?_;refine dwk [] TRT6_ok hnt fun _ z9=>z9 _ _ ?_;refine dw_seq ?_;refine dw_block ?_;refine dw_seq ?_;refine dwk [] TRT6_ok hnt fun K hK=>?_;refine dcl (hr) ?_;refine hK _ _ ?_;clear hK K;refine dw_cond (t:=false) rfl ?_;rw[if_neg (by simp)];refine dw_seq ?_;refine dwk [] TRT6_ok hnt fun K hK=>?_;refine dcl (hi) ?_;refine hK _ _ ?_;clear hK K
   refine dw_cond (t:=false) rfl ?_;rw[if_neg (by simp)];refine dw_skip ?_;refine dw_seq ?_;refine dwk [] TRT6_ok hnt fun _ z9=>z9 _ _ ?_;refine dw_ret ?_
   exact reta rfl
theorem tcheck_d (b:Int)(C M:List Ty)(t:Tm)(u:Ty)(c:Int)(hC:C.length≤1000000)(hM:M.length≤1000000)(hc:checkCode C M t [] u c)(hz:t.full≤780000)(hfit:t.Fit):
  PureC Tryz.prog 16 [.ag [.v (.int .i64 b),.sl 2 (eTys C) none,.sl 2 (eTys M) none],.v (.slice none 0 0),.ag (eTm t),.ag (eTy u)] (.v (.int .i64 c)):=
 CallC.vle (tcheckX_d b C M [] t u c hC hM hc (by simp;omega) hfit) (.cons (VLe.refl _) (.cons (VLe.nil _) (.cons (VLe.refl _) (.cons (VLe.refl _) .nil)))) (VLe.refl _)
theorem tworld_d (b:Int)(C M:List Ty)(c:Bool)(hc:c=true↔RightWd b C M)(hz:∀ t∈C++M,t.size≤400000):PureC Tryz.prog 15 [.ag [.v (.int .i64 b),.sl 2 (eTys C) none,.sl 2 (eTys M) none]] (.v (.bool c)):=by
 refine pure_below (by kernel_rfl) fun m Im w vs hv=>?_
 match vs,hv with
 | [x1],hv=>
  obtain⟨cv,mv,rfl,h1,h2⟩:=agWorld hv.1
  refine(RightWorld_k h1 h2 hz).mono ?_
  rintro e w' ⟨c',hc',rfl,hb⟩
  have:c'=c:=by rw[Bool.eq_iff_iff,hc',hc]
  subst this
  exact⟨_,rfl,hb,fun _ _ _=>.v _⟩
namespace Ru
end Ru
namespace Ru
def ms (t:Tm):List Int:=sortU (metasL [t])
def chk (p:Li.Pr):Int:=if p.l.kind≠1 then 6 else if (Pn.uses p.l [] []).2=false then 6 else if ((ms p.r).any fun x=>!((ms p.l).contains x))=true then 7 else 0
end Ru
namespace Ru
def kA:Ty:=.mk [] 0
def kC:List Ty:=[.mk [kA,kA] 0,.mk [kA] 0]
end Ru
namespace Ru
def rg:Nat→List Int
 | 0=>[]
 | n+1=>rg n++[(n:Int)]
end Ru
namespace Ru
/-! metavariables -/
mutual
def AllIn (o:List Int):Tm→Prop
 | .mk _ k i a=>(k=2→i∈o)∧AllIns o a
def AllIns (o:List Int):List Tm→Prop
 | []=>True
 | t :: l=>AllIn o t∧AllIns o l
end
/-! typed -/
variable {C M:List Ty} {o:List Int}
/-! patterns -/
mutual
def K0:Tm→Prop
 | .mk _ k _ a=>k≠2∧K0s a
def K0s:List Tm→Prop
 | []=>True
 | t :: l=>K0 t∧K0s l
end
/-! which metavariables -/
def g (f:List Int)(x:Int):Int:=if x∈f then (ix x f:Int) else x
end Ru
end Go.Proofs.YtflbnonbfmmchaaGreat
namespace Go.Proofs.YtflbnonbfmmchaaGreat
open Go.RowKit
namespace Ru
variable {C M:List Ty}
end Ru
def swR (kw kb:Nat)(l:List (Int×Tm))(s:Nm.St):List (Key×D):=[(.c kw 0,.o kb),(.c kw 1,.sl 5 (ePairs l) none),(.c kw 2,.v (.int .i64 s.e)),(.o kb,.ob (BudJ s.left s.dry))]
theorem sthr_at (kw kb:Nat)(hk:kw≠kb)(l:List (Int×Tm))(hl:l.length≤1000000)(t:Tm)(ht:Wide t)(ins:Int)(s:Nm.St)(hs:InR s)(ho:thOk l t ins s):
  CallC Tryz.prog 65 [.p kw 0,.ag (eTm t),.v (.int .i64 ins)] (swR kw kb l s) (swR kw kb l (Sb.through l t ins s).2) (.ag (eTm (Sb.through l t ins s).1)):=by
 have h:=(sthr_d l hl t ht ins s hs ho).ren (ren2 kw kb) (by simp[renOk,swE,D.ok,D.oks,rnames,inN,ckey,eTm_ok,eTms_ok,eTys_ok,ePairs_ok]) (by
  intro k h1 k' h2
  simp[rnames,swE] at h1 h2
  rcases h1 with rfl | rfl <;> rcases h2 with rfl | rfl <;> simp[ren2,hk,hk.symm])
 simpa[D.ren,eTm_ren,eTms_ren,ePairs_ren,swE,swR,renE,Key.ren,ren2] using h
theorem app_1 {l:List (Int×Tm)}{t:Tm}{left:Int}{dry:Bool}(h:Sb.right l=false):Sb.apply l t left dry=(Nm.tz,⟨left,dry,0,1⟩):=if_pos h
theorem app_2 {l:List (Int×Tm)}{t:Tm}{left:Int}{dry:Bool}(h:Sb.right l=true):Sb.apply l t left dry =
  (let r:=Sb.through l t 0 ⟨left,dry,0,0⟩;let s:Nm.St:=if r.2.e=0∧¬ (r.1.size≤5000∧r.1.depth≤60) then { r.2 with e:=2 } else r.2;if s.e≠0 then (Nm.tz,s) else (r.1,s)):=if_neg (by rw[h];simp)
def endA (t:Tm)(s:Nm.St):Tm×Nm.St:=let s':Nm.St:=if s.e=0∧¬ (t.size≤5000∧t.depth≤60) then { s with e:=2 } else s;if s'.e≠0 then (Nm.tz,s') else (t,s')
theorem end_1 {t:Tm}(h:t.size≤5000∧t.depth≤60)(l:Int)(d:Bool)(c:Int):endA t ⟨l,d,c,0⟩=(t,⟨l,d,c,0⟩):=by
 have:¬ ((0:Int)=0∧¬ (t.size≤5000∧t.depth≤60)):=fun h'=>h'.2 h
 unfold endA;dsimp only;rw[if_neg this];simp
theorem end_2 {t:Tm}(h:¬ (t.size≤5000∧t.depth≤60))(l:Int)(d:Bool)(c:Int):endA t ⟨l,d,c,0⟩=(Nm.tz,⟨l,d,c,2⟩):=by
 have:(0:Int)=0∧¬ (t.size≤5000∧t.depth≤60):=⟨rfl,h⟩
 unfold endA;dsimp only;rw[if_pos this];rfl
theorem end_3 {t:Tm}{e:Int}(h:e≠0)(l:Int)(d:Bool)(c:Int):endA t ⟨l,d,c,e⟩=(Nm.tz,⟨l,d,c,e⟩):=by
 have:¬ (e=0∧¬ (t.size≤5000∧t.depth≤60)):=fun h'=>h h'.1
 unfold endA;dsimp only;rw[if_neg this];exact if_pos h
set_option maxHeartbeats 1000000 in
theorem apply_d (l:List (Int×Tm))(hl:l.length≤1000000)(t:Tm)(ht:Wide t)(left:Int)(dry:Bool)(h0:0≤left∧left≤1000000000)(ho:Sb.right l=true→thOk l t 0 ⟨left,dry,0,0⟩∧((Sb.through l t 0 ⟨left,dry,0,0⟩).2.e=0→DoneOk (Sb.through l t 0 ⟨left,dry,0,0⟩).1)):
  CallC Tryz.prog 18 [.sl 5 (ePairs l) none,.ag (eTm t),.o 1] [(.o 1,.ob (BudJ left dry))] [(.o 1,.ob (BudJ (Sb.apply l t left dry).2.left (Sb.apply l t left dry).2.dry))] (.tu [.ag (eTm (Sb.apply l t left dry).1),.v (.int .i64 (Sb.apply l t left dry).2.e)]):=by
 obtain⟨p,hp⟩:∃ p,Sb.apply l t left dry=p:=⟨_,rfl⟩
 rw[hp]
 have hrt:=sright_d l hl
 have hth:=fun h=>sthr_at 15 1 (by decide) l hl t ht 0 ⟨left,dry,0,0⟩ h0 (ho h).1
 rw[eTm_eq t] at hth ⊢
 refine call_of_dw 2 50 [ResultVar.cell 6 41,ResultVar.tmp 7] TS2_ok (by kernel_rfl) Tryz.func18 rfl Tryz.ntmps18 rfl (by simp) ?dwords ?dbody
 case dwords=>simp[wordsOk,D.ok,D.oks,rnames,inN,ckey,eTm_ok,eTms_ok,eTys_ok,ePairs_ok]
 case dbody=>
  intro cx hnt hn0
  refine dw_seq ?_;refine dwk [] TS2_ok hnt fun _ z9=>z9 _ _ ?_;refine dw_seq (dw_seq ?_)
  cases hr:Sb.right l with
  | false=>
   rw[hr] at hrt
   rw[app_1 hr] at hp
   subst hp
   refine dwk [] TS2_ok hnt fun K hK=>?_;refine dcl (hrt) ?_;refine hK _ _ ?_;clear hK K;refine dw_cond (t:=true) rfl ?_;rw[if_pos rfl];refine dw_seq ?_;refine dwk [] TS2_ok hnt fun _ z9=>z9 _ _ ?_;refine dw_ret ?_
   rw[tz_eq]
   exact retv (N:=0) (.inr rfl) rfl (by repeat first | exact VLe.refl _ | exact VLe.nil _ | exact VLe.untag _ _ _ | refine VLe.ag ?_ | refine VLe.tu ?_ | refine VLeL.cons ?_ ?_ | exact VLeL.nil) (by repeat first | exact trivial | refine And.intro rfl ?_)
  | true=>
   rw[hr] at hrt
   have ho:=(ho hr).2
   have hth:=hth hr
   rw[app_2 hr] at hp
   obtain⟨r,hrr⟩:∃ r,Sb.through l t 0 ⟨left,dry,0,0⟩=r:=⟨_,rfl⟩
   rw[hrr] at hp ho hth
   have hp:endA r.1 r.2=p:=hp
   clear hrr
   obtain⟨u,s1⟩:=r
   obtain⟨left',dry',count,er⟩:=s1
   dsimp only at hp ho hth
   refine dwk [] TS2_ok hnt fun K hK=>?_;refine dcl (hrt) ?_;refine hK _ _ ?_;clear hK K;refine dw_cond (t:=false) rfl ?_;rw[if_neg (by simp)];refine dw_skip ?_;refine dw_seq ?_;refine dwk [] TS2_ok hnt fun _ z9=>z9 _ _ ?_;refine dw_seq ?_
   have hru:er=0→PureC Tryz.prog 61 [.ag (eTm u)] (.v (.bool (decide (u.size≤5000∧u.depth≤60)))):=fun h=>right_d u (by have:=(ho h).right;omega)
   have hcu:er=0→(u.size≤5000∧u.depth≤60)→PureC Tryz.prog 66 [.ag (eTm u)] (.ag (eTm u)):=fun h h'=>copyW_d u ((ho h).copy h').1 ((ho h).copy h').2
   rw[eTm_eq u] at hth hru hcu
   refine dwk [] TS2_ok hnt fun K hK=>?_;refine dcl (hth) ?_;refine hK _ _ ?_;clear hK K;refine dw_seq (dw_seq ?_)
   by_cases he:er=0
   ·subst he
    have hru:=hru rfl
    by_cases hR:u.size≤5000∧u.depth≤60
    ·have hcu:=hcu rfl hR
     rw[end_1 hR] at hp
     subst hp
     rw[decide_eq_true hR] at hru
     refine dwk [(29,.v (.bool true))] TS2_ok hnt fun K hK=>?_;refine And.intro (VLe.refl _) ?_;refine dcl (hru) ?_;refine hK _ _ ?_;clear hK K;refine dw_cond (t:=false) rfl ?_;rw[if_neg (by simp)];refine dw_skip ?_;refine dw_seq (dw_seq ?_);refine dwk [(42,.v (.bool false))] TS2_ok hnt fun K hK=>?_;refine And.intro (VLe.refl _) ?_;refine hK _ _ ?_;clear hK K;refine dw_cond (t:=false) rfl ?_
     rw[if_neg (by simp)];refine dw_skip ?_;refine dw_seq ?_;refine dwk [] TS2_ok hnt fun K hK=>?_;refine dcl (hcu) ?_;refine hK _ _ ?_;clear hK K;refine dw_ret ?_
     rw[eTm_eq]
     exact retv (N:=0) (.inr rfl) rfl (by repeat first | exact VLe.refl _ | exact VLe.nil _ | exact VLe.untag _ _ _ | refine VLe.ag ?_ | refine VLe.tu ?_ | refine VLeL.cons ?_ ?_ | exact VLeL.nil) (by repeat first | exact trivial | refine And.intro rfl ?_)
    ·rw[end_2 hR] at hp
     subst hp
     rw[decide_eq_false hR] at hru
     refine dwk [(29,.v (.bool true))] TS2_ok hnt fun K hK=>?_;refine And.intro (VLe.refl _) ?_;refine dcl (hru) ?_;refine hK _ _ ?_;clear hK K;refine dw_cond (t:=true) rfl ?_;rw[if_pos rfl];refine dwk [] TS2_ok hnt fun _ z9=>z9 _ _ ?_;refine dw_seq (dw_seq ?_);refine dwk [(42,.v (.bool true))] TS2_ok hnt fun K hK=>?_;refine And.intro (VLe.refl _) ?_;refine hK _ _ ?_;clear hK K
     refine dw_cond (t:=true) rfl ?_;rw[if_pos rfl];refine dw_seq ?_;refine dwkD [] TS2_ok hnt fun K hK=>?_;refine hK _ _ (by kernel_rfl) ?_;clear hK K;refine dw_ret ?_
     rw[tz_eq]
     exact retv (N:=0) (.inr rfl) rfl (by repeat first | exact VLe.refl _ | exact VLe.nil _ | exact VLe.untag _ _ _ | refine VLe.ag ?_ | refine VLe.tu ?_ | refine VLeL.cons ?_ ?_ | exact VLeL.nil) (by repeat first | exact trivial | refine And.intro rfl ?_)
   ·rw[end_3 he] at hp
    subst hp
    refine dwk [(29,.v (.bool false))] TS2_ok hnt fun K hK=>?_;refine And.intro (VLe.of_eq (by simp[he])) ?_;refine hK _ _ ?_;clear hK K;refine dw_cond (t:=false) rfl ?_;rw[if_neg (by simp)];refine dw_skip ?_;refine dw_seq (dw_seq ?_);refine dwk [(42,.v (.bool true))] TS2_ok hnt fun K hK=>?_;refine And.intro (VLe.of_eq (by simp[he])) ?_;refine hK _ _ ?_;clear hK K;refine dw_cond (t:=true) rfl ?_
    rw[if_pos rfl];refine dw_seq ?_;refine dwkD [] TS2_ok hnt fun K hK=>?_;refine hK _ _ (by kernel_rfl) ?_;clear hK K;refine dw_ret ?_
    rw[tz_eq]
    exact retv (N:=0) (.inr rfl) rfl (by repeat first | exact VLe.refl _ | exact VLe.nil _ | exact VLe.untag _ _ _ | refine VLe.ag ?_ | refine VLe.tu ?_ | refine VLeL.cons ?_ ?_ | exact VLeL.nil) (by repeat first | exact trivial | refine And.intro rfl ?_)
def TK9_41:TI:=⟨4,true,[Value.slice none 0 0,Value.int IntKind.i64 0,Value.int IntKind.i64 0,Value.slice none 0 0],[(0,1,false),(1,2,true),(3,1,false)],none,64,6,none,false⟩
theorem TK9_41_ok:TypOk Tryz.prog 41 TK9_41:=by constructor <;> kernel_rfl
def TK9_39:TI:=⟨1,false,[Value.slice none 0 0],[],some 41,24,5,none,false⟩
theorem TK9_39_ok:TypOk Tryz.prog 39 TK9_39:=by constructor <;> kernel_rfl
def TK9_44:TI:=⟨2,true,[Value.slice none 0 0,Value.int IntKind.i64 0],[(0,1,false),(1,1,false)],none,32,6,none,false⟩
theorem TK9_44_ok:TypOk Tryz.prog 44 TK9_44:=by constructor <;> kernel_rfl
def TK9_38:TI:=⟨2,true,[Value.int IntKind.i64 0,Value.int IntKind.i64 0],[(0,1,false),(1,1,false)],none,16,6,none,true⟩
theorem TK9_38_ok:TypOk Tryz.prog 38 TK9_38:=by constructor <;> kernel_rfl
def TK9_33:TI:=⟨1,false,[Value.slice none 0 0],[],some 44,24,5,none,false⟩
theorem TK9_33_ok:TypOk Tryz.prog 33 TK9_33:=by constructor <;> kernel_rfl
def TK9_51:TI:=⟨1,false,[Value.slice none 0 0],[],some 79,24,5,none,false⟩
theorem TK9_51_ok:TypOk Tryz.prog 51 TK9_51:=by constructor <;> kernel_rfl
def TK9_3:TI:=⟨1,false,[Value.int IntKind.i64 0],[],none,8,2,none,false⟩
theorem TK9_3_ok:TypOk Tryz.prog 3 TK9_3:=by constructor <;> kernel_rfl
def TK9_79:TI:=⟨5,true,[Value.int IntKind.i64 0,Value.slice none 0 0,Value.int IntKind.i64 0,Value.int IntKind.i64 0,Value.slice none 0 0],[(0,1,false),(1,4,true)],none,72,6,none,false⟩
theorem TK9_79_ok:TypOk Tryz.prog 79 TK9_79:=by constructor <;> kernel_rfl
def TK9_45:TI:=⟨1,false,[Value.int IntKind.i64 0],[],none,8,2,none,false⟩
theorem TK9_45_ok:TypOk Tryz.prog 45 TK9_45:=by constructor <;> kernel_rfl
def TK9_56:TI:=⟨1,false,[Value.pointer none],[],none,8,4,none,false⟩
theorem TK9_56_ok:TypOk Tryz.prog 56 TK9_56:=by constructor <;> kernel_rfl
def TK9:List (Nat×TI):=[(41,TK9_41),(39,TK9_39),(44,TK9_44),(38,TK9_38),(33,TK9_33),(51,TK9_51),(3,TK9_3),(79,TK9_79),(45,TK9_45),(56,TK9_56)]
theorem TK9_ok:TabOk Tryz.prog TK9:=(((((((((((TabOk.nil _).cons TK9_56_ok).cons TK9_45_ok).cons TK9_79_ok).cons TK9_3_ok).cons TK9_51_ok).cons TK9_33_ok).cons TK9_38_ok).cons TK9_44_ok).cons TK9_39_ok).cons TK9_41_ok)
theorem kA_fit:∀ t:Tm,t.full≤100→t.Fit→DoneOk t:=fun t h hf=>⟨by omega,fun _=>⟨by omega,hf⟩⟩
theorem wide_leaf (b:List Ty)(k i:Int)(h:b.length≤100000):Wide (.mk b k i []):=.mk _ _ _ _ h (by simp) fun t h=>by cases h
theorem wide_one (b:List Ty)(k i:Int)(t:Tm)(h:b.length≤100000)(ht:Wide t):Wide (.mk b k i [t]):=.mk _ _ _ _ h (by simp) fun u h=>by
 simp at h;subst h;exact ht
theorem kZ_wide:Wide Sb.kZ:=wide_leaf _ _ _ (by decide)
theorem kF_wide:Wide Sb.kF:=wide_one _ _ _ _ (by decide) (wide_leaf _ _ _ (by decide))
theorem k_q1:Sb.throughs [(0,Sb.kF)] [Sb.kZ] 0 ⟨18,false,0,0⟩=([Sb.kZ],⟨17,false,0,0⟩):=by kernel_rfl
theorem k_q2:Sb.throughs [(0,Sb.kF)] [Sb.kX [Sb.kZ]] 0 ⟨19,false,0,0⟩=([Sb.kC [Sb.kZ]],⟨14,false,0,0⟩):=by kernel_rfl
theorem k_p1:(Nm.put 100001 Sb.kF [Sb.kZ] ⟨17,false,0,0⟩).1=Sb.kC [Sb.kZ]:=by kernel_rfl
theorem k_p2:(Nm.put 100001 Sb.kF [Sb.kC [Sb.kZ]] ⟨14,false,0,0⟩).1=Sb.kC [Sb.kC [Sb.kZ]]:=by kernel_rfl
theorem k_t:Sb.through [(0,Sb.kF)] (Sb.kX [Sb.kX [Sb.kZ]]) 0 ⟨20,false,0,0⟩=(Sb.kC [Sb.kC [Sb.kZ]],⟨(Sb.through [(0,Sb.kF)] (Sb.kX [Sb.kX [Sb.kZ]]) 0 ⟨20,false,0,0⟩).2.left,false,0,0⟩):=by kernel_rfl
theorem k_find {u:Tm}(h:Sb.find [(0,Sb.kF)] 0=some u):u=Sb.kF:=by
 have:Sb.find [(0,Sb.kF)] 0=some Sb.kF:=by rfl
 rw[this] at h;cases h;rfl
theorem kZ_fit:Sb.kZ.Fit:=.mk _ _ _ _ (by decide) (by decide) fun t h=>by cases h
theorem kC_fit (t:Tm)(h:t.Fit):(Sb.kC [t]).Fit:=.mk _ _ _ _ (by decide) (by decide) fun u hu=>by
 simp at hu;subst hu;exact h
theorem k_done1:DoneOk (Sb.kC [Sb.kZ]):=kA_fit _ (by decide) (kC_fit _ kZ_fit)
theorem k_done2:DoneOk (Sb.kC [Sb.kC [Sb.kZ]]):=kA_fit _ (by decide) (kC_fit _ (kC_fit _ kZ_fit))
theorem k_rep1:repOk [(0,Sb.kF)] 2 0 0 (Sb.throughs [(0,Sb.kF)] [Sb.kZ] 0 ⟨18,false,0,0⟩):=by
 rw[k_q1]
 intro _ _ u hu
 have:=k_find hu;subst this
 have hl:Nm.lift 0 Sb.kF 0=Sb.kF:=by kernel_rfl
 rw[hl]
 refine⟨kF_wide,kF_wide,fun a h=>by simp at h;subst h;exact kZ_wide,fun _ _=>?_⟩
 dsimp only
 rw[k_p1];exact k_done1
theorem k_rep2:repOk [(0,Sb.kF)] 2 0 0 (Sb.throughs [(0,Sb.kF)] [Sb.kX [Sb.kZ]] 0 ⟨19,false,0,0⟩):=by
 rw[k_q2]
 intro _ _ u hu
 have:=k_find hu;subst this
 have hl:Nm.lift 0 Sb.kF 0=Sb.kF:=by kernel_rfl
 rw[hl]
 refine⟨kF_wide,kF_wide,fun a h=>by simp at h;subst h;exact wide_one _ _ _ _ (by decide) kZ_wide,fun _ _=>?_⟩
 dsimp only
 rw[k_p2];exact k_done2
theorem k_th:thOk [(0,Sb.kF)] (Sb.kX [Sb.kX [Sb.kZ]]) 0 ⟨20,false,0,0⟩:=by
 have hz:thOk [(0,Sb.kF)] Sb.kZ 0 ⟨18,false,0,0⟩:=by
  rw[Sb.kZ,thOk]
  intro _ _
  exact⟨by rw[thOks];trivial,fun h=>by cases h⟩
 have hx:thOk [(0,Sb.kF)] (Sb.kX [Sb.kZ]) 0 ⟨19,false,0,0⟩:=by
  rw[Sb.kX,thOk]
  intro _ _
  have e:Nm.wr (0+(([]:List Ty).length:Int))=0:=by kernel_rfl
  have e2:(Nm.spend ⟨19,false,0,0⟩).2=⟨18,false,0,0⟩:=by kernel_rfl
  rw[e,e2]
  exact⟨by rw[thOks,thOks];exact⟨hz,trivial⟩,k_rep1⟩
 rw[Sb.kX,thOk]
 intro _ _
 have e:Nm.wr (0+(([]:List Ty).length:Int))=0:=by kernel_rfl
 have e2:(Nm.spend ⟨20,false,0,0⟩).2=⟨19,false,0,0⟩:=by kernel_rfl
 rw[e,e2]
 exact⟨by rw[thOks,thOks];exact⟨hx,trivial⟩,k_rep2⟩
theorem apply_at (kb:Nat)(l:List (Int×Tm))(hl:l.length≤1000000)(t:Tm)(ht:Wide t)(left:Int)(dry:Bool)(h0:0≤left∧left≤1000000000)(ho:Sb.right l=true→thOk l t 0 ⟨left,dry,0,0⟩∧((Sb.through l t 0 ⟨left,dry,0,0⟩).2.e=0→DoneOk (Sb.through l t 0 ⟨left,dry,0,0⟩).1)):
  CallC Tryz.prog 18 [.sl 5 (ePairs l) none,.ag (eTm t),.o kb] [(.o kb,.ob (BudJ left dry))] [(.o kb,.ob (BudJ (Sb.apply l t left dry).2.left (Sb.apply l t left dry).2.dry))] (.tu [.ag (eTm (Sb.apply l t left dry).1),.v (.int .i64 (Sb.apply l t left dry).2.e)]):=by
 have h:=(apply_d l hl t ht left dry h0 ho).ren (fun _=>kb) (by simp[renOk,D.ok,D.oks,rnames,inN,ckey,eTm_ok,ePairs_ok]) (by
  intro k h1 k' h2 _
  simp[rnames] at h1 h2
  rw[h1,h2])
 simpa[D.ren,D.rens,eTm_ren,ePairs_ren,renE,Key.ren] using h
theorem equal_d (t:Tm):PureC Tryz.prog 20 [.ag (eTm t),.ag (eTm t)] (.v (.bool true)):=by
 refine pure_below (by kernel_rfl) fun m Im w vs hv=>?_
 match vs,hv with
 | [x,y],hv=>
  obtain⟨b,k,i,a,rfl,ht⟩:=agTm hv.1
  obtain⟨b',k',i',a',rfl,ht'⟩:=agTm hv.2.1
  refine(equal6_k t _ _ _ _ _ _ ht _ _ _ _ _ _ t ht' w (Keep.refl _ _) (Keep.refl _ _)).mono ?_
  rintro e w' ⟨b,hb,rfl,h2⟩
  rw[hb.2 rfl]
  exact⟨_,rfl,h2,fun Im' _ hI=>.v _⟩
theorem kindOf_d:PureC Tryz.prog 56 [.v (.int .i64 0),.v (.slice none 0 0)] (.ag (eTy Sb.kA)):=by
 refine pure_below (by kernel_rfl) fun m Im w vs hv=>?_
 match vs,hv with
 | [x,y],hv=>
  have:=rel_v.1 hv.1;subst this
  have:=rel_v.1 hv.2.1;subst this
  refine(of_k 0 (isSl_nil rpTy (fun _=>True) w) (by decide)).mono ?_
  rintro e w' ⟨s,b,rfl,h1,h2⟩
  exact⟨_,rfl,h2,fun Im' _ hI=>rel_ag.2 ⟨_,rfl,rel_of_ty (fun b o v hb hc=>hI b o v hb hc) _ h1⟩⟩
theorem k1_d (l:List Tm):PureC Tryz.prog 79 [.sl 4 (eTms l) none] (.ag (eTm (Sb.kC l))):=by
 refine call_of_dw 0 6 [ResultVar.cell 2 41] TK9_ok (by kernel_rfl) Tryz.func79 rfl Tryz.ntmps79 rfl (by simp) ?dwords ?dbody
 case dwords=>simp[wordsOk,D.ok,D.oks,rnames,eTm_ok,eTms_ok]
 case dbody=>
  intro cx hnt hn0
  refine dw_seq ?_;refine dwk [] TK9_ok hnt fun _ z9=>z9 _ _ ?_;refine dw_seq ?_;refine dwk [] TK9_ok hnt fun _ z9=>z9 _ _ ?_;refine dw_ret ?_
  exact retv (N:=0) (.inr rfl) rfl (by repeat first | exact VLe.refl _ | exact VLe.nil _ | exact VLe.untag _ _ _ | refine VLe.ag ?_ | refine VLe.tu ?_ | refine VLeL.cons ?_ ?_ | exact VLeL.nil) trivial
theorem k2_d (l:List Tm):PureC Tryz.prog 80 [.sl 4 (eTms l) none] (.ag (eTm (Sb.kX l))):=by
 refine call_of_dw 0 6 [ResultVar.cell 2 41] TK9_ok (by kernel_rfl) Tryz.func80 rfl Tryz.ntmps80 rfl (by simp) ?dwords ?dbody
 case dwords=>simp[wordsOk,D.ok,D.oks,rnames,eTm_ok,eTms_ok]
 case dbody=>
  intro cx hnt hn0
  refine dw_seq ?_;refine dwk [] TK9_ok hnt fun _ z9=>z9 _ _ ?_;refine dw_seq ?_;refine dwk [] TK9_ok hnt fun _ z9=>z9 _ _ ?_;refine dw_ret ?_
  exact retv (N:=0) (.inr rfl) rfl (by repeat first | exact VLe.refl _ | exact VLe.nil _ | exact VLe.untag _ _ _ | refine VLe.ag ?_ | refine VLe.tu ?_ | refine VLeL.cons ?_ ?_ | exact VLeL.nil) trivial
set_option maxHeartbeats 1000000 in
theorem known09_d:PureC Tryz.prog 26 [] (.v (.bool true)):=by
 have hap:=fun kb=>apply_at kb [(0,Sb.kF)] (by decide) (Sb.kX [Sb.kX [Sb.kZ]]) (wide_one _ _ _ _ (by decide) (wide_one _ _ _ _ (by decide) kZ_wide)) 20 false ⟨by decide,by decide⟩ fun _=>⟨k_th,fun _=>by rw[k_t];exact k_done2⟩
 rw[Sb.known_is,Sb.known_ok] at hap
 obtain⟨bl,hbl⟩:∃ bl,(Sb.apply [(0,Sb.kF)] (Sb.kX [Sb.kX [Sb.kZ]]) 20 false).2=bl:=⟨_,rfl⟩
 rw[hbl] at hap
 clear hbl
 have hof:=kindOf_d
 refine call_of_dw 0 46 [ResultVar.tmp 0] TK9_ok (by kernel_rfl) Tryz.func26 rfl Tryz.ntmps26 rfl (by simp) ?dwords ?dbody
 case dwords=>rfl
 case dbody=>
  intro cx hnt hn0
  refine dw_seq ?_;refine dwk [] TK9_ok hnt fun _ z9=>z9 _ _ ?_;refine dw_seq ?_;refine dwk [] TK9_ok hnt fun K hK=>?_;refine dcl (hof) ?_;refine hK _ _ ?_;clear hK K;refine dw_seq ?_;refine dwk [] TK9_ok hnt fun _ z9=>z9 _ _ ?_;refine dw_seq ?_;refine dwk [] TK9_ok hnt fun _ z9=>z9 _ _ ?_;refine dw_seq ?_;refine dwk [] TK9_ok hnt fun K hK=>?_
  refine hK _ _ ?_;clear hK K;refine dw_seq ?_;refine dwk [(12,.ag [.sl 2 [] none,.v (.int .i64 0),.v (.int .i64 0),.sl 4 [] none]),(13,.sl 4 (eTms [Nm.tz]) none)] TK9_ok hnt fun K hK=>?_;refine And.intro (auV) ?_;refine And.intro (VLe.untag _ _ _) ?_;refine dcl (k1_d [Nm.tz]) ?_;refine hK _ _ ?_;clear hK K;refine dw_seq ?_;refine dwk [(16,.sl 2 (eTys [Sb.kA]) none)] TK9_ok hnt fun K hK=>?_
  refine And.intro (VLe.untag _ _ _) ?_;refine hK _ _ ?_;clear hK K;refine dw_seq ?_;refine dwkD [(21,.sl 5 (ePairs [(0,Sb.kF)]) none),(24,.ag [.sl 2 [] none,.v (.int .i64 1),.v (.int .i64 0),.sl 4 [] none]),(25,.sl 4 (eTms [Sb.kZ]) none),(27,.sl 4 (eTms [Sb.kX [Sb.kZ]]) none)] TK9_ok hnt fun K hK=>?_;refine And.intro (VLe.untag _ _ _) ?_;refine And.intro (auV) ?_;refine And.intro (VLe.untag _ _ _) ?_
  refine dcl (k2_d [Sb.kZ]) ?_;refine And.intro (VLe.untag _ _ _) ?_;refine dcl (k2_d [Sb.kX [Sb.kZ]]) ?_;refine dcn (new_d 20 (by decide) _) ?_;refine dcl (hap _) ?_;refine hK _ _ (by kernel_rfl) ?_;clear hK K;refine dw_seq ?_;refine dwkD [(39,.ag [.sl 2 [] none,.v (.int .i64 1),.v (.int .i64 0),.sl 4 [] none]),(40,.sl 4 (eTms [Sb.kZ]) none),(42,.sl 4 (eTms [Sb.kC [Sb.kZ]]) none)] TK9_ok hnt fun K hK=>?_
  refine And.intro (auV) ?_;refine And.intro (VLe.untag _ _ _) ?_;refine dcl (k1_d [Sb.kZ]) ?_;refine And.intro (VLe.untag _ _ _) ?_;refine dcl (k1_d [Sb.kC [Sb.kZ]]) ?_;refine dcl (equal_d (Sb.kC [Sb.kC [Sb.kZ]])) ?_;refine hK _ _ (by kernel_rfl) ?_;clear hK K;refine dw_ret ?_
  exact retv (N:=0) (.inr rfl) rfl (VLe.refl _) trivial
namespace Ru
end Ru
theorem apply_left {l:List (Int×Tm)}{t:Tm}{left:Int}{dry:Bool}(h:0≤left∧left≤1000000000):0≤(Sb.apply l t left dry).2.left∧(Sb.apply l t left dry).2.left≤1000000000:=by
 unfold Sb.apply
 split
 ·exact h
 ·have h1:=through_in l t 0 ⟨left,dry,0,0⟩ h
  dsimp only
  generalize Sb.through l t 0 ⟨left,dry,0,0⟩=r at h1
  by_cases hc:r.2.e=0∧¬ (r.1.size≤5000∧r.1.depth≤60)
  ·rw[if_pos hc];split <;> exact h1
  ·rw[if_neg hc];split <;> exact h1
theorem apply_less {l:List (Int×Tm)}{t:Tm}{left:Int}{dry:Bool}{B:Nat}(hl:∀ p∈l,Bnd B p.2)(ht:Bnd B t)(h:0≤left∧left≤1000000000):(Sb.apply l t left dry).2.e=0→(Sb.apply l t left dry).2.left≤left∧((Sb.apply l t left dry).1.size≤5000∧(Sb.apply l t left dry).1.depth≤60)∧Bnd B (Sb.apply l t left dry).1:=by
 unfold Sb.apply
 by_cases hr:Sb.right l=false
 ·rw[if_pos hr];intro e;cases e
 ·rw[if_neg hr]
  have h1:=Sb.grow l hl t ht 0 ⟨left,dry,0,0⟩ h
  dsimp only
  generalize Sb.through l t 0 ⟨left,dry,0,0⟩=r at h1
  by_cases hc:r.2.e=0∧¬ (r.1.size≤5000∧r.1.depth≤60)
  ·rw[if_pos hc]
   rw[if_pos (by show (2:Int)≠0;decide)]
   intro e;cases e
  ·rw[if_neg hc]
   by_cases hp:r.2.e=0
   ·rw[if_neg (fun h=>h hp)]
    intro _
    have h2:=h1 hp
    have h3:=Tm.size_pos r.1
    refine⟨by have:=h2.2.1;dsimp only at this ⊢;omega,?_,h2.2.2⟩
    by_cases h5:r.1.size≤5000∧r.1.depth≤60
    ·exact h5
    ·exact absurd ⟨hp,h5⟩ hc
   ·rw[if_pos hp]
    intro e;exact absurd e hp
namespace Sb
def cstep (u:List (Int×Tm))(r:List (Int×Tm)×Nm.St)(p:Int×Tm):List (Int×Tm)×Nm.St:=
 if r.2.e≠0 then r else (r.1++[(p.1,(apply u p.2 r.2.left r.2.dry).1)],(apply u p.2 r.2.left r.2.dry).2)
def cgo (u s:List (Int×Tm))(left:Int)(dry:Bool):List (Int×Tm)×Nm.St:=s.foldl (cstep u) (So.ss (kept (s.map (·.1)) u),⟨left,dry,0,0⟩)
def compose (u s:List (Int×Tm))(left:Int)(dry:Bool):List (Int×Tm)×Int:=
 if right s=false∨right u=false then ([],1) else if (cgo u s left dry).2.e≠0 then ([],(cgo u s left dry).2.e) else (So.ss (cgo u s left dry).1,0)
theorem apply_not {l:List (Int×Tm)}{t:Tm}{left:Int}{dry:Bool}(h:(apply l t left dry).2.e≠0):(apply l t left dry).1=Nm.tz:=by
 unfold apply at h ⊢
 by_cases hr:right l=false
 ·rw[if_pos hr]
 ·rw[if_neg hr] at h ⊢
  dsimp only at h ⊢
  generalize through l t 0 ⟨left,dry,0,0⟩=r at h ⊢
  by_cases hc:r.2.e=0∧¬ (r.1.size≤5000∧r.1.depth≤60)
  ·rw[if_pos hc]
   exact if_pos (α:=Tm×Nm.St) (t:=(Nm.tz,{ r.2 with e:=2 })) (e:=(r.1,{ r.2 with e:=2 })) (show (2:Int)≠0 by decide) ▸ rfl
  ·rw[if_neg hc] at h ⊢
   by_cases hr2:r.2.e=0
   ·rw[if_neg (fun h=>h hr2)] at h;exact absurd hr2 h
   ·rw[if_pos hr2]
variable {C M:List Ty}
def Ok (C M:List Ty)(l:List (Int×Tm)):Prop:=∀ q∈l,(∃ h,headTy C M [] 2 q.1=some h∧IsOf C M q.2 [] h)∧Bnd 150 q.2∧q.2.full≤1000000
theorem full_of {t:Tm}(h:Bnd 150 t)(hs:t.size≤5000):t.full≤755000:=by
 have h1:=Bnd.full t h
 have h2:t.size * (150+1)≤5000 * 151:=Nat.mul_le_mul hs (by decide)
 omega
theorem cfold {u:List (Int×Tm)}(hu:Ok C M u)(hr:right u=true):∀ (s o:List (Int×Tm)) (st:Nm.St),Ok C M s→(0≤st.left∧st.left≤1000000000)→(s.foldl (cstep u) (o,st)).2.e=0 →
  st.e=0∧(s.foldl (cstep u) (o,st)).1=o++s.map (fun p=>(p.1,Hs.T 100002 (find u) p.2 0))∧∀ p∈s,(∃ h,headTy C M [] 2 p.1=some h∧IsOf C M (Hs.T 100002 (find u) p.2 0) [] h)∧Bnd 150 (Hs.T 100002 (find u) p.2 0)∧(Hs.T 100002 (find u) p.2 0).full≤755000∧(Hs.T 100002 (find u) p.2 0).size≤5000
 | [],o,st,_,_,he=>⟨he,by simp,fun p hp=>by cases hp⟩
 | p :: s,o,st,hs,h0,he=>by
  rw[List.foldl_cons] at he ⊢
  by_cases he0:st.e=0
  ·have hst:cstep u (o,st) p=(o++[(p.1,(apply u p.2 st.left st.dry).1)],(apply u p.2 st.left st.dry).2):=by unfold cstep;rw[if_neg (fun h=>h he0)]
   rw[hst] at he ⊢
   have hp:=hs p (by simp)
   have hl:=apply_left (l:=u) (t:=p.2) (left:=st.left) (dry:=st.dry) h0
   have hle:=apply_less (l:=u) (t:=p.2) (left:=st.left) (dry:=st.dry) (fun q hq=>(hu q hq).2.1) hp.2.1 h0
   obtain⟨h,hh,hty⟩:=hp.1
   have hk:=apply_keeps (C:=C) (M:=M) (B:=150) (by decide) u [] hr hu p.2 h hty hp.2.1 (by have:=hp.2.2;simp only[List.length_nil];omega) st.left st.dry h0
   have hT:=fun z w ha he=>Hs.apply_T (C:=C) (M:=M) (B:=150) (by decide) (l:=u) (X0:=[]) hu (t:=p.2) (z:=z) (u:=h) (left:=st.left) (dry:=st.dry) (st:=w) hty hp.2.1 (by have:=hp.2.2;simp only[List.length_nil];omega) h0 ha he
   obtain⟨⟨z,w⟩,ha⟩:∃ r,apply u p.2 st.left st.dry=r:=⟨_,rfl⟩
   rw[ha] at he hl hle hk ⊢
   obtain⟨h1,h2,h3⟩:=cfold hu hr s _ w (fun q hq=>hs q (by simp[hq])) hl he
   have hz:=hT z w ha h1
   refine⟨he0,?_,fun q hq=>?_⟩
   ·rw[h2,List.map_cons,←hz,List.append_assoc];rfl
   ·rcases List.mem_cons.1 hq with rfl | hq
    ·rw[←hz]
     exact⟨⟨h,hh,hk.2 h1⟩,(hle h1).2.2,full_of (hle h1).2.2 (hle h1).2.1.1,(hle h1).2.1.1⟩
    ·exact h3 q hq
  ·have hst:cstep u (o,st) p=(o,st):=by unfold cstep;rw[if_pos he0]
   rw[hst] at he
   exact absurd (cfold hu hr s o st (fun q hq=>hs q (by simp[hq])) h0 he).1 he0
theorem del_mem (m:List Int)(p:Int×Tm):del m p=true↔p.1∈m:=by
 unfold del
 rw[List.any_eq_true]
 exact⟨fun⟨x,h1,h2⟩=>by rw[decide_eq_true_eq] at h2;exact h2 ▸ h1,fun h=>⟨_,h,by simp⟩⟩
theorem find_app (l r:List (Int×Tm))(m:Int):find (l++r) m=(find l m).or (find r m):=by
 unfold find
 rw[List.find?_append]
 cases l.find? (fun p=>p.1==m) <;> rfl
theorem find_kept (m:List Int)(l:List (Int×Tm))(i:Int):find (kept m l) i=if i∈m then none else find l i:=by
 unfold find kept
 rw[List.find?_filter]
 by_cases hi:i∈m
 ·rw[if_pos hi,List.find?_eq_none.2 (fun p hp h=>by
   have h:=of_decide_eq_true h
   have h2:p.1=i:=by simpa using h.2
   have h3:del m p=true:=(del_mem m p).2 (h2 ▸ hi)
   rw[h3] at h;exact absurd h.1 (by decide))]
  rfl
 ·rw[if_neg hi]
  congr 2
  funext p
  by_cases h2:p.1=i
  ·have h3:del m p=false:=by
    cases hd:del m p with
    | false=>rfl
    | true=>exact absurd ((del_mem m p).1 hd) (h2 ▸ hi)
   simp[h3,h2]
  ·simp[h2]
theorem find_map (w:Tm→Tm)(i:Int):∀ s:List (Int×Tm),find (s.map fun p=>(p.1,w p.2)) i=(find s i).map w
 | []=>rfl
 | p :: s=>by
  unfold find
  rw[List.map_cons]
  by_cases h:p.1=i
  ·rw[List.find?_cons_of_pos (by simpa using h),List.find?_cons_of_pos (by simpa using h)];rfl
  ·rw[List.find?_cons_of_neg (by simpa using h),List.find?_cons_of_neg (by simpa using h)]
   exact find_map w i s
theorem find_dom {s:List (Int×Tm)}{i:Int}:i∈s.map (·.1)↔find s i≠none:=by
 unfold find
 constructor
 ·intro h hn
  obtain⟨p,hp,rfl⟩:=List.mem_map.1 h
  rw[Option.map_eq_none_iff,List.find?_eq_none] at hn
  exact hn p hp (by simp)
 ·intro h
  cases hf:s.find? (fun p=>p.1==i) with
  | none=>rw[hf] at h;exact absurd rfl h
  | some p=>
   have h2:p.1=i:=by simpa using List.find?_some hf
   exact h2 ▸ List.mem_map_of_mem (List.mem_of_find?_eq_some hf)
theorem compose_ok {u s:List (Int×Tm)}(hu:Ok C M u)(hs:Ok C M s)(hr:right u=true)(hrs:right s=true){left:Int}{dry:Bool}(h0:0≤left∧left≤1000000000){c:List (Int×Tm)}(hc:compose u s left dry=(c,0)):
  Ok C M c∧∀ i,find c i=Hs.comp 100002 (find u) (find s) i:=by
 unfold compose at hc
 rw[if_neg (by rw[hr,hrs];simp)] at hc
 by_cases he:(cgo u s left dry).2.e=0
 rotate_left
 ·rw[if_pos he] at hc;exact absurd (Prod.mk.inj hc).2 he
 rw[if_neg (fun h=>h he)] at hc
 have hc:=(Prod.mk.inj hc).1
 unfold cgo at he hc
 obtain⟨-,h2,h3⟩:=cfold hu hr s (So.ss (kept (s.map (·.1)) u)) ⟨left,dry,0,0⟩ hs h0 he
 rw[h2] at hc
 subst hc
 refine⟨fun q hq=>?_,fun i=>?_⟩
 ·have hq:=(So.ss_same _).mem hq
  rcases List.mem_append.1 hq with hq | hq
  ·exact hu q (kept_mem ((So.ss_same _).mem hq))
  ·obtain⟨p,hp,rfl⟩:=List.mem_map.1 hq
   have:=h3 p hp
   exact⟨this.1,this.2.1,by have:=this.2.2.1;dsimp only;omega⟩
 ·rw[Pn.find_ss]
  show find _ i=_
  rw[find_app,Pn.find_ss]
  show (find (kept (s.map (·.1)) u) i).or _=_
  rw[find_kept,find_map (fun t=>Hs.T 100002 (find u) t 0)]
  unfold Hs.comp
  cases hf:find s i with
  | none=>
   rw[if_neg (fun h=>find_dom.1 h hf)]
   show (find u i).or none=_
   rw[Option.or_none]
  | some v=>
   rw[if_pos (find_dom.2 (by rw[hf];simp))];rfl
theorem thr_none (l:List (Int×Tm))(t:Tm):(∀ i∈Pn.mtt t,find l i=none)→∀ (z:Int) (s:Nm.St),s.e=0→s.dry=false→(t.size:Int)≤s.left→through l t z s=(t,{ s with left:=s.left-t.size }):=by
 induction t using Tm.ind with
 | h b k i a ih=>
  intro hm z s he hd hl
  rw[Pn.mtt_eq] at hm
  rw[Tm.size_eq] at hl
  have hsp:Nm.spend s=(true,{ s with left:=s.left-1 }):=by
   unfold Nm.spend
   rw[if_neg (by rw[hd];rintro(h | h);cases h;omega)]
  have key:∀ (l':List Tm) (z:Int) (s:Nm.St),(∀ t∈l',t∈a)→s.e=0→s.dry=false→(Tm.sizes l':Int)≤s.left→Nm.seqM (fun t s=>through l t z s) l' s=(l',{ s with left:=s.left-Tm.sizes l' }):=by
   intro l'
   induction l' with
   | nil=>intro z s _ _ _ _;rw[Nm.seqM];simp[Tm.sizes]
   | cons t l' ihl=>
    intro z s hin he hd hl
    rw[Tm.sizes] at hl
    have h1:=ih t (hin t (by simp)) (fun n hn=>hm n (List.mem_append_right _ (Pn.mtts_mem.2 ⟨t,hin t (by simp),hn⟩))) z s he hd (by omega)
    rw[Nm.seqM]
    rw[h1]
    have h2:=ihl z { left:=s.left-(t.size:Nat),dry:=s.dry,count:=s.count,e:=s.e } (fun u hu=>hin u (by simp[hu])) he hd (by show (Tm.sizes l':Int)≤s.left-(t.size:Nat);omega)
    show (t :: (Nm.seqM (fun t s=>through l t z s) l' { left:=s.left-(t.size:Nat),dry:=s.dry,count:=s.count,e:=s.e }).1,(Nm.seqM (fun t s=>through l t z s) l' { left:=s.left-(t.size:Nat),dry:=s.dry,count:=s.count,e:=s.e }).2)=_
    rw[h2]
    dsimp only
    rw[Tm.sizes]
    congr 2
    omega
  rw[through,hsp,throughs_seq]
  rw[if_neg (fun h=>h he),if_neg (by simp)]
  dsimp only
  rw[key a (Nm.wr (z+b.length)) { left:=s.left-1,dry:=s.dry,count:=s.count,e:=s.e } (fun _ h=>h) he hd (by dsimp only;omega)]
  dsimp only
  have hfin:({ left:=s.left-1-(Tm.sizes a:Int),dry:=s.dry,count:=s.count,e:=s.e }:Nm.St)={ s with left:=s.left-((Tm.mk b k i a).size:Nat) }:=by
   rw[Tm.size_eq];congr 1;omega
  by_cases hk:k≠2∨s.e≠0
  ·rw[if_pos hk,hfin]
  ·rw[if_neg hk]
   have hk2:k=2:=Classical.byContradiction fun h=>hk (.inl h)
   rw[hm i (by rw[if_pos hk2];simp)]
   dsimp only
   rw[hfin]
theorem apply_none {l:List (Int×Tm)}(hr:right l=true){t:Tm}(hm:∀ i∈Pn.mtt t,find l i=none){left:Int}(hl:(t.size:Int)≤left)(hs:t.size≤5000∧t.depth≤60):(apply l t left false).1=t∧(apply l t left false).2.e=0:=by
 unfold apply
 rw[if_neg (by rw[hr];simp),thr_none l t hm 0 ⟨left,false,0,0⟩ rfl rfl hl]
 have hc:¬ ((0:Int)=0∧¬ (t.size≤5000∧t.depth≤60)):=fun h=>h.2 hs
 dsimp only
 rw[if_neg hc]
 exact⟨rfl,rfl⟩
end Sb
def TKCO_51:TI:=⟨1,false,[Value.slice none 0 0],[],some 79,24,5,none,false⟩
theorem TKCO_51_ok:TypOk Tryz.prog 51 TKCO_51:=by constructor <;> kernel_rfl
def TKCO_79:TI:=⟨5,true,[Value.int IntKind.i64 0,Value.slice none 0 0,Value.int IntKind.i64 0,Value.int IntKind.i64 0,Value.slice none 0 0],[(0,1,false),(1,4,true)],none,72,6,none,false⟩
theorem TKCO_79_ok:TypOk Tryz.prog 79 TKCO_79:=by constructor <;> kernel_rfl
def TKCO_41:TI:=⟨4,true,[Value.slice none 0 0,Value.int IntKind.i64 0,Value.int IntKind.i64 0,Value.slice none 0 0],[(0,1,false),(1,2,true),(3,1,false)],none,64,6,none,false⟩
theorem TKCO_41_ok:TypOk Tryz.prog 41 TKCO_41:=by constructor <;> kernel_rfl
def TKCO_3:TI:=⟨1,false,[Value.int IntKind.i64 0],[],none,8,2,none,false⟩
theorem TKCO_3_ok:TypOk Tryz.prog 3 TKCO_3:=by constructor <;> kernel_rfl
def TKCO_56:TI:=⟨1,false,[Value.pointer none],[],none,8,4,none,false⟩
theorem TKCO_56_ok:TypOk Tryz.prog 56 TKCO_56:=by constructor <;> kernel_rfl
def TKCO_45:TI:=⟨1,false,[Value.int IntKind.i64 0],[],none,8,2,none,false⟩
theorem TKCO_45_ok:TypOk Tryz.prog 45 TKCO_45:=by constructor <;> kernel_rfl
def TKCO_59:TI:=⟨1,false,[Value.slice none 0 0],[],some 3,24,5,none,false⟩
theorem TKCO_59_ok:TypOk Tryz.prog 59 TKCO_59:=by constructor <;> kernel_rfl
def TKCO_50:TI:=⟨1,false,[Value.slice none 0 0],[],some 79,24,5,none,false⟩
theorem TKCO_50_ok:TypOk Tryz.prog 50 TKCO_50:=by constructor <;> kernel_rfl
def TKCO:List (Nat×TI):=[(51,TKCO_51),(79,TKCO_79),(41,TKCO_41),(3,TKCO_3),(56,TKCO_56),(45,TKCO_45),(59,TKCO_59),(50,TKCO_50)]
theorem TKCO_ok:TabOk Tryz.prog TKCO:=(((((((((TabOk.nil _).cons TKCO_50_ok).cons TKCO_59_ok).cons TKCO_45_ok).cons TKCO_56_ok).cons TKCO_3_ok).cons TKCO_41_ok).cons TKCO_79_ok).cons TKCO_51_ok)
namespace Sb
variable {C M:List Ty}
theorem cway {u:List (Int×Tm)}(hu:∀ q∈u,Bnd 150 q.2):∀ (s o:List (Int×Tm)) (st:Nm.St),(∀ q∈s,Bnd 150 q.2)→(∀ q∈o,Bnd 150 q.2∧q.2.full≤755000)→(0≤st.left∧st.left≤1000000000) →
  (0≤(s.foldl (cstep u) (o,st)).2.left∧(s.foldl (cstep u) (o,st)).2.left≤1000000000)∧((s.foldl (cstep u) (o,st)).2.e=0→st.e=0∧(s.foldl (cstep u) (o,st)).2.left≤st.left∧(s.foldl (cstep u) (o,st)).1.length=o.length+s.length∧∀ q∈(s.foldl (cstep u) (o,st)).1,Bnd 150 q.2∧q.2.full≤755000)
 | [],o,st,_,ho,h0=>⟨h0,fun he=>⟨he,Int.le_refl _,rfl,ho⟩⟩
 | p :: s,o,st,hs,ho,h0=>by
  rw[List.foldl_cons]
  by_cases he0:st.e=0
  ·have hst:cstep u (o,st) p=(o++[(p.1,(apply u p.2 st.left st.dry).1)],(apply u p.2 st.left st.dry).2):=by unfold cstep;rw[if_neg (fun h=>h he0)]
   rw[hst]
   have hl:=apply_left (l:=u) (t:=p.2) (left:=st.left) (dry:=st.dry) h0
   have hle:=apply_less (l:=u) (t:=p.2) (left:=st.left) (dry:=st.dry) hu (hs p (by simp)) h0
   have hno:=apply_not (l:=u) (t:=p.2) (left:=st.left) (dry:=st.dry)
   obtain⟨⟨z,w⟩,ha⟩:∃ r,apply u p.2 st.left st.dry=r:=⟨_,rfl⟩
   rw[ha] at hl hle hno ⊢
   have hz:Bnd 150 z∧z.full≤755000:=by
    by_cases hw:w.e=0
    ·exact⟨(hle hw).2.2,full_of (hle hw).2.2 (hle hw).2.1.1⟩
    ·have hz:z=Nm.tz:=hno hw
     rw[hz];exact⟨Bnd.tz,by decide⟩
   have h1:=cway hu s (o++[(p.1,z)]) w (fun q hq=>hs q (by simp[hq])) (fun q hq=>by
    rcases List.mem_append.1 hq with hq | hq
    ·exact ho q hq
    ·rw[List.mem_singleton] at hq;subst hq;exact hz) hl
   refine⟨h1.1,fun he=>?_⟩
   obtain⟨k1,k2,k3,k4⟩:=h1.2 he
   have:=(hle k1).1
   refine⟨he0,by dsimp only at k2 this ⊢;omega,?_,k4⟩
   rw[k3,List.length_append,List.length_cons,List.length_cons,List.length_nil];omega
  ·have hst:cstep u (o,st) p=(o,st):=by unfold cstep;rw[if_pos he0]
   rw[hst]
   have h1:=cway hu s o st (fun q hq=>hs q (by simp[hq])) ho h0
   exact⟨h1.1,fun he=>absurd (h1.2 he).1 he0⟩
theorem fold_e (u:List (Int×Tm)):∀ (s:List (Int×Tm)) (r:List (Int×Tm)×Nm.St),r.2.e≠0→s.foldl (cstep u) r=r
 | [],r,_=>rfl
 | p :: s,r,h=>by
  rw[List.foldl_cons]
  have hst:cstep u r p=r:=by unfold cstep;rw[if_pos h]
  rw[hst];exact fold_e u s r h
end Sb
set_option maxHeartbeats 2000000 in
theorem compose_d (s u:List (Int×Tm))(hs:s.length≤1000)(hu:u.length≤1000)(hsw:∀ q∈s,Bnd 150 q.2∧Wide q.2∧q.2.full≤80000)(huw:∀ q∈u,Bnd 150 q.2∧Wide q.2∧q.2.full≤80000)(left:Int)(h0:0≤left∧left≤20000):
  ∃ st:Nm.St,CallC Tryz.prog 29 [.sl 5 (ePairs s) none,.sl 5 (ePairs u) none,.o 1] [(.o 1,.ob (BudJ left false))] [(.o 1,.ob (BudJ st.left st.dry))] (.tu [.sl 5 (ePairs (Sb.compose u s left false).1) none,.v (.int .i64 (Sb.compose u s left false).2)]):=by
 have hr1:=sright_d s (by omega)
 have hr2:=sright_d u (by omega)
 unfold Sb.compose
 cases hrs:Sb.right s with
 | false=>
  rw[hrs] at hr1
  refine⟨⟨left,false,0,0⟩,?_⟩
  rw[if_pos (.inl rfl)]
  refine calldw 2 56 [ResultVar.tmp 6,ResultVar.tmp 7] TKCO_ok Tryz.func29 rfl Tryz.ntmps29 rfl fun cx hnt hn0=>?_
  ·skip
   refine dw_seq ?_;refine dwk [] TKCO_ok hnt fun _ z9=>z9 _ _ ?_;refine dw_seq ?_;refine dw_seq ?_;refine dwk [] TKCO_ok hnt fun K hK=>?_;refine dcl (hr1) ?_;refine hK _ _ ?_;clear hK K;refine dw_cond (t:=true) rfl ?_;rw[if_pos rfl];refine dw_seq ?_;refine dwk [] TKCO_ok hnt fun _ z9=>z9 _ _ ?_;refine dw_ret ?_
   exact reta rfl
 | true=>
 cases hru:Sb.right u with
 | false=>
  rw[hrs] at hr1
  rw[hru] at hr2
  refine⟨⟨left,false,0,0⟩,?_⟩
  rw[if_pos (.inr rfl)]
  refine calldw 2 56 [ResultVar.tmp 6,ResultVar.tmp 7] TKCO_ok Tryz.func29 rfl Tryz.ntmps29 rfl fun cx hnt hn0=>?_
  ·skip
   refine dw_seq ?_;refine dwk [] TKCO_ok hnt fun _ z9=>z9 _ _ ?_;refine dw_seq ?_;refine dw_seq ?_;refine dwk [] TKCO_ok hnt fun K hK=>?_;refine dcl (hr1) ?_;refine dcl (hr2) ?_;refine hK _ _ ?_;clear hK K;refine dw_cond (t:=true) rfl ?_;rw[if_pos rfl];refine dw_seq ?_;refine dwk [] TKCO_ok hnt fun _ z9=>z9 _ _ ?_;refine dw_ret ?_
   exact reta rfl
 | true=>
 rw[hrs] at hr1
 rw[hru] at hr2
 rw[if_neg (by simp)]
 have hD:=domain_d s (by omega)
 have hW:=withoutN_d u (by omega) (fun q hq=>⟨(huw q hq).2.2,Bnd.fit _ (huw q hq).1⟩) (s.map (·.1)) (by simp;omega)
 have hkl:=kept_len (s.map (·.1)) u
 obtain⟨o0,ho0⟩:∃ o0,So.ss (kept (s.map (·.1)) u)=o0:=⟨_,rfl⟩
 have hol:o0.length=(kept (s.map (·.1)) u).length:=by rw[←ho0,So.ss_len]
 have hom:∀ q∈o0,Bnd 150 q.2∧q.2.full≤755000:=fun q hq=>by
  have hq:=kept_mem ((So.ss_same _).mem (by rw[ho0];exact hq))
  exact⟨(huw q hq).1,by have:=(huw q hq).2.2;omega⟩
 rw[ho0,←hol] at hW
 rw[←hol] at hkl
 have hub:∀ q∈u,Bnd 150 q.2:=fun q hq=>(huw q hq).1
 have hway:=fun k=>Sb.cway (u:=u) hub (s.take k) o0 ⟨left,false,0,0⟩ (fun q hq=>(hsw q (List.mem_of_mem_take hq)).1) hom ⟨h0.1,by show left≤1000000000;omega⟩
 have hgo:Sb.cgo u s left false=s.foldl (Sb.cstep u) (o0,⟨left,false,0,0⟩):=by unfold Sb.cgo;rw[ho0]
 obtain⟨F,hF⟩:∃ F:Nat→List (Int×Tm)×Nm.St,∀ k,(s.take k).foldl (Sb.cstep u) (o0,⟨left,false,0,0⟩)=F k:=⟨_,fun _=>rfl⟩
 have hFs:Sb.cgo u s left false=F s.length:=by rw[hgo,←hF,List.take_length]
 have hF0:F 0=(o0,⟨left,false,0,0⟩):=by rw[←hF,List.take_zero];rfl
 have hFn:∀ k (h:k<s.length),F (k+1)=Sb.cstep u (F k) s[k]:=fun k h=>by
  rw[←hF,←hF,List.take_add_one,List.getElem?_eq_getElem h,List.foldl_append];rfl
 have hFe:∀ k,k≤s.length→(F k).2.e≠0→F s.length=F k:=fun k hk he=>by
  have h1:s=s.take k++s.drop k:=(List.take_append_drop ..).symm
  have h2:F s.length=(s.drop k).foldl (Sb.cstep u) (F k):=by
   rw[←hF,←hF,←List.foldl_append,List.take_append_drop,List.take_length]
  rw[h2];exact Sb.fold_e u _ _ he
 simp only[hF] at hway
 rw[hFs]
 clear hgo hFs
 have hA:=fun k (h:k<s.length) (he:(F k).2.e=0)=>apply_at 1 u (by omega) s[k].2 (hsw _ (List.getElem_mem h)).2.1 (F k).2.left (F k).2.dry (hway k).1 fun _=>Sb.apply_ok (B:=150) 20000 (by decide) (by decide) (by decide) u (fun q hq=>⟨(huw q hq).1,(huw q hq).2.1⟩) s[k].2 (hsw _ (List.getElem_mem h)).1 (F k).2.left ⟨(hway k).1.1,by have:=((hway k).2 he).2.1;omega⟩ (F k).2.dry
 obtain⟨R,hR⟩:∃ R,F s.length=R:=⟨_,rfl⟩
 rw[hR]
 by_cases hRe:R.2.e=0
 ·rw[if_neg (fun h=>h hRe)]
  have hall:∀ k,k≤s.length→(F k).2.e=0:=fun k hk=>Classical.byContradiction fun h=>by
   have:=hFe k hk h
   rw[hR] at this
   rw[this] at hRe;exact h hRe
  have hso:=fun(hl:R.1.length≤1000000) (h:∀ q∈R.1,Bnd 150 q.2∧q.2.full≤755000) nm=>sortedW_d R.1 hl (fun q hq=>⟨by have:=(h q hq).2;omega,Bnd.fit _ (h q hq).1⟩) nm
  have hRw:=(hway s.length).2 (hall _ (Nat.le_refl _))
  rw[hR] at hRw
  have hso:=hso (by rw[hRw.2.2.1,List.length_take];omega) hRw.2.2.2
  refine⟨R.2,?_⟩
  refine calldw 2 56 [ResultVar.tmp 6,ResultVar.tmp 7] TKCO_ok Tryz.func29 rfl Tryz.ntmps29 rfl fun cx hnt hn0=>?_
  ·skip
   refine dw_seq ?_;refine dwk [] TKCO_ok hnt fun _ z9=>z9 _ _ ?_;refine dw_seq ?_;refine dw_seq ?_;refine dwk [] TKCO_ok hnt fun K hK=>?_;refine dcl (hr1) ?_;refine dcl (hr2) ?_;refine hK _ _ ?_;clear hK K;refine dw_cond (t:=false) rfl ?_;rw[if_neg (by simp)];refine dw_skip ?_;refine dw_seq ?_;refine dwk [] TKCO_ok hnt fun K hK=>?_;refine dcl (hD) ?_;refine dcn (hW _) ?_
   refine hK _ _ ?_;clear hK K;refine dw_seq ?_;refine dw_seq ?_;refine dwk [(30,.v (.int .i64 (↑s.length)))] TKCO_ok hnt fun K hK=>?_;refine And.intro (dintE (by rw[ePairs_len])) ?_;refine hK _ _ ?_;clear hK K;refine dw_block ?_
   refine dw_loop (ι:={ k:Nat // k≤s.length }) (fun k=>[(.t 1,.sl 5 (ePairs u) none),(.t 2,.o 1),(.t 29,.sl 5 (ePairs s) none),(.t 30,.v (.int .i64 ↑s.length)),(.t 31,.v (.int .i64 ↑k.1)),(.t 8,.sl 5 (ePairs (F k.1).1) (some 19)),(.r 19,.rw 79 5 (F k.1).1.length),(.o 1,.ob (BudJ (F k.1).2.left (F k.1).2.dry))]) 20 (fun k=>s.length-k.1) (⟨0,Nat.zero_le _⟩) ((by try simp only[List.length_append,List.length_take,List.length_cons,List.length_nil,Nat.zero_add,hF0];exact VS.toA)) fun k=>?_
   obtain⟨k,hk⟩:=k
   dsimp only
   by_cases hlt:k<s.length
   ·have hc:=hA k hlt (hall k hk)
    have hn:=hFn k hlt
    have hw1:=hall (k+1) hlt
    have hwk:=((hway k).2 (hall k hk)).2.2.1
    rw[List.length_take] at hwk
    unfold Sb.cstep at hn
    rw[if_neg (fun h=>h (hall k hk))] at hn
    obtain⟨⟨z,w⟩,ha⟩:∃ r,Sb.apply u s[k].2 (F k).2.left (F k).2.dry=r:=⟨_,rfl⟩
    rw[ha] at hc hn
    have hwl:w.left=(F (k+1)).2.left:=by rw[hn]
    have hwd:w.dry=(F (k+1)).2.dry:=by rw[hn]
    have hn1:(F k).1++[(s[k].1,z)]=(F (k+1)).1:=by rw[hn]
    rw[hn] at hw1
    dsimp only at hc hw1
    rw[eTm_eq,eTm_eq,hwl,hwd] at hc
    have hsn:=ePairs_snoc (F k).1 (s[k].1,z)
    dsimp only at hsn
    rw[hn1] at hsn
    have hl1:(ePairs (F k).1).length=(F k).1.length:=ePairs_len _
    have hl2:(ePairs (F (k+1)).1).length=(F (k+1)).1.length:=ePairs_len _
    refine dw_seq ?_;refine dwk [(32,.v (.bool true))] TKCO_ok hnt fun K hK=>?_;refine And.intro auT ?_;refine hK _ _ ?_;clear hK K;refine dw_seq ?_;refine dw_cond (t:=true) rfl ?_;rw[if_pos rfl];refine dw_skip ?_;refine dw_seq ?_;refine dw_block ?_;refine dw_seq ?_;refine dwk [(33,.q [.v (.int .i64 s[k].1),.sl 2 (eTys s[k].2.binds) none,.v (.int .i64 s[k].2.kind),.v (.int .i64 s[k].2.index),.sl 4 (eTms s[k].2.args) none])] TKCO_ok hnt fun K hK=>?_
    refine And.intro (elo (ePairs_len s)) ?_;refine And.intro (elv (ePairs_getD s k) (ePair_eq _)) ?_;refine hK _ _ ?_;clear hK K;refine dw_seq ?_;refine dwk [] TKCO_ok hnt fun K hK=>?_;refine dcl (hc) ?_;refine hK _ _ ?_;clear hK K;refine dw_seq ?_;refine dw_seq ?_;refine dwk [(44,.v (.bool false))] TKCO_ok hnt fun K hK=>?_;refine And.intro (bneF hw1) ?_;refine hK _ _ ?_;clear hK K
    refine dw_cond (t:=false) rfl ?_;rw[if_neg (by simp)];refine dw_skip ?_;refine dwk [] TKCO_ok hnt fun K hK=>?_;refine And.intro (⟨by omega,by rw[hl1];simp;omega⟩) ?_;refine hK _ _ ?_;clear hK K
    rw[hsn,hl2]
    refine dwk [(53,.v (.int .i64 (↑(k+1))))] TKCO_ok hnt fun K hK=>?_;refine And.intro auI ?_;refine hK _ _ ?_;clear hK K
    refine⟨⟨k+1,hlt⟩,by first | omega | (dsimp only;omega),VS.toA⟩
   ·have hkl:k=s.length:=by omega
    subst hkl
    rw[hR]
    refine dw_seq ?_;refine dwk [(32,.v (.bool false))] TKCO_ok hnt fun K hK=>?_;refine And.intro auF ?_;refine hK _ _ ?_;clear hK K;refine dw_seq ?_;refine dw_cond (t:=false) rfl ?_;rw[if_neg (by simp)];refine dw_exit ?_;refine dw_seq ?_;refine dwk [(54,.sl 5 (ePairs R.1) none),(6,.sl 5 (ePairs (So.ss R.1)) none)] TKCO_ok hnt fun K hK=>?_;refine And.intro (VLe.untag _ _ _) ?_;refine dcn (hso _) ?_
    refine And.intro (VLe.untag _ _ _) ?_;refine hK _ _ ?_;clear hK K;refine dw_ret ?_
    exact reta rfl
 ·rw[if_pos hRe]
  refine⟨R.2,?_⟩
  refine calldw 2 56 [ResultVar.tmp 6,ResultVar.tmp 7] TKCO_ok Tryz.func29 rfl Tryz.ntmps29 rfl fun cx hnt hn0=>?_
  ·skip
   refine dw_seq ?_;refine dwk [] TKCO_ok hnt fun _ z9=>z9 _ _ ?_;refine dw_seq ?_;refine dw_seq ?_;refine dwk [] TKCO_ok hnt fun K hK=>?_;refine dcl (hr1) ?_;refine dcl (hr2) ?_;refine hK _ _ ?_;clear hK K;refine dw_cond (t:=false) rfl ?_;rw[if_neg (by simp)];refine dw_skip ?_;refine dw_seq ?_;refine dwk [] TKCO_ok hnt fun K hK=>?_;refine dcl (hD) ?_;refine dcn (hW _) ?_
   refine hK _ _ ?_;clear hK K;refine dw_seq ?_;refine dw_seq ?_;refine dwk [(30,.v (.int .i64 (↑s.length)))] TKCO_ok hnt fun K hK=>?_;refine And.intro (dintE (by rw[ePairs_len])) ?_;refine hK _ _ ?_;clear hK K;refine dw_block ?_
   refine dw_loop (ι:={ k:Nat // k≤s.length∧(F k).2.e=0 }) (fun k=>[(.t 1,.sl 5 (ePairs u) none),(.t 2,.o 1),(.t 29,.sl 5 (ePairs s) none),(.t 30,.v (.int .i64 ↑s.length)),(.t 31,.v (.int .i64 ↑k.1)),(.t 8,.sl 5 (ePairs (F k.1).1) (some 19)),(.r 19,.rw 79 5 (F k.1).1.length),(.o 1,.ob (BudJ (F k.1).2.left (F k.1).2.dry))]) 20 (fun k=>s.length-k.1) (⟨0,Nat.zero_le _,by rw[hF0]⟩) ((by try simp only[List.length_append,List.length_take,List.length_cons,List.length_nil,Nat.zero_add,hF0];exact VS.toA)) fun k=>?_
   obtain⟨k,hk,hke⟩:=k
   dsimp only
   by_cases hlt:k<s.length
   ·have hc:=hA k hlt hke
    have hn:=hFn k hlt
    have hwk:=((hway k).2 hke).2.2.1
    rw[List.length_take] at hwk
    unfold Sb.cstep at hn
    rw[if_neg (fun h=>h hke)] at hn
    obtain⟨⟨z,w⟩,ha⟩:∃ r,Sb.apply u s[k].2 (F k).2.left (F k).2.dry=r:=⟨_,rfl⟩
    rw[ha] at hc hn
    have hwl:w.left=(F (k+1)).2.left:=by rw[hn]
    have hwd:w.dry=(F (k+1)).2.dry:=by rw[hn]
    have hwe:w.e=(F (k+1)).2.e:=by rw[hn]
    have hn1:(F k).1++[(s[k].1,z)]=(F (k+1)).1:=by rw[hn]
    dsimp only at hc
    rw[eTm_eq,eTm_eq,hwl,hwd,hwe] at hc
    have hsn:=ePairs_snoc (F k).1 (s[k].1,z)
    dsimp only at hsn
    rw[hn1] at hsn
    have hl1:(ePairs (F k).1).length=(F k).1.length:=ePairs_len _
    have hl2:(ePairs (F (k+1)).1).length=(F (k+1)).1.length:=ePairs_len _
    by_cases hw1:(F (k+1)).2.e=0
    ·skip
     refine dw_seq ?_;refine dwk [(32,.v (.bool true))] TKCO_ok hnt fun K hK=>?_;refine And.intro auT ?_;refine hK _ _ ?_;clear hK K;refine dw_seq ?_;refine dw_cond (t:=true) rfl ?_;rw[if_pos rfl];refine dw_skip ?_;refine dw_seq ?_;refine dw_block ?_;refine dw_seq ?_;refine dwk [(33,.q [.v (.int .i64 s[k].1),.sl 2 (eTys s[k].2.binds) none,.v (.int .i64 s[k].2.kind),.v (.int .i64 s[k].2.index),.sl 4 (eTms s[k].2.args) none])] TKCO_ok hnt fun K hK=>?_
     refine And.intro (elo (ePairs_len s)) ?_;refine And.intro (elv (ePairs_getD s k) (ePair_eq _)) ?_;refine hK _ _ ?_;clear hK K;refine dw_seq ?_;refine dwk [] TKCO_ok hnt fun K hK=>?_;refine dcl (hc) ?_;refine hK _ _ ?_;clear hK K;refine dw_seq ?_;refine dw_seq ?_;refine dwk [(44,.v (.bool false))] TKCO_ok hnt fun K hK=>?_;refine And.intro (bneF hw1) ?_;refine hK _ _ ?_;clear hK K
     refine dw_cond (t:=false) rfl ?_;rw[if_neg (by simp)];refine dw_skip ?_;refine dwk [] TKCO_ok hnt fun K hK=>?_;refine And.intro (⟨by omega,by rw[hl1];simp;omega⟩) ?_;refine hK _ _ ?_;clear hK K
     rw[hsn,hl2]
     refine dwk [(53,.v (.int .i64 (↑(k+1))))] TKCO_ok hnt fun K hK=>?_;refine And.intro auI ?_;refine hK _ _ ?_;clear hK K
     refine⟨⟨k+1,hlt,hw1⟩,by first | omega | (dsimp only;omega),VS.toA⟩
    ·have hRk:R=F (k+1):=by rw[←hR];exact hFe _ hlt hw1
     rw[hRk]
     refine dw_seq ?_;refine dwk [(32,.v (.bool true))] TKCO_ok hnt fun K hK=>?_;refine And.intro auT ?_;refine hK _ _ ?_;clear hK K;refine dw_seq ?_;refine dw_cond (t:=true) rfl ?_;rw[if_pos rfl];refine dw_skip ?_;refine dw_seq ?_;refine dw_block ?_;refine dw_seq ?_;refine dwk [(33,.q [.v (.int .i64 s[k].1),.sl 2 (eTys s[k].2.binds) none,.v (.int .i64 s[k].2.kind),.v (.int .i64 s[k].2.index),.sl 4 (eTms s[k].2.args) none])] TKCO_ok hnt fun K hK=>?_
     refine And.intro (elo (ePairs_len s)) ?_;refine And.intro (elv (ePairs_getD s k) (ePair_eq _)) ?_;refine hK _ _ ?_;clear hK K;refine dw_seq ?_;refine dwk [] TKCO_ok hnt fun K hK=>?_;refine dcl (hc) ?_;refine hK _ _ ?_;clear hK K;refine dw_seq ?_;refine dw_seq ?_;refine dwk [(44,.v (.bool true))] TKCO_ok hnt fun K hK=>?_;refine And.intro (bneT hw1) ?_;refine hK _ _ ?_;clear hK K;refine dw_cond (t:=true) rfl ?_
     rw[if_pos rfl];refine dw_seq ?_;refine dwk [] TKCO_ok hnt fun _ z9=>z9 _ _ ?_;refine dw_ret ?_
     exact reta rfl
   ·have hkl:k=s.length:=by omega
    subst hkl
    rw[hR] at hke
    exact absurd hke hRe
namespace Sb
end Sb
namespace Pn
variable {C M:List Ty}
end Pn
namespace Pn
end Pn
namespace Pn
end Pn
namespace Pn
end Pn
namespace Pn
end Pn
namespace Pn
def hit (p:Tm)(s:Spot):Bool:=decide ((mAll [(p,nb s.1)]).2=0)
theorem find_at {α:Type}{f:α→Bool}{l:List α}{j:Nat}(hj:j<l.length)(h:∀ i (hi:i<l.length),i<j→f l[i]=false)(hf:f l[j]=true):l.find? f=some l[j]:=by
 rw[List.find?_eq_some_iff_append]
 refine⟨hf,l.take j,l.drop (j+1),?_,fun x hx=>?_⟩
 ·rw[←List.drop_eq_getElem_cons hj,List.take_append_drop]
 ·obtain⟨i,hi,rfl⟩:=List.getElem_of_mem hx
  rw[List.length_take] at hi
  rw[List.getElem_take,h i (by omega) (by omega)];rfl
end Pn
namespace Pn
variable {C M:List Ty}
end Pn
theorem Nar.mono {B B':Nat}(h:B≤B'){t:Tm}:Nar B t→Nar B' t:=by
 induction t using Tm.ind with
 | h b k i a ih=>exact fun ht=>.mk _ _ _ _ (Nat.le_trans ht.inv.1 h) fun u hu=>ih u hu (ht.inv.2 u hu)
namespace Pn
variable {C M:List Ty}
theorem nodup_len {α:Type}[DecidableEq α]:∀ (l m:List α),l.Nodup→(∀ x∈l,x∈m)→l.length≤m.length
 | [],_,_,_=>Nat.zero_le _
 | x :: l,m,hn,h=>by
  have h1:=nodup_len l (m.erase x) (List.nodup_cons.1 hn).2 fun y hy=>(List.mem_erase_of_ne (by rintro rfl;exact(List.nodup_cons.1 hn).1 hy)).2 (h y (by simp[hy]))
  have h2:=List.length_erase_of_mem (h x (by simp))
  have h3:=List.length_pos_of_mem (h x (by simp))
  rw[List.length_cons];omega
end Pn
end Go.Proofs.YtflbnonbfmmchaaGreat
namespace Go.Proofs.YtflbnonbfmmchaaGreat
section
variable {P:Program} {ops:Array Oper} {Q:Exit→Act→World→Prop} {md:Region.Mode} {S:World→Prop}
end
end Go.Proofs.YtflbnonbfmmchaaGreat
namespace Go.Proofs.YtflbnonbfmmchaaGreat
open Go.RowKit Go.Shelf
def TFRR_41:TI:=⟨4,true,[Value.slice none 0 0,Value.int IntKind.i64 0,Value.int IntKind.i64 0,Value.slice none 0 0],[(0,1,false),(1,2,true),(3,1,false)],none,64,6,none,false⟩
theorem TFRR_41_ok:TypOk Tryz.prog 41 TFRR_41:=by constructor <;> kernel_rfl
def TFRR_59:TI:=⟨1,false,[Value.slice none 0 0],[],some 3,24,5,none,false⟩
theorem TFRR_59_ok:TypOk Tryz.prog 59 TFRR_59:=by constructor <;> kernel_rfl
def TFRR_39:TI:=⟨1,false,[Value.slice none 0 0],[],some 41,24,5,none,false⟩
theorem TFRR_39_ok:TypOk Tryz.prog 39 TFRR_39:=by constructor <;> kernel_rfl
def TFRR_3:TI:=⟨1,false,[Value.int IntKind.i64 0],[],none,8,2,none,false⟩
theorem TFRR_3_ok:TypOk Tryz.prog 3 TFRR_3:=by constructor <;> kernel_rfl
def TFRR_213:TI:=⟨1,false,[Value.nilFunc],[],none,8,8,none,false⟩
theorem TFRR_213_ok:TypOk Tryz.prog 213 TFRR_213:=by constructor <;> kernel_rfl
def TFRR:List (Nat×TI):=[(41,TFRR_41),(59,TFRR_59),(39,TFRR_39),(3,TFRR_3),(213,TFRR_213)]
theorem TFRR_ok:TabOk Tryz.prog TFRR:=((((((TabOk.nil _).cons TFRR_213_ok).cons TFRR_3_ok).cons TFRR_39_ok).cons TFRR_59_ok).cons TFRR_41_ok)
attribute [local go_sem] Oper.semAt_some
namespace Pn
end Pn
theorem Mild.below {β:Type}{Ok:Obj→Prop}{B:Nat}{J:β→World→Prop}(h:Mild Ok B J){s:β}{W W':World}(hs:J s W)(hb:Below W.heap.size W W'):J s W':=
 h s W W' none hs ⟨hb.os,hb.tape,hb.output,hb.size,fun k hk _=>hb.block k hk⟩ (fun r e=>by cases e)
end Go.Proofs.YtflbnonbfmmchaaGreat
namespace Go.Proofs.YtflbnonbfmmchaaGreat
open Go.RowKit Go.Shelf
attribute [local go_sem] Oper.semAt_some
end Go.Proofs.YtflbnonbfmmchaaGreat
namespace Go.Proofs.YtflbnonbfmmchaaGreat
open Go.RowKit Go.Shelf
attribute [local go_sem] Oper.semAt_some
end Go.Proofs.YtflbnonbfmmchaaGreat
namespace Go.Proofs.YtflbnonbfmmchaaGreat
open Go.RowKit
end Go.Proofs.YtflbnonbfmmchaaGreat
