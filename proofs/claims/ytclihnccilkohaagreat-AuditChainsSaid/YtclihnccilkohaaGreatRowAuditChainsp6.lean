/-
  Package pattern, walked in the deep way: what is small. Deep values: a function that hands back a new map. Package pattern, walked in the deep way: Flex, Vars, places, types. Package pattern, walked in the deep way: places, types. The laws' helpers of layers 8 and 9: Low, Of. Package pattern, walked in the deep way: turned, Take. Package pattern, walked in the deep way: Take. Deep values: calls that grow rows of their callers. Package pattern, walked in the deep way: uses, Uses, Is. Deep values: rows that nothing else reads: how they begin, how they are handed on. Sorting that keeps the order of equal keys, in plain words. Places, uses and matching in plain Lean: the document's answer and the program's are one. Package slices' stable sort of pairs, walked in the deep way: insertion, swaps, rotation. Package slices' stable sort of pairs, walked in the deep way: the merge. Package slices' stable sort of pairs, walked in the deep way: the merge of many. Package slices' stable sort of pairs, walked in the deep way: the whole; subst.sorted, subst.Of. Package subst's lists, walked in the deep way: Without, Set, Domain, Get. The document's places and uses, walked in the deep way: All, At, Has, Vars, Uses; loose indexes. How many types and terms: exactly what the reference counts. How many terms: exactly what the reference counts; the laws' Few. What the laws' Few tells of a term. The laws' Small (seats without Chk9). Types and terms of the laws, there and back, walked in the deep way. Pairs of terms with the types of their metavariables (rule.Pair, filigreeref17.Pair), and the laws' helpers for them: To, Of, Same, Few. The readings of a row's arguments that are pairs of terms with their metavariables' types. The readings of five arguments. The readings of a row's arguments that are lists of ints. Terms that are the same, as deep contracts. Package match, walked in the deep way: put. Package match, walked in the deep way: walk, may. Package lift, walked in the deep way: variables, each, term. The document's uses, and what is taken out, walked in the deep way. A loop over a function, whose round writes to what its own assignment laid. The reference's loose indexes, and terms that grow. The document's heads of a term. The document's Heads and Count. term.Count. slices.Sort and slices.Compact of ints of the call's own; what they hand back rises. A function that has run loops over functions leaves with a mark for each; rows of ints that grow within such rounds. term.Metas. Package lift, walked in the deep way: may, done, Over, Closed, Subst; spot.Close.
-/
import Derived.Test.YtclihnccilkohaaGreatRowAuditChainsp5
import Derived.Test.YtclihnccilkohaaGreatRowAuditChainsp4
import Derived.Test.YtclihnccilkohaaGreatRowAuditChainsp1
import Derived.Carry
import Derived.Deep.QuietTactic
import Derived.BigQuiet
import Derived.WalkSmall
import Derived.Lib.OwnBridge
import Derived.Sort.OwnSortedInts
import Derived.RangeFuncBox
set_option maxRecDepth 100000
set_option maxHeartbeats 1000000
set_option linter.unusedVariables false
set_option linter.unusedSimpArgs false
namespace Go.Proofs.YtclihnccilkohaaGreat
open Go.RowKit
def TP1_3:TI:=⟨1,false,[Value.int IntKind.i64 0],[],none,8,2,none,false⟩
theorem TP1_3_ok:TypOk Tryz.prog 3 TP1_3:=by constructor <;> kernel_rfl
def TP1_41:TI:=⟨1,false,[Value.slice none 0 0],[],some 106,24,5,none,false⟩
theorem TP1_41_ok:TypOk Tryz.prog 41 TP1_41:=by constructor <;> kernel_rfl
def TP1_71:TI:=⟨1,false,[Value.slice none 0 0],[],some 3,24,5,none,false⟩
theorem TP1_71_ok:TypOk Tryz.prog 71 TP1_71:=by constructor <;> kernel_rfl
def TP1_217:TI:=⟨1,false,[Value.slice none 0 0],[],some 41,24,5,none,false⟩
theorem TP1_217_ok:TypOk Tryz.prog 217 TP1_217:=by constructor <;> kernel_rfl
def TP1_106:TI:=⟨2,true,[Value.slice none 0 0,Value.int IntKind.i64 0],[(0,1,false),(1,1,false)],none,32,6,none,false⟩
theorem TP1_106_ok:TypOk Tryz.prog 106 TP1_106:=by constructor <;> kernel_rfl
def TP1:List (Nat×TI):=[(3,TP1_3),(41,TP1_41),(71,TP1_71),(217,TP1_217),(106,TP1_106)]
theorem TP1_ok:TabOk Tryz.prog TP1:=((((((TabOk.nil _).cons TP1_106_ok).cons TP1_217_ok).cons TP1_71_ok).cons TP1_41_ok).cons TP1_3_ok)
/-! ints -/
def eIs (l:List Int):List (List D):=l.map fun i=>[.v (.int .i64 i)]
theorem eIs_len (l:List Int):(eIs l).length=l.length:=List.length_map ..
theorem eIs_append (l r:List Int):eIs (l++r)=eIs l++eIs r:=List.map_append ..
theorem eIs_getD (l:List Int)(i:Nat)(h:i<l.length):(eIs l).getD i []=[.v (.int .i64 l[i])]:=by
 rw[eIs,List.getD_eq_getElem?_getD,List.getElem?_map,List.getElem?_eq_getElem h];rfl
@[simp] theorem eIs_ok (f g:Nat→Bool) (l:List Int):D.okss f g (eIs l)=true:=D.okss_map _ l fun _ _=>rfl
theorem clone_nil (a:Option Addr)(c:Nat):PureC Tryz.prog 101 [.v (.slice a 0 c)] (.sl 1 [] none):=by
 refine calldw 0 8 [ResultVar.tmp 2] TP1_ok Tryz.func101 rfl Tryz.ntmps101 rfl fun cx hnt hn0=>?_
 ·skip
  refine dw_seq ?_;refine dwk [] TP1_ok hnt fun _ z9=>z9 _ _ ?_
  cases a with
  | none=>
   refine dw_seq ?_;refine dw_seq ?_;refine dwk [(4,.v (.bool true))] TP1_ok hnt fun K hK=>?_;refine And.intro (VLe.refl _) ?_;refine hK _ _ ?_;clear hK K;refine dw_cond (t:=true) rfl ?_;rw[if_pos rfl];refine dw_seq ?_;refine dwk [] TP1_ok hnt fun _ z9=>z9 _ _ ?_;refine dw_ret ?_
   exact reta rfl
  | some a=>
   refine dw_seq ?_;refine dw_seq ?_;refine dwk [(4,.v (.bool false))] TP1_ok hnt fun K hK=>?_;refine And.intro (VLe.refl _) ?_;refine hK _ _ ?_;clear hK K;refine dw_cond (t:=false) rfl ?_;rw[if_neg (by simp)];refine dw_skip ?_;refine dw_seq ?_;refine dwk [] TP1_ok hnt fun K hK=>?_;refine And.intro (⟨rfl,by decide⟩) ?_;refine hK _ _ ?_;clear hK K;refine dw_ret ?_
   exact reta rfl
theorem clone_cons (x:Int)(l:List Int)(hl:l.length≤900000):PureC Tryz.prog 101 [.sl 1 (eIs (x :: l)) none] (.sl 1 (eIs (x :: l)) none):=by
 refine calldw 0 8 [ResultVar.tmp 2] TP1_ok Tryz.func101 rfl Tryz.ntmps101 rfl fun cx hnt hn0=>?_
 ·skip
  refine dw_seq ?_;refine dwk [] TP1_ok hnt fun _ z9=>z9 _ _ ?_;refine dw_seq ?_;refine dw_seq ?_;refine dwk [(4,.v (.bool false))] TP1_ok hnt fun K hK=>?_;refine And.intro (VLe.refl _) ?_;refine hK _ _ ?_;clear hK K;refine dw_cond (t:=false) rfl ?_;rw[if_neg (by simp)];refine dw_skip ?_;refine dw_seq ?_;refine dwk [] TP1_ok hnt fun K hK=>?_;refine And.intro (⟨rfl,by simp[eIs_len];omega⟩) ?_
  refine hK _ _ ?_;clear hK K;refine dw_ret ?_
  exact reta rfl
theorem clone_d (l:List Int)(hl:l.length≤900000):PureC Tryz.prog 101 [.sl 1 (eIs l) none] (.sl 1 (eIs l) none):=by
 cases l with
 | cons x l=>exact clone_cons x l (by simp at hl;omega)
 | nil=>
  refine⟨by kernel_rfl,fun cx Fr m Im w vs hm hv hR=>?_⟩
  match vs,hv with
  | [v],hv=>
   obtain⟨a,c,bl,off,X,rfl,_⟩:=rel_sl hv.1
   exact(clone_nil a c).2 cx Fr m Im w _ hm ⟨.v _,trivial⟩ hR
theorem cut_none (m:Mp):(m.cut (fun _=>false) noR).le m00:=⟨fun k b h=>by simp[Mp.cut] at h,fun g R h=>by simp[Mp.cut,noR] at h,fun k b h=>by simp[Mp.cut] at h⟩
theorem entry0 {cx:Cx}{Fr:Nat→Prop}{m:Mp}{Im:Nat→Nat→Prop}{w:World}{vs:List Value}{args:List D}(hm:MemOk cx Fr m Im w)(hr:RelL m Im w vs args)(ha:args.all (fun d=>d.ok (fun _=>false) noR)=true)(nt:Nat)(hnt:args.length≤nt){n:Nat}(hn:n=nt):
  ∃ cx':Cx,cx'.nt=nt∧cx'.n0=0∧cx'.w0=w∧(∀ b,¬ cx'.C b)∧cx'.Im0=Im∧St cx' (fun k=>0≤k) m00 Im w { tmps:=vs.toArray++Array.replicate (n-vs.toArray.size) undef,defers:=[] } (argsT 0 args []):=by
 subst hn
 have hvl:vs.length=args.length:=(relL_iff.1 hr).1
 refine⟨{ w0:=w,C:=fun _=>False,Im0:=Im,m0:=m00,nt:=n,n0:=0,h0:=(fun k b hk=>by cases hk),h0o:=(fun k b hk=>by cases hk) },rfl,rfl,rfl,fun _ h=>h,rfl,?_⟩
 refine⟨{
  off:=Off.refl _ _,im:=hm.im,imb:=fun b o h=>.inl h,im0:=fun b o h=>h
  own:=fun k b hk=>by cases hk
  lt:=fun k b hk=>by cases hk
  free:=fun k b o hk=>by cases hk
  nim:=fun k b o hk=>by cases hk
  inj:=fun k k' b hk=>by cases hk
  row:=fun g R hg=>by cases hg
  k0:=KeepI.refl _ _
  rown:=fun g R b hg=>by cases hg
  m0r:=fun g R hg=>by cases hg
  rIm:=fun g R b o hg=>by cases hg
  rblk:=fun g R b k hg=>by cases hg
  rinj:=fun g g' R R' b hg=>by cases hg
  fr:=fun k hk=>⟨rfl,rfl,rfl⟩
  m0:=fun k b hk=>by cases hk
  m0o:=fun k b hk=>by cases hk
  oown:=fun k b hk=>by cases hk
  olt:=fun k b hk=>by cases hk
  onim:=fun k b o hk=>by cases hk
  oinj:=fun k k' b hk=>by cases hk
  oblk:=fun k k' b hk=>by cases hk
  orow:=fun k g R b hk=>by cases hk
  dis:=fun k b hk=>by cases hk },rfl,by simp[hvl];omega,fun x d hx=>?_,fun k off d hx=>?_,fun g d hx=>?_,fun d hx=>?_,fun k d hx=>?_⟩
 ·rcases get_argsT args 0 x hx with⟨j,h1,h2⟩ | hx
  ·have hj:j<args.length:=by
    rcases Nat.lt_or_ge j args.length with h' | h'
    ·exact h'
    ·rw[List.getElem?_eq_none h'] at h2;cases h2
   rw[List.getElem?_eq_getElem hj] at h2
   cases h2
   have hr:=(relL_iff.1 hr).2 j hj
   have hx':x=j:=by omega
   subst hx'
   have:(vs.toArray++Array.replicate (n-vs.toArray.size) undef).getD x undef=vs.getD x undef:=by
    have hx2:x<vs.length:=by omega
    rw[Array.getD_eq_getD_getElem?,Array.getElem?_append_left (by simpa using hx2),List.getD_eq_getElem?_getD]
    simp
   show Rel _ _ _ ((vs.toArray++Array.replicate (n-vs.toArray.size) undef).getD x undef) _
   rw[this]
   exact(hr.cut (List.all_eq_true.1 ha _ (List.getElem_mem hj))).mono (cut_none m) (KeepI.refl _ _) fun _ _ h=>h
  ·cases hx
 ·rw[get_argsN (fun x=>by simp) args 0] at hx;cases hx
 ·rw[get_argsN (fun x=>by simp) args 0] at hx;cases hx
 ·rw[get_argsN (fun x=>by simp) args 0] at hx;cases hx
 ·rw[get_argsN (fun x=>by simp) args 0] at hx;cases hx
def eMp (l:List (Int×Value)):List (Int×D):=l.map fun p=>(p.1,.v p.2)
theorem full_mem {l:List Tm}{t:Tm}(h:t∈l):t.full≤Tm.fulls l:=by
 induction l with
 | nil=>cases h
 | cons u l ih=>
  simp only[Tm.fulls]
  rcases List.mem_cons.1 h with rfl | h
  ·omega
  ·have:=ih h;omega
theorem fulls_len (l : List Tm) : l.length ≤ Tm.fulls l := by
  induction l with
  | nil => simp
  | cons u l ih => have : 1 ≤ u.full := by obtain ⟨b, k, i, a⟩ := u; rw [Tm.full_eq]; omega
                   simp only [Tm.fulls, List.length_cons]; omega
theorem full_args (t:Tm):t.full=Ty.sizes t.binds+Tm.fulls t.args+1:=by obtain⟨b,k,i,a⟩:=t;exact Tm.full_eq ..
namespace Pn
end Pn
def eMet (l:List Int):List (Int×D):=l.map fun i=>(i,.v (.bool true))
theorem okm_map {f g:Nat→Bool}{α:Type}(e:α→Int×D)(l:List α)(h:∀ x∈l,(e x).2.ok f g=true):D.okm f g (l.map e)=true:=by
 induction l with
 | nil=>rfl
 | cons x l ih=>
  have h1:=h x (by simp)
  have h2:=ih fun y hy=>h y (by simp[hy])
  simp only[List.map_cons]
  generalize e x=p at h1 ⊢
  obtain⟨i,d⟩:=p
  simp only[D.okm,Bool.and_eq_true];exact⟨h1,h2⟩
@[simp] theorem eMet_ok (f g:Nat→Bool) (l:List Int):D.okm f g (eMet l)=true:=okm_map _ l fun _ _=>rfl
namespace Pn
def atL:List Int→Nat→List (Int×Value)
 | [],_=>[]
 | v :: l,k=>(v,.int .i64 k) :: atL l (k+1)
end Pn
@[simp] theorem atL_ok (f g:Nat→Bool) (l:List Int) (k:Nat):D.okm f g (eMp (Pn.atL l k))=true:=okm_map _ _ fun _ _=>rfl
def TL8_29:TI:=⟨1,false,[Value.slice none 0 0],[],some 31,24,5,none,false⟩
theorem TL8_29_ok:TypOk Tryz.prog 29 TL8_29:=by constructor <;> kernel_rfl
def TL8_3:TI:=⟨1,false,[Value.int IntKind.i64 0],[],none,8,2,none,false⟩
theorem TL8_3_ok:TypOk Tryz.prog 3 TL8_3:=by constructor <;> kernel_rfl
def TL8_31:TI:=⟨4,true,[Value.slice none 0 0,Value.int IntKind.i64 0,Value.int IntKind.i64 0,Value.slice none 0 0],[(0,1,false),(1,2,true),(3,1,false)],none,64,6,none,false⟩
theorem TL8_31_ok:TypOk Tryz.prog 31 TL8_31:=by constructor <;> kernel_rfl
def TL8_28:TI:=⟨2,true,[Value.int IntKind.i64 0,Value.int IntKind.i64 0],[(0,1,false),(1,1,false)],none,16,6,none,true⟩
theorem TL8_28_ok:TypOk Tryz.prog 28 TL8_28:=by constructor <;> kernel_rfl
def TL8:List (Nat×TI):=[(29,TL8_29),(3,TL8_3),(31,TL8_31),(28,TL8_28)]
theorem TL8_ok:TabOk Tryz.prog TL8:=(((((TabOk.nil _).cons TL8_28_ok).cons TL8_31_ok).cons TL8_3_ok).cons TL8_29_ok)
mutual
def lowB:Tm→Bool
 | .mk _ k i a=>!(decide (k=0)&&decide (900000<i))&&lowsB a
def lowsB:List Tm→Bool
 | []=>true
 | t :: l=>lowB t&&lowsB l
end
theorem lowsB_all:∀ l:List Tm,lowsB l=l.all lowB
 | []=>rfl
 | t :: l=>by rw[lowsB,lowsB_all l];rfl
theorem lowB_eq (t:Tm):lowB t=(!(decide (t.kind=0)&&decide (900000<t.index))&&lowsB t.args):=by cases t;rfl
theorem all_false {l:List Tm}{j:Nat}(h:j<l.length)(hf:lowB l[j]=false):lowsB l=false:=by
 rw[lowsB_all,List.all_eq_false];exact⟨l[j],List.getElem_mem h,by rw[hf];simp⟩
set_option maxHeartbeats 1000000 in
theorem low_list (l:List Tm)(hl:l.length≤1000000)(ih:∀ t∈l,PureC Tryz.prog 23 [.sl 4 (eTms t.args) none] (.v (.bool (lowsB t.args)))):PureC Tryz.prog 23 [.sl 4 (eTms l) none] (.v (.bool (lowsB l))):=by
 refine call_of_dw 0 35 [ResultVar.tmp 2] TL8_ok (by kernel_rfl) Tryz.func23 rfl Tryz.ntmps23 rfl (by simp) ?dwords ?dbody
 case dwords=>simp[wordsOk,D.ok,D.oks,rnames,eTms_ok]
 case dbody=>
  intro cx hnt hn0
  refine dw_seq ?_;refine dwk [] TL8_ok hnt fun _ z9=>z9 _ _ ?_;refine dw_seq (dw_seq ?_);refine dwk [] TL8_ok hnt fun _ z9=>z9 _ _ ?_;refine dw_block ?_
  refine dw_loop (ι:={ j:Nat // ∀ i (h:i<l.length),i<j→lowB l[i]=true }) (fun j=>[(.t 0,.sl 4 (eTms l) none),(.t 3,.v (.int .i64 (j.1:Int)))]) 1 (fun j=>l.length-j.1) ⟨0,fun i h1 h2=>by omega⟩ VS.toA fun j=>?_
  obtain⟨j,hj⟩:=j
  dsimp only
  refine dw_seq (dw_seq ?_)
  by_cases hlt:j<l.length
  ·have hi:=ih l[j] (List.getElem_mem hlt)
   have hlo:=lowB_eq l[j]
   refine dwk [(7,.v (.bool true))] TL8_ok hnt fun K hK=>?_;refine And.intro (dtrue (by rw[eTms_len];omega)) ?_;refine hK _ _ ?_;clear hK K;refine dw_cond (t:=true) rfl ?_;rw[if_pos rfl];refine dw_skip ?_;refine dw_seq (dw_block (dw_seq ?_))
   have hq:(eTms l).getD (j:Int).toNat []=[.sl 2 (eTys l[j].binds) none,.v (.int .i64 l[j].kind),.v (.int .i64 l[j].index),.sl 4 (eTms l[j].args) none]:=by rw[Int.toNat_natCast,eTms_getD l j hlt,eTm_eq]
   have hb:(0:Int)≤(j:Int)∧(j:Int)<((eTms l).length:Int):=⟨by omega,by rw[eTms_len];omega⟩
   have hret:lowB l[j]=false→∀ σ N,DW Tryz.prog cx (.ret) σ N (RetOk TL8 [ResultVar.tmp 2] (.v (.bool (lowsB l))) [])→True:=fun _ _ _ _=>trivial
   by_cases hk:l[j].kind=0
   ·by_cases hx:900000<l[j].index
    ·have hf:lowsB l=false:=all_false hlt (by rw[hlo];simp[hk,hx])
     rw[hf]
     refine dwk [(12,.q [.sl 2 (eTys l[j].binds) none,.v (.int .i64 l[j].kind),.v (.int .i64 l[j].index),.sl 4 (eTms l[j].args) none]),(16,.v (.bool true)),(20,.q [.sl 2 (eTys l[j].binds) none,.v (.int .i64 l[j].kind),.v (.int .i64 l[j].index),.sl 4 (eTms l[j].args) none]),(24,.v (.bool true))] TL8_ok hnt fun K hK=>?_;refine And.intro (hb) ?_;refine And.intro (VLe.of_eq (by rw[hq])) ?_
     refine And.intro (VLe.of_eq (by simp[hk])) ?_;refine And.intro (hb) ?_;refine And.intro (VLe.of_eq (by rw[hq])) ?_;refine And.intro (dtrue hx) ?_;refine hK _ _ ?_;clear hK K;refine dw_cond (t:=true) rfl ?_;rw[if_pos rfl];refine dw_seq ?_;refine dwk [] TL8_ok hnt fun _ z9=>z9 _ _ ?_;refine dw_ret ?_
     exact retv (N:=0) (.inr rfl) rfl (VLe.refl _) trivial
    ·cases hla:lowsB l[j].args with
     | false=>
      have hf:lowsB l=false:=all_false hlt (by rw[hlo,hla];simp)
      rw[hf]
      rw[hla] at hi
      refine dwk [(12,.q [.sl 2 (eTys l[j].binds) none,.v (.int .i64 l[j].kind),.v (.int .i64 l[j].index),.sl 4 (eTms l[j].args) none]),(16,.v (.bool true)),(20,.q [.sl 2 (eTys l[j].binds) none,.v (.int .i64 l[j].kind),.v (.int .i64 l[j].index),.sl 4 (eTms l[j].args) none]),(24,.v (.bool false)),(29,.q [.sl 2 (eTys l[j].binds) none,.v (.int .i64 l[j].kind),.v (.int .i64 l[j].index),.sl 4 (eTms l[j].args) none])] TL8_ok hnt fun K hK=>?_
      refine And.intro (hb) ?_;refine And.intro (VLe.of_eq (by rw[hq])) ?_;refine And.intro (VLe.of_eq (by simp[hk])) ?_;refine And.intro (hb) ?_;refine And.intro (VLe.of_eq (by rw[hq])) ?_;refine And.intro (dfalse hx) ?_;refine And.intro (hb) ?_;refine And.intro (VLe.of_eq (by rw[hq])) ?_;refine dcl (hi) ?_;refine hK _ _ ?_;clear hK K;refine dw_cond (t:=true) rfl ?_;rw[if_pos rfl];refine dw_seq ?_
      refine dwk [] TL8_ok hnt fun _ z9=>z9 _ _ ?_;refine dw_ret ?_
      exact retv (N:=0) (.inr rfl) rfl (VLe.refl _) trivial
     | true=>
      rw[hla] at hi
      refine dwk [(12,.q [.sl 2 (eTys l[j].binds) none,.v (.int .i64 l[j].kind),.v (.int .i64 l[j].index),.sl 4 (eTms l[j].args) none]),(16,.v (.bool true)),(20,.q [.sl 2 (eTys l[j].binds) none,.v (.int .i64 l[j].kind),.v (.int .i64 l[j].index),.sl 4 (eTms l[j].args) none]),(24,.v (.bool false)),(29,.q [.sl 2 (eTys l[j].binds) none,.v (.int .i64 l[j].kind),.v (.int .i64 l[j].index),.sl 4 (eTms l[j].args) none])] TL8_ok hnt fun K hK=>?_
      refine And.intro (hb) ?_;refine And.intro (VLe.of_eq (by rw[hq])) ?_;refine And.intro (VLe.of_eq (by simp[hk])) ?_;refine And.intro (hb) ?_;refine And.intro (VLe.of_eq (by rw[hq])) ?_;refine And.intro (dfalse hx) ?_;refine And.intro (hb) ?_;refine And.intro (VLe.of_eq (by rw[hq])) ?_;refine dcl (hi) ?_;refine hK _ _ ?_;clear hK K;refine dw_cond (t:=false) rfl ?_;rw[if_neg (by simp)]
      refine dw_skip ?_;refine dwk [(9,.v (.int .i64 ((j+1:Nat):Int)))] TL8_ok hnt fun K hK=>?_;refine And.intro (dintE (by rw[IntWalk.i64_in _ (by omega)];omega)) ?_;refine hK _ _ ?_;clear hK K
      refine⟨⟨j+1,fun i h1 h2=>?_⟩,by dsimp only;omega,VS.toA⟩
      by_cases he:i=j
      ·subst he;rw[hlo,hla];simp[hx]
      ·exact hj i h1 (by omega)
   ·cases hla:lowsB l[j].args with
    | false=>
     have hf:lowsB l=false:=all_false hlt (by rw[hlo,hla];simp)
     rw[hf]
     rw[hla] at hi
     refine dwk [(12,.q [.sl 2 (eTys l[j].binds) none,.v (.int .i64 l[j].kind),.v (.int .i64 l[j].index),.sl 4 (eTms l[j].args) none]),(16,.v (.bool false)),(29,.q [.sl 2 (eTys l[j].binds) none,.v (.int .i64 l[j].kind),.v (.int .i64 l[j].index),.sl 4 (eTms l[j].args) none])] TL8_ok hnt fun K hK=>?_;refine And.intro (hb) ?_;refine And.intro (VLe.of_eq (by rw[hq])) ?_;refine And.intro (VLe.of_eq (by simp[hk])) ?_
     refine And.intro (hb) ?_;refine And.intro (VLe.of_eq (by rw[hq])) ?_;refine dcl (hi) ?_;refine hK _ _ ?_;clear hK K;refine dw_cond (t:=true) rfl ?_;rw[if_pos rfl];refine dw_seq ?_;refine dwk [] TL8_ok hnt fun _ z9=>z9 _ _ ?_;refine dw_ret ?_
     exact retv (N:=0) (.inr rfl) rfl (VLe.refl _) trivial
    | true=>
     rw[hla] at hi
     refine dwk [(12,.q [.sl 2 (eTys l[j].binds) none,.v (.int .i64 l[j].kind),.v (.int .i64 l[j].index),.sl 4 (eTms l[j].args) none]),(16,.v (.bool false)),(29,.q [.sl 2 (eTys l[j].binds) none,.v (.int .i64 l[j].kind),.v (.int .i64 l[j].index),.sl 4 (eTms l[j].args) none])] TL8_ok hnt fun K hK=>?_;refine And.intro (hb) ?_;refine And.intro (VLe.of_eq (by rw[hq])) ?_;refine And.intro (VLe.of_eq (by simp[hk])) ?_
     refine And.intro (hb) ?_;refine And.intro (VLe.of_eq (by rw[hq])) ?_;refine dcl (hi) ?_;refine hK _ _ ?_;clear hK K;refine dw_cond (t:=false) rfl ?_;rw[if_neg (by simp)];refine dw_skip ?_;refine dwk [(9,.v (.int .i64 ((j+1:Nat):Int)))] TL8_ok hnt fun K hK=>?_;refine And.intro (dintE (by rw[IntWalk.i64_in _ (by omega)];omega)) ?_;refine hK _ _ ?_;clear hK K
     refine⟨⟨j+1,fun i h1 h2=>?_⟩,by dsimp only;omega,VS.toA⟩
     by_cases he:i=j
     ·subst he;rw[hlo,hla];simp[hk]
     ·exact hj i h1 (by omega)
  ·have hf:lowsB l=true:=by
    rw[lowsB_all,List.all_eq_true]
    intro t ht
    obtain⟨i,hi,rfl⟩:=List.getElem_of_mem ht
    exact hj i hi (by omega)
   rw[hf]
   refine dwk [(7,.v (.bool false))] TL8_ok hnt fun K hK=>?_;refine And.intro (dfalse (by rw[eTms_len];omega)) ?_;refine hK _ _ ?_;clear hK K;refine dw_cond (t:=false) rfl ?_;rw[if_neg (by simp)];refine dw_exit ?_;refine dw_seq ?_;refine dwk [] TL8_ok hnt fun _ z9=>z9 _ _ ?_;refine dw_ret ?_
   exact retv (N:=0) (.inr rfl) rfl (VLe.refl _) trivial
theorem low_args:∀ (t:Tm),Wide t→PureC Tryz.prog 23 [.sl 4 (eTms t.args) none] (.v (.bool (lowsB t.args))):=by
 intro t
 induction t using Tm.ind with
 | h bs k i a ih=>
  intro hw
  obtain⟨_,w2,w3⟩:=hw.inv
  exact low_list a (by omega) fun u hu=>ih u hu (w3 u hu)
theorem low_d (l:List Tm)(hl:l.length≤1000000)(hw:∀ t∈l,Wide t):PureC Tryz.prog 23 [.sl 4 (eTms l) none] (.v (.bool (lowsB l))):=low_list l hl fun t ht=>low_args t (hw t ht)
theorem wide_full:∀ t:Tm,t.full≤100000→Wide t:=by
 intro t
 induction t using Tm.ind with
 | h bs k i a ih=>
  intro h
  rw[Tm.full_eq] at h
  have h1:=Ty.le_sizes bs
  have key:∀ l:List Tm,l.length≤Tm.fulls l∧∀ u∈l,u.full≤Tm.fulls l:=by
   intro l
   induction l with
   | nil=>exact⟨by simp,nofun⟩
   | cons t l ihl=>
    have ht:1≤t.full:=by obtain⟨_,_,_,_⟩:=t;rw[Tm.full_eq];omega
    simp only[Tm.fulls,List.length_cons]
    refine⟨by omega,fun u hu=>?_⟩
    rcases List.mem_cons.1 hu with rfl | hu
    ·omega
    ·have:=ihl.2 u hu;omega
  have h2:=key a
  exact .mk _ _ _ _ (by omega) (by omega) fun t ht=>ih t ht (by have:=h2.2 t ht;omega)
namespace Pn
end Pn
namespace Pn
end Pn
def rowsR (R:List (Key×D)):List Nat:=R.filterMap fun p=>match p.1 with | .r g=>some g | _=>none
def rowN (R:List (Key×D)):Nat→Bool:=fun g=>(rowsR R).contains g
theorem mem_rowsR {R:List (Key×D)}{g:Nat}{d:D}(h:(Key.r g,d)∈R):rowN R g=true:=by
 unfold rowN;rw[List.contains_iff_mem];exact List.mem_filterMap.2 ⟨_,h,rfl⟩
theorem of_rowsR {R:List (Key×D)}{g:Nat}(h:rowN R g=true):∃ d,(Key.r g,d)∈R:=by
 unfold rowN at h;rw[List.contains_iff_mem] at h
 obtain⟨p,hp,e⟩:=List.mem_filterMap.1 h
 obtain⟨key,d⟩:=p
 cases key with
 | r g'=>simp at e;subst e;exact⟨d,hp⟩
 | _=>cases e
def gkey:Key→Bool
 | .c _ _=>true
 | .o _=>true
 | .r _=>true
 | _=>false
def wordsG (args:List D)(R W:List (Key×D))(V:D)(N0:Nat):Bool:=
 args.all (fun d=>d.ok (inN R) (rowN R))&&R.all (fun p=>p.2.ok (inN R) (rowN R)&&gkey p.1)&&W.all (fun p=>p.2.ok (inN R) (rowN R)&&(match p.1 with | .c k _=>inN R k | .o k=>inN R k | .r g=>rowN R g | _=>false))&&V.ok (inN R) (rowN R)&&(rnames R).all (fun k=>decide (k<N0))&&(rowsR R).all (fun g=>decide (g<N0)&&W.any fun p=>Key.eq p.1 (.r g))
def eUse (u:Pn.Use):List D:=[.v (.int .i64 u.mt),.sl 1 (eIs u.vars) none,.sl 2 (eTys u.binds) none,.sl 1 (eIs u.path) none]
def eUses (l:List Pn.Use):List (List D):=l.map eUse
@[simp] theorem eUses_ok (f g:Nat→Bool) (l:List Pn.Use):D.okss f g (eUses l)=true:=D.okss_map _ l fun u _=>by simp[eUse,D.oks,D.ok,eIs_ok,eTys_ok]
namespace Pn
end Pn
theorem VLe.ps0 (n g:Nat):VLe (.sl n [] (some g)) (.ps g 0):=fun m Im w x h=>by
 cases h with
 | sl a c bl off n X l r h1 ha hc hn ho hr hg=>exact .ps a c g 0 (fun h=>absurd h (by omega)) (Nat.zero_le _) (hg g rfl)
section
variable {P:Program} {T:List (Nat×TI)} {cx:Cx} {Fr Fr':Nat→Prop} {m m':Mp} {Im Im':Nat→Nat→Prop} {w w':World} {a:Act} {σ σ' τ:List (Key×D)} {N N':Nat} {Q:Exit→List (Key×D)→Nat→Prop}
theorem VS.thaw {g E n:Nat}(h:get σ (.r g)=some (.rw E n 0)):VS cx σ N (put1 (.r g) (.rp E n []) σ) N:=fun m Im w a hs=>by
 obtain⟨R,hR,hro⟩:=hs.ro g _ h
 have e:=hro.rwi
 injection e with e1 e2 e3
 obtain⟨xs,hx⟩:=hs.mem.row g R hR
 have hxs:xs=[]:=by
  have:=hx.1
  rw[←e3,Nat.zero_mul] at this
  exact List.length_eq_zero_iff.1 this
 subst hxs
 refine⟨m,hs.putro hR ?_⟩
 rw[e1,e2]
 refine .rp (R:=R) [] [] (by rw[←e3];rfl) (fun i h=>absurd h (by simp)) hx (fun u h=>absurd h (by simp)) (fun i h=>absurd h (by simp)) fun b o hb hi=>?_
 have:=hs.mem.rIm g R b o hR hb hi
 rw[←e3,Nat.zero_mul] at this
 omega
theorem VS.rowPT {x:Nat}(hx:x<cx.nt)(E n:Nat)(h:get σ (.t x)=some (.v (.slice none 0 0))):VS cx σ N (put1 (.r N) (.rp E n []) (put1 (.t x) (.ps N 0) σ)) (N+1):=fun m Im w a hs=>by
 obtain⟨m',h'⟩:=((VS.rowT (N:=N) hx E n h).trans (VS.thaw (g:=N) (E:=E) (n:=n) (by rw[get_put1,if_pos (Key.eq_refl _)]))) m Im w a hs
 refine⟨m',{ h' with tm:=fun y d hy=>?_,ce:=fun k off d hy=>?_,ro:=fun g d hy=>?_,jk:=fun d hy=>?_,ok:=fun k d hy=>?_ }⟩
 ·rw[get_put1,if_neg (by simp[Key.eq]),get_put1] at hy
  by_cases e:Key.eq (.t x) (.t y)=true
  ·rw[if_pos e] at hy
   have:=Key.eq_iff.1 e;cases this
   cases hy
   exact VLe.ps0 n N _ _ _ _ (h'.tm x _ (by rw[get_put1,if_neg (by simp[Key.eq]),get_put1,if_neg (by simp[Key.eq]),get_put1,if_pos (Key.eq_refl _)]))
  ·rw[if_neg e] at hy
   exact h'.tm y d (by rw[get_put1,if_neg (by simp[Key.eq]),get_put1,if_neg (by simp[Key.eq]),get_put1,if_neg e];exact hy)
 ·rw[get_put1,if_neg (by simp[Key.eq]),get_put1,if_neg (by simp[Key.eq])] at hy
  exact h'.ce k off d (by rw[get_put1,if_neg (by simp[Key.eq]),get_put1,if_neg (by simp[Key.eq]),get_put1,if_neg (by simp[Key.eq])];exact hy)
 ·refine h'.ro g d ?_
  rw[get_put1] at hy ⊢
  split
  ·rename_i e;rw[if_pos e] at hy;exact hy
  ·rename_i e
   rw[if_neg e,get_put1,if_neg (by simp[Key.eq])] at hy
   rw[get_put1,if_neg e,get_put1,if_neg (by simp[Key.eq])];exact hy
 ·rw[get_put1,if_neg (by simp[Key.eq]),get_put1,if_neg (by simp[Key.eq])] at hy
  exact h'.jk d (by rw[get_put1,if_neg (by simp[Key.eq]),get_put1,if_neg (by simp[Key.eq]),get_put1,if_neg (by simp[Key.eq])];exact hy)
 ·rw[get_put1,if_neg (by simp[Key.eq]),get_put1,if_neg (by simp[Key.eq])] at hy
  exact h'.ok k d (by rw[get_put1,if_neg (by simp[Key.eq]),get_put1,if_neg (by simp[Key.eq]),get_put1,if_neg (by simp[Key.eq])];exact hy)
theorem St.freeze (h:St cx Fr m Im w a σ){g E n:Nat}{l:List (List D)}(hg:get σ (.r g)=some (.rp E n l)):
  ∃ Im',(∀ b o,Im b o→Im' b o)∧St cx Fr m Im' w a (put1 (.r g) (.rw E n l.length) σ)∧∀ x,Rel m Im w x (.ps g l.length)→Rel m Im' w x (.sl n l (some g)):=by
 obtain⟨R,hR,hro⟩:=h.ro g _ hg
 cases hro with
 | rp _ xs hl hn hown h1 hrr hni=>
 have hi:∀ b o,Im b o→Im b o∨(R.hv.ownBlock=some b∧o<R.len * R.n):=fun _ _ h=>.inl h
 have hmono:∀ {x d},Rel m Im w x d→Rel m (fun b o=>Im b o∨(R.hv.ownBlock=some b∧o<R.len * R.n)) w x d:=fun hx=>hx.mono (Mp.le.refl m) (KeepI.refl _ _) hi
 have hcell:∀ b o,R.hv.ownBlock=some b→o<R.len * R.n→∃ v,xs[o]?=some v∧w.cell? ⟨b,o,none⟩=some v:=fun b o hb ho=>by
  have hlt:o<xs.length:=by rw[hown.1];exact ho
  have:=hown.cells hb o _ (List.getElem?_eq_getElem hlt)
  rw[addr_add0] at this
  exact⟨_,List.getElem?_eq_getElem hlt,this⟩
 refine⟨fun b o=>Im b o∨(R.hv.ownBlock=some b∧o<R.len * R.n),hi,?_,fun x hx=>?_⟩
 ·have hs:St cx Fr m (fun b o=>Im b o∨(R.hv.ownBlock=some b∧o<R.len * R.n)) w a (σ.filter fun p=>!Key.eq (.r g) p.1):=by
   have hf:∀ k d,get (σ.filter fun p=>!Key.eq (.r g) p.1) k=some d→Key.eq (.r g) k=false∧get σ k=some d:=fun k d hk=>by
    rw[get_filter (fun k=>!Key.eq (.r g) k)] at hk
    split at hk
    ·rename_i e;exact⟨by simpa using e,hk⟩
    ·cases hk
   refine⟨{ h.mem with im:=?_,imb:=?_,im0:=?_,nim:=?_,rIm:=?_,onim:=?_ },h.df,h.nt,fun x d hx=>hmono (h.tm x d (hf _ _ hx).2),fun k off d hx=>?_,fun x d hx=>?_,fun d hd=>?_,fun k d hx=>?_⟩
   ·rintro b o (hh | ⟨hb,ho⟩)
    ·exact h.mem.im b o hh
    ·obtain⟨v,_,hv⟩:=hcell b o hb ho;exact⟨v,hv⟩
   ·rintro b o (hh | ⟨hb,ho⟩)
    ·exact h.mem.imb b o hh
    ·exact .inr (h.mem.rown g R b hR hb)
   ·intro b o hh;exact .inl (h.mem.im0 b o hh)
   ·rintro k b o hk (hh | ⟨hb,ho⟩)
    ·exact h.mem.nim k b o hk hh
    ·exact h.mem.rblk g R b k hR hb hk
   ·rintro x R0 b o hx hb0 (hh | ⟨hb,ho⟩)
    ·exact h.mem.rIm x R0 b o hx hb0 hh
    ·have:=h.mem.rinj x g R0 R b hx hR hb0 hb
     subst this
     rw[hR] at hx;cases hx;exact ho
   ·rintro k b o hk (hh | ⟨hb,ho⟩)
    ·exact h.mem.onim k b o hk hh
    ·exact h.mem.orow k g R b hk hR hb
   ·obtain⟨b,v,q1,q2,q3⟩:=h.ce k off d (hf _ _ hx).2
    exact⟨b,v,q1,q2,hmono q3⟩
   ·obtain⟨e,hx⟩:=hf _ _ hx
    obtain⟨R0,q1,q2⟩:=h.ro x d hx
    have hne:x≠g:=fun e2=>by subst e2;rw[Key.eq_refl] at e;cases e
    refine⟨R0,q1,q2.mono (fun _ _=>rfl) (Mp.le.refl m) (KeepI.refl _ _) hi ?_⟩
    rintro b o hb0 (hh | ⟨hb,ho⟩)
    ·exact hh
    ·exact absurd (h.mem.rinj x g R0 R b q1 hR hb0 hb) hne
   ·obtain⟨X,J,e,hX⟩:=h.jk d (hf _ _ hd).2
    refine⟨X,J,e,{ hX with nim:=?_ }⟩
    rintro b o hb (hh | ⟨hb2,ho⟩)
    ·exact hX.nim b o hb hh
    ·exact hX.row b g R hb hR hb2
   ·obtain⟨b,q1,q2⟩:=h.ok k d (hf _ _ hx).2
    exact⟨b,q1,q2.mono rfl (Mp.le.refl m) (KeepI.refl _ _) hi⟩
  have h2:=hs.putro hR (RoOk.rw (m:=m) (Im:=fun b o=>Im b o∨(R.hv.ownBlock=some b∧o<R.len * R.n)) (w:=w) (R:=R))
  rw[hl]
  refine h2.sub fun k d hk=>?_
  rw[get_put1] at hk ⊢
  split
  ·rename_i e;rw[if_pos e] at hk;exact hk
  ·rename_i e;rw[if_neg e] at hk
   rw[get_filter (fun k=>!Key.eq (.r g) k),if_pos (by simpa using e)];exact hk
 ·cases hx with
  | ps a0 c0 _ _ ha _ hh=>
  obtain⟨R0,p1,p2,p3⟩:=hh
  rw[hR] at p1;cases p1
  have hv:=p3 hl
  have hc:l.length≤maxLen∧l.length≤c0:=by
   rcases hown.2 with⟨e,h0⟩ | ⟨g',cap,cur,e,_,_,hnc,hcm,_⟩
   ·rw[hl,h0];omega
   ·rw[e] at hv;injection hv with _ _ q;rw[hl,←q];exact⟨by omega,hnc⟩
  have hij:∀ i j,i<l.length→j<R.n→i * R.n+j<R.len * R.n:=fun i j hi2 hj=>by
   have:(i+1) * R.n≤R.len * R.n:=Nat.mul_le_mul_right _ (by omega)
   rw[Nat.succ_mul] at this;omega
  have hgd:∀ i j,i<l.length→j<R.n→xs[i * R.n+j]?=some (xs.getD (i * R.n+j) undef):=fun i j hi2 hj=>by
   have:i * R.n+j<xs.length:=by rw[hown.1];exact hij i j hi2 hj
   rw[List.getD_eq_getElem?_getD,List.getElem?_eq_getElem this];rfl
  obtain⟨bl,hbl⟩:∃ bl,0<l.length→a0=some ⟨bl,0,none⟩:=by
   by_cases h0:0<l.length
   ·obtain⟨b,hb⟩:=ha h0;exact⟨b,fun _=>hb⟩
   ·exact⟨0,fun h=>absurd h h0⟩
  have hob:0<l.length→R.hv.ownBlock=some bl:=fun h0=>by rw[hv,hbl h0];rfl
  refine .sl a0 c0 bl 0 R.n (fun i j=>xs.getD (i * R.n+j) undef) l (some g) hc hbl (fun i j hi2 hj=>?_) hn (fun i j hi2 hj=>?_) (fun i hi2 j hj=>?_) fun r e=>?_
  ·have h0:=hob (by omega)
   obtain⟨v,q1,q2⟩:=hcell bl _ h0 (hij i j hi2 hj)
   rw[hgd i j hi2 hj] at q1;cases q1
   rw[Nat.zero_add]
   exact⟨q2,.inr ⟨h0,hij i j hi2 hj⟩⟩
  ·exact h1 _ (List.mem_of_getElem? (hgd i j hi2 hj))
  ·exact hmono (hrr i hi2 j hj)
  ·cases e;exact⟨R,hR,by omega,fun _=>hv⟩
theorem dw_freeze {c:Code}{x g E n len:Nat}{l:List (List D)}(hx:get σ (.t x)=some (.ps g len))(hg:get σ (.r g)=some (.rp E n l))(hl:l.length=len)(h:DW P cx c (put1 (.t x) (.sl n l (some g)) (put1 (.r g) (.rw E n l.length) σ)) N Q):DW P cx c σ N Q:=fun m Im w a hs=>by
 obtain⟨Im',hi,h2,h3⟩:=hs.freeze hg
 subst hl
 have hr:=h3 _ (hs.tm x _ hx)
 refine h m Im' w a { h2 with tm:=fun y d hy=>?_,ce:=fun k off d hy=>?_,ro:=fun k d hy=>?_,jk:=fun d hy=>?_,ok:=fun k d hy=>?_ }
 ·rw[get_put1] at hy
  by_cases e:Key.eq (.t x) (.t y)=true
  ·rw[if_pos e] at hy
   have:=Key.eq_iff.1 e;cases this
   cases hy;exact hr
  ·rw[if_neg e] at hy
   exact h2.tm y d hy
 ·rw[get_put1,if_neg (by simp[Key.eq])] at hy;exact h2.ce k off d hy
 ·rw[get_put1,if_neg (by simp[Key.eq])] at hy;exact h2.ro k d hy
 ·rw[get_put1,if_neg (by simp[Key.eq])] at hy;exact h2.jk d hy
 ·rw[get_put1,if_neg (by simp[Key.eq])] at hy;exact h2.ok k d hy
theorem cut_any (m m':Mp):(m.cut (fun _=>false) noR).le m':=⟨fun k b h=>by simp[Mp.cut] at h,fun g R h=>by simp[Mp.cut,noR] at h,fun k b h=>by simp[Mp.cut] at h⟩
theorem St.adopt {cx':Cx}{a':Act}(hs:St cx Fr m Im w a σ){nm:Nat}(hnm:Fr nm)(hs':St cx' Fr' m' Im' w' a' σ')(c3:cx'.w0=w)(c4:∀ b,¬ cx'.C b)(c5:cx'.Im0=Im){g:Nat}{R:RowM}{d:D}(hR:m'.row g=some R)(hro:RoOk m' Im' w' R d)(hd:d.ok (fun _=>false) noR=true):
  St cx (minus Fr nm) (m.setR nm R) Im' w' a (put1 (.r nm) d σ)∧m.le (m.setR nm R)∧KeepI Im w w'∧∀ b o,Im b o→Im' b o:=by
 have hbl:Below w.heap.size w w':=by
  have ho:=hs'.mem.off
  rw[c3] at ho
  exact⟨ho.os,ho.tape,ho.output,ho.size,fun b hb=>ho.block b hb (c4 b)⟩
 have hi:∀ b o,Im b o→Im' b o:=fun b o h=>hs'.mem.im0 b o (by rw[c5];exact h)
 have hib:∀ b o,Im' b o→Im b o∨w.heap.size≤b:=fun b o h=>by
  rcases hs'.mem.imb b o h with h1 | h1 | h1
  ·left;rw[c5] at h1;exact h1
  ·right;rw[c3] at h1;exact h1
  ·exact absurd (cx'.hCR b h1) (c4 b)
 have h1:=hs.below hbl hi hib hs'.mem.im
 have hle:m.le (m.setR nm R):=Mp.setR_le fun R0 h0=>by rw[(hs.mem.fr nm hnm).2.1] at h0;cases h0
 have hnew:∀ b,R.hv.ownBlock=some b→w.heap.size≤b:=fun b hb=>by
  rcases hs'.mem.rown g R b hR hb with h1 | h1
  ·rw[c3] at h1;exact h1
  ·exact absurd (cx'.hCR b h1) (c4 b)
 have hcase:∀ {x R0},(m.setR nm R).row x=some R0→(x=nm∧R0=R)∨(x≠nm∧m.row x=some R0):=fun {x R0} hx=>by
  by_cases e:x=nm
  ·left;simp[Mp.setR,e] at hx;exact⟨e,hx.symm⟩
  ·right;simp[Mp.setR,e] at hx;exact⟨e,hx⟩
 have hro2:RoOk (m.setR nm R) Im' w' R d:=(hro.cut hd).mono (fun _ _=>rfl) (cut_any _ _) (KeepI.refl _ _) (fun _ _ h=>h) fun _ _ _ h=>h
 refine⟨?_,hle,KeepI.below hbl,hi⟩
 refine⟨{ h1.mem with row:=?_,rIm:=?_,rblk:=?_,rinj:=?_,fr:=?_,rown:=?_,m0r:=hs.mem.m0r_le hle,orow:=?_ },h1.df,h1.nt,fun x d hx=>(h1.tm x d (by rw[get_put1,if_neg (by simp[Key.eq])] at hx;exact hx)).mono hle (KeepI.refl _ _) (fun _ _ h=>h),fun x off d hx=>?_,fun x d hx=>?_,fun d hd=>?_,fun x d hd=>?_⟩
 ·intro x R0 hx
  rcases hcase hx with⟨_,rfl⟩ | ⟨_,hx⟩
  ·exact hs'.mem.row g R0 hR
  ·exact h1.mem.row x R0 hx
 ·intro x R0 b o hx
  rcases hcase hx with⟨_,rfl⟩ | ⟨_,hx⟩
  ·exact hs'.mem.rIm g R0 b o hR
  ·exact h1.mem.rIm x R0 b o hx
 ·intro x R0 b k hx
  rcases hcase hx with⟨_,rfl⟩ | ⟨_,hx⟩
  ·intro e hk;have:=hs.mem.lt k _ hk;have:=hnew b e;omega
  ·exact h1.mem.rblk x R0 b k hx
 ·intro x y R0 R1 b hx hy ho ho'
  rcases hcase hx with⟨e1,e2⟩ | ⟨_,hx⟩ <;> rcases hcase hy with⟨e3,e4⟩ | ⟨_,hy⟩
  ·rw[e1,e3]
  ·rw[e2] at ho;have:=hnew b ho;have:=hs.mem.rlt hy ho';omega
  ·rw[e4] at ho';have:=hnew b ho';have:=hs.mem.rlt hx ho;omega
  ·exact h1.mem.rinj x y R0 R1 b hx hy ho ho'
 ·intro x hx;refine⟨(hs.mem.fr x hx.1).1,?_,(hs.mem.fr x hx.1).2.2⟩;simp[Mp.setR,hx.2,(hs.mem.fr x hx.1).2.1]
 ·intro x y R0 b hx hy
  rcases hcase hy with⟨_,rfl⟩ | ⟨_,hy⟩
  ·intro e;have:=hs.mem.olt x _ hx;have:=hnew b e;omega
  ·exact h1.mem.orow x y R0 b hx hy
 ·intro x R0 b hx ho
  rcases hcase hx with⟨_,rfl⟩ | ⟨_,hx⟩
  ·exact .inl (Nat.le_trans hs.mem.off.size (hnew b ho))
  ·exact h1.mem.rown x R0 b hx ho
 ·rw[get_put1,if_neg (by simp[Key.eq])] at hx
  obtain⟨c,v,q1,q2,q3⟩:=h1.ce x off d hx
  exact⟨c,v,q1,q2,q3.mono hle (KeepI.refl _ _) (fun _ _ h=>h)⟩
 ·rw[get_put1] at hx
  by_cases he:Key.eq (.r nm) (.r x)=true
  ·rw[if_pos he] at hx
   cases hx
   have:=Key.eq_iff.1 he
   cases this
   exact⟨R,by simp[Mp.setR],hro2⟩
  ·rw[if_neg he] at hx
   obtain⟨R0,q1,q2⟩:=h1.ro x d hx
   have hne:x≠nm:=fun e=>he (by rw[e];exact Key.eq_refl _)
   exact⟨R0,by simp[Mp.setR,hne,q1],q2.mono (fun _ _=>rfl) hle (KeepI.refl _ _) (fun _ _ h=>h) fun _ _ _ h=>h⟩
 ·rw[get_put1,if_neg (by simp[Key.eq])] at hd
  obtain⟨X,J,e,hX⟩:=h1.jk d hd
  obtain⟨X0,J0,e0,hX0⟩:=hs.jk d hd
  rw[e] at e0;cases e0
  refine⟨X,J,e,{ hX with row:=fun b x R0 hb hx ho=>?_ }⟩
  rcases hcase hx with⟨_,rfl⟩ | ⟨_,hx⟩
  ·have:=hX0.lt b hb;have:=hnew b ho;omega
  ·exact hX.row b x R0 hb hx ho
 ·rw[get_put1,if_neg (by simp[Key.eq])] at hd
  obtain⟨b,q1,q2⟩:=h1.ok x d hd
  exact⟨b,q1,q2.mono rfl hle (KeepI.refl _ _) fun _ _ h=>h⟩
theorem callPriv_of_dw {f:FuncId}{fn:Func}{c:Code}{args:List D}{n E len:Nat}{l:List (List D)}(nt:Nat)(rs:List ResultVar)(hT:TabOk P T)(hen:entersB P f=true)(hf:P.funcs[f]?=some fn)(hb:fn.body=some c)(hnt:fn.ntmps=nt)(hrs:fn.results.toList=rs) 
  (hal:args.length≤nt) (ha:args.all (fun d=>d.ok (fun _=>false) noR)=true) (hlo:D.okss (fun _=>false) noR l=true)
  (h:∀ cx:Cx,cx.nt=nt→cx.n0=0→DW P cx c (argsT 0 args []) 0 (fun e σ _=>(e=.normal∨e=.ret)∧∃ g,resD T σ rs=some (.ps g len)∧get σ (.r g)=some (.rp E n l))) (nm:Nat) :
  CallN P f args [] nm [(.r nm,.rp E n l)] (.ps nm len):=by
 refine⟨hen,fun cx Fr m Im w a σ vs hnm hs hargs _=>?_⟩
 refine calls_of_wp hf hb ?_
 obtain⟨cx',c1,c2,c3,c4,c5,hst⟩:=entry0 hs.mem hargs ha nt hal hnt
 refine Code.wp_mono (fun e a' w' ⟨σ',N',m',Im',⟨hq1,g,hq2,hq3⟩,hs'⟩=>?_) (h cx' c1 c2 _ Im w _ hst)
 obtain⟨v,r1,r2⟩:=resD_run (P:=P) (fn:=fn) hT hs' (by rw[hrs];exact hq2)
 obtain⟨R,hR,hro⟩:=hs'.ro g _ hq3
 obtain⟨s1,s2,s3,s4⟩:=hs.adopt hnm hs' c3 c4 c5 hR hro (by simpa only[D.ok] using hlo)
 have hv:Rel (m.setR nm R) Im' w' v (.ps nm len):=by
  cases r2 with
  | ps a0 c0 _ _ ha hcp hh=>
   obtain⟨R0,q1,q2,q3⟩:=hh
   rw[hR] at q1;cases q1
   exact .ps a0 c0 nm len ha hcp ⟨R,by simp[Mp.setR],q2,q3⟩
 have hfin:∃ v' m2 Im2,Ending.returned v=.returned v'∧St cx (minus Fr nm) m2 Im2 w' a (puts (dropT [] σ) [(.r nm,.rp E n l)])∧Rel m2 Im2 w' v' (.ps nm len):=by
  rw[dropT_nil]
  exact⟨v,_,Im',rfl,s1,hv⟩
 rcases hq1 with rfl | rfl
 ·exact⟨hs'.df,v,r1,hfin⟩
 ·exact⟨hs'.df,v,r1,hfin⟩
end
namespace So
variable {α:Type} {l l' r r':List (Int×α)}
def Srt (l:List (Int×α)):Prop:=l.Pairwise fun a b=>a.1≤b.1
def ins (x:Int×α):List (Int×α)→List (Int×α)
 | []=>[x]
 | y :: l=>if y.1≤x.1 then y :: ins x l else x :: y :: l
def ssr:List (Int×α)→List (Int×α)
 | []=>[]
 | x :: l=>ins x (ssr l)
def ss (l:List (Int×α)):List (Int×α):=ssr l.reverse
inductive Ch (s:Nat):List (Int×α)→Prop where
 | last (l:List (Int×α)) (h:l.length≤s) (hs:Srt l):Ch s l
 | cons (c l:List (Int×α)) (hc:c.length=s) (hs:Srt c) (h:Ch s l):Ch s (c++l)
inductive Fu (s:Nat):List (Int×α)→Prop where
 | nil:Fu s []
 | cons (c l:List (Int×α)) (hc:c.length=s) (hs:Srt c) (h:Fu s l):Fu s (c++l)
theorem Fu.ch {s:Nat}{P Q:List (Int×α)}(h:Fu s P)(hQ:Ch s Q):Ch s (P++Q):=by
 induction h with
 | nil=>exact hQ
 | cons d l hd hsd h ih=>rw[List.append_assoc];exact .cons d _ hd hsd ih
theorem Ch.more {s:Nat}{Q:List (Int×α)}(h:Ch s Q)(hl:s<Q.length):∃ c l,Q=c++l∧c.length=s∧Srt c∧Ch s l:=by
 cases h with
 | last l h hs=>omega
 | cons c l hc hs h=>exact⟨c,l,rfl,hc,hs,h⟩
theorem Ch.one {s:Nat}{Q:List (Int×α)}(h:Ch s Q)(hl:Q.length≤s)(hs:0<s):Srt Q:=by
 cases h with
 | last l h hs=>exact hs
 | cons c l hc hsc h=>
  have:l=[]:=List.length_eq_zero_iff.1 (by simp at hl;omega)
  subst this;simpa using hsc
end So
namespace Pn
abbrev Spot:=Tm×List Ty×List Int
mutual
def subs:Tm→List Ty→List Int→List Spot
 | .mk bs k i a,ar,p=>(.mk bs k i a,ar++bs,p) :: subss a (ar++bs) p 0
def subss:List Tm→List Ty→List Int→Nat→List Spot
 | [],_,_,_=>[]
 | t :: l,ar,p,j=>subs t ar (p++[(j:Int)])++subss l ar p (j+1)
end
def atP:List Int→Tm→Option (Tm×List Ty)
 | [],t=>some (t,t.binds)
 | j :: p,t=>if 0≤j∧j<(t.args.length:Int) then (atP p (t.args.getD j.toNat Tm.zero)).map fun r=>(r.1,t.binds++r.2) else none
theorem atP_app:∀ (p q:List Int) (T:Tm),atP (p++q) T=(atP p T).bind fun r=>(atP q r.1).map fun r'=>(r'.1,r.2++r'.2.drop r.1.binds.length)
 | [],q,T=>by
  rw[List.nil_append,atP]
  show _=(atP q T).map _
  cases h:atP q T with
  | none=>rfl
  | some r=>
   obtain⟨x,l⟩:=r
   have:∃ l',l=T.binds++l':=by
    cases q with
    | nil=>rw[atP] at h;cases h;exact⟨[],by simp⟩
    | cons j q=>
     rw[atP] at h
     split at h
     ·cases h2:atP q (T.args.getD j.toNat Tm.zero) with
      | none=>rw[h2] at h;cases h
      | some r=>rw[h2] at h;cases h;exact⟨_,rfl⟩
     ·cases h
   obtain⟨l',rfl⟩:=this
   simp
 | j :: p,q,T=>by
  rw[List.cons_append,atP,atP]
  split
  ·rw[atP_app p q]
   cases h:atP p (T.args.getD j.toNat Tm.zero) with
   | none=>rfl
   | some r=>
    show ((atP q r.1).map _).map _=(atP q r.1).map _
    cases h2:atP q r.1 with
    | none=>rfl
    | some r'=>simp
  ·rfl
mutual
def rigB:Tm→Tm→Bool
 | .mk bs k i a,t=>decide (bs=t.binds)&&(decide (k=2)||((decide (k=t.kind)&&decide (i=t.index))&&(decide (a.length=t.args.length)&&rigBs a t.args)))
def rigBs:List Tm→List Tm→Bool
 | [],_=>true
 | p :: l,ts=>rigB p (ts.headD Tm.zero)&&rigBs l ts.tail
end
end Pn
namespace So
end So
namespace So
end So
namespace So
variable {α:Type} {f:α→Bool} {l:List α} {j:Nat}
end So
def del (m:List Int)(p:Int×Tm):Bool:=m.any fun x=>decide (x=p.1)
def kept (m:List Int)(l:List (Int×Tm)):List (Int×Tm):=l.filter fun p=>!del m p
def TRP_31:TI:=⟨4,true,[Value.slice none 0 0,Value.int IntKind.i64 0,Value.int IntKind.i64 0,Value.slice none 0 0],[(0,1,false),(1,2,true),(3,1,false)],none,64,6,none,false⟩
theorem TRP_31_ok:TypOk Tryz.prog 31 TRP_31:=by constructor <;> kernel_rfl
def TRP_22:TI:=⟨1,false,[Value.slice none 0 0],[],some 104,24,5,none,false⟩
theorem TRP_22_ok:TypOk Tryz.prog 22 TRP_22:=by constructor <;> kernel_rfl
def TRP_71:TI:=⟨1,false,[Value.slice none 0 0],[],some 3,24,5,none,false⟩
theorem TRP_71_ok:TypOk Tryz.prog 71 TRP_71:=by constructor <;> kernel_rfl
def TRP_3:TI:=⟨1,false,[Value.int IntKind.i64 0],[],none,8,2,none,false⟩
theorem TRP_3_ok:TypOk Tryz.prog 3 TRP_3:=by constructor <;> kernel_rfl
def TRP_29:TI:=⟨1,false,[Value.slice none 0 0],[],some 31,24,5,none,false⟩
theorem TRP_29_ok:TypOk Tryz.prog 29 TRP_29:=by constructor <;> kernel_rfl
def TRP_104:TI:=⟨2,true,[Value.slice none 0 0,Value.int IntKind.i64 0],[(0,1,false),(1,1,false)],none,32,6,none,false⟩
theorem TRP_104_ok:TypOk Tryz.prog 104 TRP_104:=by constructor <;> kernel_rfl
def TRP:List (Nat×TI):=[(31,TRP_31),(22,TRP_22),(71,TRP_71),(3,TRP_3),(29,TRP_29),(104,TRP_104)]
theorem TRP_ok:TabOk Tryz.prog TRP:=(((((((TabOk.nil _).cons TRP_104_ok).cons TRP_29_ok).cons TRP_3_ok).cons TRP_71_ok).cons TRP_22_ok).cons TRP_31_ok)
namespace Pn
mutual
def pth:Tm→List Int→List (List Int)
 | .mk _ _ _ a,p=>p :: pths a p 0
def pths:List Tm→List Int→Nat→List (List Int)
 | [],_,_=>[]
 | t :: l,p,j=>pth t (p++[(j:Int)])++pths l p (j+1)
end
end Pn
def ePaths (l:List (List Int)):List (List D):=l.map fun p=>[.sl 1 (eIs p) none]
@[simp] theorem ePaths_ok (f g:Nat→Bool) (l:List (List Int)):D.okss f g (ePaths l)=true:=D.okss_map _ l fun l _=>by simp[D.oks,D.ok,eIs_ok]
theorem rbehind_d (l r:List Ty)(h:l.length+r.length≤900000):PureC Tryz.prog 38 [.sl 2 (eTys l) none,.sl 2 (eTys r) none] (.sl 2 (eTys (l++r)) none):=by
 rw[eTys_append]
 have e1:=eTys_len l
 have e2:=eTys_len r
 refine call_of_dw 0 12 [ResultVar.tmp 4] TRP_ok (by kernel_rfl) Tryz.func38 rfl Tryz.ntmps38 rfl (by simp) ?dwords ?dbody
 case dwords=>simp[wordsOk,D.ok,D.oks,D.okss,rnames,inN,ckey,eTys_ok,←eTys_append]
 case dbody=>
  intro cx hnt hn0
  refine dw_seq ?_;refine dwk [] TRP_ok hnt fun _ z9=>z9 _ _ ?_;refine dw_seq ?_;refine dwk [] TRP_ok hnt fun _ z9=>z9 _ _ ?_;refine dw_seq ?_;refine dwk [] TRP_ok hnt fun K hK=>?_;refine And.intro (by omega) ?_;refine hK _ _ ?_;clear hK K;refine dw_seq ?_;refine dwk [] TRP_ok hnt fun K hK=>?_;refine And.intro (⟨rfl,by omega⟩) ?_;refine hK _ _ ?_;clear hK K
  refine dw_ret ?_
  exact reta rfl
theorem atP_sizes:∀ (p:List Int) (t:Tm) (r:Tm×List Ty),Pn.atP p t=some r→r.2.length+r.1.full≤t.full+r.1.binds.length∧r.1.full≤t.full∧r.2.length≤t.full∧Ty.sizes r.2≤t.full
 | [],t,r,h=>by
  rw[Pn.atP] at h;cases h
  have:=full_args t
  have h2:=Ty.le_sizes t.binds
  dsimp only;omega
 | j :: p,t,r,h=>by
  rw[Pn.atP] at h
  split at h
  ·rename_i hj
   cases h2:Pn.atP p (t.args.getD j.toNat Tm.zero) with
   | none=>rw[h2] at h;cases h
   | some r'=>
    rw[h2] at h;cases h
    have hlt:j.toNat<t.args.length:=by omega
    have e:t.args.getD j.toNat Tm.zero=t.args[j.toNat]:=by rw[List.getD_eq_getElem?_getD,List.getElem?_eq_getElem hlt];rfl
    rw[e] at h2
    have ih:=atP_sizes p _ r' h2
    have hm:=full_mem (List.getElem_mem hlt)
    have:=full_args t
    have h3:=Ty.le_sizes t.binds
    dsimp only
    rw[List.length_append,Ty.sizes_append]
    omega
  ·cases h
def TF4_3:TI:=⟨1,false,[Value.int IntKind.i64 0],[],none,8,2,none,false⟩
theorem TF4_3_ok:TypOk Tryz.prog 3 TF4_3:=by constructor <;> kernel_rfl
def TF4_104:TI:=⟨2,true,[Value.slice none 0 0,Value.int IntKind.i64 0],[(0,1,false),(1,1,false)],none,32,6,none,false⟩
theorem TF4_104_ok:TypOk Tryz.prog 104 TF4_104:=by constructor <;> kernel_rfl
def TF4_22:TI:=⟨1,false,[Value.slice none 0 0],[],some 104,24,5,none,false⟩
theorem TF4_22_ok:TypOk Tryz.prog 22 TF4_22:=by constructor <;> kernel_rfl
def TF4:List (Nat×TI):=[(3,TF4_3),(104,TF4_104),(22,TF4_22)]
theorem TF4_ok:TabOk Tryz.prog TF4:=((((TabOk.nil _).cons TF4_22_ok).cons TF4_104_ok).cons TF4_3_ok)
mutual
def fewT (most:Int):Ty→Int→Int
 | .mk a _,d=>if d≤0 then most+1 else fewTs most a (d-1) 1
def fewTs (most:Int):List Ty→Int→Int→Int
 | [],_,n=>n
 | t :: l,d,n=>if n≤most then fewTs most l d (n+fewT most t d) else n
end
theorem fewTs_le {most:Int}(hm:0≤most){B:Int}(hB:0≤B):∀ (l:List Ty) (d n:Int),(∀ t∈l,1≤fewT most t d∧fewT most t d≤B)→1≤n→n≤most+B→1≤fewTs most l d n∧fewTs most l d n≤most+B
 | [],d,n,_,h0,h1=>by rw[fewTs];exact⟨h0,h1⟩
 | t :: l,d,n,h,h0,h1=>by
  rw[fewTs]
  split
  ·have:=h t (by simp)
   exact fewTs_le hm hB l d _ (fun u hu=>h u (by simp[hu])) (by omega) (by omega)
  ·exact⟨h0,h1⟩
theorem fewT_le {most:Int}(hm:1≤most):∀ (k:Nat) (t:Ty) (d:Int),d≤k→1≤fewT most t d∧fewT most t d≤most * k+most+1
 | 0,.mk a b,d,hd=>by
  rw[fewT,if_pos (by omega)]
  have e:most * ((0:Nat):Int)=0:=Int.mul_zero _
  rw[e];omega
 | k+1,.mk a b,d,hd=>by
  rw[fewT]
  have e:most * ((k+1:Nat):Int)=most * (k:Int)+most:=by rw[Int.natCast_add,Int.mul_add];simp
  have h0:0≤most * (k:Int):=Int.mul_nonneg (by omega) (by omega)
  split
  ·rw[e];omega
  ·have:=fewTs_le (most:=most) (by omega) (B:=most * k+most+1) (by omega) a (d-1) 1 (fun t _=>fewT_le hm k t (d-1) (by omega)) (by omega) (by omega)
   rw[e];omega
set_option maxHeartbeats 1000000 in
theorem few4_d (most:Int)(h1:1≤most)(h2:most≤1000):∀ (t:Ty) (d:Int),-1000≤d→d≤1000→PureC Tryz.prog 76 [.ag (eTy t),.v (.int .i64 most),.v (.int .i64 d)] (.v (.int .i64 (fewT most t d))):=by
 intro t
 induction t using Ty.ind with
 | h a b ih=>
 intro d hd1 hd2
 refine call_of_dw 0 37 [ResultVar.tmp 6] TF4_ok (by kernel_rfl) Tryz.func76 rfl Tryz.ntmps76 rfl (by simp) ?dwords ?dbody
 case dwords=>simp[wordsOk,D.ok,D.oks,rnames,eTy_ok]
 case dbody=>
  intro cx hnt hn0
  refine dw_seq ?_;refine dwk [] TF4_ok hnt fun _ z9=>z9 _ _ ?_;refine dw_seq (dw_seq ?_)
  by_cases hd:d≤0
  ·have hf:fewT most (.mk a b) d=most+1:=by rw[fewT,if_pos hd]
   rw[hf]
   refine dwk [(10,.v (.bool true))] TF4_ok hnt fun K hK=>?_;refine And.intro (dtrue hd) ?_;refine hK _ _ ?_;clear hK K;refine dw_cond (t:=true) rfl ?_;rw[if_pos rfl];refine dw_seq ?_;refine dwk [(12,.v (.int .i64 (most+1)))] TF4_ok hnt fun K hK=>?_;refine And.intro (dintE (IntWalk.i64_in _ (by omega))) ?_;refine hK _ _ ?_;clear hK K;refine dw_ret ?_
   exact retv (N:=0) (.inr rfl) rfl (VLe.refl _) trivial
  ·have hf:fewT most (.mk a b) d=fewTs most a (d-1) 1:=by rw[fewT,if_neg hd]
   rw[hf]
   refine dwk [(10,.v (.bool false))] TF4_ok hnt fun K hK=>?_;refine And.intro (dfalse hd) ?_;refine hK _ _ ?_;clear hK K;refine dw_cond (t:=false) rfl ?_;rw[if_neg (by simp)];refine dw_skip ?_;refine dw_seq ?_;refine dwk [] TF4_ok hnt fun _ z9=>z9 _ _ ?_;refine dw_seq (dw_seq ?_);refine dwk [] TF4_ok hnt fun _ z9=>z9 _ _ ?_;refine dw_block ?_
   refine dw_loop (ι:={ p:Nat×Int // fewTs most (a.drop p.1) (d-1) p.2=fewTs most a (d-1) 1∧(p.1:Int)+1≤p.2∧p.2≤2000000∧p.1≤a.length }) (fun p=>[(.t 1,.v (.int .i64 most)),(.t 2,.v (.int .i64 d)),(.t 3,.p 0 0),(.t 7,.v (.int .i64 p.1.2)),(.t 8,.v (.int .i64 (p.1.1:Int))),(.c 0 0,.sl 2 (eTys a) none),(.c 0 1,.v (.int .i64 b))]) 1 (fun p=>a.length-p.1.1) ⟨(0,1),by simp,by simp,by simp,by simp⟩ VS.toA fun p=>?_
   obtain⟨⟨j,n⟩,hj1,hj2,hj3,hj4⟩:=p
   dsimp only at hj1 hj2 hj3 hj4 ⊢
   refine dw_seq (dw_seq ?_)
   by_cases hlt:j<a.length
   ·have hdr:a.drop j=a[j] :: a.drop (j+1):=List.drop_eq_getElem_cons hlt
    rw[hdr,fewTs] at hj1
    by_cases hn:n≤most
    ·rw[if_pos hn] at hj1
     have hih:=ih a[j] (List.getElem_mem hlt) (d-1) (by omega) (by omega)
     rw[eTy_eq] at hih
     have hbd:=fewT_le h1 1000 a[j] (d-1) (by omega)
     have hbd2:most * ((1000:Nat):Int)≤1000000:=by
      have:most * ((1000:Nat):Int)=1000 * most:=by rw[Int.mul_comm];rfl
      omega
     refine dwk [(17,.v (.bool true)),(21,.v (.bool true))] TF4_ok hnt fun K hK=>?_;refine And.intro (dtrue (by rw[eTys_len];omega)) ?_;refine And.intro (dtrue hn) ?_;refine hK _ _ ?_;clear hK K;refine dw_cond (t:=true) rfl ?_;rw[if_pos rfl];refine dw_skip ?_;refine dw_seq (dw_block ?_);refine dwk [(29,.q [.sl 2 (eTys a[j].args) none,.v (.int .i64 a[j].base)]),(33,.v (.int .i64 (d-1))),(35,.v (.int .i64 (n+fewT most a[j] (d-1))))] TF4_ok hnt fun K hK=>?_
     refine And.intro (⟨by omega,by rw[eTys_len];omega⟩) ?_;refine And.intro (VLe.of_eq (by rw[Int.toNat_natCast,eTys_getD a j hlt,eTy_eq])) ?_;refine And.intro (dintE (IntWalk.i64_in _ (by omega))) ?_;refine dcl (hih) ?_;refine And.intro (dintE (IntWalk.i64_in _ (by omega))) ?_;refine hK _ _ ?_;clear hK K;refine dwk [(24,.v (.int .i64 ((j+1:Nat):Int)))] TF4_ok hnt fun K hK=>?_;refine And.intro (dintE (by rw[IntWalk.i64_in _ (by omega)];omega)) ?_
     refine hK _ _ ?_;clear hK K
     exact⟨⟨(j+1,n+fewT most a[j] (d-1)),hj1,by dsimp only;omega,by dsimp only;omega,hlt⟩,by dsimp only;omega,VS.toA⟩
    ·rw[if_neg hn] at hj1
     rw[←hj1]
     refine dwk [(17,.v (.bool true)),(21,.v (.bool false))] TF4_ok hnt fun K hK=>?_;refine And.intro (dtrue (by rw[eTys_len];omega)) ?_;refine And.intro (dfalse hn) ?_;refine hK _ _ ?_;clear hK K;refine dw_cond (t:=false) rfl ?_;rw[if_neg (by simp)];refine dw_exit ?_;refine dw_seq ?_;refine dwk [] TF4_ok hnt fun _ z9=>z9 _ _ ?_;refine dw_ret ?_
     exact retv (N:=0) (.inr rfl) rfl (VLe.refl _) trivial
   ·rw[List.drop_eq_nil_of_le (by omega),fewTs] at hj1
    rw[←hj1]
    refine dwk [(17,.v (.bool false))] TF4_ok hnt fun K hK=>?_;refine And.intro (dfalse (by rw[eTys_len];omega)) ?_;refine hK _ _ ?_;clear hK K;refine dw_cond (t:=false) rfl ?_;rw[if_neg (by simp)];refine dw_exit ?_;refine dw_seq ?_;refine dwk [] TF4_ok hnt fun _ z9=>z9 _ _ ?_;refine dw_ret ?_
    exact retv (N:=0) (.inr rfl) rfl (VLe.refl _) trivial
theorem fewTs_size {most:Int}:∀ (l:List Ty) (d n:Int),(∀ t∈l,fewT most t d≤most→(t.size:Int)=fewT most t d)→(∀ t∈l,1≤fewT most t d)→1≤n→fewTs most l d n≤most→fewTs most l d n=n+Ty.sizes l
 | [],d,n,_,_,_,_=>by rw[fewTs];simp[Ty.sizes]
 | t :: l,d,n,h,h1,hn,hf=>by
  rw[fewTs] at hf ⊢
  split at hf
  ·rename_i hm
   rw[if_pos hm]
   have h2:=h1 t (by simp)
   have h3:=fewTs_size l d _ (fun u hu=>h u (by simp[hu])) (fun u hu=>h1 u (by simp[hu])) (by omega) hf
   have h4:fewT most t d≤most:=by omega
   have h5:=h t (by simp) h4
   rw[h3,Ty.sizes];omega
  ·rename_i hm;omega
theorem fewT_size {most:Int}(hm:1≤most):∀ (k:Nat) (t:Ty) (d:Int),d≤k→fewT most t d≤most→(t.size:Int)=fewT most t d
 | 0,.mk a b,d,hd,h=>by rw[fewT,if_pos (by omega)] at h;omega
 | k+1,.mk a b,d,hd,h=>by
  rw[fewT] at h ⊢
  split at h
  ·omega
  ·rename_i hp
   rw[if_neg hp]
   have:=fewTs_size a (d-1) 1 (fun t _=>fewT_size hm k t (d-1) (by omega)) (fun t _=>(fewT_le hm k t (d-1) (by omega)).1) (by omega) h
   rw[this,Ty.size_eq];omega
theorem Few4_d (most:Int)(h1:1≤most)(h2:most≤1000)(t:Ty)(d:Int)(h3:-1000≤d)(h4:d≤1000):PureC Tryz.prog 39 [.ag (eTy t),.v (.int .i64 most),.v (.int .i64 d)] (.v (.bool (decide (fewT most t d≤most)))):=by
 have h:=few4_d most h1 h2 t d h3 h4
 rw[eTy_eq] at h ⊢
 refine call_of_dw 0 13 [ResultVar.tmp 6] TF4_ok (by kernel_rfl) Tryz.func39 rfl Tryz.ntmps39 rfl (by simp) ?dwords ?dbody
 case dwords=>simp[wordsOk,D.ok,D.oks,rnames,eTys_ok]
 case dbody=>
  intro cx hnt hn0
  refine dw_seq ?_;refine dwk [] TF4_ok hnt fun _ z9=>z9 _ _ ?_;refine dw_seq ?_;refine dwk [] TF4_ok hnt fun K hK=>?_;refine dcl (h) ?_;refine hK _ _ ?_;clear hK K;refine dw_ret ?_
  exact retv (N:=0) (.inr rfl) rfl (VLe.refl _) trivial
set_option maxHeartbeats 1000000 in
theorem Size4_d:∀ (t:Ty) (_:t.size≤1000000),PureC Tryz.prog 90 [.ag (eTy t)] (.v (.int .i64 (t.size:Int))):=by
 intro t
 induction t using Ty.ind with
 | h a b ih=>
 intro hsz
 have hsz2:=Ty.size_eq a b
 refine call_of_dw 0 21 [ResultVar.tmp 2] TF4_ok (by kernel_rfl) Tryz.func90 rfl Tryz.ntmps90 rfl (by simp) ?dwords ?dbody
 case dwords=>simp[wordsOk,D.ok,D.oks,rnames,eTy_ok]
 case dbody=>
  intro cx hnt hn0
  refine dw_seq ?_;refine dwk [] TF4_ok hnt fun _ z9=>z9 _ _ ?_;refine dw_seq ?_;refine dwk [] TF4_ok hnt fun _ z9=>z9 _ _ ?_;refine dw_seq (dw_seq ?_);refine dwk [] TF4_ok hnt fun _ z9=>z9 _ _ ?_;refine dw_block ?_
  refine dw_loop (ι:={ j:Nat // j≤a.length }) (fun j=>[(.t 1,.p 0 0),(.t 3,.v (.int .i64 ((Ty.sizes (a.take j.1):Int)+1))),(.t 4,.v (.int .i64 (j.1:Int))),(.c 0 0,.sl 2 (eTys a) none),(.c 0 1,.v (.int .i64 b))]) 1 (fun j=>a.length-j.1) ⟨0,Nat.zero_le _⟩ VS.toA fun j=>?_
  obtain⟨j,hj⟩:=j
  dsimp only
  have hst:=Ty.sizes_take_le a j
  have hst2:=Ty.sizes_take_le a (j+1)
  have hla:=Ty.le_sizes a
  refine dw_seq (dw_seq ?_)
  by_cases hlt:j<a.length
  ·have hih:=ih a[j] (List.getElem_mem hlt) (by have:=Ty.size_get (b:=b) j hlt;omega)
   rw[eTy_eq] at hih
   have htk:=Ty.sizes_take a j hlt
   refine dwk [(9,.v (.bool true))] TF4_ok hnt fun K hK=>?_;refine And.intro (dtrue (by rw[eTys_len];omega)) ?_;refine hK _ _ ?_;clear hK K;refine dw_cond (t:=true) rfl ?_;rw[if_pos rfl];refine dw_skip ?_;refine dw_seq (dw_block ?_);refine dwk [(16,.q [.sl 2 (eTys a[j].args) none,.v (.int .i64 a[j].base)]),(19,.v (.int .i64 ((Ty.sizes (a.take (j+1)):Int)+1)))] TF4_ok hnt fun K hK=>?_
   refine And.intro (⟨by omega,by rw[eTys_len];omega⟩) ?_;refine And.intro (VLe.of_eq (by rw[Int.toNat_natCast,eTys_getD a j hlt,eTy_eq])) ?_;refine dcl (hih) ?_;refine And.intro (dintE (by rw[IntWalk.i64_in _ (by omega),htk];omega)) ?_;refine hK _ _ ?_;clear hK K;refine dwk [(11,.v (.int .i64 ((j+1:Nat):Int)))] TF4_ok hnt fun K hK=>?_;refine And.intro (dintE (by rw[IntWalk.i64_in _ (by omega)];omega)) ?_
   refine hK _ _ ?_;clear hK K
   exact⟨⟨j+1,hlt⟩,by dsimp only;omega,VS.toA⟩
  ·skip
   refine dwk [(9,.v (.bool false))] TF4_ok hnt fun K hK=>?_;refine And.intro (dfalse (by rw[eTys_len];omega)) ?_;refine hK _ _ ?_;clear hK K;refine dw_cond (t:=false) rfl ?_;rw[if_neg (by simp)];refine dw_exit ?_;refine dw_seq ?_
   have hsz3:((Ty.mk a b).size:Int)=(Ty.sizes (a.take j):Int)+1:=by rw[List.take_of_length_le (by omega),hsz2];omega
   rw[hsz3]
   refine dwk [] TF4_ok hnt fun _ z9=>z9 _ _ ?_;refine dw_ret ?_
   exact retv (N:=0) (.inr rfl) rfl (VLe.refl _) trivial
def TF6_3:TI:=⟨1,false,[Value.int IntKind.i64 0],[],none,8,2,none,false⟩
theorem TF6_3_ok:TypOk Tryz.prog 3 TF6_3:=by constructor <;> kernel_rfl
def TF6_31:TI:=⟨4,true,[Value.slice none 0 0,Value.int IntKind.i64 0,Value.int IntKind.i64 0,Value.slice none 0 0],[(0,1,false),(1,2,true),(3,1,false)],none,64,6,none,false⟩
theorem TF6_31_ok:TypOk Tryz.prog 31 TF6_31:=by constructor <;> kernel_rfl
def TF6_22:TI:=⟨1,false,[Value.slice none 0 0],[],some 104,24,5,none,false⟩
theorem TF6_22_ok:TypOk Tryz.prog 22 TF6_22:=by constructor <;> kernel_rfl
def TF6_29:TI:=⟨1,false,[Value.slice none 0 0],[],some 31,24,5,none,false⟩
theorem TF6_29_ok:TypOk Tryz.prog 29 TF6_29:=by constructor <;> kernel_rfl
def TF6_104:TI:=⟨2,true,[Value.slice none 0 0,Value.int IntKind.i64 0],[(0,1,false),(1,1,false)],none,32,6,none,false⟩
theorem TF6_104_ok:TypOk Tryz.prog 104 TF6_104:=by constructor <;> kernel_rfl
def TF6:List (Nat×TI):=[(3,TF6_3),(31,TF6_31),(22,TF6_22),(29,TF6_29),(104,TF6_104)]
theorem TF6_ok:TabOk Tryz.prog TF6:=((((((TabOk.nil _).cons TF6_104_ok).cons TF6_29_ok).cons TF6_22_ok).cons TF6_31_ok).cons TF6_3_ok)
def fewB1 (most d:Int):List Ty→Int→Option Int
 | [],n=>some n
 | t :: l,n=>if n≤most then (if fewT most t d≤most then fewB1 most d l (n+t.size) else none) else some n
mutual
def fewM (most:Int):Tm→Int→Int
 | .mk bs _ _ a,d=>if d≤0 then most+1 else match fewB1 most d bs 1 with
  | none=>most+1
  | some n=>fewMs most a (d-1) n
def fewMs (most:Int):List Tm→Int→Int→Int
 | [],_,n=>n
 | t :: l,d,n=>if n≤most then fewMs most l d (n+fewM most t d) else n
end
theorem fewB1_le {most d:Int}(hm:1≤most)(hd:d≤1000):∀ (l:List Ty) (n:Int),1≤n→n≤2 * most→∀ r,fewB1 most d l n=some r→1≤r∧r≤2 * most
 | [],n,h0,h1,r,h=>by rw[fewB1] at h;cases h;exact⟨h0,h1⟩
 | t :: l,n,h0,h1,r,h=>by
  rw[fewB1] at h
  split at h
  ·split at h
   ·rename_i h2
    have:=fewT_size hm 1000 t d hd h2
    have:=(fewT_le hm 1000 t d hd).1
    exact fewB1_le hm hd l _ (by omega) (by omega) r h
   ·cases h
  ·cases h;exact⟨h0,h1⟩
theorem fewMs_le {most:Int}(hm:1≤most){B:Int}(hB:most≤B):∀ (l:List Tm) (d n:Int),(∀ t∈l,1≤fewM most t d∧fewM most t d≤B)→1≤n→n≤most+B→1≤fewMs most l d n∧fewMs most l d n≤most+B
 | [],d,n,_,h0,h1=>by rw[fewMs];exact⟨h0,h1⟩
 | t :: l,d,n,h,h0,h1=>by
  rw[fewMs]
  split
  ·have:=h t (by simp)
   exact fewMs_le hm hB l d _ (fun u hu=>h u (by simp[hu])) (by omega) (by omega)
  ·exact⟨h0,h1⟩
theorem fewM_le {most:Int}(hm:1≤most):∀ (k:Nat) (t:Tm) (d:Int),k≤1000→d≤k→1≤fewM most t d∧fewM most t d≤most * k+most+1
 | 0,.mk bs kd i a,d,hk,hd=>by
  rw[fewM,if_pos (by omega)]
  have e:most * ((0:Nat):Int)=0:=Int.mul_zero _
  rw[e];omega
 | k+1,.mk bs kd i a,d,hk,hd=>by
  rw[fewM]
  have e:most * ((k+1:Nat):Int)=most * (k:Int)+most:=by rw[Int.natCast_add,Int.mul_add];simp
  have h0:0≤most * (k:Int):=Int.mul_nonneg (by omega) (by omega)
  rw[e]
  split
  ·omega
  ·cases hb:fewB1 most d bs 1 with
   | none=>dsimp only;omega
   | some n=>
    have hn:=fewB1_le hm (by omega) bs 1 (by omega) (by omega) n hb
    have:=fewMs_le hm (B:=most * k+most+1) (by omega) a (d-1) n (fun t _=>fewM_le hm k t (d-1) (by omega) (by omega)) hn.1 (by omega)
    dsimp only
    omega
set_option maxHeartbeats 4000000 in
theorem few6_d (most:Int)(h1:1≤most)(h2:most≤1000):∀ (t:Tm) (d:Int),-1000≤d→d≤1000→PureC Tryz.prog 53 [.ag (eTm t),.v (.int .i64 most),.v (.int .i64 d)] (.v (.int .i64 (fewM most t d))):=by
 intro t
 induction t using Tm.ind with
 | h bs k i a ih=>
 intro d hd1 hd2
 obtain⟨V,hV⟩:∃ V,fewM most (.mk bs k i a) d=V:=⟨_,rfl⟩
 rw[hV]
 rw[fewM] at hV
 refine call_of_dw 0 69 [ResultVar.tmp 6] TF6_ok (by kernel_rfl) Tryz.func53 rfl Tryz.ntmps53 rfl (by simp) ?dwords ?dbody
 case dwords=>simp[wordsOk,D.ok,D.oks,rnames,eTm_ok]
 case dbody=>
  intro cx hnt hn0
  refine dw_seq ?_;refine dwk [] TF6_ok hnt fun _ z9=>z9 _ _ ?_;refine dw_seq (dw_seq ?_)
  by_cases hd:d≤0
  ·rw[if_pos hd] at hV
   subst hV
   refine dwk [(11,.v (.bool true))] TF6_ok hnt fun K hK=>?_;refine And.intro (dtrue hd) ?_;refine hK _ _ ?_;clear hK K;refine dw_cond (t:=true) rfl ?_;rw[if_pos rfl];refine dw_seq ?_;refine dwk [(13,.v (.int .i64 (most+1)))] TF6_ok hnt fun K hK=>?_;refine And.intro (dintE (IntWalk.i64_in _ (by omega))) ?_;refine hK _ _ ?_;clear hK K;refine dw_ret ?_
   exact retv (N:=0) (.inr rfl) rfl (VLe.refl _) trivial
  ·rw[if_neg hd] at hV;refine dwk [(11,.v (.bool false))] TF6_ok hnt fun K hK=>?_;refine And.intro (dfalse hd) ?_;refine hK _ _ ?_;clear hK K;refine dw_cond (t:=false) rfl ?_;rw[if_neg (by simp)];refine dw_skip ?_;refine dw_seq ?_;refine dwk [] TF6_ok hnt fun _ z9=>z9 _ _ ?_
   refine dw_cutE (ι:={ n:Int // 1≤n∧n≤2 * most∧V=fewMs most a (d-1) n }) (fun n=>[(.t 1,.v (.int .i64 most)),(.t 2,.v (.int .i64 d)),(.t 3,.p 0 0),(.t 7,.v (.int .i64 n.1)),(.c 0 0,.sl 2 (eTys bs) none),(.c 0 1,.v (.int .i64 k)),(.c 0 2,.v (.int .i64 i)),(.c 0 3,.sl 4 (eTms a) none)]) 1 ?_ fun n=>?_
   ·refine dw_seq ?_;refine dwk [] TF6_ok hnt fun _ z9=>z9 _ _ ?_;refine dw_block ?_
    refine dw_loop (ι:={ p:Nat×Int // fewB1 most d (bs.drop p.1) p.2=fewB1 most d bs 1∧(p.1:Int)+1≤p.2∧p.2≤2 * most∧p.1≤bs.length }) (fun p=>[(.t 1,.v (.int .i64 most)),(.t 2,.v (.int .i64 d)),(.t 3,.p 0 0),(.t 7,.v (.int .i64 p.1.2)),(.t 8,.v (.int .i64 (p.1.1:Int))),(.c 0 0,.sl 2 (eTys bs) none),(.c 0 1,.v (.int .i64 k)),(.c 0 2,.v (.int .i64 i)),(.c 0 3,.sl 4 (eTms a) none)]) 1 (fun p=>bs.length-p.1.1) ⟨(0,1),by simp,by simp,by dsimp only;omega,by simp⟩ VS.toA fun p=>?_
    obtain⟨⟨j,n⟩,hj1,hj2,hj3,hj4⟩:=p
    dsimp only at hj1 hj2 hj3 hj4 ⊢
    refine dw_seq (dw_seq ?_)
    by_cases hlt:j<bs.length
    ·have hdr:bs.drop j=bs[j] :: bs.drop (j+1):=List.drop_eq_getElem_cons hlt
     rw[hdr,fewB1] at hj1
     by_cases hn:n≤most
     ·rw[if_pos hn] at hj1
      have hF:=Few4_d most h1 h2 bs[j] d hd1 hd2
      rw[eTy_eq] at hF
      have hq:(eTys bs).getD (j:Int).toNat []=[.sl 2 (eTys bs[j].args) none,.v (.int .i64 bs[j].base)]:=by rw[Int.toNat_natCast,eTys_getD bs j hlt,eTy_eq]
      have hb:(0:Int)≤(j:Int)∧(j:Int)<((eTys bs).length:Int):=⟨by omega,by rw[eTys_len];omega⟩
      refine dwk [(18,.v (.bool true)),(22,.v (.bool true))] TF6_ok hnt fun K hK=>?_;refine And.intro (dtrue (by rw[eTys_len];omega)) ?_;refine And.intro (dtrue hn) ?_;refine hK _ _ ?_;clear hK K;refine dw_cond (t:=true) rfl ?_;rw[if_pos rfl];refine dw_skip ?_;refine dw_seq (dw_block ?_);refine dw_seq (dw_seq ?_)
      by_cases hff:fewT most bs[j] d≤most
      ·rw[if_pos hff] at hj1
       rw[decide_eq_true hff] at hF
       have hs1:=fewT_size h1 1000 bs[j] d (by omega) hff
       have hs2:=(fewT_le h1 1000 bs[j] d (by omega)).1
       have hS:=Size4_d bs[j] (by omega)
       rw[eTy_eq] at hS
       refine dwk [(29,.q [.sl 2 (eTys bs[j].args) none,.v (.int .i64 bs[j].base)])] TF6_ok hnt fun K hK=>?_;refine And.intro (hb) ?_;refine And.intro (VLe.of_eq (by rw[hq])) ?_;refine dcl (hF) ?_;refine hK _ _ ?_;clear hK K;refine dw_cond (t:=false) rfl ?_;rw[if_neg (by simp)];refine dw_skip ?_;refine dwk [(41,.q [.sl 2 (eTys bs[j].args) none,.v (.int .i64 bs[j].base)]),(44,.v (.int .i64 (n+(bs[j].size:Int))))] TF6_ok hnt fun K hK=>?_
       refine And.intro (hb) ?_;refine And.intro (VLe.of_eq (by rw[hq])) ?_;refine dcl (hS) ?_;refine And.intro (dintE (IntWalk.i64_in _ (by omega))) ?_;refine hK _ _ ?_;clear hK K;refine dwk [(25,.v (.int .i64 ((j+1:Nat):Int)))] TF6_ok hnt fun K hK=>?_;refine And.intro (dintE (by rw[IntWalk.i64_in _ (by omega)];omega)) ?_;refine hK _ _ ?_;clear hK K
       exact⟨⟨(j+1,n+(bs[j].size:Int)),hj1,by dsimp only;omega,by dsimp only;omega,hlt⟩,by dsimp only;omega,VS.toA⟩
      ·rw[if_neg hff] at hj1
       rw[decide_eq_false hff] at hF
       rw[←hj1] at hV
       dsimp only at hV
       subst hV
       refine dwk [(29,.q [.sl 2 (eTys bs[j].args) none,.v (.int .i64 bs[j].base)])] TF6_ok hnt fun K hK=>?_;refine And.intro (hb) ?_;refine And.intro (VLe.of_eq (by rw[hq])) ?_;refine dcl (hF) ?_;refine hK _ _ ?_;clear hK K;refine dw_cond (t:=true) rfl ?_;rw[if_pos rfl];refine dw_seq ?_;refine dwk [(36,.v (.int .i64 (most+1)))] TF6_ok hnt fun K hK=>?_;refine And.intro (dintE (IntWalk.i64_in _ (by omega))) ?_
       refine hK _ _ ?_;clear hK K;refine dw_ret ?_
       exact retv (N:=0) (.inr rfl) rfl (VLe.refl _) trivial
     ·rw[if_neg hn] at hj1
      rw[←hj1] at hV
      dsimp only at hV
      refine dwk [(18,.v (.bool true)),(22,.v (.bool false))] TF6_ok hnt fun K hK=>?_;refine And.intro (dtrue (by rw[eTys_len];omega)) ?_;refine And.intro (dfalse hn) ?_;refine hK _ _ ?_;clear hK K;refine dw_cond (t:=false) rfl ?_;rw[if_neg (by simp)];refine dw_exit ?_
      exact cutE_ok (Q:=RetOk TF6 [ResultVar.tmp 6] (.v (.int .i64 V)) []) ⟨n,by omega,hj3,hV.symm⟩ VS.toA
    ·rw[List.drop_eq_nil_of_le (by omega),fewB1] at hj1
     rw[←hj1] at hV
     dsimp only at hV
     refine dwk [(18,.v (.bool false))] TF6_ok hnt fun K hK=>?_;refine And.intro (dfalse (by rw[eTys_len];omega)) ?_;refine hK _ _ ?_;clear hK K;refine dw_cond (t:=false) rfl ?_;rw[if_neg (by simp)];refine dw_exit ?_
     exact cutE_ok (Q:=RetOk TF6 [ResultVar.tmp 6] (.v (.int .i64 V)) []) ⟨n,by omega,hj3,hV.symm⟩ VS.toA
   ·obtain⟨n0,hn1,hn2,hVn⟩:=n
    dsimp only
    rw[hVn]
    refine dw_seq (dw_seq ?_);refine dwk [] TF6_ok hnt fun _ z9=>z9 _ _ ?_;refine dw_block ?_
    refine dw_loop (ι:={ p:Nat×Int // fewMs most (a.drop p.1) (d-1) p.2=fewMs most a (d-1) n0∧(p.1:Int)+1≤p.2∧p.2≤2000000∧p.1≤a.length }) (fun p=>[(.t 1,.v (.int .i64 most)),(.t 2,.v (.int .i64 d)),(.t 3,.p 0 0),(.t 7,.v (.int .i64 p.1.2)),(.t 9,.v (.int .i64 (p.1.1:Int))),(.c 0 0,.sl 2 (eTys bs) none),(.c 0 1,.v (.int .i64 k)),(.c 0 2,.v (.int .i64 i)),(.c 0 3,.sl 4 (eTms a) none)]) 1 (fun p=>a.length-p.1.1) ⟨(0,n0),by simp,by dsimp only;omega,by dsimp only;omega,by simp⟩ VS.toA fun p=>?_
    obtain⟨⟨j,n⟩,hj1,hj2,hj3,hj4⟩:=p
    dsimp only at hj1 hj2 hj3 hj4 ⊢
    refine dw_seq (dw_seq ?_)
    by_cases hlt:j<a.length
    ·have hdr:a.drop j=a[j] :: a.drop (j+1):=List.drop_eq_getElem_cons hlt
     rw[hdr,fewMs] at hj1
     by_cases hn:n≤most
     ·rw[if_pos hn] at hj1
      have hih:=ih a[j] (List.getElem_mem hlt) (d-1) (by omega) (by omega)
      rw[eTm_eq] at hih
      have hbd:=fewM_le h1 1000 a[j] (d-1) (by omega) (by omega)
      have hbd2:most * ((1000:Nat):Int)≤1000000:=by
       have:most * ((1000:Nat):Int)=1000 * most:=by rw[Int.mul_comm];rfl
       omega
      refine dwk [(49,.v (.bool true)),(53,.v (.bool true))] TF6_ok hnt fun K hK=>?_;refine And.intro (dtrue (by rw[eTms_len];omega)) ?_;refine And.intro (dtrue hn) ?_;refine hK _ _ ?_;clear hK K;refine dw_cond (t:=true) rfl ?_;rw[if_pos rfl];refine dw_skip ?_;refine dw_seq (dw_block ?_);refine dwk [(61,.q [.sl 2 (eTys a[j].binds) none,.v (.int .i64 a[j].kind),.v (.int .i64 a[j].index),.sl 4 (eTms a[j].args) none]),(65,.v (.int .i64 (d-1))),(67,.v (.int .i64 (n+fewM most a[j] (d-1))))] TF6_ok hnt fun K hK=>?_
      refine And.intro (⟨by omega,by rw[eTms_len];omega⟩) ?_;refine And.intro (VLe.of_eq (by rw[Int.toNat_natCast,eTms_getD a j hlt,eTm_eq])) ?_;refine And.intro (dintE (IntWalk.i64_in _ (by omega))) ?_;refine dcl (hih) ?_;refine And.intro (dintE (IntWalk.i64_in _ (by omega))) ?_;refine hK _ _ ?_;clear hK K;refine dwk [(56,.v (.int .i64 ((j+1:Nat):Int)))] TF6_ok hnt fun K hK=>?_;refine And.intro (dintE (by rw[IntWalk.i64_in _ (by omega)];omega)) ?_
      refine hK _ _ ?_;clear hK K
      exact⟨⟨(j+1,n+fewM most a[j] (d-1)),hj1,by dsimp only;omega,by dsimp only;omega,hlt⟩,by dsimp only;omega,VS.toA⟩
     ·rw[if_neg hn] at hj1
      rw[←hj1]
      refine dwk [(49,.v (.bool true)),(53,.v (.bool false))] TF6_ok hnt fun K hK=>?_;refine And.intro (dtrue (by rw[eTms_len];omega)) ?_;refine And.intro (dfalse hn) ?_;refine hK _ _ ?_;clear hK K;refine dw_cond (t:=false) rfl ?_;rw[if_neg (by simp)];refine dw_exit ?_;refine dw_seq ?_;refine dwk [] TF6_ok hnt fun _ z9=>z9 _ _ ?_;refine dw_ret ?_
      exact retv (N:=0) (.inr rfl) rfl (VLe.refl _) trivial
    ·rw[List.drop_eq_nil_of_le (by omega),fewMs] at hj1
     rw[←hj1]
     refine dwk [(49,.v (.bool false))] TF6_ok hnt fun K hK=>?_;refine And.intro (dfalse (by rw[eTms_len];omega)) ?_;refine hK _ _ ?_;clear hK K;refine dw_cond (t:=false) rfl ?_;rw[if_neg (by simp)];refine dw_exit ?_;refine dw_seq ?_;refine dwk [] TF6_ok hnt fun _ z9=>z9 _ _ ?_;refine dw_ret ?_
     exact retv (N:=0) (.inr rfl) rfl (VLe.refl _) trivial
theorem Few6_d (most:Int)(h1:1≤most)(h2:most≤1000)(t:Tm)(d:Int)(h3:-1000≤d)(h4:d≤1000):PureC Tryz.prog 22 [.ag (eTm t),.v (.int .i64 most),.v (.int .i64 d)] (.v (.bool (decide (fewM most t d≤most)))):=by
 have h:=few6_d most h1 h2 t d h3 h4
 rw[eTm_eq] at h ⊢
 refine call_of_dw 0 13 [ResultVar.tmp 6] TF6_ok (by kernel_rfl) Tryz.func22 rfl Tryz.ntmps22 rfl (by simp) ?dwords ?dbody
 case dwords=>simp[wordsOk,D.ok,D.oks,rnames,eTys_ok,eTms_ok]
 case dbody=>
  intro cx hnt hn0
  refine dw_seq ?_;refine dwk [] TF6_ok hnt fun _ z9=>z9 _ _ ?_;refine dw_seq ?_;refine dwk [] TF6_ok hnt fun K hK=>?_;refine dcl (h) ?_;refine hK _ _ ?_;clear hK K;refine dw_ret ?_
  exact retv (N:=0) (.inr rfl) rfl (VLe.refl _) trivial
def fewB (t:Tm):Bool:=decide (fewM 150 t 70≤150)
set_option maxHeartbeats 1000000 in
theorem lawFew_d (l:List Tm)(hl:l.length≤1000000):PureC Tryz.prog 40 [.sl 4 (eTms l) none] (.v (.bool (l.all fewB))):=by
 refine call_of_dw 0 16 [ResultVar.tmp 2] TF6_ok (by kernel_rfl) Tryz.func40 rfl Tryz.ntmps40 rfl (by simp) ?dwords ?dbody
 case dwords=>simp[wordsOk,D.ok,D.oks,rnames,eTms_ok]
 case dbody=>
  intro cx hnt hn0
  refine dw_seq ?_;refine dwk [] TF6_ok hnt fun _ z9=>z9 _ _ ?_;refine dw_seq (dw_seq ?_);refine dwk [] TF6_ok hnt fun _ z9=>z9 _ _ ?_;refine dw_block ?_
  refine dw_loop (ι:={ j:Nat // ∀ i (h:i<l.length),i<j→fewB l[i]=true }) (fun j=>[(.t 0,.sl 4 (eTms l) none),(.t 3,.v (.int .i64 (j.1:Int)))]) 1 (fun j=>l.length-j.1) ⟨0,fun i h1 h2=>by omega⟩ VS.toA fun j=>?_
  obtain⟨j,hj⟩:=j
  dsimp only
  refine dw_seq (dw_seq ?_)
  by_cases hlt:j<l.length
  ·have hi:=Few6_d 150 (by decide) (by decide) l[j] 70 (by decide) (by decide)
   rw[eTm_eq] at hi
   have hq:(eTms l).getD (j:Int).toNat []=[.sl 2 (eTys l[j].binds) none,.v (.int .i64 l[j].kind),.v (.int .i64 l[j].index),.sl 4 (eTms l[j].args) none]:=by rw[Int.toNat_natCast,eTms_getD l j hlt,eTm_eq]
   have hb:(0:Int)≤(j:Int)∧(j:Int)<((eTms l).length:Int):=⟨by omega,by rw[eTms_len];omega⟩
   refine dwk [(7,.v (.bool true))] TF6_ok hnt fun K hK=>?_;refine And.intro (dtrue (by rw[eTms_len];omega)) ?_;refine hK _ _ ?_;clear hK K;refine dw_cond (t:=true) rfl ?_;rw[if_pos rfl];refine dw_skip ?_;refine dw_seq (dw_block (dw_seq ?_))
   cases hf:fewB l[j] with
   | true=>
    have hf2:=hf
    unfold fewB at hf2
    rw[hf2] at hi
    refine dwk [(12,.q [.sl 2 (eTys l[j].binds) none,.v (.int .i64 l[j].kind),.v (.int .i64 l[j].index),.sl 4 (eTms l[j].args) none])] TF6_ok hnt fun K hK=>?_;refine And.intro (hb) ?_;refine And.intro (VLe.of_eq (by rw[hq])) ?_;refine dcl (hi) ?_;refine hK _ _ ?_;clear hK K;refine dw_cond (t:=false) rfl ?_;rw[if_neg (by simp)];refine dw_skip ?_;refine dwk [(9,.v (.int .i64 ((j+1:Nat):Int)))] TF6_ok hnt fun K hK=>?_
    refine And.intro (dintE (by rw[IntWalk.i64_in _ (by omega)];omega)) ?_;refine hK _ _ ?_;clear hK K
    refine⟨⟨j+1,fun i h1 h2=>?_⟩,by dsimp only;omega,VS.toA⟩
    by_cases he:i=j
    ·subst he;exact hf
    ·exact hj i h1 (by omega)
   | false=>
    have hf2:=hf
    unfold fewB at hf2
    rw[hf2] at hi
    have ha:l.all fewB=false:=by rw[List.all_eq_false];exact⟨l[j],List.getElem_mem hlt,by rw[hf];simp⟩
    rw[ha]
    refine dwk [(12,.q [.sl 2 (eTys l[j].binds) none,.v (.int .i64 l[j].kind),.v (.int .i64 l[j].index),.sl 4 (eTms l[j].args) none])] TF6_ok hnt fun K hK=>?_;refine And.intro (hb) ?_;refine And.intro (VLe.of_eq (by rw[hq])) ?_;refine dcl (hi) ?_;refine hK _ _ ?_;clear hK K;refine dw_cond (t:=true) rfl ?_;rw[if_pos rfl];refine dw_seq ?_;refine dwk [] TF6_ok hnt fun _ z9=>z9 _ _ ?_
    refine dw_ret ?_
    exact retv (N:=0) (.inr rfl) rfl (VLe.refl _) trivial
  ·have ha:l.all fewB=true:=by
    rw[List.all_eq_true]
    intro t ht
    obtain⟨i,hi,rfl⟩:=List.getElem_of_mem ht
    exact hj i hi (by omega)
   rw[ha]
   refine dwk [(7,.v (.bool false))] TF6_ok hnt fun K hK=>?_;refine And.intro (dfalse (by rw[eTms_len];omega)) ?_;refine hK _ _ ?_;clear hK K;refine dw_cond (t:=false) rfl ?_;rw[if_neg (by simp)];refine dw_exit ?_;refine dw_seq ?_;refine dwk [] TF6_ok hnt fun _ z9=>z9 _ _ ?_;refine dw_ret ?_
   exact retv (N:=0) (.inr rfl) rfl (VLe.refl _) trivial
theorem fewB1_full {most d:Int}(hm:1≤most)(hd:d≤1000):∀ (l:List Ty) (n r:Int),fewB1 most d l n=some r→r≤most→r=n+Ty.sizes l
 | [],n,r,h,_=>by rw[fewB1] at h;cases h;simp[Ty.sizes]
 | t :: l,n,r,h,hr=>by
  rw[fewB1] at h
  split at h
  ·split at h
   ·have:=fewB1_full hm hd l _ r h hr
    rw[this,Ty.sizes];omega
   ·cases h
  ·cases h;omega
theorem fewMs_full {most:Int}:∀ (l:List Tm) (d n:Int),(∀ t∈l,fewM most t d≤most→(t.full:Int)=fewM most t d∧(t.depth:Int)≤d)→(∀ t∈l,1≤fewM most t d)→1≤n→fewMs most l d n≤most→fewMs most l d n=n+Tm.fulls l∧(∀ t∈l,(t.depth:Int)≤d)∧n≤most
 | [],d,n,_,_,_,h=>by rw[fewMs] at h ⊢;exact⟨by simp[Tm.fulls],nofun,h⟩
 | t :: l,d,n,h,h1,hn,hf=>by
  rw[fewMs] at hf ⊢
  split at hf
  ·rename_i hm
   rw[if_pos hm]
   have h2:=h1 t (by simp)
   obtain⟨h3,h4,h5⟩:=fewMs_full l d _ (fun u hu=>h u (by simp[hu])) (fun u hu=>h1 u (by simp[hu])) (by omega) hf
   obtain⟨h6,h7⟩:=h t (by simp) (by omega)
   refine⟨by rw[h3,Tm.fulls];omega,fun u hu=>?_,hm⟩
   rcases List.mem_cons.1 hu with rfl | hu
   ·exact h7
   ·exact h4 u hu
  ·rename_i hm;omega
theorem depths_max {d:Int}(hd:0≤d):∀ (l:List Tm),(∀ t∈l,(t.depth:Int)≤d)→(Tm.depths l:Int)≤d
 | [],_=>by simp[Tm.depths];exact hd
 | t :: l,h=>by
  have h1:=h t (by simp)
  have h2:=depths_max hd l fun u hu=>h u (by simp[hu])
  simp only[Tm.depths];omega
theorem fewM_full {most:Int}(hm:1≤most):∀ (k:Nat) (t:Tm) (d:Int),k≤1000→d≤k→fewM most t d≤most→(t.full:Int)=fewM most t d∧(t.depth:Int)≤d
 | 0,.mk bs kd i a,d,hk,hd,h=>by rw[fewM,if_pos (by omega)] at h;omega
 | k+1,.mk bs kd i a,d,hk,hd,h=>by
  rw[fewM] at h ⊢
  split at h
  ·omega
  ·rename_i hp
   rw[if_neg hp]
   cases hb:fewB1 most d bs 1 with
   | none=>rw[hb] at h;dsimp only at h;omega
   | some n=>
    rw[hb] at h
    dsimp only at h ⊢
    have hn:=fewB1_le hm (by omega) bs 1 (by omega) (by omega) n hb
    obtain⟨h3,h4,h5⟩:=fewMs_full a (d-1) n (fun t _=>fewM_full hm k t (d-1) (by omega) (by omega)) (fun t _=>(fewM_le hm k t (d-1) (by omega) (by omega)).1) hn.1 h
    have h6:=fewB1_full hm (by omega) bs 1 n hb h5
    have h7:=depths_max (by omega) a h4
    rw[Tm.full_eq,Tm.depth_eq]
    constructor
    ·omega
    ·omega
theorem fewB_full {t:Tm}(h:fewB t=true):t.full≤150∧t.depth≤70:=by
 unfold fewB at h
 rw[decide_eq_true_eq] at h
 obtain⟨h1,h2⟩:=fewM_full (by decide) 1000 t 70 (by decide) (by decide) h
 omega
def TS9_22:TI:=⟨1,false,[Value.slice none 0 0],[],some 104,24,5,none,false⟩
theorem TS9_22_ok:TypOk Tryz.prog 22 TS9_22:=by constructor <;> kernel_rfl
def TS9_3:TI:=⟨1,false,[Value.int IntKind.i64 0],[],none,8,2,none,false⟩
theorem TS9_3_ok:TypOk Tryz.prog 3 TS9_3:=by constructor <;> kernel_rfl
def TS9_24:TI:=⟨3,true,[Value.int IntKind.i64 0,Value.slice none 0 0,Value.slice none 0 0],[(0,1,false),(1,1,false),(2,1,false)],none,56,6,none,false⟩
theorem TS9_24_ok:TypOk Tryz.prog 24 TS9_24:=by constructor <;> kernel_rfl
def TS9_104:TI:=⟨2,true,[Value.slice none 0 0,Value.int IntKind.i64 0],[(0,1,false),(1,1,false)],none,32,6,none,false⟩
theorem TS9_104_ok:TypOk Tryz.prog 104 TS9_104:=by constructor <;> kernel_rfl
def TS9:List (Nat×TI):=[(22,TS9_22),(3,TS9_3),(24,TS9_24),(104,TS9_104)]
theorem TS9_ok:TabOk Tryz.prog TS9:=(((((TabOk.nil _).cons TS9_104_ok).cons TS9_24_ok).cons TS9_3_ok).cons TS9_22_ok)
def few4B (t:Ty):Bool:=decide (fewT 60 t 60≤60)
theorem fewT60 {t:Ty}(h:few4B t=true):t.size≤60:=by
 unfold few4B at h
 rw[decide_eq_true_eq] at h
 have:=fewT_size (by decide) 1000 t 60 (by decide) h
 omega
set_option maxHeartbeats 1000000 in
theorem small_d (b:Int)(C M X:List Ty)(h1:C.length≤20)(h2:M.length≤20)(h3:X.length≤20):PureC Tryz.prog 8 [.ag [.v (.int .i64 b),.sl 2 (eTys C) none,.sl 2 (eTys M) none],.sl 2 (eTys X) none] (.v (.bool (((C++M)++X).all few4B))):=by
 have hB:=rbehind_d C M (by omega)
 have hB2:=rbehind_d (C++M) X (by simp;omega)
 obtain⟨l,hl⟩:∃ l,(C++M)++X=l:=⟨_,rfl⟩
 rw[hl] at hB2 ⊢
 have hll:l.length≤60:=by rw[←hl];simp;omega
 refine call_of_dw 0 41 [ResultVar.tmp 4] TS9_ok (by kernel_rfl) Tryz.func8 rfl Tryz.ntmps8 rfl (by simp) ?dwords ?dbody
 case dwords=>simp[wordsOk,D.ok,D.oks,rnames,eTys_ok]
 case dbody=>
  intro cx hnt hn0
  refine dw_seq ?_;refine dwk [] TS9_ok hnt fun _ z9=>z9 _ _ ?_;refine dw_seq (dw_seq ?_);refine dwk [(10,.v (.bool false)),(15,.v (.bool false)),(20,.v (.bool false))] TS9_ok hnt fun K hK=>?_;refine And.intro (dfalse (by rw[eTys_len];omega)) ?_;refine And.intro (dfalse (by rw[eTys_len];omega)) ?_;refine And.intro (dfalse (by rw[eTys_len];omega)) ?_;refine hK _ _ ?_;clear hK K
  refine dw_cond (t:=false) rfl ?_;rw[if_neg (by simp)];refine dw_skip ?_;refine dw_seq ?_;refine dwk [] TS9_ok hnt fun K hK=>?_;refine dcl (hB) ?_;refine dcl (hB2) ?_;refine hK _ _ ?_;clear hK K;refine dw_seq (dw_seq ?_);refine dwk [] TS9_ok hnt fun _ z9=>z9 _ _ ?_;refine dw_block ?_
  refine dw_loop (ι:={ j:Nat // ∀ i (h:i<l.length),i<j→few4B l[i]=true }) (fun j=>[(.t 5,.sl 2 (eTys l) none),(.t 6,.v (.int .i64 (j.1:Int)))]) 1 (fun j=>l.length-j.1) ⟨0,fun i h1 h2=>by omega⟩ VS.toA fun j=>?_
  obtain⟨j,hj⟩:=j
  dsimp only
  refine dw_seq (dw_seq ?_)
  by_cases hlt:j<l.length
  ·have hi:=Few4_d 60 (by decide) (by decide) l[j] 60 (by decide) (by decide)
   rw[eTy_eq] at hi
   have hq:(eTys l).getD (j:Int).toNat []=[.sl 2 (eTys l[j].args) none,.v (.int .i64 l[j].base)]:=by rw[Int.toNat_natCast,eTys_getD l j hlt,eTy_eq]
   have hb:(0:Int)≤(j:Int)∧(j:Int)<((eTys l).length:Int):=⟨by omega,by rw[eTys_len];omega⟩
   refine dwk [(32,.v (.bool true))] TS9_ok hnt fun K hK=>?_;refine And.intro (dtrue (by rw[eTys_len];omega)) ?_;refine hK _ _ ?_;clear hK K;refine dw_cond (t:=true) rfl ?_;rw[if_pos rfl];refine dw_skip ?_;refine dw_seq (dw_block (dw_seq ?_))
   cases hf:few4B l[j] with
   | true=>
    have hf2:=hf
    unfold few4B at hf2
    rw[hf2] at hi
    refine dwk [(37,.q [.sl 2 (eTys l[j].args) none,.v (.int .i64 l[j].base)])] TS9_ok hnt fun K hK=>?_;refine And.intro (hb) ?_;refine And.intro (VLe.of_eq (by rw[hq])) ?_;refine dcl (hi) ?_;refine hK _ _ ?_;clear hK K;refine dw_cond (t:=false) rfl ?_;rw[if_neg (by simp)];refine dw_skip ?_;refine dwk [(34,.v (.int .i64 ((j+1:Nat):Int)))] TS9_ok hnt fun K hK=>?_;refine And.intro (dintE (by rw[IntWalk.i64_in _ (by omega)];omega)) ?_
    refine hK _ _ ?_;clear hK K
    refine⟨⟨j+1,fun i h1 h2=>?_⟩,by dsimp only;omega,VS.toA⟩
    by_cases he:i=j
    ·subst he;exact hf
    ·exact hj i h1 (by omega)
   | false=>
    have hf2:=hf
    unfold few4B at hf2
    rw[hf2] at hi
    have ha:l.all few4B=false:=by rw[List.all_eq_false];exact⟨l[j],List.getElem_mem hlt,by rw[hf];simp⟩
    rw[ha]
    refine dwk [(37,.q [.sl 2 (eTys l[j].args) none,.v (.int .i64 l[j].base)])] TS9_ok hnt fun K hK=>?_;refine And.intro (hb) ?_;refine And.intro (VLe.of_eq (by rw[hq])) ?_;refine dcl (hi) ?_;refine hK _ _ ?_;clear hK K;refine dw_cond (t:=true) rfl ?_;rw[if_pos rfl];refine dw_seq ?_;refine dwk [] TS9_ok hnt fun _ z9=>z9 _ _ ?_;refine dw_ret ?_
    exact retv (N:=0) (.inr rfl) rfl (VLe.refl _) trivial
  ·have ha:l.all few4B=true:=by
    rw[List.all_eq_true]
    intro t ht
    obtain⟨i,hi,rfl⟩:=List.getElem_of_mem ht
    exact hj i hi (by omega)
   rw[ha]
   refine dwk [(32,.v (.bool false))] TS9_ok hnt fun K hK=>?_;refine And.intro (dfalse (by rw[eTys_len];omega)) ?_;refine hK _ _ ?_;clear hK K;refine dw_cond (t:=false) rfl ?_;rw[if_neg (by simp)];refine dw_exit ?_;refine dw_seq ?_;refine dwk [] TS9_ok hnt fun _ z9=>z9 _ _ ?_;refine dw_ret ?_
   exact retv (N:=0) (.inr rfl) rfl (VLe.refl _) trivial
set_option maxHeartbeats 1000000 in
theorem small_no (b:Int)(C M X:List Ty)(h:¬ (C.length≤20∧M.length≤20∧X.length≤20)):PureC Tryz.prog 8 [.ag [.v (.int .i64 b),.sl 2 (eTys C) none,.sl 2 (eTys M) none],.sl 2 (eTys X) none] (.v (.bool false)):=by
 refine call_of_dw 0 41 [ResultVar.tmp 4] TS9_ok (by kernel_rfl) Tryz.func8 rfl Tryz.ntmps8 rfl (by simp) ?dwords ?dbody
 case dwords=>simp[wordsOk,D.ok,D.oks,rnames,eTys_ok]
 case dbody=>
  intro cx hnt hn0
  refine dw_seq ?_;refine dwk [] TS9_ok hnt fun _ z9=>z9 _ _ ?_;refine dw_seq (dw_seq ?_)
  by_cases h1:C.length≤20
  ·by_cases h2:M.length≤20
   ·skip
    refine dwk [(10,.v (.bool false)),(15,.v (.bool false)),(20,.v (.bool true))] TS9_ok hnt fun K hK=>?_;refine And.intro (dfalse (by rw[eTys_len];omega)) ?_;refine And.intro (dfalse (by rw[eTys_len];omega)) ?_;refine And.intro (dtrue (by rw[eTys_len];omega)) ?_;refine hK _ _ ?_;clear hK K;refine dw_cond (t:=true) rfl ?_;rw[if_pos rfl];refine dw_seq ?_;refine dwk [] TS9_ok hnt fun K hK=>?_
    refine hK _ _ ?_;clear hK K;refine dw_ret ?_
    exact retv (N:=0) (.inr rfl) rfl (VLe.refl _) trivial
   ·skip
    refine dwk [(10,.v (.bool false)),(15,.v (.bool true))] TS9_ok hnt fun K hK=>?_;refine And.intro (dfalse (by rw[eTys_len];omega)) ?_;refine And.intro (dtrue (by rw[eTys_len];omega)) ?_;refine hK _ _ ?_;clear hK K;refine dw_cond (t:=true) rfl ?_;rw[if_pos rfl];refine dw_seq ?_;refine dwk [] TS9_ok hnt fun _ z9=>z9 _ _ ?_;refine dw_ret ?_
    exact retv (N:=0) (.inr rfl) rfl (VLe.refl _) trivial
  ·skip
   refine dwk [(10,.v (.bool true))] TS9_ok hnt fun K hK=>?_;refine And.intro (dtrue (by rw[eTys_len];omega)) ?_;refine hK _ _ ?_;clear hK K;refine dw_cond (t:=true) rfl ?_;rw[if_pos rfl];refine dw_seq ?_;refine dwk [] TS9_ok hnt fun _ z9=>z9 _ _ ?_;refine dw_ret ?_
   exact retv (N:=0) (.inr rfl) rfl (VLe.refl _) trivial
def TTO_3:TI:=⟨1,false,[Value.int IntKind.i64 0],[],none,8,2,none,false⟩
theorem TTO_3_ok:TypOk Tryz.prog 3 TTO_3:=by constructor <;> kernel_rfl
def TTO_104:TI:=⟨2,true,[Value.slice none 0 0,Value.int IntKind.i64 0],[(0,1,false),(1,1,false)],none,32,6,none,false⟩
theorem TTO_104_ok:TypOk Tryz.prog 104 TTO_104:=by constructor <;> kernel_rfl
def TTO_106:TI:=⟨2,true,[Value.slice none 0 0,Value.int IntKind.i64 0],[(0,1,false),(1,1,false)],none,32,6,none,false⟩
theorem TTO_106_ok:TypOk Tryz.prog 106 TTO_106:=by constructor <;> kernel_rfl
def TTO_31:TI:=⟨4,true,[Value.slice none 0 0,Value.int IntKind.i64 0,Value.int IntKind.i64 0,Value.slice none 0 0],[(0,1,false),(1,2,true),(3,1,false)],none,64,6,none,false⟩
theorem TTO_31_ok:TypOk Tryz.prog 31 TTO_31:=by constructor <;> kernel_rfl
def TTO_62:TI:=⟨4,true,[Value.slice none 0 0,Value.int IntKind.i64 0,Value.int IntKind.i64 0,Value.slice none 0 0],[(0,1,false),(1,2,true),(3,1,false)],none,64,6,none,false⟩
theorem TTO_62_ok:TypOk Tryz.prog 62 TTO_62:=by constructor <;> kernel_rfl
def TTO_22:TI:=⟨1,false,[Value.slice none 0 0],[],some 104,24,5,none,false⟩
theorem TTO_22_ok:TypOk Tryz.prog 22 TTO_22:=by constructor <;> kernel_rfl
def TTO_41:TI:=⟨1,false,[Value.slice none 0 0],[],some 106,24,5,none,false⟩
theorem TTO_41_ok:TypOk Tryz.prog 41 TTO_41:=by constructor <;> kernel_rfl
def TTO_29:TI:=⟨1,false,[Value.slice none 0 0],[],some 31,24,5,none,false⟩
theorem TTO_29_ok:TypOk Tryz.prog 29 TTO_29:=by constructor <;> kernel_rfl
def TTO_60:TI:=⟨1,false,[Value.slice none 0 0],[],some 62,24,5,none,false⟩
theorem TTO_60_ok:TypOk Tryz.prog 60 TTO_60:=by constructor <;> kernel_rfl
def TTO_28:TI:=⟨2,true,[Value.int IntKind.i64 0,Value.int IntKind.i64 0],[(0,1,false),(1,1,false)],none,16,6,none,true⟩
theorem TTO_28_ok:TypOk Tryz.prog 28 TTO_28:=by constructor <;> kernel_rfl
def TTO_59:TI:=⟨2,true,[Value.int IntKind.i64 0,Value.int IntKind.i64 0],[(0,1,false),(1,1,false)],none,16,6,none,true⟩
theorem TTO_59_ok:TypOk Tryz.prog 59 TTO_59:=by constructor <;> kernel_rfl
def TTO:List (Nat×TI):=[(3,TTO_3),(104,TTO_104),(106,TTO_106),(31,TTO_31),(62,TTO_62),(22,TTO_22),(41,TTO_41),(29,TTO_29),(60,TTO_60),(28,TTO_28),(59,TTO_59)]
theorem TTO_ok:TabOk Tryz.prog TTO:=((((((((((((TabOk.nil _).cons TTO_59_ok).cons TTO_28_ok).cons TTO_60_ok).cons TTO_29_ok).cons TTO_41_ok).cons TTO_22_ok).cons TTO_62_ok).cons TTO_31_ok).cons TTO_106_ok).cons TTO_104_ok).cons TTO_3_ok)
theorem eTys_tlen (l:List Ty)(j:Nat)(h:j≤l.length):(eTys (l.take j)).length=j:=by rw[eTys_len,List.length_take];omega
theorem eTms_tlen (l:List Tm)(j:Nat)(h:j≤l.length):(eTms (l.take j)).length=j:=by rw[eTms_len,List.length_take];omega
theorem to4D_d:∀ t:Ty,t.size≤900000→PureC Tryz.prog 79 [.ag (eTy t)] (.ag (eTy t)):=by
 intro t
 induction t using Ty.ind with
 | h ar base ih=>
  intro hz
  rw[Ty.size_eq] at hz
  have hal:=Ty.le_sizes ar
  rw[eTy_eq]
  dsimp only[Ty.args,Ty.base]
  refine calldw 0 27 [ResultVar.cell 2 106] TTO_ok Tryz.func79 rfl Tryz.ntmps79 rfl fun cx hnt hn0=>?_
  ·skip
   refine dw_seq ?_;refine dwk [] TTO_ok hnt fun _ z9=>z9 _ _ ?_;refine dw_seq ?_;refine dwk [] TTO_ok hnt fun _ z9=>z9 _ _ ?_
   refine DW.vs (VS.row (k:=5) (off:=0) 106 2 rfl) ?_
   refine dw_seq ?_;refine dw_seq ?_;refine dwk [] TTO_ok hnt fun _ z9=>z9 _ _ ?_;refine dw_block ?_
   refine dw_loop (ι:={ j:Nat // j≤ar.length }) (fun j=>[(.t 1,.p 0 0),(.t 2,.p 1 0),(.t 3,.p 5 0),(.t 4,.v (.int .i64 ↑j.1)),(.c 0 0,.sl 2 (eTys ar) none),(.c 0 1,.v (.int .i64 base)),(.c 1 0,.v (.slice none 0 0)),(.c 1 1,.v (.int .i64 0)),(.c 5 0,.sl 2 (eTys (ar.take j.1)) (some 7)),(.c 5 1,.v (.int .i64 base)),(.r 7,.rw 106 2 j.1)]) 8 (fun j=>ar.length-j.1) (⟨0,Nat.zero_le _⟩) ((VS.toK (by omega) (by repeat first | exact trivial | refine And.intro (And.intro (by first | rfl | simp[D.ok,D.oks,D.okss,D.okm,upto,keyOk,argsT]) (by first | exact Or.inl rfl | exact Or.inr ⟨_,rfl,(by repeat first | exact VLe.refl _ | exact VLe.nil _ | exact VLe.untag _ _ _ | refine VLe.ag ?_ | refine VLe.tu ?_ | refine VLeL.cons ?_ ?_ | exact VLeL.nil),trivial⟩ | simp[get,Key.eq,argsT])) ?_))) fun j=>?_
   obtain⟨j,hj⟩:=j
   dsimp only
   by_cases hlt:j<ar.length
   ·have hmem:=List.getElem_mem hlt
    have hsz:=Ty.size_mem hmem
    have hc:=ih _ hmem (by omega)
    rw[eTy_eq] at hc
    have hl1:=eTys_tlen ar j hj
    have hl2:=eTys_tlen ar (j+1) hlt
    refine dw_seq ?_;refine dw_seq ?_;refine dwk [(11,.v (.int .i64 (↑ar.length))),(12,.v (.bool true))] TTO_ok hnt fun K hK=>?_;refine And.intro (dintE (by rw[eTys_len])) ?_;refine And.intro auT ?_;refine hK _ _ ?_;clear hK K;refine dw_cond (t:=true) rfl ?_;rw[if_pos rfl];refine dw_skip ?_;refine dw_seq ?_;refine dw_block ?_;refine dwkD [(20,.q [.sl 2 (eTys ar[j].args) none,.v (.int .i64 ar[j].base)])] TTO_ok hnt fun K hK=>?_
    refine And.intro (elo (eTys_len ar)) ?_;refine And.intro (elv (eTys_getD ar j) (eTy_eq _)) ?_;refine dcl (hc) ?_;refine And.intro (⟨by omega,by rw[hl1];simp;omega⟩) ?_;refine hK _ _ (by kernel_rfl) ?_;clear hK K
    rw[eTys_snoc ar j hlt,hl2]
    refine dwk [(14,.v (.int .i64 (↑(j+1))))] TTO_ok hnt fun K hK=>?_;refine And.intro auI ?_;refine hK _ _ ?_;clear hK K
    refine⟨⟨j+1,hlt⟩,by first | omega | (dsimp only;omega),VS.toA⟩
   ·rw[List.take_of_length_le (by omega)]
    refine dw_seq ?_;refine dw_seq ?_;refine dwk [(11,.v (.int .i64 (↑ar.length))),(12,.v (.bool false))] TTO_ok hnt fun K hK=>?_;refine And.intro (dintE (by rw[eTys_len])) ?_;refine And.intro auF ?_;refine hK _ _ ?_;clear hK K;refine dw_cond (t:=false) rfl ?_;rw[if_neg (by simp)];refine dw_exit ?_;refine dw_seq ?_;refine dwk [] TTO_ok hnt fun _ z9=>z9 _ _ ?_
    refine dw_ret ?_
    exact reta rfl
theorem toTys_d (l:List Ty)(hz:Ty.sizes l≤900000):PureC Tryz.prog 44 [.sl 2 (eTys l) none] (.sl 2 (eTys l) none):=by
 have hal:=Ty.le_sizes l
 refine calldw 0 20 [ResultVar.tmp 2] TTO_ok Tryz.func44 rfl Tryz.ntmps44 rfl fun cx hnt hn0=>?_
 ·skip
  refine dw_seq ?_;refine dwk [] TTO_ok hnt fun _ z9=>z9 _ _ ?_
  refine dw_cut (τ:=[(.t 0,.sl 2 (eTys l) none),(.t 3,.v (.slice none 0 0))]) (N1:=0) ?_ ?_
  ·skip
   refine dwk [] TTO_ok hnt fun _ z9=>z9 _ _ ?_
   exact cut_ok (VS.toK (by omega) (by repeat first | exact trivial | refine And.intro (And.intro (by first | rfl | simp[D.ok,D.oks,D.okss,D.okm,upto,keyOk,argsT]) (by first | exact Or.inl rfl | exact Or.inr ⟨_,rfl,(by repeat first | exact VLe.refl _ | exact VLe.nil _ | exact VLe.untag _ _ _ | refine VLe.ag ?_ | refine VLe.tu ?_ | refine VLeL.cons ?_ ?_ | exact VLeL.nil),trivial⟩ | simp[get,Key.eq,argsT])) ?_))
  ·refine DW.vs (VS.rowT (x:=3) (by rw[hnt];decide) 106 2 rfl) ?_
   refine dw_seq ?_;refine dw_seq ?_;refine dwk [] TTO_ok hnt fun _ z9=>z9 _ _ ?_;refine dw_block ?_
   refine dw_loop (ι:={ j:Nat // j≤l.length }) (fun j=>[(.t 0,.sl 2 (eTys l) none),(.t 3,.sl 2 (eTys (l.take j.1)) (some 0)),(.t 4,.v (.int .i64 ↑j.1)),(.r 0,.rw 106 2 j.1)]) 1 (fun j=>l.length-j.1) (⟨0,Nat.zero_le _⟩) ((VS.toK (by omega) (by repeat first | exact trivial | refine And.intro (And.intro (by first | rfl | simp[D.ok,D.oks,D.okss,D.okm,upto,keyOk,argsT]) (by first | exact Or.inl rfl | exact Or.inr ⟨_,rfl,(by repeat first | exact VLe.refl _ | exact VLe.nil _ | exact VLe.untag _ _ _ | refine VLe.ag ?_ | refine VLe.tu ?_ | refine VLeL.cons ?_ ?_ | exact VLeL.nil),trivial⟩ | simp[get,Key.eq,argsT])) ?_))) fun j=>?_
   obtain⟨j,hj⟩:=j
   dsimp only
   by_cases hlt:j<l.length
   ·have hsz:=Ty.size_mem (List.getElem_mem hlt)
    have hc:=to4D_d l[j] (by omega)
    rw[eTy_eq] at hc
    have hl1:=eTys_tlen l j hj
    have hl2:=eTys_tlen l (j+1) hlt
    refine dw_seq ?_;refine dw_seq ?_;refine dwk [(7,.v (.int .i64 (↑l.length))),(8,.v (.bool true))] TTO_ok hnt fun K hK=>?_;refine And.intro (dintE (by rw[eTys_len])) ?_;refine And.intro auT ?_;refine hK _ _ ?_;clear hK K;refine dw_cond (t:=true) rfl ?_;rw[if_pos rfl];refine dw_skip ?_;refine dw_seq ?_;refine dw_block ?_;refine dwk [(14,.q [.sl 2 (eTys l[j].args) none,.v (.int .i64 l[j].base)])] TTO_ok hnt fun K hK=>?_
    refine And.intro (elo (eTys_len l)) ?_;refine And.intro (elv (eTys_getD l j) (eTy_eq _)) ?_;refine dcl (hc) ?_;refine And.intro (⟨by omega,by rw[hl1];simp;omega⟩) ?_;refine hK _ _ ?_;clear hK K
    rw[eTys_snoc l j hlt,hl2]
    refine dwk [(10,.v (.int .i64 (↑(j+1))))] TTO_ok hnt fun K hK=>?_;refine And.intro auI ?_;refine hK _ _ ?_;clear hK K
    refine⟨⟨j+1,hlt⟩,by first | omega | (dsimp only;omega),VS.toA⟩
   ·rw[List.take_of_length_le (by omega)]
    refine dw_seq ?_;refine dw_seq ?_;refine dwk [(7,.v (.int .i64 (↑l.length))),(8,.v (.bool false))] TTO_ok hnt fun K hK=>?_;refine And.intro (dintE (by rw[eTys_len])) ?_;refine And.intro auF ?_;refine hK _ _ ?_;clear hK K;refine dw_cond (t:=false) rfl ?_;rw[if_neg (by simp)];refine dw_exit ?_;refine dw_seq ?_;refine dwk [] TTO_ok hnt fun _ z9=>z9 _ _ ?_;refine dw_ret ?_
    exact reta rfl
theorem to6D_d : ∀ t : Tm, t.full ≤ 900000 → PureC Tryz.prog 27 [.ag (eTm t)] (.ag (eTm t)) := by
  intro t
  induction t using Tm.ind with
  | h bs k i ar ih =>
    intro hz
    rw [Tm.full_eq] at hz
    have hbs := toTys_d bs (by omega)
    have hal : ar.length ≤ Tm.fulls ar := by
      clear ih hz
      induction ar with
      | nil => simp
      | cons u l ih => have : 1 ≤ u.full := by obtain ⟨b, k, i, a⟩ := u; rw [Tm.full_eq]; omega
                       simp only [List.length_cons, Tm.fulls]; omega
    rw [eTm_eq]
    dsimp only [Tm.binds, Tm.kind, Tm.index, Tm.args]
    refine calldw 0 35 [ResultVar.cell 2 62] TTO_ok Tryz.func27 rfl Tryz.ntmps27 rfl fun cx hnt hn0 => ?_
    · skip
      refine dw_seq ?_
      refine dwk [] TTO_ok hnt fun K hK => ?_
      refine hK _ _ ?_; clear hK K
      refine dw_seq ?_
      refine dwkD [] TTO_ok hnt fun K hK => ?_
      refine dcl (hbs) ?_
      refine hK _ _ (by kernel_rfl) ?_; clear hK K
      refine DW.vs (VS.row (k := 13) (off := 3) 62 4 rfl) ?_
      refine dw_seq ?_
      refine dw_seq ?_
      refine dwk [] TTO_ok hnt fun K hK => ?_
      refine hK _ _ ?_; clear hK K
      refine dw_block ?_
      refine dw_loop (ι := { j : Nat // j ≤ ar.length }) (fun j => [(.t 1, .p 0 0), (.t 2, .p 1 0), (.t 3, .p 13 0), (.t 4, .v (.int .i64 ↑j.1)), (.c 0 0, .sl 2 (eTys bs) none), (.c 0 1, .v (.int .i64 k)), (.c 0 2, .v (.int .i64 i)), (.c 0 3, .sl 4 (eTms ar) none), (.c 1 0, .v (.slice none 0 0)), (.c 1 1, .v (.int .i64 0)), (.c 1 2, .v (.int .i64 0)), (.c 1 3, .v (.slice none 0 0)), (.c 13 0, .sl 2 (eTys bs) none), (.c 13 1, .v (.int .i64 k)), (.c 13 2, .v (.int .i64 i)), (.c 13 3, .sl 4 (eTms (ar.take j.1)) (some 15)), (.r 15, .rw 62 4 j.1)]) 16 (fun j => ar.length - j.1) (⟨0, Nat.zero_le _⟩) ((VS.toK (by omega) (by repeat first | exact trivial | refine And.intro (And.intro (by first | rfl | simp [D.ok, D.oks, D.okss, D.okm, upto, keyOk, argsT]) (by first | exact Or.inl rfl | exact Or.inr ⟨_, rfl, (by repeat first | exact VLe.refl _ | exact VLe.nil _ | exact VLe.untag _ _ _ | refine VLe.ag ?_ | refine VLe.tu ?_ | refine VLeL.cons ?_ ?_ | exact VLeL.nil), trivial⟩ | simp [get, Key.eq, argsT])) ?_))) fun j => ?_
      obtain ⟨j, hj⟩ := j
      dsimp only
      by_cases hlt : j < ar.length
      · have hmem := List.getElem_mem hlt
        have hsz := Tm.full_mem hmem
        have hc := ih _ hmem (by omega)
        rw [eTm_eq] at hc
        have hl1 := eTms_tlen ar j hj
        have hl2 := eTms_tlen ar (j + 1) hlt
        refine dw_seq ?_
        refine dw_seq ?_
        refine dwk [(19, .v (.int .i64 (↑ar.length))), (20, .v (.bool true))] TTO_ok hnt fun K hK => ?_
        refine And.intro (dintE (by rw [eTms_len])) ?_
        refine And.intro auT ?_
        refine hK _ _ ?_; clear hK K
        refine dw_cond (t := true) rfl ?_
        rw [if_pos rfl]
        refine dw_skip ?_
        refine dw_seq ?_
        refine dw_block ?_
        refine dwkD [(28, .q [.sl 2 (eTys ar[j].binds) none, .v (.int .i64 ar[j].kind), .v (.int .i64 ar[j].index), .sl 4 (eTms ar[j].args) none])] TTO_ok hnt fun K hK => ?_
        refine And.intro (elo (eTms_len ar)) ?_
        refine And.intro (elv (eTms_getD ar j) (eTm_eq _)) ?_
        refine dcl (hc) ?_
        refine And.intro (⟨by omega, by rw [hl1]; simp; omega⟩) ?_
        refine hK _ _ (by kernel_rfl) ?_; clear hK K
        rw [eTms_snoc ar j hlt, hl2]
        refine dwk [(22, .v (.int .i64 (↑(j + 1))))] TTO_ok hnt fun K hK => ?_
        refine And.intro auI ?_
        refine hK _ _ ?_; clear hK K
        refine ⟨⟨j + 1, hlt⟩, by first | omega | (dsimp only; omega), VS.toA⟩
      · rw [List.take_of_length_le (by omega)]
        refine dw_seq ?_
        refine dw_seq ?_
        refine dwk [(19, .v (.int .i64 (↑ar.length))), (20, .v (.bool false))] TTO_ok hnt fun K hK => ?_
        refine And.intro (dintE (by rw [eTms_len])) ?_
        refine And.intro auF ?_
        refine hK _ _ ?_; clear hK K
        refine dw_cond (t := false) rfl ?_
        rw [if_neg (by simp)]
        refine dw_exit ?_
        refine dw_seq ?_
        refine dwk [] TTO_ok hnt fun K hK => ?_
        refine hK _ _ ?_; clear hK K
        refine dw_ret ?_
        exact reta rfl
def TPR_33:TI:=⟨9,true,[Value.slice none 0 0,Value.int IntKind.i64 0,Value.int IntKind.i64 0,Value.slice none 0 0,Value.slice none 0 0,Value.int IntKind.i64 0,Value.int IntKind.i64 0,Value.slice none 0 0,Value.slice none 0 0],[(0,4,true),(4,4,true),(8,1,false)],none,152,6,none,false⟩
theorem TPR_33_ok:TypOk Tryz.prog 33 TPR_33:=by constructor <;> kernel_rfl
def TPR_31:TI:=⟨4,true,[Value.slice none 0 0,Value.int IntKind.i64 0,Value.int IntKind.i64 0,Value.slice none 0 0],[(0,1,false),(1,2,true),(3,1,false)],none,64,6,none,false⟩
theorem TPR_31_ok:TypOk Tryz.prog 31 TPR_31:=by constructor <;> kernel_rfl
def TPR_22:TI:=⟨1,false,[Value.slice none 0 0],[],some 104,24,5,none,false⟩
theorem TPR_22_ok:TypOk Tryz.prog 22 TPR_22:=by constructor <;> kernel_rfl
def TPR_64:TI:=⟨9,true,[Value.slice none 0 0,Value.int IntKind.i64 0,Value.int IntKind.i64 0,Value.slice none 0 0,Value.slice none 0 0,Value.int IntKind.i64 0,Value.int IntKind.i64 0,Value.slice none 0 0,Value.slice none 0 0],[(0,4,true),(4,4,true),(8,1,false)],none,152,6,none,false⟩
theorem TPR_64_ok:TypOk Tryz.prog 64 TPR_64:=by constructor <;> kernel_rfl
def TPR_25:TI:=⟨1,false,[Value.slice none 0 0],[],some 33,24,5,none,false⟩
theorem TPR_25_ok:TypOk Tryz.prog 25 TPR_25:=by constructor <;> kernel_rfl
def TPR_3:TI:=⟨1,false,[Value.int IntKind.i64 0],[],none,8,2,none,false⟩
theorem TPR_3_ok:TypOk Tryz.prog 3 TPR_3:=by constructor <;> kernel_rfl
def TPR_62:TI:=⟨4,true,[Value.slice none 0 0,Value.int IntKind.i64 0,Value.int IntKind.i64 0,Value.slice none 0 0],[(0,1,false),(1,2,true),(3,1,false)],none,64,6,none,false⟩
theorem TPR_62_ok:TypOk Tryz.prog 62 TPR_62:=by constructor <;> kernel_rfl
def TPR_29:TI:=⟨1,false,[Value.slice none 0 0],[],some 31,24,5,none,false⟩
theorem TPR_29_ok:TypOk Tryz.prog 29 TPR_29:=by constructor <;> kernel_rfl
def TPR_104:TI:=⟨2,true,[Value.slice none 0 0,Value.int IntKind.i64 0],[(0,1,false),(1,1,false)],none,32,6,none,false⟩
theorem TPR_104_ok:TypOk Tryz.prog 104 TPR_104:=by constructor <;> kernel_rfl
def TPR_41:TI:=⟨1,false,[Value.slice none 0 0],[],some 106,24,5,none,false⟩
theorem TPR_41_ok:TypOk Tryz.prog 41 TPR_41:=by constructor <;> kernel_rfl
def TPR_24:TI:=⟨3,true,[Value.int IntKind.i64 0,Value.slice none 0 0,Value.slice none 0 0],[(0,1,false),(1,1,false),(2,1,false)],none,56,6,none,false⟩
theorem TPR_24_ok:TypOk Tryz.prog 24 TPR_24:=by constructor <;> kernel_rfl
def TPR_106:TI:=⟨2,true,[Value.slice none 0 0,Value.int IntKind.i64 0],[(0,1,false),(1,1,false)],none,32,6,none,false⟩
theorem TPR_106_ok:TypOk Tryz.prog 106 TPR_106:=by constructor <;> kernel_rfl
def TPR:List (Nat×TI):=[(33,TPR_33),(31,TPR_31),(22,TPR_22),(64,TPR_64),(25,TPR_25),(3,TPR_3),(62,TPR_62),(29,TPR_29),(104,TPR_104),(41,TPR_41),(24,TPR_24),(106,TPR_106)]
theorem TPR_ok:TabOk Tryz.prog TPR:=(((((((((((((TabOk.nil _).cons TPR_106_ok).cons TPR_24_ok).cons TPR_41_ok).cons TPR_104_ok).cons TPR_29_ok).cons TPR_62_ok).cons TPR_3_ok).cons TPR_25_ok).cons TPR_64_ok).cons TPR_22_ok).cons TPR_31_ok).cons TPR_33_ok)
namespace Li
structure Pr where
 l:Tm
 r:Tm
 m:List Ty
instance:DecidableEq Pr:=fun p q=>decidable_of_iff (p.l=q.l∧p.r=q.r∧p.m=q.m) (by cases p;cases q;simp)
def Pr.z:Pr:=⟨Tm.zero,Tm.zero,[]⟩
end Li
def ePr (p:Li.Pr):List D:=[.sl 2 (eTys p.l.binds) none,.v (.int .i64 p.l.kind),.v (.int .i64 p.l.index),.sl 4 (eTms p.l.args) none,.sl 2 (eTys p.r.binds) none,.v (.int .i64 p.r.kind),.v (.int .i64 p.r.index),.sl 4 (eTms p.r.args) none,.sl 2 (eTys p.m) none]
theorem ePr_eq (L R:Tm)(M:List Ty):ePr ⟨L,R,M⟩=[.sl 2 (eTys L.binds) none,.v (.int .i64 L.kind),.v (.int .i64 L.index),.sl 4 (eTms L.args) none,.sl 2 (eTys R.binds) none,.v (.int .i64 R.kind),.v (.int .i64 R.index),.sl 4 (eTms R.args) none,.sl 2 (eTys M) none]:=rfl
theorem ePr_at (p:Li.Pr):ePr p=[.sl 2 (eTys p.l.binds) none,.v (.int .i64 p.l.kind),.v (.int .i64 p.l.index),.sl 4 (eTms p.l.args) none,.sl 2 (eTys p.r.binds) none,.v (.int .i64 p.r.kind),.v (.int .i64 p.r.index),.sl 4 (eTms p.r.args) none,.sl 2 (eTys p.m) none]:=rfl
@[simp] theorem ePr_ok (f g:Nat→Bool) (p:Li.Pr):D.oks f g (ePr p)=true:=by simp[ePr,D.oks,D.ok]
def ePrs (l:List Li.Pr):List (List D):=l.map ePr
theorem ePrs_len (l:List Li.Pr):(ePrs l).length=l.length:=List.length_map ..
theorem ePrs_getD (l:List Li.Pr)(i:Nat)(h:i<l.length):(ePrs l).getD i []=ePr l[i]:=by
 rw[ePrs,List.getD_eq_getElem?_getD,List.getElem?_map,List.getElem?_eq_getElem h];rfl
@[simp] theorem ePrs_ok (f g:Nat→Bool) (l:List Li.Pr):D.okss f g (ePrs l)=true:=D.okss_map _ l fun l _=>ePr_ok f g l
theorem to17_d (p:Li.Pr)(h1:p.l.full≤900000)(h2:p.r.full≤900000)(h3:Ty.sizes p.m≤900000):PureC Tryz.prog 21 [.ag (ePr p)] (.ag (ePr p)):=by
 obtain⟨L,R,M⟩:=p
 have c1:=to6D_d L h1
 have c2:=to6D_d R h2
 have c3:=toTys_d M h3
 rw[eTm_eq] at c1 c2
 rw[ePr_eq]
 refine calldw 0 13 [ResultVar.cell 2 64] TPR_ok Tryz.func21 rfl Tryz.ntmps21 rfl fun cx hnt hn0=>?_
 ·skip
  refine dw_seq ?_;refine dwk [] TPR_ok hnt fun _ z9=>z9 _ _ ?_;refine dw_seq ?_;refine dwkD [] TPR_ok hnt fun K hK=>?_;refine dcl (c1) ?_;refine dcl (c2) ?_;refine dcl (c3) ?_;refine hK _ _ (by kernel_rfl) ?_;clear hK K;refine dw_ret ?_
  exact reta rfl
/-! Few -/
def fewP (p:Li.Pr):Bool:=(([p.l,p.r].all fewB)&&(decide (p.m.length≤20)&&p.m.all few4B))&&lowsB [p.l,p.r]
theorem smallP_d (X:List Ty):PureC Tryz.prog 8 [.ag [.v (.int .i64 0),.sl 2 (eTys []) none,.sl 2 (eTys []) none],.sl 2 (eTys X) none] (.v (.bool (decide (X.length≤20)&&X.all few4B))):=by
 by_cases h:X.length≤20
 ·have:=small_d 0 [] [] X (by simp) (by simp) h
  rw[List.append_nil,List.nil_append] at this
  rw[decide_eq_true h,Bool.true_and];exact this
 ·rw[decide_eq_false h,Bool.false_and]
  exact small_no 0 [] [] X (fun h2=>h h2.2.2)
theorem fewP_ok {p:Li.Pr}(h:fewP p=true):(p.l.full≤150∧p.r.full≤150)∧p.m.length≤20∧(∀ t∈p.m,t.size≤60):=by
 unfold fewP at h
 simp only[Bool.and_eq_true,List.all_cons,List.all_nil,and_true,decide_eq_true_eq] at h
 exact⟨⟨(fewB_full h.1.1.1).1,(fewB_full h.1.1.2).1⟩,h.1.2.1,fun t ht=>fewT60 (List.all_eq_true.1 h.1.2.2 t ht)⟩
set_option maxHeartbeats 2000000 in
theorem few17_d (l:List Li.Pr)(hl:l.length≤1000000):PureC Tryz.prog 10 [.sl 9 (ePrs l) none] (.v (.bool (l.all fewP))):=by
 refine calldw 0 48 [ResultVar.tmp 2] TPR_ok Tryz.func10 rfl Tryz.ntmps10 rfl fun cx hnt hn0=>?_
 ·skip
  refine dw_seq ?_;refine dwk [] TPR_ok hnt fun _ z9=>z9 _ _ ?_;refine dw_seq ?_;refine dw_seq ?_;refine dwk [] TPR_ok hnt fun _ z9=>z9 _ _ ?_;refine dw_block ?_
  refine dw_loop (ι:={ j:Nat // ∀ i (h:i<l.length),i<j→fewP l[i]=true }) (fun j=>[(.t 0,.sl 9 (ePrs l) none),(.t 3,.v (.int .i64 ↑j.1))]) 1 (fun j=>l.length-j.1) (⟨0,fun i h1 h2=>by omega⟩) (VS.toA) fun j=>?_
  obtain⟨j,hj⟩:=j
  dsimp only
  by_cases hlt:j<l.length
  ·obtain⟨p,hp⟩:∃ p,l[j]=p:=⟨_,rfl⟩
   have hgd:(ePrs l).getD j []=[.sl 2 (eTys p.l.binds) none,.v (.int .i64 p.l.kind),.v (.int .i64 p.l.index),.sl 4 (eTms p.l.args) none,.sl 2 (eTys p.r.binds) none,.v (.int .i64 p.r.kind),.v (.int .i64 p.r.index),.sl 4 (eTms p.r.args) none,.sl 2 (eTys p.m) none]:=by rw[ePrs_getD l j hlt,hp,ePr_at]
   have hF:=lawFew_d [p.l,p.r] (by simp)
   have hS:=smallP_d p.m
   have hbad:fewP p=false→l.all fewP=false:=fun h=>by rw[List.all_eq_false];exact⟨l[j],List.getElem_mem hlt,by rw[hp,h];simp⟩
   have e2:eTms [p.l,p.r]=[[.sl 2 (eTys p.l.binds) none,.v (.int .i64 p.l.kind),.v (.int .i64 p.l.index),.sl 4 (eTms p.l.args) none],[.sl 2 (eTys p.r.binds) none,.v (.int .i64 p.r.kind),.v (.int .i64 p.r.index),.sl 4 (eTms p.r.args) none]]:=by rw[←eTm_eq,←eTm_eq];rfl
   cases h1:[p.l,p.r].all fewB with
   | false=>
    rw[h1] at hF
    rw[hbad (by rw[fewP,h1];rfl)]
    refine dw_seq ?_;refine dw_seq ?_;refine dwk [(6,.v (.int .i64 (↑l.length))),(7,.v (.bool true))] TPR_ok hnt fun K hK=>?_;refine And.intro (dintE (by rw[ePrs_len])) ?_;refine And.intro auT ?_;refine hK _ _ ?_;clear hK K;refine dw_cond (t:=true) rfl ?_;rw[if_pos rfl];refine dw_skip ?_;refine dw_seq ?_;refine dw_block ?_;refine dw_seq ?_;refine dwkD [(12,.q [.sl 2 (eTys p.l.binds) none,.v (.int .i64 p.l.kind),.v (.int .i64 p.l.index),.sl 4 (eTms p.l.args) none,.sl 2 (eTys p.r.binds) none,.v (.int .i64 p.r.kind),.v (.int .i64 p.r.index),.sl 4 (eTms p.r.args) none,.sl 2 (eTys p.m) none]),(17,.q [.sl 2 (eTys p.l.binds) none,.v (.int .i64 p.l.kind),.v (.int .i64 p.l.index),.sl 4 (eTms p.l.args) none,.sl 2 (eTys p.r.binds) none,.v (.int .i64 p.r.kind),.v (.int .i64 p.r.index),.sl 4 (eTms p.r.args) none,.sl 2 (eTys p.m) none]),(20,.sl 4 (eTms [p.l,p.r]) none)] TPR_ok hnt fun K hK=>?_
    refine And.intro (⟨by omega,by rw[ePrs_len];omega⟩) ?_;refine And.intro (VLe.of_eq (by rw[Int.toNat_natCast,hgd])) ?_;refine And.intro (⟨by omega,by rw[ePrs_len];omega⟩) ?_;refine And.intro (VLe.of_eq (by rw[Int.toNat_natCast,hgd])) ?_;refine And.intro ((by rw[e2];exact VLe.untag _ _ _)) ?_;refine dcl (hF) ?_;refine hK _ _ (by kernel_rfl) ?_;clear hK K;refine dw_cond (t:=true) rfl ?_
    rw[if_pos rfl];refine dw_seq ?_;refine dwk [] TPR_ok hnt fun _ z9=>z9 _ _ ?_;refine dw_ret ?_
    exact reta rfl
   | true=>
    rw[h1] at hF
    cases h2:(decide (p.m.length≤20)&&p.m.all few4B) with
    | false=>
     rw[h2] at hS
     rw[hbad (by rw[fewP,h1,h2];rfl)]
     refine dw_seq ?_;refine dw_seq ?_;refine dwk [(6,.v (.int .i64 (↑l.length))),(7,.v (.bool true))] TPR_ok hnt fun K hK=>?_;refine And.intro (dintE (by rw[ePrs_len])) ?_;refine And.intro auT ?_;refine hK _ _ ?_;clear hK K;refine dw_cond (t:=true) rfl ?_;rw[if_pos rfl];refine dw_skip ?_;refine dw_seq ?_;refine dw_block ?_;refine dw_seq ?_;refine dwkD [(12,.q [.sl 2 (eTys p.l.binds) none,.v (.int .i64 p.l.kind),.v (.int .i64 p.l.index),.sl 4 (eTms p.l.args) none,.sl 2 (eTys p.r.binds) none,.v (.int .i64 p.r.kind),.v (.int .i64 p.r.index),.sl 4 (eTms p.r.args) none,.sl 2 (eTys p.m) none]),(17,.q [.sl 2 (eTys p.l.binds) none,.v (.int .i64 p.l.kind),.v (.int .i64 p.l.index),.sl 4 (eTms p.l.args) none,.sl 2 (eTys p.r.binds) none,.v (.int .i64 p.r.kind),.v (.int .i64 p.r.index),.sl 4 (eTms p.r.args) none,.sl 2 (eTys p.m) none]),(20,.sl 4 (eTms [p.l,p.r]) none),(24,.ag [.v (.int .i64 0),.sl 2 (eTys []) none,.sl 2 (eTys []) none]),(27,.q [.sl 2 (eTys p.l.binds) none,.v (.int .i64 p.l.kind),.v (.int .i64 p.l.index),.sl 4 (eTms p.l.args) none,.sl 2 (eTys p.r.binds) none,.v (.int .i64 p.r.kind),.v (.int .i64 p.r.index),.sl 4 (eTms p.r.args) none,.sl 2 (eTys p.m) none])] TPR_ok hnt fun K hK=>?_
     refine And.intro (⟨by omega,by rw[ePrs_len];omega⟩) ?_;refine And.intro (VLe.of_eq (by rw[Int.toNat_natCast,hgd])) ?_;refine And.intro (⟨by omega,by rw[ePrs_len];omega⟩) ?_;refine And.intro (VLe.of_eq (by rw[Int.toNat_natCast,hgd])) ?_;refine And.intro ((by rw[e2];exact VLe.untag _ _ _)) ?_;refine dcl (hF) ?_;refine And.intro (auV) ?_;refine And.intro (⟨by omega,by rw[ePrs_len];omega⟩) ?_
     refine And.intro (VLe.of_eq (by rw[Int.toNat_natCast,hgd])) ?_;refine dcl (hS) ?_;refine hK _ _ (by kernel_rfl) ?_;clear hK K;refine dw_cond (t:=true) rfl ?_;rw[if_pos rfl];refine dw_seq ?_;refine dwk [] TPR_ok hnt fun _ z9=>z9 _ _ ?_;refine dw_ret ?_
     exact reta rfl
    | true=>
     rw[h2] at hS
     have h1':=h1
     simp only[List.all_cons,List.all_nil,Bool.and_true,Bool.and_eq_true] at h1'
     have hL:=low_d [p.l,p.r] (by simp) (fun t ht=>by
      rcases List.mem_cons.1 ht with rfl | ht
      ·exact wide_full _ (by have:=(fewB_full h1'.1).1;omega)
      ·rw[List.mem_singleton] at ht;subst ht;exact wide_full _ (by have:=(fewB_full h1'.2).1;omega))
     cases h3:lowsB [p.l,p.r] with
     | false=>
      rw[h3] at hL
      rw[hbad (by rw[fewP,h1,h2,h3];rfl)]
      refine dw_seq ?_;refine dw_seq ?_;refine dwk [(6,.v (.int .i64 (↑l.length))),(7,.v (.bool true))] TPR_ok hnt fun K hK=>?_;refine And.intro (dintE (by rw[ePrs_len])) ?_;refine And.intro auT ?_;refine hK _ _ ?_;clear hK K;refine dw_cond (t:=true) rfl ?_;rw[if_pos rfl];refine dw_skip ?_;refine dw_seq ?_;refine dw_block ?_;refine dw_seq ?_;refine dwkD [(12,.q [.sl 2 (eTys p.l.binds) none,.v (.int .i64 p.l.kind),.v (.int .i64 p.l.index),.sl 4 (eTms p.l.args) none,.sl 2 (eTys p.r.binds) none,.v (.int .i64 p.r.kind),.v (.int .i64 p.r.index),.sl 4 (eTms p.r.args) none,.sl 2 (eTys p.m) none]),(17,.q [.sl 2 (eTys p.l.binds) none,.v (.int .i64 p.l.kind),.v (.int .i64 p.l.index),.sl 4 (eTms p.l.args) none,.sl 2 (eTys p.r.binds) none,.v (.int .i64 p.r.kind),.v (.int .i64 p.r.index),.sl 4 (eTms p.r.args) none,.sl 2 (eTys p.m) none]),(20,.sl 4 (eTms [p.l,p.r]) none),(24,.ag [.v (.int .i64 0),.sl 2 (eTys []) none,.sl 2 (eTys []) none]),(27,.q [.sl 2 (eTys p.l.binds) none,.v (.int .i64 p.l.kind),.v (.int .i64 p.l.index),.sl 4 (eTms p.l.args) none,.sl 2 (eTys p.r.binds) none,.v (.int .i64 p.r.kind),.v (.int .i64 p.r.index),.sl 4 (eTms p.r.args) none,.sl 2 (eTys p.m) none]),(36,.q [.sl 2 (eTys p.l.binds) none,.v (.int .i64 p.l.kind),.v (.int .i64 p.l.index),.sl 4 (eTms p.l.args) none,.sl 2 (eTys p.r.binds) none,.v (.int .i64 p.r.kind),.v (.int .i64 p.r.index),.sl 4 (eTms p.r.args) none,.sl 2 (eTys p.m) none]),(41,.q [.sl 2 (eTys p.l.binds) none,.v (.int .i64 p.l.kind),.v (.int .i64 p.l.index),.sl 4 (eTms p.l.args) none,.sl 2 (eTys p.r.binds) none,.v (.int .i64 p.r.kind),.v (.int .i64 p.r.index),.sl 4 (eTms p.r.args) none,.sl 2 (eTys p.m) none]),(44,.sl 4 (eTms [p.l,p.r]) none)] TPR_ok hnt fun K hK=>?_
      refine And.intro (⟨by omega,by rw[ePrs_len];omega⟩) ?_;refine And.intro (VLe.of_eq (by rw[Int.toNat_natCast,hgd])) ?_;refine And.intro (⟨by omega,by rw[ePrs_len];omega⟩) ?_;refine And.intro (VLe.of_eq (by rw[Int.toNat_natCast,hgd])) ?_;refine And.intro ((by rw[e2];exact VLe.untag _ _ _)) ?_;refine dcl (hF) ?_;refine And.intro (auV) ?_;refine And.intro (⟨by omega,by rw[ePrs_len];omega⟩) ?_
      refine And.intro (VLe.of_eq (by rw[Int.toNat_natCast,hgd])) ?_;refine dcl (hS) ?_;refine And.intro (⟨by omega,by rw[ePrs_len];omega⟩) ?_;refine And.intro (VLe.of_eq (by rw[Int.toNat_natCast,hgd])) ?_;refine And.intro (⟨by omega,by rw[ePrs_len];omega⟩) ?_;refine And.intro (VLe.of_eq (by rw[Int.toNat_natCast,hgd])) ?_;refine And.intro ((by rw[e2];exact VLe.untag _ _ _)) ?_;refine dcl (hL) ?_
      refine hK _ _ (by kernel_rfl) ?_;clear hK K;refine dw_cond (t:=true) rfl ?_;rw[if_pos rfl];refine dw_seq ?_;refine dwk [] TPR_ok hnt fun _ z9=>z9 _ _ ?_;refine dw_ret ?_
      exact reta rfl
     | true=>
      rw[h3] at hL
      refine dw_seq ?_;refine dw_seq ?_;refine dwk [(6,.v (.int .i64 (↑l.length))),(7,.v (.bool true))] TPR_ok hnt fun K hK=>?_;refine And.intro (dintE (by rw[ePrs_len])) ?_;refine And.intro auT ?_;refine hK _ _ ?_;clear hK K;refine dw_cond (t:=true) rfl ?_;rw[if_pos rfl];refine dw_skip ?_;refine dw_seq ?_;refine dw_block ?_;refine dw_seq ?_;refine dwkD [(12,.q [.sl 2 (eTys p.l.binds) none,.v (.int .i64 p.l.kind),.v (.int .i64 p.l.index),.sl 4 (eTms p.l.args) none,.sl 2 (eTys p.r.binds) none,.v (.int .i64 p.r.kind),.v (.int .i64 p.r.index),.sl 4 (eTms p.r.args) none,.sl 2 (eTys p.m) none]),(17,.q [.sl 2 (eTys p.l.binds) none,.v (.int .i64 p.l.kind),.v (.int .i64 p.l.index),.sl 4 (eTms p.l.args) none,.sl 2 (eTys p.r.binds) none,.v (.int .i64 p.r.kind),.v (.int .i64 p.r.index),.sl 4 (eTms p.r.args) none,.sl 2 (eTys p.m) none]),(20,.sl 4 (eTms [p.l,p.r]) none),(24,.ag [.v (.int .i64 0),.sl 2 (eTys []) none,.sl 2 (eTys []) none]),(27,.q [.sl 2 (eTys p.l.binds) none,.v (.int .i64 p.l.kind),.v (.int .i64 p.l.index),.sl 4 (eTms p.l.args) none,.sl 2 (eTys p.r.binds) none,.v (.int .i64 p.r.kind),.v (.int .i64 p.r.index),.sl 4 (eTms p.r.args) none,.sl 2 (eTys p.m) none]),(36,.q [.sl 2 (eTys p.l.binds) none,.v (.int .i64 p.l.kind),.v (.int .i64 p.l.index),.sl 4 (eTms p.l.args) none,.sl 2 (eTys p.r.binds) none,.v (.int .i64 p.r.kind),.v (.int .i64 p.r.index),.sl 4 (eTms p.r.args) none,.sl 2 (eTys p.m) none]),(41,.q [.sl 2 (eTys p.l.binds) none,.v (.int .i64 p.l.kind),.v (.int .i64 p.l.index),.sl 4 (eTms p.l.args) none,.sl 2 (eTys p.r.binds) none,.v (.int .i64 p.r.kind),.v (.int .i64 p.r.index),.sl 4 (eTms p.r.args) none,.sl 2 (eTys p.m) none]),(44,.sl 4 (eTms [p.l,p.r]) none)] TPR_ok hnt fun K hK=>?_
      refine And.intro (⟨by omega,by rw[ePrs_len];omega⟩) ?_;refine And.intro (VLe.of_eq (by rw[Int.toNat_natCast,hgd])) ?_;refine And.intro (⟨by omega,by rw[ePrs_len];omega⟩) ?_;refine And.intro (VLe.of_eq (by rw[Int.toNat_natCast,hgd])) ?_;refine And.intro ((by rw[e2];exact VLe.untag _ _ _)) ?_;refine dcl (hF) ?_;refine And.intro (auV) ?_;refine And.intro (⟨by omega,by rw[ePrs_len];omega⟩) ?_
      refine And.intro (VLe.of_eq (by rw[Int.toNat_natCast,hgd])) ?_;refine dcl (hS) ?_;refine And.intro (⟨by omega,by rw[ePrs_len];omega⟩) ?_;refine And.intro (VLe.of_eq (by rw[Int.toNat_natCast,hgd])) ?_;refine And.intro (⟨by omega,by rw[ePrs_len];omega⟩) ?_;refine And.intro (VLe.of_eq (by rw[Int.toNat_natCast,hgd])) ?_;refine And.intro ((by rw[e2];exact VLe.untag _ _ _)) ?_;refine dcl (hL) ?_
      refine hK _ _ (by kernel_rfl) ?_;clear hK K;refine dw_cond (t:=false) rfl ?_;rw[if_neg (by simp)];refine dw_skip ?_;refine dwk [(9,.v (.int .i64 (↑(j+1))))] TPR_ok hnt fun K hK=>?_;refine And.intro auI ?_;refine hK _ _ ?_;clear hK K
      refine⟨⟨j+1,fun i h1' h2'=>if e:i=j then by subst e;rw[hp,fewP,h1,h2,h3];rfl else hj i h1' (by omega)⟩,by first | omega | (dsimp only;omega),VS.toA⟩
  ·have ha:l.all fewP=true:=by
    rw[List.all_eq_true]
    intro t ht
    obtain⟨i,hi,rfl⟩:=List.getElem_of_mem ht
    exact hj i hi (by omega)
   rw[ha]
   refine dw_seq ?_;refine dw_seq ?_;refine dwk [(6,.v (.int .i64 (↑l.length))),(7,.v (.bool false))] TPR_ok hnt fun K hK=>?_;refine And.intro (dintE (by rw[ePrs_len])) ?_;refine And.intro auF ?_;refine hK _ _ ?_;clear hK K;refine dw_cond (t:=false) rfl ?_;rw[if_neg (by simp)];refine dw_exit ?_;refine dw_seq ?_;refine dwk [] TPR_ok hnt fun _ z9=>z9 _ _ ?_;refine dw_ret ?_
   exact reta rfl
end Go.Proofs.YtclihnccilkohaaGreat
namespace Go.Proofs.YtclihnccilkohaaGreat
open Go.RowKit Go.ChangeShapes Go.WideShapes Go.ChangeAt
theorem cellsP17:Tryz.prog.cellsOf 33=9:=by kernel_rfl
theorem nine_of {α:Type}{cs:List α}(h:cs.length=9):∃ a b c d e f g i j,cs=[a,b,c,d,e,f,g,i,j]:=by
 match cs,h with
 | [a,b,c,d,e,f,g,i,j],_=>exact⟨a,b,c,d,e,f,g,i,j,rfl⟩
structure IsP17 (F:Nat→Prop) (w:World) (v1 v2 v3 v4 v5 v6 v7 v8 v9:Value) (p:Li.Pr):Prop where
 l:IsTm F w v1 v2 v3 v4 p.l
 r:IsTm F w v5 v6 v7 v8 p.r
 m:IsSl rpTy F w v9 p.m
section
variable {H:Type} {enc:TypeId×Value→H} {P:Program} {w:World} {base:Nat} {spare:Nat→Bool} {held:Bool}
end
def rpI:Rp Int where
 n:=1
 R _ _ x v:=x=[.int .i64 v]
 len:=by rintro F w x a rfl;rfl
 one:=by rintro F w x a rfl u hu;simp at hu;subst hu;rfl
 keep:=by intro F w w' x a h _;exact h
 weaken:=by intro F F' w x a h _;exact h
theorem rdI {H:Type}(enc:TypeId×Value→H)(W:World)(base:Nat)(sp:Nat→Bool)(hd:Bool):∀ n,Rd enc W base sp hd 3 rpI (fun _ _=>True) n:=by
 intro n cs x h
 obtain⟨k,hk,_,hw⟩:=DataW.trod_int Tryz.underlying3 h
 exact⟨k,hk,trivial⟩
theorem relInts {m:Mp}{w:World}{F:Nat→Prop}{v:Value}{l:List Int}(h:IsSl rpI F w v l):Rel m (cellI F w) w v (.sl 1 (eIs l) none):=
 rel_of_sl (r:=rpI) (e:=fun x=>[D.v (.int .i64 x)]) cellI_of (fun _=>rfl) (fun x p hx=>by
  have hx:x=[.int .i64 p]:=hx
  subst hx
  exact⟨.v _,trivial⟩) h
end Go.Proofs.YtclihnccilkohaaGreat
namespace Go.Proofs.YtclihnccilkohaaGreat
open Go.RowKit
def eBd (b:Pn.Bd):List (Int×D):=b.map fun p=>(p.1,.ag (eTm p.2))
@[simp] theorem eBd_ok (f g:Nat→Bool) (b:Pn.Bd):D.okm f g (eBd b)=true:=okm_map _ b fun p _=>by simp[D.ok,eTm_ok]
namespace Pn
abbrev nb (t:Tm):Tm:=.mk [] t.kind t.index t.args
end Pn
/-! slices.Concat of terms -/
def eTmss (ls:List (List Tm)):List (List D):=ls.map fun l=>[.sl 4 (eTms l) none]
@[simp] theorem eTmss_ok (f g:Nat→Bool) (l:List (List Tm)):D.okss f g (eTmss l)=true:=D.okss_map _ l fun l _=>by simp[D.oks,D.ok,eTms_ok]
/-! variables -/
namespace Li
def vars (B:List Ty)(n:Int):List Tm:=B.mapIdx fun i b=>Ty.Eta b 0 (n+B.length-1-i)
mutual
def lif (B:List Ty):Tm→Int→Tm
 | .mk b k i a,n=>.mk b k i ((if k=2 then vars B (n+b.length) else [])++lifs B a (n+b.length))
def lifs (B:List Ty):List Tm→Int→List Tm
 | [],_=>[]
 | t :: l,n=>lif B t n :: lifs B l n
end
end Li
namespace Pn
end Pn
variable {β:Type} {Ok:Obj→Prop} {B:Nat} {I I':β→World→Prop}
end Go.Proofs.YtclihnccilkohaaGreat
namespace Go.Proofs.YtclihnccilkohaaGreat
open Go.RowKit
def rpInt:Rp Int where
 n:=1
 R _ _ x v:=x=[.int .i64 v]
 len:=by rintro F w x a rfl;rfl
 one:=by rintro F w x a rfl u hu;simp at hu;subst hu;rfl
 keep:=fun h _=>h
 weaken:=fun h _=>h
theorem infoI:(Tryz.prog.info? 3).map (fun i=>(i.zero,i.size,i.bytes))=some (some (.int .i64 0),1,8):=by kernel_rfl
def FreshInts (l:List Int)(w:World)(e:Ending)(w':World):Prop:=∃ a c,e=.returned (.slice a l.length c)∧IsSl rpInt (fun q=>w.heap.size≤q) w' (.slice a l.length c) l∧Below w.heap.size w w'
namespace Tm
mutual
def heads:Tm→Int→List (Int×Int)
 | .mk b k i a,n=>(if k≠0 then [(k,i)] else if n+(b.length:Int)≤i then [(0,i-(n+(b.length:Int)))] else [])++headss a (n+(b.length:Int))
def headss:List Tm→Int→List (Int×Int)
 | [],_=>[]
 | t :: l,n=>heads t n++headss l n
end
end Tm
end Go.Proofs.YtclihnccilkohaaGreat
namespace Go.Proofs.YtclihnccilkohaaGreat
open Go.RowKit Go.Shelf
attribute [local go_sem] Oper.semAt_some
end Go.Proofs.YtclihnccilkohaaGreat
namespace Go.Proofs.YtclihnccilkohaaGreat
open Go.RowKit
def sortU (zs:List Int):List Int:=Lib.compact (zs.mergeSort fun x y=>decide (x≤y))
theorem keeps_zero (d:Array Int):Lib.keeps d 0=true:=by simp[Lib.keeps]
theorem upTo_rises (d:Array Int):∀ m,m≤d.size→(∀ i j,i≤j→j<d.size→d[i]! ≤ d[j]!)→(Lib.compactUpTo d m).Pairwise (· < ·)∧(∀ x∈Lib.compactUpTo d m,∃ j,j<m∧d[j]! = x)∧(∀ j,j<m→d[j]! ∈ Lib.compactUpTo d m):=by
 intro m
 induction m with
 | zero=>intro _ _;simp[Lib.compactUpTo]
 | succ m ih=>
  intro hm hs
  obtain⟨h1,h2,h3⟩:=ih (by omega) hs
  rw[Lib.compactUpTo_succ]
  by_cases hk:Lib.keeps d m=true
  ·rw[if_pos hk]
   refine⟨?_,?_,?_⟩
   ·rw[List.pairwise_append]
    refine⟨h1,by simp,fun a ha b hb=>?_⟩
    obtain⟨j,hj,rfl⟩:=h2 a ha
    simp at hb;subst hb
    have hle:=hs j (m-1) (by omega) (by omega)
    have hle2:=hs (m-1) m (by omega) (by omega)
    have hne:d[m-1]! ≠ d[m]! := by
     cases m with
     | zero=>omega
     | succ k=>
      have:d[k+1]! ≠ d[k]! := by simpa[Lib.keeps] using hk
      exact fun e=>this e.symm
    omega
   ·intro x hx
    rcases List.mem_append.1 hx with hx | hx
    ·obtain⟨j,hj,e⟩:=h2 x hx;exact⟨j,by omega,e⟩
    ·simp at hx;exact⟨m,by omega,hx.symm⟩
   ·intro j hj
    rw[List.mem_append]
    by_cases hjm:j=m
    ·subst hjm;right;simp
    ·left;exact h3 j (by omega)
  ·rw[if_neg hk,List.append_nil]
   refine⟨h1,fun x hx=>by obtain⟨j,hj,e⟩:=h2 x hx;exact⟨j,by omega,e⟩,fun j hj=>?_⟩
   by_cases hjm:j=m
   ·subst hjm
    cases j with
    | zero=>exact absurd (keeps_zero d) hk
    | succ k=>
     have:d[k+1]! = d[k]! := by simpa[Lib.keeps] using hk
     rw[this];exact h3 k (by omega)
   ·exact h3 j (by omega)
theorem sortU_spec (zs:List Int):(sortU zs).Pairwise (· < ·)∧∀ x,x∈sortU zs↔x∈zs:=by
 obtain⟨ss,hss⟩:∃ ss,(zs.mergeSort fun x y=>decide (x≤y))=ss:=⟨_,rfl⟩
 have hp:ss.Perm zs:=by rw[←hss];exact List.mergeSort_perm _ _
 have hs:ss.Pairwise (fun x y=>x≤y):=by
  have:=List.pairwise_mergeSort (le:=fun x y:Int=>decide (x≤y)) (fun a b c h1 h2=>by simp at *;omega) (fun a b=>by simp;omega) zs
  rw[hss] at this
  simpa using this
 have hs':∀ i j,i≤j→j<ss.toArray.size→ss.toArray[i]! ≤ ss.toArray[j]! := by
  intro i j hij hj
  have hj':j<ss.length:=by simpa using hj
  have hi':i<ss.length:=by omega
  simp only[List.getElem!_toArray,getElem!_pos ss i hi',getElem!_pos ss j hj']
  by_cases e:i=j
  ·subst e;exact Int.le_refl _
  ·exact List.pairwise_iff_getElem.1 hs i j hi' hj' (by omega)
 obtain⟨h1,h2,h3⟩:=upTo_rises ss.toArray ss.length (by simp) hs'
 unfold sortU
 rw[hss]
 refine⟨h1,fun x=>?_⟩
 rw[←hp.mem_iff]
 constructor
 ·intro hx
  obtain⟨j,hj,e⟩:=h2 x hx
  rw[←e]
  simp only[List.getElem!_toArray,getElem!_pos ss j hj]
  exact List.getElem_mem hj
 ·intro hx
  obtain⟨j,hj,e⟩:=List.getElem_of_mem hx
  have:=h3 j hj
  simp only[List.getElem!_toArray,getElem!_pos ss j hj,e] at this
  exact this
theorem rises_eq:∀ {l r:List Int},l.Pairwise (· < ·)→r.Pairwise (· < ·)→(∀ x,x∈l↔x∈r)→l=r
 | [],[],_,_,_=>rfl
 | [],b :: r,_,_,h=>absurd ((h b).2 (by simp)) (by simp)
 | a :: l,[],_,_,h=>absurd ((h a).1 (by simp)) (by simp)
 | a :: l,b :: r,h1,h2,h=>by
  rw[List.pairwise_cons] at h1 h2
  have hab:a=b:=by
   have ha:=(h a).1 (by simp)
   have hb:=(h b).2 (by simp)
   rcases List.mem_cons.1 ha with e | ha
   ·exact e
   rcases List.mem_cons.1 hb with e | hb
   ·exact e.symm
   have:=h2.1 a ha;have:=h1.1 b hb;omega
  subst hab
  rw[rises_eq h1.2 h2.2 fun x=>?_]
  constructor
  ·intro hx
   rcases List.mem_cons.1 ((h x).1 (by simp[hx])) with e | hx'
   ·have:=h1.1 x hx;omega
   ·exact hx'
  ·intro hx
   rcases List.mem_cons.1 ((h x).2 (by simp[hx])) with e | hx'
   ·have:=h2.1 x hx;omega
   ·exact hx'
theorem sortU_twice (zs:List Int):sortU (zs++zs)=sortU zs:=
 rises_eq (sortU_spec _).1 (sortU_spec _).1 fun x=>by rw[(sortU_spec _).2,(sortU_spec _).2];simp
theorem sort_own {base:Nat}{w:World}{v:Value}{zs:List Int}(h:w.ownsRow base 3 1 v zs.length (zs.map (Value.int .i64)))(hl:zs.length≤1000000):
  Calls Tryz.prog 146 #[v] w fun e w'=>e=.returned (.tuple #[])∧w'.ownsRow base 3 1 v zs.length ((zs.mergeSort fun x y=>decide (x≤y)).map (Value.int .i64))∧w.grownBy w' v.ownBlock:=by
 by_cases hv:v=.slice none 0 0
 ·subst hv
  have h0:zs=[]:=by
   rcases h.2 with⟨_,e⟩ | ⟨_,_,_,e,_⟩
   ·exact List.eq_nil_of_length_eq_zero e
   ·cases e
  subst h0
  refine(Tryz.slices_Sort_int_none none 0 w).mono ?_
  rintro e w' ⟨rfl,rfl⟩
  exact⟨rfl,by simpa using h,⟨rfl,rfl,rfl,Nat.le_refl _,fun _ _ _=>rfl⟩⟩
 ·obtain⟨g,cap,rfl,hb,hlt,hn,hm,_,hH⟩:=Lib.holds_of_ownsRow h hv
  refine(Tryz.slices_Sort_int g 0 cap zs w hH hlt (by omega)).mono ?_
  rintro e w' ⟨rfl,n,os,rfl⟩
  refine⟨rfl,?_,grownBy_sortedI _⟩
  rcases h.2 with⟨e,_⟩ | ⟨g',cap',cur,e,_,hg,_,_,hc,_⟩
  ·cases e
  ·cases e
   exact ownsRow_sortedI (ss:=zs) (by simp) hb hg hn hm hc
theorem compact_own {base:Nat}{w:World}{v:Value}{zs:List Int}(h:w.ownsRow base 3 1 v zs.length (zs.map (Value.int .i64)))(hl:zs.length≤1000000):
  Calls Tryz.prog 147 #[v] w fun e w'=>∃ v',e=.returned v'∧w'.ownsRow base 3 1 v' (Lib.compact zs).length ((Lib.compact zs).map (Value.int .i64))∧w.grownBy w' v.ownBlock:=by
 by_cases hv:v=.slice none 0 0
 ·subst hv
  have h0:zs=[]:=by
   rcases h.2 with⟨_,e⟩ | ⟨_,_,_,e,_⟩
   ·exact List.eq_nil_of_length_eq_zero e
   ·cases e
  subst h0
  refine(Tryz.slices_Compact_int_empty none 0 w).mono ?_
  rintro e w' ⟨rfl,rfl⟩
  exact⟨_,rfl,h,⟨rfl,rfl,rfl,Nat.le_refl _,fun _ _ _=>rfl⟩⟩
 ·obtain⟨g,cap,rfl,hb,hlt,hn,hm,_,hH⟩:=Lib.holds_of_ownsRow h hv
  refine(Tryz.slices_Compact_int g 0 cap zs w hH (by omega) hn).mono ?_
  rintro e w' ⟨rfl,q,rfl⟩
  have hcl:=Lib.compact_length_le zs
  refine⟨_,rfl,?_,?_⟩
  ·have:=Lib.ownsRow_putRow (q:=q) (k:=(Lib.compact zs).length) (ys:=Lib.compact zs++List.replicate (zs.length-(Lib.compact zs).length) 0) h (by simp;omega) hcl
   simpa using this
  ·have:=grownBy_sortedI (w:=w) (g:=g) (n:=q) (os:=#[]) (Lib.compact zs++List.replicate (zs.length-(Lib.compact zs).length) 0).toArray
   simpa[Value.ownBlock] using this
theorem own_ints {base:Nat}{w:World}{v:Value}{l:List Int}(h:w.ownsRow base 3 1 v l.length (l.map (Value.int .i64))):∃ a c,v=.slice a l.length c∧IsSl rpInt (fun q=>base≤q) w v l:=by
 have hA:Acc rpInt 3 base (fun _=>False) w v l:=by
  refine⟨l.map (fun z=>[.int .i64 z]),by simp,?_,fun i hi=>⟨[.int .i64 l[i]],by simp[List.getElem?_eq_getElem hi],rfl⟩⟩
  have:(l.map (fun z=>[Value.int .i64 z])).flatten=l.map (Value.int .i64):=by
   clear h
   induction l with
   | nil=>rfl
   | cons a l ih=>simp only[List.map_cons,List.flatten_cons,ih];rfl
  rw[this];exact h
 obtain⟨a,c,hv⟩:=hA.len_shape
 exact⟨a,c,hv,hA.sl (fun _ _ h=>h.elim) (fun _ h=>h)⟩
theorem leaves_marks {F:Fence}{n:Nat}{P:Program}{fn:Func}{tmps:Array Value}{R:Ending→World→Prop}(B:Nat):∀ (Ds:List Nat) (w:World),Ds.Nodup→B≤w.heap.size→(∀ D∈Ds,B≤D∧w.heap[D]?=some (.deferred (some []))) →
  (∀ w',Keep (fun _=>True) w w'→Below B w w'→LeavesIn F n P fn tmps R [] .returning w')→LeavesInM F n P fn tmps R (Ds.map fun D=>{ target:=.collected D,args:=#[] }) .returning w
 | [],w,_,_,_,hk=>hk w (Keep.refl _ _) (Below.refl _ _)
 | D :: Ds,w,hd,hB,hD,hk=>by
  rw[List.nodup_cons] at hd
  have h1:=hD D (by simp)
  have hlt:D<w.heap.size:=(Array.getElem?_eq_some_iff.1 h1.2).1
  refine⟨by simp,.inl ⟨D,_,rfl,run_takeDeferred h1.2,?_⟩⟩
  have hbel:Below B w (w.putObj D (.deferred none)):=(Below.refl _ _).grown (grownBy_putObj' w D (.deferred none)) hB (fun r e=>by cases e;exact h1.1)
  have hkp:Keep (fun _=>True) w (w.putObj D (.deferred none)):=fun o v k _ hv=>cell_kept hv (grownBy_putObj' _ D (.deferred none)) (fun r e=>by cases e;exact⟨_,h1.2,rfl⟩)
  refine leaves_marks B Ds _ hd.2 (by simpa using hB) (fun D' hD'=>⟨(hD D' (by simp[hD'])).1,?_⟩) fun w' hk' hb'=>hk w' (hkp.trans hk') (hbel.trans hb')
  have hne:D'≠D:=fun e=>hd.1 (e ▸ hD')
  exact(World.putObj_heap_other hne).trans (hD D' (by simp[hD'])).2
theorem keepsOthers_grown {W W':World}{row:Option Nat}(hg:W.grownBy W' row)(hr:∀ r,row=some r→∃ o:Obj,W.heap[r]?=some o∧o.isCells=true):KeepsOthers W W':=
 ⟨hg.size,fun k o ho hc=>(hg.block k (Array.getElem?_eq_some_iff.1 ho).1 (fun e=>by
  obtain⟨o',ho',hc'⟩:=hr k e.symm
  rw[ho] at ho';cases ho';rw[hc] at hc';cases hc')).trans ho⟩
theorem own_row {w:World}{base:Nat}{e:TypeId}{size:Nat}{v:Value}{n:Nat}{xs:List Value}(h:w.ownsRow base e size v n xs):∀ r,v.ownBlock=some r→base≤r∧∃ cs,w.heap[r]?=some (.cells cs e (0,0)):=by
 intro r hr
 rcases h.2 with⟨rfl,_⟩ | ⟨g,cap,cur,rfl,hb,hg,_⟩
 ·cases hr
 ·cases hr;exact⟨hb,_,hg⟩
theorem own_kept {w w':World}{base:Nat}{e:TypeId}{size:Nat}{v:Value}{n:Nat}{xs:List Value}{row:Option Nat}(h:w.ownsRow base e size v n xs)(hg:w.grownBy w' row) 
  (hr:∀ r,row=some r→∃ o:Obj,w.heap[r]?=some o∧∀ cs,o≠.cells cs e (0,0)):w'.ownsRow base e size v n xs:=by
 refine h.kept hg ?_
 cases hv:v.ownBlock with
 | none=>exact .inl rfl
 | some g=>
  refine .inr fun e'=>?_
  obtain⟨_,cs,hc⟩:=own_row h g hv
  obtain⟨o,ho,hne⟩:=hr g e'.symm
  rw[hc] at ho;cases ho;exact hne cs rfl
structure OutAt (w:World) (Ds:List Nat) (vv:Value) (zs:List Int) (W:World):Prop where
 box:Blk W w.heap.size #[vv] 71
 own:W.ownsRow (w.heap.size+1) 3 1 vv zs.length (zs.map (Value.int .i64))
 nod:Ds.Nodup
 marks:∀ D∈Ds,w.heap.size+1≤D∧W.heap[D]?=some (.deferred (some []))
 below:Below w.heap.size w W
def OutG (B k:Nat)(t:TypeId):Prop:=k<B∨(B<k∧t≠3)
namespace OutAt
variable {w W W':World} {Ds:List Nat} {vv:Value} {zs:List Int}
theorem lt (h:OutAt w Ds vv zs W):∀ D∈Ds,D<W.heap.size:=fun D hD=>(Array.getElem?_eq_some_iff.1 (h.marks D hD).2).1
theorem blw (h:OutAt w Ds vv zs W)(hb:Below W.heap.size W W'):OutAt w Ds vv zs W':=
 ⟨h.box.below hb,ownsRow_below h.own hb,h.nod,fun D hD=>⟨(h.marks D hD).1,(hb.block D (h.lt D hD)).trans (h.marks D hD).2⟩,h.below.trans (hb.mono h.below.size)⟩
theorem alloc (h:OutAt w Ds vv zs W)(o:Obj):OutAt w Ds vv zs (W.alloc o):=h.blw ((Below.refl _ _).alloc (Nat.le_refl _) _)
theorem grown {B:Nat}{row:Option Nat}(h:OutAt w Ds vv zs W)(hlt:∀ D∈Ds,D<B)(hwB:w.heap.size<B)(hg:W.grownBy W' row) 
  (hr:∀ r,row=some r→B≤r∧∃ o:Obj,W.heap[r]?=some o∧∀ cs,o≠.cells cs 3 (0,0)):OutAt w Ds vv zs W':=
 ⟨h.box.grown hg (fun e=>by have:=(hr _ e).1;omega),own_kept h.own hg (fun r e=>(hr r e).2),h.nod,
  fun D hD=>⟨(h.marks D hD).1,(hg.block D (h.lt D hD) (fun e=>by have:=(hr _ e.symm).1;have:=hlt D hD;omega)).trans (h.marks D hD).2⟩,
  h.below.grown hg h.below.size (fun r e=>by have:=(hr r e).1;omega)⟩
theorem mark (h:OutAt w Ds vv zs W){D:Nat}(hD:W.heap[D]?=some (.deferred (some [])))(hn:∀ D'∈Ds,D'<D)(hw:w.heap.size+1≤D):OutAt w (D :: Ds) vv zs W:=
 ⟨h.box,h.own,List.nodup_cons.2 ⟨fun hm=>by have:=hn D hm;omega,h.nod⟩,fun D' h'=>by
  rcases List.mem_cons.1 h' with rfl | h'
  ·exact⟨hw,hD⟩
  ·exact h.marks D' h',h.below⟩
theorem push (h:OutAt w Ds vv zs W)(x:Int){w3:World}{v':Value}(hg:(W.alloc (.cells #[.int .i64 x] 3)).grownBy w3 vv.ownBlock) 
  (hown:w3.ownsRow (w.heap.size+1) 3 1 v' (zs.length+1) (zs.map (Value.int .i64)++[.int .i64 x])) :
  OutAt w Ds v' (zs++[x]) (w3.setCell ⟨w.heap.size,0,none⟩ v')∧KeepsOthers W (w3.setCell ⟨w.heap.size,0,none⟩ v')∧KeepC (OutG w.heap.size) W (w3.setCell ⟨w.heap.size,0,none⟩ v'):=by
 have ho1:=h.own.alloc (.cells #[.int .i64 x] 3)
 have h1:=h.alloc (.cells #[.int .i64 x] 3)
 have hrow:=own_row ho1
 have hk3:KeepsOthers (W.alloc (.cells #[.int .i64 x] 3)) w3:=keepsOthers_grown hg (fun r e=>by
  obtain⟨_,cs,hc⟩:=hrow r e;exact⟨_,hc,rfl⟩)
 have hbox3:Blk w3 w.heap.size #[vv] 71:=h1.box.grown hg (fun e=>by have:=(hrow _ e).1;omega)
 have hbel3:Below w.heap.size w w3:=h1.below.grown hg h1.below.size (fun r e=>by have:=(hrow r e).1;omega)
 have hkc:KeepC (OutG w.heap.size) (W.alloc (.cells #[.int .i64 x] 3)) w3:=⟨hg.size,fun k cs t fr hk hc=>(hg.block k (Array.getElem?_eq_some_iff.1 hc).1 (fun e=>by
  obtain⟨hle,cs',hc'⟩:=hrow k e.symm
  rw[hc] at hc';cases hc'
  rcases hk with hk | hk
  ·omega
  ·exact hk.2 rfl)).trans hc⟩
 refine⟨⟨hbox3.set 0 _,?_,h.nod,fun D hD=>⟨(h1.marks D hD).1,?_⟩,hbel3.setCell (by simp) _⟩,(((KeepsOthers.alloc W _).trans hk3).trans (KeepsOthers.setCell _ _ _)),?_⟩
 ·have:=ownsRow_setCell_below hown (a:=⟨w.heap.size,0,none⟩) (by simp) v'
  simpa using this
 ·exact(KeepsOthers.setCell w3 _ v').same D _ (hk3.same D _ (h1.marks D hD).2 rfl) rfl
 ·exact(((KeepC.refl _ W).alloc _).trans hkc).setCell _ _ (fun t ht=>by rcases ht with h | h <;> simp at h)
theorem push_box (h:OutAt w Ds vv zs W){x:Int}{w3:World}(hg:(W.alloc (.cells #[.int .i64 x] 3)).grownBy w3 vv.ownBlock):Blk w3 w.heap.size #[vv] 71:=
 (h.alloc (.cells #[.int .i64 x] 3)).box.grown hg (fun e=>by have:=(own_row (h.own.alloc (.cells #[.int .i64 x] 3)) _ e).1;omega)
theorem turned (h:OutAt w Ds vv zs W){ys:List Int}{W':World}(hg:W.grownBy W' vv.ownBlock){v':Value}(hown:W'.ownsRow (w.heap.size+1) 3 1 v' ys.length (ys.map (Value.int .i64))):
  (Blk W' w.heap.size #[vv] 71∧∀ D∈Ds,w.heap.size+1≤D∧W'.heap[D]?=some (.deferred (some [])))∧Below w.heap.size w W':=by
 have hrow:=own_row h.own
 refine⟨⟨h.box.grown hg (fun e=>by have:=(hrow _ e).1;omega),fun D hD=>⟨(h.marks D hD).1,?_⟩⟩,h.below.grown hg h.below.size (fun r e=>by have:=(hrow r e).1;omega)⟩
 refine(hg.block D (h.lt D hD) (fun e=>?_)).trans (h.marks D hD).2
 obtain⟨_,cs,hc⟩:=hrow D e.symm
 rw[(h.marks D hD).2] at hc;cases hc
theorem sorted (h:OutAt w Ds vv zs W){ys:List Int}{W':World}(hg:W.grownBy W' vv.ownBlock)(hown:W'.ownsRow (w.heap.size+1) 3 1 vv ys.length (ys.map (Value.int .i64))):OutAt w Ds vv ys W':=
 let q:=h.turned hg hown
 ⟨q.1.1,hown,h.nod,q.1.2,q.2⟩
theorem leave (h:OutAt w Ds vv zs W){ys:List Int}{W':World}(hg:W.grownBy W' vv.ownBlock){v':Value}(hown:W'.ownsRow (w.heap.size+1) 3 1 v' ys.length (ys.map (Value.int .i64))) 
  {F:Fence} {n:Nat} {P:Program} {fn:Func} {tmps:Array Value} (hr:∀ w3:World,(results fn tmps).run P w3=.ok v' w3) :
  LeavesInM F n P fn tmps (FreshInts ys w) (Ds.map fun D=>{ target:=.collected D,args:=#[] }) .returning W':=by
 obtain⟨⟨hb,hm⟩,hbel⟩:=h.turned hg hown
 refine leaves_marks (w.heap.size+1) Ds W' h.nod (by have:=hb.lt;omega) hm (fun w3 hk hb3=>?_)
 obtain⟨a,c,hv,hs⟩:=own_ints hown
 subst hv
 exact⟨_,hr w3,a,c,rfl,(hs.keep (fun k o u _ hu=>hk k o u trivial hu)).weaken (by decide) (fun q _ hq=>by omega),hbel.trans (hb3.mono (by omega))⟩
end OutAt
end Go.Proofs.YtclihnccilkohaaGreat
namespace Go.Proofs.YtclihnccilkohaaGreat
open Go.RowKit Go.Shelf
attribute [local go_sem] Oper.semAt_some
theorem tms_cells {F:Nat→Prop}{w:World}{v:Value}{l:List Tm}(h:IsSl rpTm F w v l):∃ a c,v=.slice a l.length c∧(l.length≤maxLen∧l.length≤c)∧∃ (bl off:Nat),
  (0<l.length→a=some ⟨bl,off,none⟩∧F bl)∧∀ j (hj:j<l.length),∃ b k i s,w.cell? ⟨bl,off+j * 4,none⟩=some b∧w.cell? ⟨bl,off+j * 4+1,none⟩=some k∧w.cell? ⟨bl,off+j * 4+2,none⟩=some i∧w.cell? ⟨bl,off+j * 4+3,none⟩=some s∧IsTm F w b k i s l[j]:=by
 obtain⟨a,c,bl,off,X,hv,hm,ha,h1,h2⟩:=h
 refine⟨a,c,hv,hm,bl,off,ha,fun j hj=>?_⟩
 obtain⟨b,k,i,s,hx,ht⟩:=h2 j hj
 exact⟨b,k,i,s,h1 j 0 b hj (by rw[hx];rfl),h1 j 1 k hj (by rw[hx];rfl),h1 j 2 i hj (by rw[hx];rfl),h1 j 3 s hj (by rw[hx];rfl),ht⟩
def metasP (l:List (Nat×Nat×Tm)):List Int:=l.filterMap fun p=>if p.2.2.kind=2 then some p.2.2.index else none
def metasL (l:List Tm):List Int:=l.flatMap fun t=>metasP (t.pre 0 1)
theorem metasL_take (l:List Tm)(j:Nat)(h:j<l.length):metasL (l.take (j+1))=metasL (l.take j)++metasP (l[j].pre 0 1):=by
 rw[List.take_succ_eq_append_getElem h];unfold metasL;rw[List.flatMap_append];simp
theorem metasL_len (l:List Tm)(m:Nat)(h:∀ t∈l,t.full≤m):(metasL l).length≤l.length * m:=by
 induction l with
 | nil=>simp[metasL]
 | cons t l ih=>
  have h1:=h t (by simp)
  have h2:=ih (fun u hu=>h u (by simp[hu]))
  have h3:(metasL (t :: l)).length=(metasP (t.pre 0 1)).length+(metasL l).length:=by simp[metasL]
  have h4:(metasP (t.pre 0 1)).length≤(t.pre 0 1).length:=List.length_filterMap_le _ _
  rw[Tm.pre_length] at h4
  have h5:=Tm.size_le_full t
  rw[h3,List.length_cons,Nat.succ_mul];omega
set_option maxRecDepth 100000 in
set_option maxHeartbeats 4000000 in
theorem metas6_k {F:Nat→Prop}{w:World}{v:Value}{l:List Tm}(h:IsSl rpTm F w v l)(hl:l.length≤9)(hsz:∀ t∈l,t.full≤90000):Calls Tryz.prog 136 #[v] w (FreshInts (sortU (metasL l)) w):=by
 refine(callsIn_wide (n:=9)).1 ?_
 have Ht:=Lib.hid (h.weaken (F':=fun _=>True) (by decide) fun _ _ _=>trivial)
 obtain⟨a,c,rfl,hm,bl,off,ha,hc⟩:=tms_cells Ht.out
 obtain⟨ll,hll⟩:∃ x,l.length=x:=⟨_,rfl⟩
 clear h Ht
 have Hm:=Lib.hid hm;clear hm
 have Hc:=Lib.hid hc;clear hc
 have Hsz:=Lib.hid hsz;clear hsz
 rw[hll] at ha hl ⊢
 obtain⟨i2,hi2,hz0,hz1,hz2⟩:=info_parts infoI
 refine callsIn_of_wp_marks Tryz.func136 rfl trivial ?_ rfl
 simp only[Tryz.ntmps136,List.size_toArray,List.length_cons,List.length_nil,Nat.reduceAdd,Nat.reduceSub,Array.replicate_succ,Array.replicate_zero,List.push_toArray,List.append_toArray,List.nil_append,List.cons_append]
 gi_wp2_with fail
 refine wpIn_loop (fun a' w'=>∃ (j:Nat) (Ds:List Nat) (zs:List Int) (vv u5 u11 u12 u13 u14 u15 u28:Value),a'={ tmps:=#[.slice a ll c,undef,.slice none 0 0,.pointer (some ⟨w.heap.size,0,none⟩),undef,u5,undef,undef,.slice a ll c,.int .i64 ll,.int .i64 j,u11,u12,u13,u14,u15,undef,undef,undef,undef,undef,undef,undef,undef,undef,undef,undef,undef,u28,undef,undef,undef,undef],defers:=Ds.map fun D=>{ target:=.collected D,args:=#[] } } ∧
   j≤ll∧Hid (zs=metasL (l.take j))∧OutAt w Ds vv zs w') (fun a' _=>ll-(intOf (a'.tmps.getD 10 undef)).toNat) ?start ?round
 case start=>
  refine⟨0,[],[],.slice none 0 0,undef,undef,undef,undef,undef,undef,undef,rfl,by omega,by show _=_;simp[metasL],?_⟩
  exact⟨Blk.new _ _ _ rfl,World.ownsRow_nil _ _ _ _,by simp,by simp,(Below.refl _ _).alloc (Nat.le_refl _) _⟩
 case round=>
  rintro a' W ⟨j,Ds,zs,vv,u5,u11,u12,u13,u14,u15,u28,rfl,hj,hzs,hO⟩
  have hj0:(0:Int)≤(j:Int):=Int.natCast_nonneg _
  have HO:=Lib.hid hO;clear hO
  by_cases hlt:j<ll
  ·have hj1:(j:Int)<(ll:Int):=by omega
   obtain⟨rfl,_⟩:=ha (by omega)
   obtain⟨vb,vk,vi,vs,e1,e2,e3,e4,hty⟩:=Hc.out j (by omega)
   have hW:=HO.out.below
   have e1:=((Keep.refl (fun _=>True) _).below hW) _ _ _ trivial e1
   have e2:=((Keep.refl (fun _=>True) _).below hW) _ _ _ trivial e2
   have e3:=((Keep.refl (fun _=>True) _).below hW) _ _ _ trivial e3
   have e4:=((Keep.refl (fun _=>True) _).below hW) _ _ _ trivial e4
   have Htk:=Lib.hid (metasL_take l j (by omega))
   have hts:=Hsz.out l[j] (List.getElem_mem _)
   obtain⟨t,ht⟩:∃ t,l[j]=t:=⟨_,rfl⟩
   rw[ht] at hty Htk hts
   clear ht
   obtain⟨pa,pc,qa,qc,rfl,rfl,rfl,rfl⟩:=hty.shape
   have Hty:=Lib.hid hty;clear hty
   obtain⟨x1,hx1⟩:∃ x,t.binds.length=x:=⟨_,rfl⟩
   obtain⟨x2,hx2⟩:∃ x,t.args.length=x:=⟨_,rfl⟩
   obtain⟨x3,hx3⟩:∃ x,t.kind=x:=⟨_,rfl⟩
   obtain⟨x4,hx4⟩:∃ x,t.index=x:=⟨_,rfl⟩
   rw[hx1,hx2,hx3,hx4] at Hty
   rw[hx1] at e1
   rw[hx3] at e2
   rw[hx4] at e3
   rw[hx2] at e4
   clear hx1 hx2 hx3 hx4
   gi_wp2_with fail
   refine⟨trivial,(each6_k _ _ _ _ _ _ ⟨_,_,_,rfl⟩ ⟨_,rfl⟩ ⟨_,rfl⟩ ⟨_,_,_,rfl⟩).mono ?_⟩
   rintro e w' ⟨rfl,rfl⟩
   gi_wp2_with fail
   have HO5:=Lib.hid ((HO.out.alloc (.cells #[.slice pa x1 pc,.int .i64 x3,.int .i64 x4,.slice qa x2 qc] 62)).alloc (.cells #[.slice pa x1 pc,.int .i64 x3,.int .i64 x4,.slice qa x2 qc] 62))
   obtain⟨w5,hw5⟩:∃ w5,(W.alloc (.cells #[.slice pa x1 pc,.int .i64 x3,.int .i64 x4,.slice qa x2 qc] 62)).alloc (.cells #[.slice pa x1 pc,.int .i64 x3,.int .i64 x4,.slice qa x2 qc] 62)=w5:=⟨_,rfl⟩
   have hz:w5.heap.size=W.heap.size+2:=by rw[←hw5];simp
   have y3:Blk w5 (W.heap.size+1) #[.slice pa x1 pc,.int .i64 x3,.int .i64 x4,.slice qa x2 qc] 62:=by rw[←hw5];exact Blk.new _ _ _ (by simp)
   rw[hw5] at HO5 ⊢
   clear hw5
   have hsz1:=HO.out.box.lt
   have hlts:=HO.out.lt
   clear HO
   have Hlts:Hid (∀ D∈Ds,D<w5.heap.size):=fun D hD=>by have:=hlts D hD;omega
   clear hlts
   refine range_softA (Ok:=SpotOk) (fun o h=>.inl h) rfl (by omega) (gf:=98) (lb:=#[.pointer (some ⟨W.heap.size+1,0,none⟩)]) rfl trivial (enters_of Tryz.func98 (by kernel_rfl) rfl)
    (each6_soft (OutG w.heap.size) (fun k _ _ hk=>.inl hk) Hty.out (by omega) (9-1) w5 (fun k _ hk ht=>.inr ⟨by omega,ht⟩) ((Keep.refl _ _).below HO5.out.below) (W.heap.size+1) y3)
    (fun h h'=>h.trans h') (fun W l o o' _ hl ho _=>KeepC.putObj _ W l o o' hl ho) (Below.refl _ _) (fun _=>rfl)
    (fun pre V=>∃ v',OutAt w Ds v' (zs++metasP (pre.map Hit6.key)) V)
    (fun _ _ _=>False)
    (fun pre A B row ⟨v',h⟩ hg hr=>⟨v',h.grown Hlts.out (by omega) hg (fun r e=>by
     obtain⟨h1,o,ho,hc⟩:=hr r e
     refine⟨h1,o,ho,fun cs e=>?_⟩
     subst e
     rcases hc with hc | ⟨cs',fr,hc⟩
     ·simp[Obj.isCells] at hc
     ·cases hc)⟩)
    (fun _ _ _ _ _ hs _ _=>hs)
    ⟨vv,by simpa[metasP] using HO5.out⟩
    (fun x a' V=>∃ Bx,Blk V Bx #[.slice x.pb x.t.binds.length x.cb,.int .i64 x.t.kind,.int .i64 x.t.index,.slice x.pa x.t.args.length x.ca] 62∧a'={ tmps:=#[.slice (some ⟨bl,off,none⟩) ll c,undef,.slice none 0 0,.pointer (some ⟨w.heap.size,0,none⟩),undef,.pointer (some ⟨W.heap.size,0,none⟩),undef,.pointer (some ⟨Bx,0,none⟩),.slice (some ⟨bl,off,none⟩) ll c,.int .i64 ll,.int .i64 j,.bool true,.pointer (some ⟨bl,off+j * 4,none⟩),.agg #[.slice pa x1 pc,.int .i64 x3,.int .i64 x4,.slice qa x2 qc],.agg #[.slice pa x1 pc,.int .i64 x3,.int .i64 x4,.slice qa x2 qc],.func (.func 98) #[] #[.pointer (some ⟨W.heap.size+1,0,none⟩)],.agg #[.int .i64 x.s,.int .i64 x.d],.agg #[.slice x.pb x.t.binds.length x.cb,.int .i64 x.t.kind,.int .i64 x.t.index,.slice x.pa x.t.args.length x.ca],undef,undef,undef,undef,undef,undef,undef,undef,undef,undef,u28,undef,undef,undef,undef],defers:=[] })
    (fun x a' W l o o' hl ho hoc=>by
     rintro⟨Bx,h2,h3⟩
     have hne:l≠Bx:=fun e=>by
      subst e
      have hb:W.heap[l]?=_:=h2
      rw[hb] at ho;cases ho;simp[Obj.isCells] at hoc
     exact⟨Bx,(World.putObj_heap_other (Ne.symm hne)).trans h2,h3⟩) ?assign ?body ?done ?stop
   case assign=>
    rintro l pre x V K ⟨v',hV⟩ hK
    have HK:=Lib.hid hK;clear hK
    have HV:=Lib.hid hV;clear hV
    simp only[Hit6.enc] at *
    gi_wp2
    exact HK.out _ _ ((KeepsOthers.alloc _ _).from _) ((KeepC.refl _ V).alloc _) ⟨v',HV.out.alloc _⟩ ⟨V.heap.size,Blk.new _ _ _ rfl,rfl⟩
   case body=>
    rintro l' pre x a' V ⟨v',hV⟩ hlt' ⟨Bx,bX,rfl⟩
    have c1:V.cell? ⟨w.heap.size,0,none⟩=some v':=hV.box.cell rfl
    have cx1:V.cell? ⟨Bx,1,none⟩=some (.int .i64 x.t.kind):=bX.cell rfl
    have cx2:V.cell? ⟨Bx,2,none⟩=some (.int .i64 x.t.index):=bX.cell rfl
    have hlen0:(zs++metasP (pre.map Hit6.key)).length≤900000:=by
     have h1:(metasL (l.take j)).length≤720000:=by
      have:=metasL_len (l.take j) 90000 (fun t ht=>Hsz.out t (List.mem_of_mem_take ht))
      have h2:(l.take j).length≤8:=by simp;omega
      exact Nat.le_trans this (Nat.le_trans (Nat.mul_le_mul_right 90000 h2) (by decide))
     have h2:(metasP (pre.map Hit6.key)).length≤pre.length:=by
      have:=List.length_filterMap_le (fun p:Nat×Nat×Tm=>if p.2.2.kind=2 then some p.2.2.index else none) (pre.map Hit6.key)
      simpa[metasP] using this
     have h3:=Tm.size_le_full t
     rw[hzs.out,List.length_append]
     omega
    have hkey:metasP ((pre++[x]).map Hit6.key)=metasP (pre.map Hit6.key)++(if x.t.kind=2 then [x.t.index] else []):=by
     unfold metasP
     rw[List.map_append,List.filterMap_append]
     congr 1
     by_cases hk:x.t.kind=2
     ·simp[Hit6.key,hk]
     ·simp[Hit6.key,hk]
    have hkey2:zs++metasP ((pre++[x]).map Hit6.key)=(zs++metasP (pre.map Hit6.key))++(if x.t.kind=2 then [x.t.index] else []):=by rw[hkey,List.append_assoc]
    clear hkey
    obtain⟨zp,hzp⟩:∃ zp,zs++metasP (pre.map Hit6.key)=zp:=⟨_,rfl⟩
    rw[hzp] at hV hkey2 hlen0
    obtain⟨kk,hkk⟩:∃ k,x.t.kind=k:=⟨_,rfl⟩
    obtain⟨ii,hii⟩:∃ k,x.t.index=k:=⟨_,rfl⟩
    rw[hkk,hii] at hkey2
    rw[hkk] at cx1 ⊢
    rw[hii] at cx2 ⊢
    clear hzp hkk hii
    have HV:=Lib.hid hV;clear hV
    have hsz3:=HV.out.below.size
    have f0:=HV.out.box.free 0
    by_cases hk:kk=2
    ·subst hk
     rw[if_pos rfl] at hkey2
     have Hkey:=Lib.hid hkey2;clear hkey2
     gi_wp2_with (gi_at_builtin;refine wpListIn_append_own _ rfl _ _ 71 rfl (w.heap.size+1) 3 i2 _ 1 8 Tryz.underlying71 hi2 hz0 hz1 hz2 rfl (by decide) v' zp.length (zp.map (Value.int .i64)) rfl (HV.out.own.alloc _) ⟨V.heap.size,0,none⟩ 1 1 [.int .i64 ii] rfl rfl (fun jj u hu=>by
       cases jj with
       | zero=>simp at hu;subst hu;exact(Blk.new V #[.int .i64 ii] 3 rfl).cell rfl
       | succ _=>simp at hu) (by simp[Value.oneCell']) (by simp[maxLen];omega) (by omega) (by have:=HV.out.box.lt;simp;omega) ?_;intro v2 w3 hown3 hg3 hnil3;have Hg3:=Lib.hid hg3;obtain⟨g3,cap3,rfl⟩:=ownsRow_succ hown3;have Hown3:=Lib.hid hown3;clear hown3 hg3 hnil3;have c3:=(HV.out.push_box Hg3.out).cell (i:=0) rfl;have f3:=(HV.out.push_box Hg3.out).free 0)
     obtain⟨q1,q2,q3⟩:=HV.out.push ii Hg3.out Hown3.out
     exact⟨q2.from _,q3,_,by rw[Hkey.out];exact q1⟩
    ·rw[if_neg hk,List.append_nil] at hkey2
     have Hkey:=Lib.hid hkey2;clear hkey2
     have hk':(kk==2)=false:=by simpa using hk
     gi_wp2
     exact⟨(KeepsOthers.refl _).from _,KeepC.refl _ _,_,by rw[Hkey.out];exact HV.out⟩
   case done=>
    rintro D ys V hD hys ⟨v',hV⟩ hK
    have hV2:=hV.mark hK (fun D' h'=>by have:=Hlts.out D' h';omega) (by omega)
    have Hz:Hid (zs++metasP (ys.map Hit6.key)=metasL (l.take (j+1))):=by show _=_;rw[hys,Htk.out,hzs.out]
    rw[Hz.out] at hV2
    clear hV hK hys
    have HV:=Lib.hid hV2;clear hV2
    gi_wp2_with fail
    refine⟨⟨j+1,D :: Ds,_,v',_,_,_,_,_,_,_,rfl,by omega,rfl,HV.out⟩,?_⟩
    simp[intOf];omega
   case stop=>
    rintro D cc pre V _ _ h _
    exact h.elim
  ·have hO:=HO.out
   have hz2:zs=metasL l:=by rw[hzs.out,List.take_of_length_le (by omega)]
   have hlen:zs.length≤1000000:=by
    have:=metasL_len l 90000 Hsz.out
    rw[hz2]
    exact Nat.le_trans this (Nat.le_trans (Nat.mul_le_mul_right 90000 (show l.length≤9 by omega)) (by decide))
   have c1:W.cell? ⟨w.heap.size,0,none⟩=some vv:=hO.box.cell rfl
   clear hO
   gi_wp2_with fail
   refine⟨trivial,(callsIn_wide.2 (sort_own (base:=w.heap.size+1) HO.out.own hlen)).mono ?_⟩
   rintro e W2 ⟨rfl,hown2,hg2⟩
   have hl2:=List.length_mergeSort (le:=fun x y:Int=>decide (x≤y)) zs
   have HO2:=Lib.hid (HO.out.sorted hg2 (by rw[hl2];exact hown2))
   clear HO hown2 hg2
   have c2:W2.cell? ⟨w.heap.size,0,none⟩=some vv:=HO2.out.box.cell rfl
   gi_wp2_with fail
   refine⟨trivial,(callsIn_wide.2 (compact_own (base:=w.heap.size+1) HO2.out.own (by rw[hl2];exact hlen))).mono ?_⟩
   rintro e W3 ⟨v',rfl,hown3,hg3⟩
   have Hown3:=Lib.hid hown3;have Hg3:=Lib.hid hg3
   clear hown3 hg3
   gi_wp2_with fail
   have h:=HO2.out.leave Hg3.out Hown3.out (F:=Fence.wide) (n:=9) (P:=Tryz.prog) (fn:=Tryz.f136) (tmps:=#[.slice a ll c,undef,v',.pointer (some ⟨w.heap.size,0,none⟩),undef,u5,undef,undef,.slice a ll c,.int .i64 ll,.int .i64 j,.bool false,u12,u13,u14,u15,undef,undef,undef,undef,undef,undef,undef,undef,undef,undef,undef,undef,u28,vv,.tuple #[],vv,v']) (fun w3=>results_tmp (t:=2) rfl _ _ w3)
   rw[hz2] at h
   exact h
end Go.Proofs.YtclihnccilkohaaGreat
namespace Go.Proofs.YtclihnccilkohaaGreat
open Go.RowKit
theorem metas_d (l:List Tm)(hl:l.length≤9)(hz:∀ t∈l,t.full≤90000):PureC Tryz.prog 136 [.sl 4 (eTms l) none] (.sl 1 (eIs (sortU (metasL l))) none):=by
 refine pure_below (by kernel_rfl) fun m Im w vs hv=>?_
 match vs,hv with
 | [x],hv=>
  have hs:IsSl rpTm (fun _=>True) w x l:=(sl_of_rel (r:=rpTm) (e:=eTm) eTm_len (fun x t hx _=>tm_of_rel t hx) (by decide) (by rw[eTms_map] at hv;exact hv.1)).weaken (by decide) fun _ _ _=>trivial
  refine(metas6_k hs hl hz).mono ?_
  rintro e w' ⟨a,c,rfl,h1,h2⟩
  refine⟨_,rfl,h2,fun Im' _ hI=>?_⟩
  exact rel_of_sl (r:=rpInt) (e:=fun i=>[.v (.int .i64 i)]) (fun b o v hq hc=>hI b o v hq hc) (fun _=>rfl) (fun x a h=>by
   have:x=[.int .i64 a]:=h
   subst this;exact⟨.v _,trivial⟩) h1
namespace Li
def lo (t:Tm):Bool:=decide ((t.looses 0).foldl looseL 0>0)
def rt (t:Tm):Bool:=decide (t.size≤5000∧t.depth≤60)
def may (L R:Tm)(M B:List Ty):Int:=
 if (lo L||lo R)=true then 1
 else if ((sortU (metasL [L,R])).any fun x=>decide (x<0∨(M.length:Int)≤x))=true then 10
 else if (decide ((B.length:Int)>900)||(!rt L || !rt R))=true then 2 else 0
def done (p:Pr):Pr×Int:=if (rt p.l&&rt p.r)=true then (p,0) else (.z,2)
def cl (t:Tm)(B:List Ty):Tm:=.mk (B++t.binds) t.kind t.index t.args
def arr (B:List Ty)(t:Ty):Ty:=.mk (B++t.args) t.base
def up (p:Pr)(B:List Ty):Pr:=⟨lif B p.l 0,lif B p.r 0,p.m.map (arr B)⟩
def over (p:Pr)(B:List Ty):Pr×Int:=if may p.l p.r p.m B≠0 then (.z,may p.l p.r p.m B) else done (up p B)
def clP (p:Pr)(B:List Ty):Pr:=⟨cl p.l B,cl p.r B,p.m⟩
def closed (p:Pr)(B:List Ty):Pr×Int:=if (over p B).2≠0 then (.z,(over p B).2) else done (clP (over p B).1 B)
end Li
theorem nodup_le:∀ (l m:List Int),l.Nodup→(∀ x∈l,x∈m)→l.length≤m.length
 | [],m,_,_=>Nat.zero_le _
 | x :: l,m,h1,h2=>by
  have hx:=h2 x (by simp)
  have:=nodup_le l (m.erase x) (List.nodup_cons.1 h1).2 fun y hy=>(List.mem_erase_of_ne fun e=>(List.nodup_cons.1 h1).1 (by rw[←e];exact hy)).2 (h2 y (by simp[hy]))
  rw[List.length_erase_of_mem hx] at this
  have:=List.length_pos_of_mem hx
  simp;omega
end Go.Proofs.YtclihnccilkohaaGreat
