/-
  Package match, walked in the deep way: what was found as a substitution; several at once. A matching's answer, applied to the pattern, is the term; plain. The known answer of the laws of layer 12. Package subst's lists, walked in the deep way: Clone, Without, Set, Domain, Get. Package subst's lists, walked in the deep way: Set, Domain, Get, Equal; terms that are the same. Package subst's lists, walked in the deep way: Get, Equal. The document's lists of pairs, walked in the deep way: Sorted, Get, Without, Domain, Same. The document's lists of pairs, walked in the deep way: Sorted and Without hand back rows of their own; Like. The document's matching, walked in the deep way: rigid, All. The document's matching, walked in the deep way: several at once. Types and terms of the laws, there and back, walked in the deep way. Lists of pairs, there and back. How many types and terms: exactly what the reference counts. How many terms: exactly what the reference counts; the laws' Few. What the laws' Few tells of a term. Lists of pairs in the laws of layer 9: To, Few. MatchAlls, walked in the deep way. Variants and what is more general, walked in the deep way; MatchOrders. match.Find in plain words, and the document's answer for it. What the law MatchSound asks of the plain model. Loops over an iterator that hands out what it has just made. A region that draws its order where several operations can come up. A region that draws its order, walked outside any fence, is taken into the fence that asks nothing, in a round of a loop or not. spot.Each: all places, each handed out as copies that have just been made.
-/
import Derived.Test.YtflbnonbfmmchaaGreatRowMatchSoundp8
import Derived.Test.YtflbnonbfmmchaaGreatRowMatchSoundp7
import Derived.Test.YtflbnonbfmmchaaGreatRowMatchSoundp6
import Derived.Test.YtflbnonbfmmchaaGreatRowMatchSoundp5
import Derived.Test.YtflbnonbfmmchaaGreatRowMatchSoundp1
import Derived.RegionTactic
import Derived.OrdersIn
import Derived.RangeFuncCalls
set_option maxRecDepth 100000
set_option maxHeartbeats 1000000
set_option linter.unusedVariables false
set_option linter.unusedSimpArgs false
namespace Go.Proofs.YtflbnonbfmmchaaGreat
open Go.RowKit
def TPM_41:TI:=⟨4,true,[Value.slice none 0 0,Value.int IntKind.i64 0,Value.int IntKind.i64 0,Value.slice none 0 0],[(0,1,false),(1,2,true),(3,1,false)],none,64,6,none,false⟩
theorem TPM_41_ok:TypOk Tryz.prog 41 TPM_41:=by constructor <;> kernel_rfl
def TPM_119:TI:=⟨8,true,[Value.slice none 0 0,Value.int IntKind.i64 0,Value.int IntKind.i64 0,Value.slice none 0 0,Value.slice none 0 0,Value.int IntKind.i64 0,Value.int IntKind.i64 0,Value.slice none 0 0],[(0,4,true),(4,4,true)],none,128,6,none,false⟩
theorem TPM_119_ok:TypOk Tryz.prog 119 TPM_119:=by constructor <;> kernel_rfl
def TPM_197:TI:=⟨1,false,[Value.slice none 0 0],[],some 119,24,5,none,false⟩
theorem TPM_197_ok:TypOk Tryz.prog 197 TPM_197:=by constructor <;> kernel_rfl
def TPM_201:TI:=⟨1,true,[Value.map none],[(0,1,false)],none,8,6,none,false⟩
theorem TPM_201_ok:TypOk Tryz.prog 201 TPM_201:=by constructor <;> kernel_rfl
def TPM_50:TI:=⟨1,false,[Value.slice none 0 0],[],some 79,24,5,none,false⟩
theorem TPM_50_ok:TypOk Tryz.prog 50 TPM_50:=by constructor <;> kernel_rfl
def TPM_3:TI:=⟨1,false,[Value.int IntKind.i64 0],[],none,8,2,none,false⟩
theorem TPM_3_ok:TypOk Tryz.prog 3 TPM_3:=by constructor <;> kernel_rfl
def TPM_199:TI:=⟨1,false,[Value.map none],[],none,8,7,some 41,false⟩
theorem TPM_199_ok:TypOk Tryz.prog 199 TPM_199:=by constructor <;> kernel_rfl
def TPM_79:TI:=⟨5,true,[Value.int IntKind.i64 0,Value.slice none 0 0,Value.int IntKind.i64 0,Value.int IntKind.i64 0,Value.slice none 0 0],[(0,1,false),(1,4,true)],none,72,6,none,false⟩
theorem TPM_79_ok:TypOk Tryz.prog 79 TPM_79:=by constructor <;> kernel_rfl
def TPM_45:TI:=⟨1,false,[Value.int IntKind.i64 0],[],none,8,2,none,false⟩
theorem TPM_45_ok:TypOk Tryz.prog 45 TPM_45:=by constructor <;> kernel_rfl
def TPM_33:TI:=⟨1,false,[Value.slice none 0 0],[],some 44,24,5,none,false⟩
theorem TPM_33_ok:TypOk Tryz.prog 33 TPM_33:=by constructor <;> kernel_rfl
def TPM_44:TI:=⟨2,true,[Value.slice none 0 0,Value.int IntKind.i64 0],[(0,1,false),(1,1,false)],none,32,6,none,false⟩
theorem TPM_44_ok:TypOk Tryz.prog 44 TPM_44:=by constructor <;> kernel_rfl
def TPM:List (Nat×TI):=[(41,TPM_41),(119,TPM_119),(197,TPM_197),(201,TPM_201),(50,TPM_50),(3,TPM_3),(199,TPM_199),(79,TPM_79),(45,TPM_45),(33,TPM_33),(44,TPM_44)]
theorem TPM_ok:TabOk Tryz.prog TPM:=((((((((((((TabOk.nil _).cons TPM_44_ok).cons TPM_33_ok).cons TPM_45_ok).cons TPM_79_ok).cons TPM_199_ok).cons TPM_3_ok).cons TPM_50_ok).cons TPM_201_ok).cons TPM_197_ok).cons TPM_119_ok).cons TPM_41_ok)

def ePP (p:Tm×Tm):List D:=eTm p.1 ++ eTm p.2
def ePPs (l:List (Tm×Tm)):List (List D):=l.map ePP
theorem ePP_eq (p:Tm×Tm):ePP p=[.sl 2 (eTys p.1.binds) none,.v (.int .i64 p.1.kind),.v (.int .i64 p.1.index),.sl 4 (eTms p.1.args) none,.sl 2 (eTys p.2.binds) none,.v (.int .i64 p.2.kind),.v (.int .i64 p.2.index),.sl 4 (eTms p.2.args) none]:=by unfold ePP;rw[eTm_eq,eTm_eq];rfl
theorem ePPs_len (l:List (Tm×Tm)):(ePPs l).length=l.length:=List.length_map ..
theorem ePPs_getD (l:List (Tm×Tm))(i:Nat)(h:i < l.length):(ePPs l).getD i []=ePP l[i]:=by
 rw[ePPs,List.getD_eq_getElem?_getD,List.getElem?_map,List.getElem?_eq_getElem h];rfl
@[simp] theorem ePPs_ok (f g:Nat→Bool) (l:List (Tm×Tm)):D.okss f g (ePPs l)=true:=D.okss_map _ l fun p _=>by simp[ePP_eq,D.oks,D.ok,eTms_ok,eTys_ok]
theorem ePPs_one (p:Tm×Tm):ePPs [p]=[[.sl 2 (eTys p.1.binds) none,.v (.int .i64 p.1.kind),.v (.int .i64 p.1.index),.sl 4 (eTms p.1.args) none,.sl 2 (eTys p.2.binds) none,.v (.int .i64 p.2.kind),.v (.int .i64 p.2.index),.sl 4 (eTms p.2.args) none]]:=by rw[←ePP_eq];rfl
theorem ePairs_snoc' (l:List (Int×Tm))(p:Int×Tm):ePairs l ++ [[.v (.int .i64 p.1),.sl 2 (eTys p.2.binds) none,.v (.int .i64 p.2.kind),.v (.int .i64 p.2.index),.sl 4 (eTms p.2.args) none]]=ePairs (l ++ [p]):=by
 rw[←ePair_eq,ePairs,ePairs,List.map_append];rfl
theorem eBd_len (b:Pn.Bd):(eBd b).length=b.length:=List.length_map ..
theorem eBd_get (b:Pn.Bd)(i:Nat)(h:i < (eBd b).length):(eBd b)[i]=((b[i]'(by rw[eBd_len] at h;exact h)).1,.ag (eTm (b[i]'(by rw[eBd_len] at h;exact h)).2)):=by
 simp[eBd]
theorem ss_perm {l b:List (Int×Tm)}(h:l.Perm b)(hk:(b.map (·.1)).Nodup):So.ss l=So.ss b:=by
 refine So.ss_cong fun k=>?_
 have h1:(b.filter fun a=>a.1 == k).length≤1:=by
  clear h
  induction b with
  | nil=>simp
  | cons p b ih=>
   rw[List.map_cons,List.nodup_cons] at hk
   rw[List.filter_cons]
   split
   ·rename_i he
    have:b.filter (fun a=>a.1 == k)=[]:=by
     rw[List.filter_eq_nil_iff]
     intro a ha
     have hne:a.1≠p.1:=fun e=>hk.1 (List.mem_map.2 ⟨a,ha,e⟩)
     simp only[beq_iff_eq] at he ⊢
     rw[←he];exact hne
    rw[this];simp
   ·exact ih hk.2
 have hp:=h.filter fun a=>a.1 == k
 generalize b.filter (fun a=>a.1 == k)=c at hp h1
 cases c with
 | nil=>exact List.perm_nil.1 hp
 | cons x c=>
  cases c with
  | nil=>exact List.perm_singleton.1 hp
  | cons y c=>simp at h1
theorem right_ss {b:List (Int×Tm)}(hk:(b.map (·.1)).Nodup):Sb.right (So.ss b)=true:=by
 have h1:=So.ss_srt b
 have h2:((So.ss b).map (·.1)).Nodup:=by
  have hp:(So.ss b).Perm b:=by
   unfold So.ss
   have key:∀ l:List (Int×Tm),(So.ssr l).Perm l:=by
    intro l
    induction l with
    | nil=>exact List.Perm.nil
    | cons x l ih=>
     have hi:∀ m:List (Int×Tm),(So.ins x m).Perm (x :: m):=by
      intro m
      induction m with
      | nil=>exact List.Perm.refl _
      | cons y m ihm=>
       rw[So.ins]
       split
       ·exact(List.Perm.cons y ihm).trans (List.Perm.swap _ _ _)
       ·exact List.Perm.refl _
     exact(hi _).trans (List.Perm.cons x ih)
   exact(key _).trans (List.reverse_perm b)
  exact(hp.map _).nodup_iff.2 hk
 unfold Sb.right
 rw[decide_eq_true_iff]
 have h3:(So.ss b).Pairwise fun a b=>a.1≠b.1:=List.pairwise_map.1 h2
 exact(h1.and h3).imp fun h=>by omega
set_option maxHeartbeats 1000000 in
theorem msubst_d (b:Pn.Bd)(hb:Pn.BdOk b)(hl:b.length≤100000):CallC Tryz.prog 112 [.mo 0] [(.o 0,.mp (eBd b))] [] (.sl 5 (ePairs (So.ss b)) none):=by
 have hrt:=right_ss hb.keys
 refine calldw 1 27 [ResultVar.tmp 2] TPM_ok Tryz.func112 rfl Tryz.ntmps112 rfl fun cx hnt hn0=>?_
 ·skip
  refine dw_seq ?_;refine dwk [] TPM_ok hnt fun K hK=>hK _ _ ?_;clear hK K;refine dw_seq ?_;refine dwk [] TPM_ok hnt fun K hK=>hK _ _ ?_;clear hK K;refine dw_seq ?_;refine dw_seq ?_
  refine dw_q [] TPM_ok (by kernel_rfl) hnt (by kernel_rfl) (by simp;rfl) fun K hK=>?_
  intro bm es clk hes
  refine hK _ ?_;clear hK K
  have hel:=eBd_len b
  refine dw_block ?_
  refine dw_loop (ι:={ q:List Nat×Option Nat×List (Int×Tm) // (q.2.2 ++ q.1.map fun i=>b.getD i (0,Tm.zero)).Perm b }) (fun q=>[(.t 9,.o 4),(.t 3,.sl 5 (ePairs q.1.2.2) (some 5)),(.r 5,.rw 79 5 q.1.2.2.length),(.o 4,.it 0 bm es clk q.1.1 q.1.2.1),(.o 0,.mq bm es clk (eBd b))]) 6 (fun q=>q.1.1.length) (⟨(List.range b.length,none,[]),by rw[List.nil_append];exact List.Perm.of_eq (List.ext_getElem (by simp) fun i h1 h2=>by simp[List.getD_eq_getElem?_getD,h2])⟩) ((VS.trans (VS.rowT (x:=3) (by rw[hnt];decide) 79 5 rfl) (by rw[hel];exact VS.toA))) fun q=>?_
  obtain⟨⟨rem,last,acc⟩,hq⟩:=q
  dsimp only at hq ⊢
  have hal:acc.length≤b.length:=by have:=hq.length_eq;rw[List.length_append] at this;omega
  by_cases hrem:rem=[]
  ·subst hrem
   rw[List.map_nil,List.append_nil] at hq
   have hss:=ss_perm hq hb.keys
   have hOf:=sOf_d acc (by omega) fun p hp=>⟨hb.full p (hq.mem_iff.1 hp),hb.fit p (hq.mem_iff.1 hp)⟩
   rw[hss,hrt,if_pos rfl,if_pos rfl] at hOf
   refine dw_seq ?_
   refine dw_q [] TPM_ok (by kernel_rfl) hnt (by kernel_rfl) (by simp;rfl) fun K hK=>?_
   refine And.intro ⟨rfl,rfl⟩ (Or.inl ⟨rfl,?_⟩);refine hK _ ?_;clear hK K;refine dw_seq ?_;refine dw_cond (t:=false) rfl ?_;rw[if_neg (by simp)];refine dw_exit ?_;refine dw_seq ?_;refine dwk [(22,.sl 5 (ePairs acc) none)] TPM_ok hnt fun K hK=>?_;refine And.intro (VLe.untag _ _ _) ?_;refine dcl (hOf) ?_;refine hK _ _ ?_;clear hK K;refine dw_seq ?_;refine dwk [] TPM_ok hnt fun K hK=>?_
   refine hK _ _ ?_;clear hK K;refine dw_ret ?_
   exact reta rfl
  ·skip
   refine dw_seq ?_
   refine dw_q [] TPM_ok (by kernel_rfl) hnt (by kernel_rfl) (by simp;rfl) fun K hK=>?_
   refine And.intro ⟨rfl,rfl⟩ (Or.inr ⟨hrem,fun ix hix hil=>?_⟩);refine hK _ ?_;clear hK K;refine dw_seq ?_;refine dw_cond (t:=true) rfl ?_;rw[if_pos rfl]
   have hib:ix < b.length:=by rw[←hel];exact hil
   have hgd:(b.getD ix (0,Tm.zero))=b[ix]:=by rw[List.getD_eq_getElem?_getD,List.getElem?_eq_getElem hib];rfl
   have hep:=eBd_get b ix hil
   obtain⟨p,hp⟩:∃ p,b[ix]=p:=⟨_,rfl⟩
   rw[hp] at hgd hep
   have hsn:=ePairs_snoc' acc p
   have hpm:((acc ++ [p]) ++ (rem.erase ix).map fun i=>b.getD i (0,Tm.zero)).Perm b:=by
    refine List.Perm.trans ?_ hq
    rw[List.append_assoc]
    refine List.Perm.append_left _ ?_
    have:=(List.perm_cons_erase hix).map fun i=>b.getD i (0,Tm.zero)
    rw[List.map_cons,hgd] at this
    exact this.symm
   refine dw_skip ?_;refine dw_block ?_;refine dw_seq ?_
   refine dw_q [(12,.tu [.v (.int .i64 p.1),.ag [.sl 2 (eTys p.2.binds) none,.v (.int .i64 p.2.kind),.v (.int .i64 p.2.index),.sl 4 (eTms p.2.args) none]])] TPM_ok (by kernel_rfl) hnt (by kernel_rfl) (by simp;rfl) fun K hK=>?_
   refine And.intro ⟨rfl,rfl⟩ ⟨hil,?_⟩;refine And.intro (VLe.of_eq (by rw[hep,←eTm_eq])) ?_;refine hK _ ?_;clear hK K;refine dwk [(20,.sl 5 (ePairs (acc ++ [p])) (some 5))] TPM_ok hnt fun K hK=>?_;refine And.intro (⟨by rw[ePairs_len],by rw[ePairs_len];simp;omega⟩) ?_;refine And.intro (VLe.of_eq (by rw[←hsn])) ?_;refine hK _ _ ?_;clear hK K
   have hpl:(ePairs acc).length=acc.length:=ePairs_len acc
   refine⟨⟨(rem.erase ix,some ix,acc ++ [p]),hpm⟩,by dsimp only;rw[List.length_erase_of_mem hix];have:=List.length_pos_of_mem hix;omega,(by try simp only[List.length_append,List.length_take,List.length_cons,List.length_nil,Nat.zero_add,hpl];exact VS.toA)⟩

namespace Pn
theorem bput_len (b:Bd)(m:Int)(t:Tm):(bput b m t).2.length≤b.length + 1:=by unfold bput;split <;> simp
theorem flex_len (b:Bd)(p t:Tm)(ar:List Ty):(flex b p t ar).2.length≤b.length + 1:=by
 unfold flex
 split
 ·exact Nat.le_succ _
 ·split
  ·exact bput_len _ _ _
  ·exact Nat.le_succ _
theorem walk_len (p:Tm):∀ (t:Tm) (ar:List Ty) (b:Bd),(walk p t ar b).2.length≤b.length + p.full:=by
 induction p using Tm.ind with
 | h bs k i a ih=>
  intro t ar b
  rw[Tm.full_eq,walk]
  split
  ·exact Nat.le_add_right _ _
  ·split
   ·have:=flex_len b (.mk bs k i a) t (ar ++ bs);omega
   ·split
    ·exact Nat.le_add_right _ _
    ·have key:∀ (m ts:List Tm) (b:Bd),(∀ x∈m,x∈a)→(walks m ts (ar ++ bs) b).2.length≤b.length + Tm.fulls m:=by
      intro m
      induction m with
      | nil=>intro ts b _;rw[walks];exact Nat.le_add_right _ _
      | cons x m ihm=>
       intro ts b hm
       have h1:=ih x (hm x (by simp)) (ts.headD Tm.zero) (ar ++ bs) b
       rw[walks,Tm.fulls]
       split
       ·have h2:=ihm ts.tail (walk x (ts.headD Tm.zero) (ar ++ bs) b).2 fun y hy=>hm y (by simp[hy])
        omega
       ·omega
     have:=key a t.args b fun _ h=>h
     omega
theorem mayAll_app (l:List (Tm×Tm))(r:List (Tm×Tm))(h:mayAll l=0):mayAll (l ++ r)=mayAll r:=by
 induction l with
 | nil=>rfl
 | cons p l ih=>
  rw[mayAll] at h
  split at h
  ·rename_i h0
   rw[List.cons_append,mayAll,if_pos h0,ih h]
  ·rename_i h0;exact absurd h h0
theorem mayAll_at (l:List (Tm×Tm))(j:Nat)(hj:j < l.length)(h:mayAll (l.take j)=0):(may l[j].1=0→mayAll (l.take (j + 1))=0)∧(may l[j].1≠0→mayAll l=may l[j].1):=by
 constructor
 ·intro h0
  rw[List.take_add_one,List.getElem?_eq_getElem hj,mayAll_app _ _ h,Option.toList_some,mayAll,if_pos h0,mayAll]
 ·intro h0
  have e:l=l.take j ++ l[j] :: l.drop (j + 1):=by rw[←List.drop_eq_getElem_cons hj,List.take_append_drop]
  have:mayAll (l.take j ++ l[j] :: l.drop (j + 1))=may l[j].1:=by rw[mayAll_app _ _ h,mayAll,if_neg h0]
  rw[←e] at this;exact this
theorem walkL_app (l r:List (Tm×Tm)):∀ b,walkL (l ++ r) b=(walkL l b).bind (walkL r):=by
 induction l with
 | nil=>intro b;rfl
 | cons p l ih=>
  intro b
  rw[List.cons_append,walkL,walkL]
  split
  ·exact ih _
  ·rfl
theorem walkL_at (l:List (Tm×Tm))(j:Nat)(hj:j < l.length){b:Bd}(h:walkL (l.take j) []=some b):((walk l[j].1 l[j].2 [] b).1=true→walkL (l.take (j + 1)) []=some (walk l[j].1 l[j].2 [] b).2)∧((walk l[j].1 l[j].2 [] b).1=false→walkL l []=none):=by
 constructor
 ·intro h0
  rw[List.take_add_one,List.getElem?_eq_getElem hj,walkL_app,h,Option.toList_some]
  show walkL [l[j]] b=_
  rw[walkL,if_pos h0,walkL]
 ·intro h0
  have e:l=l.take j ++ l[j] :: l.drop (j + 1):=by rw[←List.drop_eq_getElem_cons hj,List.take_append_drop]
  have:walkL (l.take j ++ l[j] :: l.drop (j + 1)) []=none:=by
   rw[walkL_app,h]
   show walkL (l[j] :: _) b=none
   rw[walkL,if_neg (by simp[h0])]
  rw[←e] at this;exact this
end Pn
theorem eBd_renm (ρ:Nat→Nat)(b:Pn.Bd):D.renm ρ (eBd b)=eBd b:=D.renm_id (f:=fun _=>false) (g:=fun _=>false) (fun _ h=>by cases h) _ (eBd_ok _ _ b)
theorem mwalk_at (k:Nat)(p t:Tm)(b:Pn.Bd)(hz:p.full≤250)(hp:p.Fit)(ht:t.full≤10000)(hlow:lowB t=true)(hft:t.Fit):
  CallC Tryz.prog 111 [.ag [.mo k],.ag (eTm p),.ag (eTm t),.v (.slice none 0 0)] [(.o k,.mp (eBd b))] [(.o k,.mp (eBd (Pn.walk p t [] b).2))] (.v (.bool (Pn.walk p t [] b).1)):=by
 have h:=(mwalk_d p t [] b (by simp[Ty.sizes];omega) hp ht hlow hft).ren (fun _=>k) (by simp[renOk,D.ok,D.oks,rnames,inN,ckey,eTm_ok,eTms_ok,eTys_ok,eBd_ok]) (by intro a h1 b h2;simp[rnames] at h1 h2;omega)
 simp only[List.map_cons,List.map_nil,D.ren,D.rens,renE,Key.ren,eTm_ren,eTys_ren,eBd_renm] at h
 exact CallC.vle h (.cons (VLe.refl _) (.cons (VLe.refl _) (.cons (VLe.refl _) (.cons (VLe.nil _) .nil)))) (VLe.refl _)
theorem msubst_at (k:Nat)(b:Pn.Bd)(hb:Pn.BdOk b)(hl:b.length≤100000):CallC Tryz.prog 112 [.mo k] [(.o k,.mp (eBd b))] [] (.sl 5 (ePairs (So.ss b)) none):=by
 have h:=(msubst_d b hb hl).ren (fun _=>k) (by simp[renOk,D.ok,D.oks,rnames,inN,ckey,ePairs_ok,eBd_ok]) (by intro a h1 b h2;simp[rnames] at h1 h2;omega)
 simpa only[List.map_cons,List.map_nil,D.ren,D.rens,renE,Key.ren,ePairs_ren,eBd_renm] using h
def PPok (p:Tm×Tm):Prop:=p.1.full≤250∧p.1.Fit∧p.2.full≤10000∧lowB p.2=true∧p.2.Fit
set_option maxHeartbeats 2000000 in
theorem mAll_d (l:List (Tm×Tm))(hl:l.length≤100)(hp:∀ p∈l,PPok p):PureC Tryz.prog 63 [.sl 8 (ePPs l) none] (.tu [.sl 5 (ePairs (Pn.mAll l).1) none,.v (.int .i64 (Pn.mAll l).2)]):=by
 refine calldw 0 42 [ResultVar.tmp 2,ResultVar.tmp 3] TPM_ok Tryz.func63 rfl Tryz.ntmps63 rfl fun cx hnt hn0=>?_
 ·skip
  refine dw_seq ?_;refine dwk [] TPM_ok hnt fun K hK=>hK _ _ ?_;clear hK K;refine dw_seq ?_;refine dw_seq ?_;refine dwk [(11,.v (.int .i64 (↑l.length)))] TPM_ok hnt fun K hK=>?_;refine And.intro (dintE (by rw[ePPs_len])) ?_;refine hK _ _ ?_;clear hK K;refine dw_block ?_
  refine dw_loop (ι:={ j:Nat // Pn.mayAll (l.take j)=0 }) (fun j=>[(.t 0,.sl 8 (ePPs l) none),(.t 10,.sl 8 (ePPs l) none),(.t 11,.v (.int .i64 ↑l.length)),(.t 12,.v (.int .i64 ↑j.1))]) 0 (fun j=>l.length - j.1) (⟨0,rfl⟩) (VS.toA) fun j=>?_
  obtain⟨j,hj⟩:=j
  dsimp only
  by_cases hlt:j < l.length
  ·have hst:=Pn.mayAll_at l j hlt hj
   have hok:=hp _ (List.getElem_mem hlt)
   have hm:=mmay_d l[j].1 (by have:=hok.1;omega) hok.2.1
   rw[eTm_eq] at hm
   by_cases h0:Pn.may l[j].1=0
   ·rw[h0] at hm
    refine dw_seq ?_;refine dwk [(13,.v (.bool true))] TPM_ok hnt fun K hK=>?_;refine And.intro auT ?_;refine hK _ _ ?_;clear hK K;refine dw_seq ?_;refine dw_cond (t:=true) rfl ?_;rw[if_pos rfl];refine dw_skip ?_;refine dw_seq ?_;refine dw_block ?_;refine dw_seq ?_;refine dwk [(14,.q [.sl 2 (eTys l[j].1.binds) none,.v (.int .i64 l[j].1.kind),.v (.int .i64 l[j].1.index),.sl 4 (eTms l[j].1.args) none,.sl 2 (eTys l[j].2.binds) none,.v (.int .i64 l[j].2.kind),.v (.int .i64 l[j].2.index),.sl 4 (eTms l[j].2.args) none])] TPM_ok hnt fun K hK=>?_
    refine And.intro (elo (ePPs_len l)) ?_;refine And.intro (elv (ePPs_getD l j) (ePP_eq _)) ?_;refine hK _ _ ?_;clear hK K;refine dw_seq ?_;refine dwk [] TPM_ok hnt fun K hK=>?_;refine dcl (hm) ?_;refine hK _ _ ?_;clear hK K;refine dw_seq ?_;refine dwk [(20,.v (.bool false))] TPM_ok hnt fun K hK=>?_;refine And.intro auF ?_;refine hK _ _ ?_;clear hK K;refine dw_cond (t:=false) rfl ?_
    rw[if_neg (by simp)];refine dw_skip ?_;refine dwk [(22,.v (.int .i64 (↑(j + 1))))] TPM_ok hnt fun K hK=>?_;refine And.intro auI ?_;refine hK _ _ ?_;clear hK K
    refine⟨⟨j + 1,hst.1 h0⟩,by first | omega | (dsimp only;omega),VS.toA⟩
   ·have hv:Pn.mAll l=([],Pn.may l[j].1):=by unfold Pn.mAll;rw[hst.2 h0,if_neg h0]
    rw[hv]
    refine dw_seq ?_;refine dwk [(13,.v (.bool true))] TPM_ok hnt fun K hK=>?_;refine And.intro auT ?_;refine hK _ _ ?_;clear hK K;refine dw_seq ?_;refine dw_cond (t:=true) rfl ?_;rw[if_pos rfl];refine dw_skip ?_;refine dw_seq ?_;refine dw_block ?_;refine dw_seq ?_;refine dwk [(14,.q [.sl 2 (eTys l[j].1.binds) none,.v (.int .i64 l[j].1.kind),.v (.int .i64 l[j].1.index),.sl 4 (eTms l[j].1.args) none,.sl 2 (eTys l[j].2.binds) none,.v (.int .i64 l[j].2.kind),.v (.int .i64 l[j].2.index),.sl 4 (eTms l[j].2.args) none])] TPM_ok hnt fun K hK=>?_
    refine And.intro (elo (ePPs_len l)) ?_;refine And.intro (elv (ePPs_getD l j) (ePP_eq _)) ?_;refine hK _ _ ?_;clear hK K;refine dw_seq ?_;refine dwk [] TPM_ok hnt fun K hK=>?_;refine dcl (hm) ?_;refine hK _ _ ?_;clear hK K;refine dw_seq ?_;refine dwk [(20,.v (.bool true))] TPM_ok hnt fun K hK=>?_;refine And.intro (bneT h0) ?_;refine hK _ _ ?_;clear hK K;refine dw_cond (t:=true) rfl ?_
    rw[if_pos rfl];refine dw_seq ?_;refine dwk [] TPM_ok hnt fun K hK=>hK _ _ ?_;clear hK K;refine dw_ret ?_
    exact reta rfl
  ·rw[List.take_of_length_le (by omega)] at hj
   refine dw_seq ?_;refine dwk [(13,.v (.bool false))] TPM_ok hnt fun K hK=>?_;refine And.intro auF ?_;refine hK _ _ ?_;clear hK K;refine dw_seq ?_;refine dw_cond (t:=false) rfl ?_;rw[if_neg (by simp)];refine dw_exit ?_;refine dw_seq ?_;refine dwk [] TPM_ok hnt fun K hK=>hK _ _ ?_;clear hK K;refine dw_seq ?_;refine dw_seq ?_;refine dwk [(26,.v (.int .i64 (↑l.length)))] TPM_ok hnt fun K hK=>?_
   refine And.intro (dintE (by rw[ePPs_len])) ?_;refine hK _ _ ?_;clear hK K;refine dw_block ?_
   refine dw_loop (ι:={ q:Nat×Pn.Bd // Pn.walkL (l.take q.1) []=some q.2∧Pn.BdOk q.2∧q.2.length≤250 * q.1∧q.1≤l.length }) (fun q=>[(.t 7,.p 3 0),(.c 3 0,.mo 1),(.o 1,.mp (eBd q.1.2)),(.t 25,.sl 8 (ePPs l) none),(.t 26,.v (.int .i64 ↑l.length)),(.t 27,.v (.int .i64 ↑q.1.1))]) 4 (fun q=>l.length - q.1.1) (⟨(0,[]),by rw[List.take_zero];exact⟨rfl,Pn.bdOk_nil,Nat.zero_le _,Nat.zero_le _⟩⟩) ((VS.toK (by omega) (by repeat first | exact trivial | refine And.intro (And.intro (by first | rfl | simp[D.ok,D.oks,D.okss,D.okm,upto,keyOk,eBd]) (by first | exact Or.inl rfl | exact Or.inr ⟨_,rfl,(by repeat first | exact VLe.refl _ | exact VLe.nil _ | exact VLe.untag _ _ _ | refine VLe.ag ?_ | refine VLe.tu ?_ | refine VLeL.cons ?_ ?_ | exact VLeL.nil),trivial⟩ | simp[get,Key.eq,eBd])) ?_))) fun q=>?_
   obtain⟨⟨k,b⟩,hw,hb,hbl,hkl⟩:=q
   dsimp only at hw hb hbl hkl ⊢
   by_cases hlt:k < l.length
   ·obtain⟨ok1,ok2,ok3,ok4,ok5⟩:=hp _ (List.getElem_mem hlt)
    have hst:=Pn.walkL_at l k hlt hw
    have hbd:=Pn.walk_bd l[k].1 l[k].2 [] b hb (by simp[Ty.sizes];omega) ok3 ok4 ok5
    have hbl2:=Pn.walk_len l[k].1 l[k].2 [] b
    have hcw:=mwalk_at 1 l[k].1 l[k].2 b ok1 ok2 ok3 ok4 ok5
    obtain⟨⟨wb,wl⟩,hwk⟩:∃ r,Pn.walk l[k].1 l[k].2 [] b=r:=⟨_,rfl⟩
    rw[hwk] at hst hbd hbl2 hcw
    rw[eTm_eq,eTm_eq] at hcw
    dsimp only at hst hbd hbl2 hcw
    cases wb with
    | true=>
     refine dw_seq ?_;refine dwk [(28,.v (.bool true))] TPM_ok hnt fun K hK=>?_;refine And.intro auT ?_;refine hK _ _ ?_;clear hK K;refine dw_seq ?_;refine dw_cond (t:=true) rfl ?_;rw[if_pos rfl];refine dw_skip ?_;refine dw_seq ?_;refine dw_block ?_;refine dw_seq ?_;refine dwk [(29,.q [.sl 2 (eTys l[k].1.binds) none,.v (.int .i64 l[k].1.kind),.v (.int .i64 l[k].1.index),.sl 4 (eTms l[k].1.args) none,.sl 2 (eTys l[k].2.binds) none,.v (.int .i64 l[k].2.kind),.v (.int .i64 l[k].2.index),.sl 4 (eTms l[k].2.args) none])] TPM_ok hnt fun K hK=>?_
     refine And.intro (elo (ePPs_len l)) ?_;refine And.intro (elv (ePPs_getD l k) (ePP_eq _)) ?_;refine hK _ _ ?_;clear hK K;refine dw_seq ?_;refine dwk [] TPM_ok hnt fun K hK=>?_;refine dcl (hcw) ?_;refine hK _ _ ?_;clear hK K;refine dw_cond (t:=false) rfl ?_;rw[if_neg (by simp)];refine dw_skip ?_;refine dwk [(38,.v (.int .i64 (↑(k + 1))))] TPM_ok hnt fun K hK=>?_;refine And.intro auI ?_
     refine hK _ _ ?_;clear hK K
     refine⟨⟨(k + 1,wl),hst.1 rfl,hbd,by dsimp only;omega,hlt⟩,by first | omega | (dsimp only;omega),VS.toA⟩
    | false=>
     have hv:Pn.mAll l=([],9):=by unfold Pn.mAll;rw[if_pos hj,hst.2 rfl]
     rw[hv]
     refine dw_seq ?_;refine dwk [(28,.v (.bool true))] TPM_ok hnt fun K hK=>?_;refine And.intro auT ?_;refine hK _ _ ?_;clear hK K;refine dw_seq ?_;refine dw_cond (t:=true) rfl ?_;rw[if_pos rfl];refine dw_skip ?_;refine dw_seq ?_;refine dw_block ?_;refine dw_seq ?_;refine dwk [(29,.q [.sl 2 (eTys l[k].1.binds) none,.v (.int .i64 l[k].1.kind),.v (.int .i64 l[k].1.index),.sl 4 (eTms l[k].1.args) none,.sl 2 (eTys l[k].2.binds) none,.v (.int .i64 l[k].2.kind),.v (.int .i64 l[k].2.index),.sl 4 (eTms l[k].2.args) none])] TPM_ok hnt fun K hK=>?_
     refine And.intro (elo (ePPs_len l)) ?_;refine And.intro (elv (ePPs_getD l k) (ePP_eq _)) ?_;refine hK _ _ ?_;clear hK K;refine dw_seq ?_;refine dwk [] TPM_ok hnt fun K hK=>?_;refine dcl (hcw) ?_;refine hK _ _ ?_;clear hK K;refine dw_cond (t:=true) rfl ?_;rw[if_pos rfl];refine dw_seq ?_;refine dwk [] TPM_ok hnt fun K hK=>hK _ _ ?_;clear hK K;refine dw_ret ?_
     exact reta rfl
   ·rw[List.take_of_length_le (by omega)] at hw
    have hv:Pn.mAll l=(So.ss b,0):=by unfold Pn.mAll;rw[if_pos hj,hw]
    have hsb:=msubst_at 1 b hb (by omega)
    rw[hv]
    refine dw_seq ?_;refine dwk [(28,.v (.bool false))] TPM_ok hnt fun K hK=>?_;refine And.intro auF ?_;refine hK _ _ ?_;clear hK K;refine dw_seq ?_;refine dw_cond (t:=false) rfl ?_;rw[if_neg (by simp)];refine dw_exit ?_;refine dw_seq ?_;refine dwk [] TPM_ok hnt fun K hK=>?_;refine dcl (hsb) ?_;refine hK _ _ ?_;clear hK K;refine dw_ret ?_
    exact reta rfl
namespace Pn
variable {C M:List Ty}
theorem find_ss (b:Bd)(m:Int):Sb.find (So.ss b) m=bfind b m:=by
 unfold Sb.find bfind
 rw[←List.head?_filter,←List.head?_filter,So.ss_same b m]
theorem mAll_one {p t:Tm}{s:Bd}(h:mAll [(p,t)]=(s,0)):∃ b,walk p t [] []=(true,b)∧s=So.ss b∧may p=0:=by
 unfold mAll at h
 by_cases hm:mayAll [(p,t)]=0
 ·rw[if_pos hm] at h
  have hmp:may p=0:=by
   rw[mayAll] at hm
   by_cases h0:may p=0
   ·exact h0
   ·rw[if_neg h0] at hm;exact hm
  rw[walkL] at h
  cases hw:walk p t [] [] with
  | mk ok b=>
   rw[hw] at h
   cases ok with
   | false=>rw[if_neg (by simp)] at h;cases (Prod.mk.inj h).2
   | true=>
    rw[if_pos rfl,walkL] at h
    exact⟨b,rfl,(Prod.mk.inj h).1.symm,hmp⟩
 ·rw[if_neg hm] at h
  exact absurd (Prod.mk.inj h).2 hm
theorem mAll_sound {X0:List Ty}(h20:X0.length≤1000){p t:Tm}{u:Ty}{s:Bd}(hm:mAll [(p,t)]=(s,0))(hp:IsOf C M p [] u)(ht:IsOf C M t X0 u)(hpz:p.full≤80)(htz:t.full≤80)(hpf:p.Fit)(htf:t.Fit)(hlow:lowB t=true):
  (∀ q∈s,BT C M X0 q)∧Sb.right s=true∧∀ (left:Int) (dry:Bool),0≤left∧left≤1000000000→(Sb.apply s p left dry).2.e≠1∧((Sb.apply s p left dry).2.e=0→(Sb.apply s p left dry).1=t):=by
 obtain⟨b,hw,rfl,_⟩:=mAll_one hm
 have hp0:IsOf C M p (X0 ++ []) u:=isOf_under X0 p [] u hp
 have ht0:IsOf C M t (X0 ++ []) u:=by rw[List.append_nil];exact ht
 have hbd:BdOk b:=by
  have:=walk_bd p t [] [] bdOk_nil (by simp[Ty.sizes];omega) (by omega) hlow htf
  rw[hw] at this;exact this
 have hbt:∀ q∈b,BT C M X0 q:=by
  have:=walk_typed (C:=C) (M:=M) X0 p t [] [] u (by simp) hp0 ht0 (by simp;omega) hpz htz hlow htf
  rw[hw] at this;exact this
 have hr:=right_ss hbd.keys
 have hst:∀ q∈So.ss b,BT C M X0 q:=fun q hq=>hbt q ((So.ss_same b).mem hq)
 refine⟨hst,hr,fun left dry h0=>?_⟩
 have hk:=Sb.apply_keeps (C:=C) (M:=M) (B:=160) (by decide) (So.ss b) X0 hr (fun q hq=>⟨by obtain⟨h,e1,e2⟩:=(hst q hq).1;exact⟨h,by rw[headTy_ctx (X':=[]) (by decide)];exact e1,e2⟩,Bnd.of_full _ (hst q hq).2.1 (hst q hq).2.2,by have:=(hst q hq).2.1;omega⟩) p u (by rw[List.append_nil] at hp0;exact hp0) (Bnd.of_full _ (by omega) hpf) (by omega) left dry h0
 refine⟨hk.1,fun he=>?_⟩
 have hs:=walk_sound (C:=C) (M:=M) (B:=160) (by decide) X0 (by omega) (So.ss b) p t [] [] b u ⟨left,dry,0,0⟩ hw (fun m v h=>by rw[find_ss];exact h) hp0 ht0 (Bnd.nar _ (Bnd.of_full _ (by omega) hpf)) (Bnd.nar _ (Bnd.of_full _ (by omega) htf)) (by simp;omega) (by omega) h0
 simp only[List.length_nil] at hs
 have e0:(((0:Nat):Int))=0:=rfl
 rw[e0] at hs
 unfold Sb.apply at he ⊢
 rw[if_neg (by rw[hr];simp)] at he ⊢
 dsimp only at he ⊢
 generalize Sb.through (So.ss b) p 0 ⟨left,dry,0,0⟩=r at he hs ⊢
 by_cases hc:r.2.e=0∧¬ (r.1.size≤5000∧r.1.depth≤60)
 ·rw[if_pos hc] at he
  have he':(if (2:Int)≠0 then _ else _:Tm×Nm.St).2.e=0:=he
  rw[if_pos (by decide)] at he';cases he'
 ·rw[if_neg hc] at he ⊢
  by_cases hr2:r.2.e=0
  ·rw[if_neg (fun h=>h hr2)]
   exact(hs hr2).2
  ·rw[if_pos hr2] at he;exact absurd he hr2
end Pn
def TKM_41:TI:=⟨4,true,[Value.slice none 0 0,Value.int IntKind.i64 0,Value.int IntKind.i64 0,Value.slice none 0 0],[(0,1,false),(1,2,true),(3,1,false)],none,64,6,none,false⟩
theorem TKM_41_ok:TypOk Tryz.prog 41 TKM_41:=by constructor <;> kernel_rfl
def TKM_39:TI:=⟨1,false,[Value.slice none 0 0],[],some 41,24,5,none,false⟩
theorem TKM_39_ok:TypOk Tryz.prog 39 TKM_39:=by constructor <;> kernel_rfl
def TKM_3:TI:=⟨1,false,[Value.int IntKind.i64 0],[],none,8,2,none,false⟩
theorem TKM_3_ok:TypOk Tryz.prog 3 TKM_3:=by constructor <;> kernel_rfl
def TKM_33:TI:=⟨1,false,[Value.slice none 0 0],[],some 44,24,5,none,false⟩
theorem TKM_33_ok:TypOk Tryz.prog 33 TKM_33:=by constructor <;> kernel_rfl
def TKM_44:TI:=⟨2,true,[Value.slice none 0 0,Value.int IntKind.i64 0],[(0,1,false),(1,1,false)],none,32,6,none,false⟩
theorem TKM_44_ok:TypOk Tryz.prog 44 TKM_44:=by constructor <;> kernel_rfl
def TKM_38:TI:=⟨2,true,[Value.int IntKind.i64 0,Value.int IntKind.i64 0],[(0,1,false),(1,1,false)],none,16,6,none,true⟩
theorem TKM_38_ok:TypOk Tryz.prog 38 TKM_38:=by constructor <;> kernel_rfl
def TKM_51:TI:=⟨1,false,[Value.slice none 0 0],[],some 79,24,5,none,false⟩
theorem TKM_51_ok:TypOk Tryz.prog 51 TKM_51:=by constructor <;> kernel_rfl
def TKM_45:TI:=⟨1,false,[Value.int IntKind.i64 0],[],none,8,2,none,false⟩
theorem TKM_45_ok:TypOk Tryz.prog 45 TKM_45:=by constructor <;> kernel_rfl
def TKM_197:TI:=⟨1,false,[Value.slice none 0 0],[],some 119,24,5,none,false⟩
theorem TKM_197_ok:TypOk Tryz.prog 197 TKM_197:=by constructor <;> kernel_rfl
def TKM_79:TI:=⟨5,true,[Value.int IntKind.i64 0,Value.slice none 0 0,Value.int IntKind.i64 0,Value.int IntKind.i64 0,Value.slice none 0 0],[(0,1,false),(1,4,true)],none,72,6,none,false⟩
theorem TKM_79_ok:TypOk Tryz.prog 79 TKM_79:=by constructor <;> kernel_rfl
def TKM_119:TI:=⟨8,true,[Value.slice none 0 0,Value.int IntKind.i64 0,Value.int IntKind.i64 0,Value.slice none 0 0,Value.slice none 0 0,Value.int IntKind.i64 0,Value.int IntKind.i64 0,Value.slice none 0 0],[(0,4,true),(4,4,true)],none,128,6,none,false⟩
theorem TKM_119_ok:TypOk Tryz.prog 119 TKM_119:=by constructor <;> kernel_rfl
def TKM:List (Nat×TI):=[(41,TKM_41),(39,TKM_39),(3,TKM_3),(33,TKM_33),(44,TKM_44),(38,TKM_38),(51,TKM_51),(45,TKM_45),(197,TKM_197),(79,TKM_79),(119,TKM_119)]
theorem TKM_ok:TabOk Tryz.prog TKM:=((((((((((((TabOk.nil _).cons TKM_119_ok).cons TKM_79_ok).cons TKM_197_ok).cons TKM_45_ok).cons TKM_51_ok).cons TKM_38_ok).cons TKM_44_ok).cons TKM_33_ok).cons TKM_3_ok).cons TKM_39_ok).cons TKM_41_ok)

theorem mMatch_d (p t:Tm)(h:PPok (p,t)):PureC Tryz.prog 17 [.ag (eTm p),.ag (eTm t)] (.tu [.sl 5 (ePairs (Pn.mAll [(p,t)]).1) none,.v (.int .i64 (Pn.mAll [(p,t)]).2)]):=by
 have hA:=mAll_d [(p,t)] (by simp) (fun q hq=>by rw[List.mem_singleton] at hq;subst hq;exact h)
 have h1:=ePPs_one (p,t)
 dsimp only at h1
 rw[eTm_eq,eTm_eq]
 refine calldw 0 13 [ResultVar.tmp 4,ResultVar.tmp 5] TKM_ok Tryz.func17 rfl Tryz.ntmps17 rfl fun cx hnt hn0=>?_
 ·skip
  refine dw_seq ?_;refine dwk [] TKM_ok hnt fun K hK=>hK _ _ ?_;clear hK K;refine dw_seq ?_;refine dwk [(9,.sl 8 (ePPs [(p,t)]) none)] TKM_ok hnt fun K hK=>?_;refine And.intro ((by rw[h1];exact VLe.untag _ _ _)) ?_;refine dcl (hA) ?_;refine hK _ _ ?_;clear hK K;refine dw_ret ?_
  exact reta rfl
/-! the examples -/
def mb (i:Int):Tm:=.mk [] 0 i []
def mc (i:Int)(l:List Tm):Tm:=.mk [] 1 i l
def mm (l:List Tm):Tm:=.mk [] 2 0 l
theorem mk1_d (i:Int):PureC Tryz.prog 50 [.v (.int .i64 i)] (.ag (eTm (mb i))):=by
 unfold mb
 rw[eTm_eq]
 refine calldw 0 6 [ResultVar.cell 2 41] TKM_ok Tryz.func50 rfl Tryz.ntmps50 rfl fun cx hnt hn0=>?_
 ·skip
  refine dw_seq ?_;refine dwk [] TKM_ok hnt fun K hK=>hK _ _ ?_;clear hK K;refine dw_seq ?_;refine dwk [] TKM_ok hnt fun K hK=>hK _ _ ?_;clear hK K;refine dw_ret ?_
  exact reta rfl
theorem mk2_d (i:Int)(l:List Tm):PureC Tryz.prog 51 [.v (.int .i64 i),.sl 4 (eTms l) none] (.ag (eTm (mc i l))):=by
 unfold mc
 rw[eTm_eq]
 refine calldw 0 9 [ResultVar.cell 4 41] TKM_ok Tryz.func51 rfl Tryz.ntmps51 rfl fun cx hnt hn0=>?_
 ·skip
  refine dw_seq ?_;refine dwk [] TKM_ok hnt fun K hK=>hK _ _ ?_;clear hK K;refine dw_seq ?_;refine dwk [] TKM_ok hnt fun K hK=>hK _ _ ?_;clear hK K;refine dw_ret ?_
  exact reta rfl
theorem mk3_d (l:List Tm):PureC Tryz.prog 52 [.sl 4 (eTms l) none] (.ag (eTm (mm l))):=by
 unfold mm
 rw[eTm_eq]
 refine calldw 0 6 [ResultVar.cell 2 41] TKM_ok Tryz.func52 rfl Tryz.ntmps52 rfl fun cx hnt hn0=>?_
 ·skip
  refine dw_seq ?_;refine dwk [] TKM_ok hnt fun K hK=>hK _ _ ?_;clear hK K;refine dw_seq ?_;refine dwk [] TKM_ok hnt fun K hK=>hK _ _ ?_;clear hK K;refine dw_ret ?_
  exact reta rfl
theorem mk2_nil (i:Int):PureC Tryz.prog 51 [.v (.int .i64 i),.v (.slice none 0 0)] (.ag (eTm (mc i []))):=CallC.vle (mk2_d i []) (.cons (VLe.refl _) (.cons (VLe.nil _) .nil)) (VLe.refl _)
theorem mk3_nil:PureC Tryz.prog 52 [.v (.slice none 0 0)] (.ag (eTm (mm []))):=CallC.vle (mk3_d []) (.cons (VLe.nil _) .nil) (VLe.refl _)
def mA:Ty:=.mk [] 0
def mP:Tm:=.mk [mA] 1 0 [mm [mb 0],mb 0]
def mT:Tm:=.mk [mA] 1 0 [mc 1 [mb 0,mb 0],mb 0]
theorem mK1:Pn.mAll [(mP,mT)]=([(0,.mk [mA] 1 1 [mb 0,mb 0])],0):=by kernel_rfl
theorem mK2:Pn.mAll [(mm [mc 2 []],mc 1 [mc 2 []])]=([],6):=by kernel_rfl
theorem mK3:Pn.mAll [(mc 0 [mm [],mm []],mc 0 [mc 1 [],mc 2 []])]=([],9):=by kernel_rfl
theorem fit_mk {b:List Ty}{k i:Int}{a:List Tm}(h1:-1000≤i)(h2:i≤1000)(h:∀ t∈a,t.Fit):(Tm.mk b k i a).Fit:=Tm.fit_iff.2 ⟨by omega,by omega,h⟩
theorem fit0 (k i:Int)(h1:-1000≤i)(h2:i≤1000)(b:List Ty):(Tm.mk b k i []).Fit:=fit_mk h1 h2 nofun
theorem fit1 {k i:Int}{b:List Ty}{t:Tm}(h1:-1000≤i)(h2:i≤1000)(h:t.Fit):(Tm.mk b k i [t]).Fit:=fit_mk h1 h2 fun u hu=>by rw[List.mem_singleton] at hu;subst hu;exact h
theorem fit2 {k i:Int}{b:List Ty}{t u:Tm}(h1:-1000≤i)(h2:i≤1000)(h:t.Fit)(h':u.Fit):(Tm.mk b k i [t,u]).Fit:=fit_mk h1 h2 fun x hx=>by
 rcases List.mem_cons.1 hx with rfl | hx
 ·exact h
 ·rw[List.mem_singleton] at hx;subst hx;exact h'
theorem mF1:PPok (mP,mT):=⟨by decide,fit2 (by decide) (by decide) (fit1 (by decide) (by decide) (fit0 _ _ (by decide) (by decide) _)) (fit0 _ _ (by decide) (by decide) _),by decide,by kernel_rfl,fit2 (by decide) (by decide) (fit2 (by decide) (by decide) (fit0 _ _ (by decide) (by decide) _) (fit0 _ _ (by decide) (by decide) _)) (fit0 _ _ (by decide) (by decide) _)⟩
theorem mF2:PPok (mm [mc 2 []],mc 1 [mc 2 []]):=⟨by decide,fit1 (by decide) (by decide) (fit0 _ _ (by decide) (by decide) _),by decide,by kernel_rfl,fit1 (by decide) (by decide) (fit0 _ _ (by decide) (by decide) _)⟩
theorem mF3:PPok (mc 0 [mm [],mm []],mc 0 [mc 1 [],mc 2 []]):=⟨by decide,fit2 (by decide) (by decide) (fit0 _ _ (by decide) (by decide) _) (fit0 _ _ (by decide) (by decide) _),by decide,by kernel_rfl,fit2 (by decide) (by decide) (fit0 _ _ (by decide) (by decide) _) (fit0 _ _ (by decide) (by decide) _)⟩
set_option maxHeartbeats 2000000 in
theorem known12_d:PureC Tryz.prog 10 [] (.v (.bool true)):=by
 have h1:=mMatch_d mP mT mF1
 have h2:=mMatch_d _ _ mF2
 have h3:=mMatch_d _ _ mF3
 rw[mK1] at h1
 rw[mK2] at h2
 rw[mK3] at h3
 have b0:=mk1_d 0
 refine calldw 0 113 [ResultVar.tmp 0] TKM_ok Tryz.func10 rfl Tryz.ntmps10 rfl fun cx hnt hn0=>?_
 ·skip
  refine dw_seq ?_;refine dwk [] TKM_ok hnt fun K hK=>hK _ _ ?_;clear hK K;refine dw_seq ?_;refine dwk [(13,.ag [.sl 2 [] none,.v (.int .i64 0)])] TKM_ok hnt fun K hK=>?_;refine And.intro (auV) ?_;refine hK _ _ ?_;clear hK K;refine dw_seq ?_;refine dwk [] TKM_ok hnt fun K hK=>hK _ _ ?_;clear hK K;refine dw_seq ?_;refine dwk [] TKM_ok hnt fun K hK=>hK _ _ ?_;clear hK K
  refine dw_seq ?_;refine dwk [] TKM_ok hnt fun K hK=>hK _ _ ?_;clear hK K;refine dw_seq ?_;refine dwk [(18,.sl 4 (eTms [mb 0]) none),(22,.sl 4 (eTms [mm [mb 0],mb 0]) none),(30,.sl 4 (eTms [mb 0,mb 0]) none),(34,.sl 4 (eTms [mc 1 [mb 0,mb 0],mb 0]) none)] TKM_ok hnt fun K hK=>?_;refine dcl (b0) ?_;refine And.intro (VLe.untag _ _ _) ?_;refine dcl (mk3_d [mb 0]) ?_;refine dcl (b0) ?_
  refine And.intro (VLe.untag _ _ _) ?_;refine dcl (mk2_d 0 [mm [mb 0],mb 0]) ?_;refine dcl (b0) ?_;refine dcl (b0) ?_;refine And.intro (VLe.untag _ _ _) ?_;refine dcl (mk2_d 1 [mb 0,mb 0]) ?_;refine dcl (b0) ?_;refine And.intro (VLe.untag _ _ _) ?_;refine dcl (mk2_d 0 [mc 1 [mb 0,mb 0],mb 0]) ?_;refine hK _ _ ?_;clear hK K;refine dw_seq ?_;refine dwkD [] TKM_ok hnt fun K hK=>?_;refine hK _ _ (by kernel_rfl) ?_;clear hK K
  refine dw_seq ?_;refine dwk [(43,.ag (eTm mP)),(44,.ag (eTm mT))] TKM_ok hnt fun K hK=>?_;refine And.intro (auV) ?_;refine And.intro (auV) ?_;refine dcl (h1) ?_;refine hK _ _ ?_;clear hK K;refine dw_seq ?_;refine dwk [(52,.sl 4 (eTms [mc 2 []]) none),(57,.sl 4 (eTms [mc 2 []]) none)] TKM_ok hnt fun K hK=>?_;refine dcl (mk2_nil 2) ?_;refine And.intro (VLe.untag _ _ _) ?_;refine dcl (mk3_d [mc 2 []]) ?_
  refine dcl (mk2_nil 2) ?_;refine And.intro (VLe.untag _ _ _) ?_;refine dcl (mk2_d 1 [mc 2 []]) ?_;refine dcl (h2) ?_;refine hK _ _ ?_;clear hK K;refine dw_seq ?_;refine dwk [(68,.sl 4 (eTms [mm [],mm []]) none),(75,.sl 4 (eTms [mc 1 [],mc 2 []]) none)] TKM_ok hnt fun K hK=>?_;refine dcl (mk3_nil) ?_;refine dcl (mk3_nil) ?_;refine And.intro (VLe.untag _ _ _) ?_;refine dcl (mk2_d 0 [mm [],mm []]) ?_
  refine dcl (mk2_nil 1) ?_;refine dcl (mk2_nil 2) ?_;refine And.intro (VLe.untag _ _ _) ?_;refine dcl (mk2_d 0 [mc 1 [],mc 2 []]) ?_;refine dcl (h3) ?_;refine hK _ _ ?_;clear hK K;refine dw_seq ?_;refine dwk [(81,.v (.bool true)),(84,.v (.int .i64 (1))),(85,.v (.bool true)),(93,.v (.int .i64 (1))),(94,.v (.bool true)),(103,.v (.bool true)),(107,.v (.bool true)),(111,.v (.bool true))] TKM_ok hnt fun K hK=>?_
  refine And.intro (VLe.refl _) ?_;refine And.intro (dintE (by rfl)) ?_;refine And.intro (VLe.refl _) ?_;refine And.intro (by decide) ?_;refine And.intro (dintE (by rfl)) ?_;refine And.intro (VLe.refl _) ?_;refine And.intro (by decide) ?_;refine And.intro (VLe.refl _) ?_;refine And.intro (VLe.refl _) ?_;refine And.intro (VLe.refl _) ?_;refine hK _ _ ?_;clear hK K;refine dw_ret ?_
  exact reta rfl
def TSQ_79:TI:=⟨5,true,[Value.int IntKind.i64 0,Value.slice none 0 0,Value.int IntKind.i64 0,Value.int IntKind.i64 0,Value.slice none 0 0],[(0,1,false),(1,4,true)],none,72,6,none,false⟩
theorem TSQ_79_ok:TypOk Tryz.prog 79 TSQ_79:=by constructor <;> kernel_rfl
def TSQ_41:TI:=⟨4,true,[Value.slice none 0 0,Value.int IntKind.i64 0,Value.int IntKind.i64 0,Value.slice none 0 0],[(0,1,false),(1,2,true),(3,1,false)],none,64,6,none,false⟩
theorem TSQ_41_ok:TypOk Tryz.prog 41 TSQ_41:=by constructor <;> kernel_rfl
def TSQ_51:TI:=⟨1,false,[Value.slice none 0 0],[],some 79,24,5,none,false⟩
theorem TSQ_51_ok:TypOk Tryz.prog 51 TSQ_51:=by constructor <;> kernel_rfl
def TSQ_3:TI:=⟨1,false,[Value.int IntKind.i64 0],[],none,8,2,none,false⟩
theorem TSQ_3_ok:TypOk Tryz.prog 3 TSQ_3:=by constructor <;> kernel_rfl
def TSQ_59:TI:=⟨1,false,[Value.slice none 0 0],[],some 3,24,5,none,false⟩
theorem TSQ_59_ok:TypOk Tryz.prog 59 TSQ_59:=by constructor <;> kernel_rfl
def TSQ_174:TI:=⟨1,false,[Value.pointer none],[],none,8,4,none,false⟩
theorem TSQ_174_ok:TypOk Tryz.prog 174 TSQ_174:=by constructor <;> kernel_rfl
def TSQ_153:TI:=⟨1,false,[Value.nilFunc],[],none,8,8,none,false⟩
theorem TSQ_153_ok:TypOk Tryz.prog 153 TSQ_153:=by constructor <;> kernel_rfl
def TSQ:List (Nat×TI):=[(79,TSQ_79),(41,TSQ_41),(51,TSQ_51),(3,TSQ_3),(59,TSQ_59),(174,TSQ_174),(153,TSQ_153)]
theorem TSQ_ok:TabOk Tryz.prog TSQ:=((((((((TabOk.nil _).cons TSQ_153_ok).cons TSQ_174_ok).cons TSQ_59_ok).cons TSQ_3_ok).cons TSQ_51_ok).cons TSQ_41_ok).cons TSQ_79_ok)

theorem equal1_d (p q:Int×Tm):PureC Tryz.prog 76 [.ag (ePair p),.ag (ePair q)] (.v (.bool (decide (p=q)))):=by
 have he:=equal2_d p.2 q.2
 rw[ePair_eq,ePair_eq]
 rw[eTm_eq,eTm_eq] at he
 by_cases h:p.1=q.1
 ·have e:decide (p=q)=decide (p.2=q.2):=by
   rw[Bool.eq_iff_iff,decide_eq_true_iff,decide_eq_true_iff]
   exact⟨fun e=>by rw[e],fun e=>Prod.ext h e⟩
  rw[e]
  refine calldw 0 17 [ResultVar.tmp 4] TSQ_ok Tryz.func76 rfl Tryz.ntmps76 rfl fun cx hnt hn0=>?_
  ·skip
   refine dw_seq ?_;refine dwk [] TSQ_ok hnt fun K hK=>hK _ _ ?_;clear hK K;refine dw_seq ?_;refine dwk [(9,.v (.bool true))] TSQ_ok hnt fun K hK=>?_;refine And.intro (beqT h) ?_;refine dcl (he) ?_;refine hK _ _ ?_;clear hK K;refine dw_ret ?_
   exact reta rfl
 ·have e:decide (p=q)=false:=by rw[decide_eq_false_iff_not];exact fun e=>h (by rw[e])
  rw[e]
  refine calldw 0 17 [ResultVar.tmp 4] TSQ_ok Tryz.func76 rfl Tryz.ntmps76 rfl fun cx hnt hn0=>?_
  ·skip
   refine dw_seq ?_;refine dwk [] TSQ_ok hnt fun K hK=>hK _ _ ?_;clear hK K;refine dw_seq ?_;refine dwk [(9,.v (.bool false))] TSQ_ok hnt fun K hK=>?_;refine And.intro (beqF h) ?_;refine hK _ _ ?_;clear hK K;refine dw_ret ?_
   exact reta rfl
theorem eqPairs_d (l r:List (Int×Tm))(hl:l.length≤1000000)(hr:r.length≤1000000):PureC Tryz.prog 75 [.sl 5 (ePairs l) none,.sl 5 (ePairs r) none,.fn 76 []] (.v (.bool (decide (l=r)))):=by
 by_cases hlr:l.length=r.length
 ·skip
  refine calldw 0 32 [ResultVar.tmp 6] TSQ_ok Tryz.func75 rfl Tryz.ntmps75 rfl fun cx hnt hn0=>?_
  ·skip
   refine dw_seq ?_;refine dwk [] TSQ_ok hnt fun K hK=>hK _ _ ?_;clear hK K;refine dw_seq ?_;refine dw_seq ?_;refine dwk [(11,.v (.int .i64 (↑l.length))),(13,.v (.int .i64 (↑r.length))),(14,.v (.bool false))] TSQ_ok hnt fun K hK=>?_;refine And.intro (dintE (by rw[ePairs_len])) ?_;refine And.intro (dintE (by rw[ePairs_len])) ?_;refine And.intro (bneF (by omega)) ?_;refine hK _ _ ?_;clear hK K
   refine dw_cond (t:=false) rfl ?_;rw[if_neg (by simp)];refine dw_skip ?_;refine dw_seq ?_;refine dw_seq ?_;refine dwk [(16,.v (.int .i64 (↑l.length)))] TSQ_ok hnt fun K hK=>?_;refine And.intro (dintE (by rw[ePairs_len])) ?_;refine hK _ _ ?_;clear hK K;refine dw_block ?_
   refine dw_loop (ι:={ j:Nat // l.take j=r.take j }) (fun j=>[(.t 1,.sl 5 (ePairs r) none),(.t 2,.fn 76 []),(.t 15,.sl 5 (ePairs l) none),(.t 16,.v (.int .i64 ↑l.length)),(.t 17,.v (.int .i64 ↑j.1))]) 0 (fun j=>l.length - j.1) (⟨0,rfl⟩) ((VS.toK (by omega) (by repeat first | exact trivial | refine And.intro (And.intro (by first | rfl | simp[D.ok,D.oks,D.okss,D.okm,upto,keyOk,argsT]) (by first | exact Or.inl rfl | exact Or.inr ⟨_,rfl,(by repeat first | exact VLe.refl _ | exact VLe.nil _ | exact VLe.untag _ _ _ | refine VLe.ag ?_ | refine VLe.tu ?_ | refine VLeL.cons ?_ ?_ | exact VLeL.nil),trivial⟩ | simp[get,Key.eq,argsT])) ?_))) fun j=>?_
   obtain⟨j,hj⟩:=j
   dsimp only
   by_cases hlt:j < l.length
   ·have he:=equal1_d l[j] (r[j]'(by omega))
    have h1:=List.take_add_one (l:=l) (i:=j)
    have h2:=List.take_add_one (l:=r) (i:=j)
    rw[List.getElem?_eq_getElem hlt] at h1
    rw[List.getElem?_eq_getElem (by omega)] at h2
    rw[ePair_eq,ePair_eq] at he
    by_cases hv:l[j]=r[j]'(by omega)
    ·rw[decide_eq_true hv] at he
     refine dw_seq ?_;refine dwk [(18,.v (.bool true))] TSQ_ok hnt fun K hK=>?_;refine And.intro auT ?_;refine hK _ _ ?_;clear hK K;refine dw_seq ?_;refine dw_cond (t:=true) rfl ?_;rw[if_pos rfl];refine dw_skip ?_;refine dw_seq ?_;refine dw_block ?_;refine dw_seq ?_;refine dwk [(20,.q [.v (.int .i64 l[j].1),.sl 2 (eTys l[j].2.binds) none,.v (.int .i64 l[j].2.kind),.v (.int .i64 l[j].2.index),.sl 4 (eTms l[j].2.args) none])] TSQ_ok hnt fun K hK=>?_
     refine And.intro (elo (ePairs_len l)) ?_;refine And.intro (elv (ePairs_getD l j) (ePair_eq _)) ?_;refine hK _ _ ?_;clear hK K;refine dw_seq ?_;refine dwk [(24,.q [.v (.int .i64 r[j].1),.sl 2 (eTys r[j].2.binds) none,.v (.int .i64 r[j].2.kind),.v (.int .i64 r[j].2.index),.sl 4 (eTms r[j].2.args) none])] TSQ_ok hnt fun K hK=>?_;refine And.intro (elo (ePairs_len r)) ?_;refine And.intro (elv (ePairs_getD r j) (ePair_eq _)) ?_
     refine hK _ _ ?_;clear hK K;refine dw_seq ?_;refine dwk [] TSQ_ok hnt fun K hK=>?_;refine dcl (he) ?_;refine hK _ _ ?_;clear hK K;refine dw_cond (t:=false) rfl ?_;rw[if_neg (by simp)];refine dw_skip ?_;refine dwk [(31,.v (.int .i64 (↑(j + 1))))] TSQ_ok hnt fun K hK=>?_;refine And.intro auI ?_;refine hK _ _ ?_;clear hK K
     refine⟨⟨j + 1,by rw[h1,h2,hj,hv]⟩,by first | omega | (dsimp only;omega),VS.toA⟩
    ·rw[decide_eq_false hv] at he
     have e:decide (l=r)=false:=by rw[decide_eq_false_iff_not];exact fun e=>hv (by subst e;rfl)
     rw[e]
     refine dw_seq ?_;refine dwk [(18,.v (.bool true))] TSQ_ok hnt fun K hK=>?_;refine And.intro auT ?_;refine hK _ _ ?_;clear hK K;refine dw_seq ?_;refine dw_cond (t:=true) rfl ?_;rw[if_pos rfl];refine dw_skip ?_;refine dw_seq ?_;refine dw_block ?_;refine dw_seq ?_;refine dwk [(20,.q [.v (.int .i64 l[j].1),.sl 2 (eTys l[j].2.binds) none,.v (.int .i64 l[j].2.kind),.v (.int .i64 l[j].2.index),.sl 4 (eTms l[j].2.args) none])] TSQ_ok hnt fun K hK=>?_
     refine And.intro (elo (ePairs_len l)) ?_;refine And.intro (elv (ePairs_getD l j) (ePair_eq _)) ?_;refine hK _ _ ?_;clear hK K;refine dw_seq ?_;refine dwk [(24,.q [.v (.int .i64 r[j].1),.sl 2 (eTys r[j].2.binds) none,.v (.int .i64 r[j].2.kind),.v (.int .i64 r[j].2.index),.sl 4 (eTms r[j].2.args) none])] TSQ_ok hnt fun K hK=>?_;refine And.intro (elo (ePairs_len r)) ?_;refine And.intro (elv (ePairs_getD r j) (ePair_eq _)) ?_
     refine hK _ _ ?_;clear hK K;refine dw_seq ?_;refine dwk [] TSQ_ok hnt fun K hK=>?_;refine dcl (he) ?_;refine hK _ _ ?_;clear hK K;refine dw_cond (t:=true) rfl ?_;rw[if_pos rfl];refine dw_seq ?_;refine dwk [] TSQ_ok hnt fun K hK=>hK _ _ ?_;clear hK K;refine dw_ret ?_
     exact reta rfl
   ·rw[List.take_of_length_le (by omega),List.take_of_length_le (by omega)] at hj
    rw[decide_eq_true hj]
    refine dw_seq ?_;refine dwk [(18,.v (.bool false))] TSQ_ok hnt fun K hK=>?_;refine And.intro auF ?_;refine hK _ _ ?_;clear hK K;refine dw_seq ?_;refine dw_cond (t:=false) rfl ?_;rw[if_neg (by simp)];refine dw_exit ?_;refine dw_seq ?_;refine dwk [] TSQ_ok hnt fun K hK=>hK _ _ ?_;clear hK K;refine dw_ret ?_
    exact reta rfl
 ·have e:decide (l=r)=false:=by rw[decide_eq_false_iff_not];exact fun e=>hlr (by rw[e])
  rw[e]
  refine calldw 0 32 [ResultVar.tmp 6] TSQ_ok Tryz.func75 rfl Tryz.ntmps75 rfl fun cx hnt hn0=>?_
  ·skip
   refine dw_seq ?_;refine dwk [] TSQ_ok hnt fun K hK=>hK _ _ ?_;clear hK K;refine dw_seq ?_;refine dw_seq ?_;refine dwk [(11,.v (.int .i64 (↑l.length))),(13,.v (.int .i64 (↑r.length))),(14,.v (.bool true))] TSQ_ok hnt fun K hK=>?_;refine And.intro (dintE (by rw[ePairs_len])) ?_;refine And.intro (dintE (by rw[ePairs_len])) ?_;refine And.intro (bneT (by omega)) ?_;refine hK _ _ ?_;clear hK K
   refine dw_cond (t:=true) rfl ?_;rw[if_pos rfl];refine dw_seq ?_;refine dwk [] TSQ_ok hnt fun K hK=>hK _ _ ?_;clear hK K;refine dw_ret ?_
   exact reta rfl
theorem sequal_d (l r:List (Int×Tm))(hl:l.length≤1000000)(hr:r.length≤1000000):PureC Tryz.prog 24 [.sl 5 (ePairs l) none,.sl 5 (ePairs r) none] (.v (.bool (decide (l=r)))):=by
 have he:=eqPairs_d l r hl hr
 refine calldw 0 8 [ResultVar.tmp 4] TSQ_ok Tryz.func24 rfl Tryz.ntmps24 rfl fun cx hnt hn0=>?_
 ·skip
  refine dw_seq ?_;refine dwk [] TSQ_ok hnt fun K hK=>hK _ _ ?_;clear hK K;refine dw_seq ?_;refine dwk [] TSQ_ok hnt fun K hK=>?_;refine dcl (he) ?_;refine hK _ _ ?_;clear hK K;refine dw_ret ?_
  exact reta rfl
namespace Pn
end Pn
namespace Pn
end Pn
def TTO_44:TI:=⟨2,true,[Value.slice none 0 0,Value.int IntKind.i64 0],[(0,1,false),(1,1,false)],none,32,6,none,false⟩
theorem TTO_44_ok:TypOk Tryz.prog 44 TTO_44:=by constructor <;> kernel_rfl
def TTO_3:TI:=⟨1,false,[Value.int IntKind.i64 0],[],none,8,2,none,false⟩
theorem TTO_3_ok:TypOk Tryz.prog 3 TTO_3:=by constructor <;> kernel_rfl
def TTO_41:TI:=⟨4,true,[Value.slice none 0 0,Value.int IntKind.i64 0,Value.int IntKind.i64 0,Value.slice none 0 0],[(0,1,false),(1,2,true),(3,1,false)],none,64,6,none,false⟩
theorem TTO_41_ok:TypOk Tryz.prog 41 TTO_41:=by constructor <;> kernel_rfl
def TTO_103:TI:=⟨2,true,[Value.slice none 0 0,Value.int IntKind.i64 0],[(0,1,false),(1,1,false)],none,32,6,none,false⟩
theorem TTO_103_ok:TypOk Tryz.prog 103 TTO_103:=by constructor <;> kernel_rfl
def TTO_22:TI:=⟨1,false,[Value.slice none 0 0],[],some 103,24,5,none,false⟩
theorem TTO_22_ok:TypOk Tryz.prog 22 TTO_22:=by constructor <;> kernel_rfl
def TTO_33:TI:=⟨1,false,[Value.slice none 0 0],[],some 44,24,5,none,false⟩
theorem TTO_33_ok:TypOk Tryz.prog 33 TTO_33:=by constructor <;> kernel_rfl
def TTO_29:TI:=⟨4,true,[Value.slice none 0 0,Value.int IntKind.i64 0,Value.int IntKind.i64 0,Value.slice none 0 0],[(0,1,false),(1,2,true),(3,1,false)],none,64,6,none,false⟩
theorem TTO_29_ok:TypOk Tryz.prog 29 TTO_29:=by constructor <;> kernel_rfl
def TTO_39:TI:=⟨1,false,[Value.slice none 0 0],[],some 41,24,5,none,false⟩
theorem TTO_39_ok:TypOk Tryz.prog 39 TTO_39:=by constructor <;> kernel_rfl
def TTO_27:TI:=⟨1,false,[Value.slice none 0 0],[],some 29,24,5,none,false⟩
theorem TTO_27_ok:TypOk Tryz.prog 27 TTO_27:=by constructor <;> kernel_rfl
def TTO_26:TI:=⟨2,true,[Value.int IntKind.i64 0,Value.int IntKind.i64 0],[(0,1,false),(1,1,false)],none,16,6,none,true⟩
theorem TTO_26_ok:TypOk Tryz.prog 26 TTO_26:=by constructor <;> kernel_rfl
def TTO_38:TI:=⟨2,true,[Value.int IntKind.i64 0,Value.int IntKind.i64 0],[(0,1,false),(1,1,false)],none,16,6,none,true⟩
theorem TTO_38_ok:TypOk Tryz.prog 38 TTO_38:=by constructor <;> kernel_rfl
def TTO:List (Nat×TI):=[(44,TTO_44),(3,TTO_3),(41,TTO_41),(103,TTO_103),(22,TTO_22),(33,TTO_33),(29,TTO_29),(39,TTO_39),(27,TTO_27),(26,TTO_26),(38,TTO_38)]
theorem TTO_ok:TabOk Tryz.prog TTO:=((((((((((((TabOk.nil _).cons TTO_38_ok).cons TTO_26_ok).cons TTO_27_ok).cons TTO_39_ok).cons TTO_29_ok).cons TTO_33_ok).cons TTO_22_ok).cons TTO_103_ok).cons TTO_41_ok).cons TTO_3_ok).cons TTO_44_ok)
theorem eTys_tlen (l:List Ty)(j:Nat)(h:j≤l.length):(eTys (l.take j)).length=j:=by rw[eTys_len,List.length_take];omega
theorem eTms_tlen (l:List Tm)(j:Nat)(h:j≤l.length):(eTms (l.take j)).length=j:=by rw[eTms_len,List.length_take];omega
theorem to4D_d:∀ t:Ty,t.size≤900000→PureC Tryz.prog 53 [.ag (eTy t)] (.ag (eTy t)):=by
 intro t
 induction t using Ty.ind with
 | h ar base ih=>
  intro hz
  rw[Ty.size_eq] at hz
  have hal:=Ty.le_sizes ar
  rw[eTy_eq]
  dsimp only[Ty.args,Ty.base]
  refine calldw 0 27 [ResultVar.cell 2 44] TTO_ok Tryz.func53 rfl Tryz.ntmps53 rfl fun cx hnt hn0=>?_
  ·skip
   refine dw_seq ?_;refine dwk [] TTO_ok hnt fun K hK=>hK _ _ ?_;clear hK K;refine dw_seq ?_;refine dwk [] TTO_ok hnt fun K hK=>hK _ _ ?_;clear hK K
   refine DW.vs (VS.row (k:=5) (off:=0) 44 2 rfl) ?_
   refine dw_seq ?_;refine dw_seq ?_;refine dwk [] TTO_ok hnt fun K hK=>hK _ _ ?_;clear hK K;refine dw_block ?_
   refine dw_loop (ι:={ j:Nat // j≤ar.length }) (fun j=>[(.t 1,.p 0 0),(.t 2,.p 1 0),(.t 3,.p 5 0),(.t 4,.v (.int .i64 ↑j.1)),(.c 0 0,.sl 2 (eTys ar) none),(.c 0 1,.v (.int .i64 base)),(.c 1 0,.v (.slice none 0 0)),(.c 1 1,.v (.int .i64 0)),(.c 5 0,.sl 2 (eTys (ar.take j.1)) (some 7)),(.c 5 1,.v (.int .i64 base)),(.r 7,.rw 44 2 j.1)]) 8 (fun j=>ar.length - j.1) (⟨0,Nat.zero_le _⟩) ((VS.toK (by omega) (by repeat first | exact trivial | refine And.intro (And.intro (by first | rfl | simp[D.ok,D.oks,D.okss,D.okm,upto,keyOk,argsT]) (by first | exact Or.inl rfl | exact Or.inr ⟨_,rfl,(by repeat first | exact VLe.refl _ | exact VLe.nil _ | exact VLe.untag _ _ _ | refine VLe.ag ?_ | refine VLe.tu ?_ | refine VLeL.cons ?_ ?_ | exact VLeL.nil),trivial⟩ | simp[get,Key.eq,argsT])) ?_))) fun j=>?_
   obtain⟨j,hj⟩:=j
   dsimp only
   by_cases hlt:j < ar.length
   ·have hmem:=List.getElem_mem hlt
    have hsz:=Ty.size_mem hmem
    have hc:=ih _ hmem (by omega)
    rw[eTy_eq] at hc
    have hl1:=eTys_tlen ar j hj
    have hl2:=eTys_tlen ar (j + 1) hlt
    refine dw_seq ?_;refine dw_seq ?_;refine dwk [(11,.v (.int .i64 (↑ar.length))),(12,.v (.bool true))] TTO_ok hnt fun K hK=>?_;refine And.intro (dintE (by rw[eTys_len])) ?_;refine And.intro auT ?_;refine hK _ _ ?_;clear hK K;refine dw_cond (t:=true) rfl ?_;rw[if_pos rfl];refine dw_skip ?_;refine dw_seq ?_;refine dw_block ?_;refine dwkD [(20,.q [.sl 2 (eTys ar[j].args) none,.v (.int .i64 ar[j].base)])] TTO_ok hnt fun K hK=>?_
    refine And.intro (elo (eTys_len ar)) ?_;refine And.intro (elv (eTys_getD ar j) (eTy_eq _)) ?_;refine dcl (hc) ?_;refine And.intro (⟨by omega,by rw[hl1];simp;omega⟩) ?_;refine hK _ _ (by kernel_rfl) ?_;clear hK K
    rw[eTys_snoc ar j hlt,hl2]
    refine dwk [(14,.v (.int .i64 (↑(j + 1))))] TTO_ok hnt fun K hK=>?_;refine And.intro auI ?_;refine hK _ _ ?_;clear hK K
    refine⟨⟨j + 1,hlt⟩,by first | omega | (dsimp only;omega),VS.toA⟩
   ·rw[List.take_of_length_le (by omega)]
    refine dw_seq ?_;refine dw_seq ?_;refine dwk [(11,.v (.int .i64 (↑ar.length))),(12,.v (.bool false))] TTO_ok hnt fun K hK=>?_;refine And.intro (dintE (by rw[eTys_len])) ?_;refine And.intro auF ?_;refine hK _ _ ?_;clear hK K;refine dw_cond (t:=false) rfl ?_;rw[if_neg (by simp)];refine dw_exit ?_;refine dw_seq ?_;refine dwk [] TTO_ok hnt fun K hK=>hK _ _ ?_;clear hK K
    refine dw_ret ?_
    exact reta rfl
theorem toTys_d (l:List Ty)(hz:Ty.sizes l≤900000):PureC Tryz.prog 12 [.sl 2 (eTys l) none] (.sl 2 (eTys l) none):=by
 have hal:=Ty.le_sizes l
 refine calldw 0 20 [ResultVar.tmp 2] TTO_ok Tryz.func12 rfl Tryz.ntmps12 rfl fun cx hnt hn0=>?_
 ·skip
  refine dw_seq ?_;refine dwk [] TTO_ok hnt fun K hK=>hK _ _ ?_;clear hK K
  refine dw_cut (τ:=[(.t 0,.sl 2 (eTys l) none),(.t 3,.v (.slice none 0 0))]) (N1:=0) ?_ ?_
  ·skip
   refine dwk [] TTO_ok hnt fun K hK=>hK _ _ ?_;clear hK K
   exact cut_ok (VS.toK (by omega) (by repeat first | exact trivial | refine And.intro (And.intro (by first | rfl | simp[D.ok,D.oks,D.okss,D.okm,upto,keyOk,argsT]) (by first | exact Or.inl rfl | exact Or.inr ⟨_,rfl,(by repeat first | exact VLe.refl _ | exact VLe.nil _ | exact VLe.untag _ _ _ | refine VLe.ag ?_ | refine VLe.tu ?_ | refine VLeL.cons ?_ ?_ | exact VLeL.nil),trivial⟩ | simp[get,Key.eq,argsT])) ?_))
  ·refine DW.vs (VS.rowT (x:=3) (by rw[hnt];decide) 44 2 rfl) ?_
   refine dw_seq ?_;refine dw_seq ?_;refine dwk [] TTO_ok hnt fun K hK=>hK _ _ ?_;clear hK K;refine dw_block ?_
   refine dw_loop (ι:={ j:Nat // j≤l.length }) (fun j=>[(.t 0,.sl 2 (eTys l) none),(.t 3,.sl 2 (eTys (l.take j.1)) (some 0)),(.t 4,.v (.int .i64 ↑j.1)),(.r 0,.rw 44 2 j.1)]) 1 (fun j=>l.length - j.1) (⟨0,Nat.zero_le _⟩) ((VS.toK (by omega) (by repeat first | exact trivial | refine And.intro (And.intro (by first | rfl | simp[D.ok,D.oks,D.okss,D.okm,upto,keyOk,argsT]) (by first | exact Or.inl rfl | exact Or.inr ⟨_,rfl,(by repeat first | exact VLe.refl _ | exact VLe.nil _ | exact VLe.untag _ _ _ | refine VLe.ag ?_ | refine VLe.tu ?_ | refine VLeL.cons ?_ ?_ | exact VLeL.nil),trivial⟩ | simp[get,Key.eq,argsT])) ?_))) fun j=>?_
   obtain⟨j,hj⟩:=j
   dsimp only
   by_cases hlt:j < l.length
   ·have hsz:=Ty.size_mem (List.getElem_mem hlt)
    have hc:=to4D_d l[j] (by omega)
    rw[eTy_eq] at hc
    have hl1:=eTys_tlen l j hj
    have hl2:=eTys_tlen l (j + 1) hlt
    refine dw_seq ?_;refine dw_seq ?_;refine dwk [(7,.v (.int .i64 (↑l.length))),(8,.v (.bool true))] TTO_ok hnt fun K hK=>?_;refine And.intro (dintE (by rw[eTys_len])) ?_;refine And.intro auT ?_;refine hK _ _ ?_;clear hK K;refine dw_cond (t:=true) rfl ?_;rw[if_pos rfl];refine dw_skip ?_;refine dw_seq ?_;refine dw_block ?_;refine dwk [(14,.q [.sl 2 (eTys l[j].args) none,.v (.int .i64 l[j].base)])] TTO_ok hnt fun K hK=>?_
    refine And.intro (elo (eTys_len l)) ?_;refine And.intro (elv (eTys_getD l j) (eTy_eq _)) ?_;refine dcl (hc) ?_;refine And.intro (⟨by omega,by rw[hl1];simp;omega⟩) ?_;refine hK _ _ ?_;clear hK K
    rw[eTys_snoc l j hlt,hl2]
    refine dwk [(10,.v (.int .i64 (↑(j + 1))))] TTO_ok hnt fun K hK=>?_;refine And.intro auI ?_;refine hK _ _ ?_;clear hK K
    refine⟨⟨j + 1,hlt⟩,by first | omega | (dsimp only;omega),VS.toA⟩
   ·rw[List.take_of_length_le (by omega)]
    refine dw_seq ?_;refine dw_seq ?_;refine dwk [(7,.v (.int .i64 (↑l.length))),(8,.v (.bool false))] TTO_ok hnt fun K hK=>?_;refine And.intro (dintE (by rw[eTys_len])) ?_;refine And.intro auF ?_;refine hK _ _ ?_;clear hK K;refine dw_cond (t:=false) rfl ?_;rw[if_neg (by simp)];refine dw_exit ?_;refine dw_seq ?_;refine dwk [] TTO_ok hnt fun K hK=>hK _ _ ?_;clear hK K;refine dw_ret ?_
    exact reta rfl
theorem to6D_d : ∀ t : Tm, t.full ≤ 900000 → PureC Tryz.prog 13 [.ag (eTm t)] (.ag (eTm t)) := by
  intro t
  induction t using Tm.ind with
  | h bs k i ar ih =>
    intro hz
    rw [Tm.full_eq] at hz
    have hbs := toTys_d bs (by omega)
    have hal : ar.length ≤ Tm.fulls ar := by
      clear ih hz
      induction ar with
      | nil => simp
      | cons u l ih => have : 1 ≤ u.full := by obtain ⟨b, k, i, a⟩ := u; rw [Tm.full_eq]; omega
                       simp only [List.length_cons, Tm.fulls]; omega
    rw [eTm_eq]
    dsimp only [Tm.binds, Tm.kind, Tm.index, Tm.args]
    refine calldw 0 35 [ResultVar.cell 2 41] TTO_ok Tryz.func13 rfl Tryz.ntmps13 rfl fun cx hnt hn0 => ?_
    · skip
      refine dw_seq ?_
      refine dwk [] TTO_ok hnt fun K hK => ?_
      refine hK _ _ ?_; clear hK K
      refine dw_seq ?_
      refine dwkD [] TTO_ok hnt fun K hK => ?_
      refine dcl (hbs) ?_
      refine hK _ _ (by kernel_rfl) ?_; clear hK K
      refine DW.vs (VS.row (k := 13) (off := 3) 41 4 rfl) ?_
      refine dw_seq ?_
      refine dw_seq ?_
      refine dwk [] TTO_ok hnt fun K hK => ?_
      refine hK _ _ ?_; clear hK K
      refine dw_block ?_
      refine dw_loop (ι := { j : Nat // j ≤ ar.length }) (fun j => [(.t 1, .p 0 0), (.t 2, .p 1 0), (.t 3, .p 13 0), (.t 4, .v (.int .i64 ↑j.1)), (.c 0 0, .sl 2 (eTys bs) none), (.c 0 1, .v (.int .i64 k)), (.c 0 2, .v (.int .i64 i)), (.c 0 3, .sl 4 (eTms ar) none), (.c 1 0, .v (.slice none 0 0)), (.c 1 1, .v (.int .i64 0)), (.c 1 2, .v (.int .i64 0)), (.c 1 3, .v (.slice none 0 0)), (.c 13 0, .sl 2 (eTys bs) none), (.c 13 1, .v (.int .i64 k)), (.c 13 2, .v (.int .i64 i)), (.c 13 3, .sl 4 (eTms (ar.take j.1)) (some 15)), (.r 15, .rw 41 4 j.1)]) 16 (fun j => ar.length - j.1) (⟨0, Nat.zero_le _⟩) ((VS.toK (by omega) (by repeat first | exact trivial | refine And.intro (And.intro (by first | rfl | simp [D.ok, D.oks, D.okss, D.okm, upto, keyOk, argsT]) (by first | exact Or.inl rfl | exact Or.inr ⟨_, rfl, (by repeat first | exact VLe.refl _ | exact VLe.nil _ | exact VLe.untag _ _ _ | refine VLe.ag ?_ | refine VLe.tu ?_ | refine VLeL.cons ?_ ?_ | exact VLeL.nil), trivial⟩ | simp [get, Key.eq, argsT])) ?_))) fun j => ?_
      obtain ⟨j, hj⟩ := j
      dsimp only
      by_cases hlt : j < ar.length
      · have hmem := List.getElem_mem hlt
        have hsz := Tm.full_mem hmem
        have hc := ih _ hmem (by omega)
        rw [eTm_eq] at hc
        have hl1 := eTms_tlen ar j hj
        have hl2 := eTms_tlen ar (j + 1) hlt
        refine dw_seq ?_
        refine dw_seq ?_
        refine dwk [(19, .v (.int .i64 (↑ar.length))), (20, .v (.bool true))] TTO_ok hnt fun K hK => ?_
        refine And.intro (dintE (by rw [eTms_len])) ?_
        refine And.intro auT ?_
        refine hK _ _ ?_; clear hK K
        refine dw_cond (t := true) rfl ?_
        rw [if_pos rfl]
        refine dw_skip ?_
        refine dw_seq ?_
        refine dw_block ?_
        refine dwkD [(28, .q [.sl 2 (eTys ar[j].binds) none, .v (.int .i64 ar[j].kind), .v (.int .i64 ar[j].index), .sl 4 (eTms ar[j].args) none])] TTO_ok hnt fun K hK => ?_
        refine And.intro (elo (eTms_len ar)) ?_
        refine And.intro (elv (eTms_getD ar j) (eTm_eq _)) ?_
        refine dcl (hc) ?_
        refine And.intro (⟨by omega, by rw [hl1]; simp; omega⟩) ?_
        refine hK _ _ (by kernel_rfl) ?_; clear hK K
        rw [eTms_snoc ar j hlt, hl2]
        refine dwk [(22, .v (.int .i64 (↑(j + 1))))] TTO_ok hnt fun K hK => ?_
        refine And.intro auI ?_
        refine hK _ _ ?_; clear hK K
        refine ⟨⟨j + 1, hlt⟩, by first | omega | (dsimp only; omega), VS.toA⟩
      · rw [List.take_of_length_le (by omega)]
        refine dw_seq ?_
        refine dw_seq ?_
        refine dwk [(19, .v (.int .i64 (↑ar.length))), (20, .v (.bool false))] TTO_ok hnt fun K hK => ?_
        refine And.intro (dintE (by rw [eTms_len])) ?_
        refine And.intro auF ?_
        refine hK _ _ ?_; clear hK K
        refine dw_cond (t := false) rfl ?_
        rw [if_neg (by simp)]
        refine dw_exit ?_
        refine dw_seq ?_
        refine dwk [] TTO_ok hnt fun K hK => ?_
        refine hK _ _ ?_; clear hK K
        refine dw_ret ?_
        exact reta rfl
def TF4_3:TI:=⟨1,false,[Value.int IntKind.i64 0],[],none,8,2,none,false⟩
theorem TF4_3_ok:TypOk Tryz.prog 3 TF4_3:=by constructor <;> kernel_rfl
def TF4_103:TI:=⟨2,true,[Value.slice none 0 0,Value.int IntKind.i64 0],[(0,1,false),(1,1,false)],none,32,6,none,false⟩
theorem TF4_103_ok:TypOk Tryz.prog 103 TF4_103:=by constructor <;> kernel_rfl
def TF4_22:TI:=⟨1,false,[Value.slice none 0 0],[],some 103,24,5,none,false⟩
theorem TF4_22_ok:TypOk Tryz.prog 22 TF4_22:=by constructor <;> kernel_rfl
def TF4:List (Nat×TI):=[(3,TF4_3),(103,TF4_103),(22,TF4_22)]
theorem TF4_ok:TabOk Tryz.prog TF4:=((((TabOk.nil _).cons TF4_22_ok).cons TF4_103_ok).cons TF4_3_ok)

mutual
def fewT (most:Int):Ty→Int→Int
 | .mk a _,d=>if d≤0 then most + 1 else fewTs most a (d - 1) 1
def fewTs (most:Int):List Ty→Int→Int→Int
 | [],_,n=>n
 | t :: l,d,n=>if n≤most then fewTs most l d (n + fewT most t d) else n
end
theorem fewTs_le {most:Int}(hm:0≤most){B:Int}(hB:0≤B):∀ (l:List Ty) (d n:Int),(∀ t∈l,1≤fewT most t d∧fewT most t d≤B)→1≤n→n≤most + B→1≤fewTs most l d n∧fewTs most l d n≤most + B
 | [],d,n,_,h0,h1=>by rw[fewTs];exact⟨h0,h1⟩
 | t :: l,d,n,h,h0,h1=>by
  rw[fewTs]
  split
  ·have:=h t (by simp)
   exact fewTs_le hm hB l d _ (fun u hu=>h u (by simp[hu])) (by omega) (by omega)
  ·exact⟨h0,h1⟩
theorem fewT_le {most:Int}(hm:1≤most):∀ (k:Nat) (t:Ty) (d:Int),d≤k→1≤fewT most t d∧fewT most t d≤most * k + most + 1
 | 0,.mk a b,d,hd=>by
  rw[fewT,if_pos (by omega)]
  have e:most * ((0:Nat):Int)=0:=Int.mul_zero _
  rw[e];omega
 | k + 1,.mk a b,d,hd=>by
  rw[fewT]
  have e:most * ((k + 1:Nat):Int)=most * (k:Int) + most:=by rw[Int.natCast_add,Int.mul_add];simp
  have h0:0≤most * (k:Int):=Int.mul_nonneg (by omega) (by omega)
  split
  ·rw[e];omega
  ·have:=fewTs_le (most:=most) (by omega) (B:=most * k + most + 1) (by omega) a (d - 1) 1 (fun t _=>fewT_le hm k t (d - 1) (by omega)) (by omega) (by omega)
   rw[e];omega
set_option maxHeartbeats 1000000 in
theorem few4_d (most:Int)(h1:1≤most)(h2:most≤1000):∀ (t:Ty) (d:Int),-1000≤d→d≤1000→PureC Tryz.prog 106 [.ag (eTy t),.v (.int .i64 most),.v (.int .i64 d)] (.v (.int .i64 (fewT most t d))):=by
 intro t
 induction t using Ty.ind with
 | h a b ih=>
 intro d hd1 hd2
 refine call_of_dw 0 37 [ResultVar.tmp 6] TF4_ok (by kernel_rfl) Tryz.func106 rfl Tryz.ntmps106 rfl (by simp) ?dwords ?dbody
 case dwords=>simp[wordsOk,D.ok,D.oks,rnames,eTy_ok]
 case dbody=>
  intro cx hnt hn0
  refine dw_seq ?_;refine dwk [] TF4_ok hnt fun K hK=>hK _ _ ?_;clear hK K;refine dw_seq (dw_seq ?_)
  by_cases hd:d≤0
  ·have hf:fewT most (.mk a b) d=most + 1:=by rw[fewT,if_pos hd]
   rw[hf]
   refine dwk [(10,.v (.bool true))] TF4_ok hnt fun K hK=>?_;refine And.intro (dtrue hd) ?_;refine hK _ _ ?_;clear hK K;refine dw_cond (t:=true) rfl ?_;rw[if_pos rfl];refine dw_seq ?_;refine dwk [(12,.v (.int .i64 (most + 1)))] TF4_ok hnt fun K hK=>?_;refine And.intro (dintE (IntWalk.i64_in _ (by omega))) ?_;refine hK _ _ ?_;clear hK K;refine dw_ret ?_
   exact retv (N:=0) (.inr rfl) rfl (VLe.refl _) trivial
  ·have hf:fewT most (.mk a b) d=fewTs most a (d - 1) 1:=by rw[fewT,if_neg hd]
   rw[hf]
   refine dwk [(10,.v (.bool false))] TF4_ok hnt fun K hK=>?_;refine And.intro (dfalse hd) ?_;refine hK _ _ ?_;clear hK K;refine dw_cond (t:=false) rfl ?_;rw[if_neg (by simp)];refine dw_skip ?_;refine dw_seq ?_;refine dwk [] TF4_ok hnt fun K hK=>hK _ _ ?_;clear hK K;refine dw_seq (dw_seq ?_);refine dwk [] TF4_ok hnt fun K hK=>hK _ _ ?_;clear hK K;refine dw_block ?_
   refine dw_loop (ι:={ p:Nat×Int // fewTs most (a.drop p.1) (d - 1) p.2=fewTs most a (d - 1) 1∧(p.1:Int) + 1≤p.2∧p.2≤2000000∧p.1≤a.length }) (fun p=>[(.t 1,.v (.int .i64 most)),(.t 2,.v (.int .i64 d)),(.t 3,.p 0 0),(.t 7,.v (.int .i64 p.1.2)),(.t 8,.v (.int .i64 (p.1.1:Int))),(.c 0 0,.sl 2 (eTys a) none),(.c 0 1,.v (.int .i64 b))]) 1 (fun p=>a.length - p.1.1) ⟨(0,1),by simp,by simp,by simp,by simp⟩ VS.toA fun p=>?_
   obtain⟨⟨j,n⟩,hj1,hj2,hj3,hj4⟩:=p
   dsimp only at hj1 hj2 hj3 hj4 ⊢
   refine dw_seq (dw_seq ?_)
   by_cases hlt:j < a.length
   ·have hdr:a.drop j=a[j] :: a.drop (j + 1):=List.drop_eq_getElem_cons hlt
    rw[hdr,fewTs] at hj1
    by_cases hn:n≤most
    ·rw[if_pos hn] at hj1
     have hih:=ih a[j] (List.getElem_mem hlt) (d - 1) (by omega) (by omega)
     rw[eTy_eq] at hih
     have hbd:=fewT_le h1 1000 a[j] (d - 1) (by omega)
     have hbd2:most * ((1000:Nat):Int)≤1000000:=by
      have:most * ((1000:Nat):Int)=1000 * most:=by rw[Int.mul_comm];rfl
      omega
     refine dwk [(17,.v (.bool true)),(21,.v (.bool true))] TF4_ok hnt fun K hK=>?_;refine And.intro (dtrue (by rw[eTys_len];omega)) ?_;refine And.intro (dtrue hn) ?_;refine hK _ _ ?_;clear hK K;refine dw_cond (t:=true) rfl ?_;rw[if_pos rfl];refine dw_skip ?_;refine dw_seq (dw_block ?_);refine dwk [(29,.q [.sl 2 (eTys a[j].args) none,.v (.int .i64 a[j].base)]),(33,.v (.int .i64 (d - 1))),(35,.v (.int .i64 (n + fewT most a[j] (d - 1))))] TF4_ok hnt fun K hK=>?_
     refine And.intro (⟨by omega,by rw[eTys_len];omega⟩) ?_;refine And.intro (VLe.of_eq (by rw[Int.toNat_natCast,eTys_getD a j hlt,eTy_eq])) ?_;refine And.intro (dintE (IntWalk.i64_in _ (by omega))) ?_;refine dcl (hih) ?_;refine And.intro (dintE (IntWalk.i64_in _ (by omega))) ?_;refine hK _ _ ?_;clear hK K;refine dwk [(24,.v (.int .i64 ((j + 1:Nat):Int)))] TF4_ok hnt fun K hK=>?_;refine And.intro (dintE (by rw[IntWalk.i64_in _ (by omega)];omega)) ?_
     refine hK _ _ ?_;clear hK K
     exact⟨⟨(j + 1,n + fewT most a[j] (d - 1)),hj1,by dsimp only;omega,by dsimp only;omega,hlt⟩,by dsimp only;omega,VS.toA⟩
    ·rw[if_neg hn] at hj1
     rw[←hj1]
     refine dwk [(17,.v (.bool true)),(21,.v (.bool false))] TF4_ok hnt fun K hK=>?_;refine And.intro (dtrue (by rw[eTys_len];omega)) ?_;refine And.intro (dfalse hn) ?_;refine hK _ _ ?_;clear hK K;refine dw_cond (t:=false) rfl ?_;rw[if_neg (by simp)];refine dw_exit ?_;refine dw_seq ?_;refine dwk [] TF4_ok hnt fun K hK=>hK _ _ ?_;clear hK K;refine dw_ret ?_
     exact retv (N:=0) (.inr rfl) rfl (VLe.refl _) trivial
   ·rw[List.drop_eq_nil_of_le (by omega),fewTs] at hj1
    rw[←hj1]
    refine dwk [(17,.v (.bool false))] TF4_ok hnt fun K hK=>?_;refine And.intro (dfalse (by rw[eTys_len];omega)) ?_;refine hK _ _ ?_;clear hK K;refine dw_cond (t:=false) rfl ?_;rw[if_neg (by simp)];refine dw_exit ?_;refine dw_seq ?_;refine dwk [] TF4_ok hnt fun K hK=>hK _ _ ?_;clear hK K;refine dw_ret ?_
    exact retv (N:=0) (.inr rfl) rfl (VLe.refl _) trivial
theorem fewTs_size {most:Int}:∀ (l:List Ty) (d n:Int),(∀ t∈l,fewT most t d≤most→(t.size:Int)=fewT most t d)→(∀ t∈l,1≤fewT most t d)→1≤n→fewTs most l d n≤most→fewTs most l d n=n + Ty.sizes l
 | [],d,n,_,_,_,_=>by rw[fewTs];simp[Ty.sizes]
 | t :: l,d,n,h,h1,hn,hf=>by
  rw[fewTs] at hf ⊢
  split at hf
  ·rename_i hm
   rw[if_pos hm]
   have h2:=h1 t (by simp)
   have h3:=fewTs_size l d _ (fun u hu=>h u (by simp[hu])) (fun u hu=>h1 u (by simp[hu])) (by omega) hf
   have h4:fewT most t d≤most:=by omega
   have h5:=h t (by simp) h4
   rw[h3,Ty.sizes];omega
  ·rename_i hm;omega
theorem fewT_size {most:Int}(hm:1≤most):∀ (k:Nat) (t:Ty) (d:Int),d≤k→fewT most t d≤most→(t.size:Int)=fewT most t d
 | 0,.mk a b,d,hd,h=>by rw[fewT,if_pos (by omega)] at h;omega
 | k + 1,.mk a b,d,hd,h=>by
  rw[fewT] at h ⊢
  split at h
  ·omega
  ·rename_i hp
   rw[if_neg hp]
   have:=fewTs_size a (d - 1) 1 (fun t _=>fewT_size hm k t (d - 1) (by omega)) (fun t _=>(fewT_le hm k t (d - 1) (by omega)).1) (by omega) h
   rw[this,Ty.size_eq];omega
theorem Few4_d (most:Int)(h1:1≤most)(h2:most≤1000)(t:Ty)(d:Int)(h3:-1000≤d)(h4:d≤1000):PureC Tryz.prog 49 [.ag (eTy t),.v (.int .i64 most),.v (.int .i64 d)] (.v (.bool (decide (fewT most t d≤most)))):=by
 have h:=few4_d most h1 h2 t d h3 h4
 rw[eTy_eq] at h ⊢
 refine call_of_dw 0 13 [ResultVar.tmp 6] TF4_ok (by kernel_rfl) Tryz.func49 rfl Tryz.ntmps49 rfl (by simp) ?dwords ?dbody
 case dwords=>simp[wordsOk,D.ok,D.oks,rnames,eTys_ok]
 case dbody=>
  intro cx hnt hn0
  refine dw_seq ?_;refine dwk [] TF4_ok hnt fun K hK=>hK _ _ ?_;clear hK K;refine dw_seq ?_;refine dwk [] TF4_ok hnt fun K hK=>?_;refine dcl (h) ?_;refine hK _ _ ?_;clear hK K;refine dw_ret ?_
  exact retv (N:=0) (.inr rfl) rfl (VLe.refl _) trivial
set_option maxHeartbeats 1000000 in
theorem Size4_d:∀ (t:Ty) (_:t.size≤1000000),PureC Tryz.prog 105 [.ag (eTy t)] (.v (.int .i64 (t.size:Int))):=by
 intro t
 induction t using Ty.ind with
 | h a b ih=>
 intro hsz
 have hsz2:=Ty.size_eq a b
 refine call_of_dw 0 21 [ResultVar.tmp 2] TF4_ok (by kernel_rfl) Tryz.func105 rfl Tryz.ntmps105 rfl (by simp) ?dwords ?dbody
 case dwords=>simp[wordsOk,D.ok,D.oks,rnames,eTy_ok]
 case dbody=>
  intro cx hnt hn0
  refine dw_seq ?_;refine dwk [] TF4_ok hnt fun K hK=>hK _ _ ?_;clear hK K;refine dw_seq ?_;refine dwk [] TF4_ok hnt fun K hK=>hK _ _ ?_;clear hK K;refine dw_seq (dw_seq ?_);refine dwk [] TF4_ok hnt fun K hK=>hK _ _ ?_;clear hK K;refine dw_block ?_
  refine dw_loop (ι:={ j:Nat // j≤a.length }) (fun j=>[(.t 1,.p 0 0),(.t 3,.v (.int .i64 ((Ty.sizes (a.take j.1):Int) + 1))),(.t 4,.v (.int .i64 (j.1:Int))),(.c 0 0,.sl 2 (eTys a) none),(.c 0 1,.v (.int .i64 b))]) 1 (fun j=>a.length - j.1) ⟨0,Nat.zero_le _⟩ VS.toA fun j=>?_
  obtain⟨j,hj⟩:=j
  dsimp only
  have hst:=Ty.sizes_take_le a j
  have hst2:=Ty.sizes_take_le a (j + 1)
  have hla:=Ty.le_sizes a
  refine dw_seq (dw_seq ?_)
  by_cases hlt:j < a.length
  ·have hih:=ih a[j] (List.getElem_mem hlt) (by have:=Ty.size_get (b:=b) j hlt;omega)
   rw[eTy_eq] at hih
   have htk:=Ty.sizes_take a j hlt
   refine dwk [(9,.v (.bool true))] TF4_ok hnt fun K hK=>?_;refine And.intro (dtrue (by rw[eTys_len];omega)) ?_;refine hK _ _ ?_;clear hK K;refine dw_cond (t:=true) rfl ?_;rw[if_pos rfl];refine dw_skip ?_;refine dw_seq (dw_block ?_);refine dwk [(16,.q [.sl 2 (eTys a[j].args) none,.v (.int .i64 a[j].base)]),(19,.v (.int .i64 ((Ty.sizes (a.take (j + 1)):Int) + 1)))] TF4_ok hnt fun K hK=>?_
   refine And.intro (⟨by omega,by rw[eTys_len];omega⟩) ?_;refine And.intro (VLe.of_eq (by rw[Int.toNat_natCast,eTys_getD a j hlt,eTy_eq])) ?_;refine dcl (hih) ?_;refine And.intro (dintE (by rw[IntWalk.i64_in _ (by omega),htk];omega)) ?_;refine hK _ _ ?_;clear hK K;refine dwk [(11,.v (.int .i64 ((j + 1:Nat):Int)))] TF4_ok hnt fun K hK=>?_;refine And.intro (dintE (by rw[IntWalk.i64_in _ (by omega)];omega)) ?_
   refine hK _ _ ?_;clear hK K
   exact⟨⟨j + 1,hlt⟩,by dsimp only;omega,VS.toA⟩
  ·skip
   refine dwk [(9,.v (.bool false))] TF4_ok hnt fun K hK=>?_;refine And.intro (dfalse (by rw[eTys_len];omega)) ?_;refine hK _ _ ?_;clear hK K;refine dw_cond (t:=false) rfl ?_;rw[if_neg (by simp)];refine dw_exit ?_;refine dw_seq ?_
   have hsz3:((Ty.mk a b).size:Int)=(Ty.sizes (a.take j):Int) + 1:=by rw[List.take_of_length_le (by omega),hsz2];omega
   rw[hsz3]
   refine dwk [] TF4_ok hnt fun K hK=>hK _ _ ?_;clear hK K;refine dw_ret ?_
   exact retv (N:=0) (.inr rfl) rfl (VLe.refl _) trivial
def TF6_3:TI:=⟨1,false,[Value.int IntKind.i64 0],[],none,8,2,none,false⟩
theorem TF6_3_ok:TypOk Tryz.prog 3 TF6_3:=by constructor <;> kernel_rfl
def TF6_29:TI:=⟨4,true,[Value.slice none 0 0,Value.int IntKind.i64 0,Value.int IntKind.i64 0,Value.slice none 0 0],[(0,1,false),(1,2,true),(3,1,false)],none,64,6,none,false⟩
theorem TF6_29_ok:TypOk Tryz.prog 29 TF6_29:=by constructor <;> kernel_rfl
def TF6_22:TI:=⟨1,false,[Value.slice none 0 0],[],some 103,24,5,none,false⟩
theorem TF6_22_ok:TypOk Tryz.prog 22 TF6_22:=by constructor <;> kernel_rfl
def TF6_27:TI:=⟨1,false,[Value.slice none 0 0],[],some 29,24,5,none,false⟩
theorem TF6_27_ok:TypOk Tryz.prog 27 TF6_27:=by constructor <;> kernel_rfl
def TF6_103:TI:=⟨2,true,[Value.slice none 0 0,Value.int IntKind.i64 0],[(0,1,false),(1,1,false)],none,32,6,none,false⟩
theorem TF6_103_ok:TypOk Tryz.prog 103 TF6_103:=by constructor <;> kernel_rfl
def TF6:List (Nat×TI):=[(3,TF6_3),(29,TF6_29),(22,TF6_22),(27,TF6_27),(103,TF6_103)]
theorem TF6_ok:TabOk Tryz.prog TF6:=((((((TabOk.nil _).cons TF6_103_ok).cons TF6_27_ok).cons TF6_22_ok).cons TF6_29_ok).cons TF6_3_ok)

def fewB1 (most d:Int):List Ty→Int→Option Int
 | [],n=>some n
 | t :: l,n=>if n≤most then (if fewT most t d≤most then fewB1 most d l (n + t.size) else none) else some n
mutual
def fewM (most:Int):Tm→Int→Int
 | .mk bs _ _ a,d=>if d≤0 then most + 1 else match fewB1 most d bs 1 with
  | none=>most + 1
  | some n=>fewMs most a (d - 1) n
def fewMs (most:Int):List Tm→Int→Int→Int
 | [],_,n=>n
 | t :: l,d,n=>if n≤most then fewMs most l d (n + fewM most t d) else n
end
theorem fewB1_le {most d:Int}(hm:1≤most)(hd:d≤1000):∀ (l:List Ty) (n:Int),1≤n→n≤2 * most→∀ r,fewB1 most d l n=some r→1≤r∧r≤2 * most
 | [],n,h0,h1,r,h=>by rw[fewB1] at h;cases h;exact⟨h0,h1⟩
 | t :: l,n,h0,h1,r,h=>by
  rw[fewB1] at h
  split at h
  ·split at h
   ·rename_i h2
    have:=fewT_size hm 1000 t d hd h2
    have:=(fewT_le hm 1000 t d hd).1
    exact fewB1_le hm hd l _ (by omega) (by omega) r h
   ·cases h
  ·cases h;exact⟨h0,h1⟩
theorem fewMs_le {most:Int}(hm:1≤most){B:Int}(hB:most≤B):∀ (l:List Tm) (d n:Int),(∀ t∈l,1≤fewM most t d∧fewM most t d≤B)→1≤n→n≤most + B→1≤fewMs most l d n∧fewMs most l d n≤most + B
 | [],d,n,_,h0,h1=>by rw[fewMs];exact⟨h0,h1⟩
 | t :: l,d,n,h,h0,h1=>by
  rw[fewMs]
  split
  ·have:=h t (by simp)
   exact fewMs_le hm hB l d _ (fun u hu=>h u (by simp[hu])) (by omega) (by omega)
  ·exact⟨h0,h1⟩
theorem fewM_le {most:Int}(hm:1≤most):∀ (k:Nat) (t:Tm) (d:Int),k≤1000→d≤k→1≤fewM most t d∧fewM most t d≤most * k + most + 1
 | 0,.mk bs kd i a,d,hk,hd=>by
  rw[fewM,if_pos (by omega)]
  have e:most * ((0:Nat):Int)=0:=Int.mul_zero _
  rw[e];omega
 | k + 1,.mk bs kd i a,d,hk,hd=>by
  rw[fewM]
  have e:most * ((k + 1:Nat):Int)=most * (k:Int) + most:=by rw[Int.natCast_add,Int.mul_add];simp
  have h0:0≤most * (k:Int):=Int.mul_nonneg (by omega) (by omega)
  rw[e]
  split
  ·omega
  ·cases hb:fewB1 most d bs 1 with
   | none=>dsimp only;omega
   | some n=>
    have hn:=fewB1_le hm (by omega) bs 1 (by omega) (by omega) n hb
    have:=fewMs_le hm (B:=most * k + most + 1) (by omega) a (d - 1) n (fun t _=>fewM_le hm k t (d - 1) (by omega) (by omega)) hn.1 (by omega)
    dsimp only
    omega
set_option maxHeartbeats 4000000 in
theorem few6_d (most:Int)(h1:1≤most)(h2:most≤1000):∀ (t:Tm) (d:Int),-1000≤d→d≤1000→PureC Tryz.prog 47 [.ag (eTm t),.v (.int .i64 most),.v (.int .i64 d)] (.v (.int .i64 (fewM most t d))):=by
 intro t
 induction t using Tm.ind with
 | h bs k i a ih=>
 intro d hd1 hd2
 obtain⟨V,hV⟩:∃ V,fewM most (.mk bs k i a) d=V:=⟨_,rfl⟩
 rw[hV]
 rw[fewM] at hV
 refine call_of_dw 0 69 [ResultVar.tmp 6] TF6_ok (by kernel_rfl) Tryz.func47 rfl Tryz.ntmps47 rfl (by simp) ?dwords ?dbody
 case dwords=>simp[wordsOk,D.ok,D.oks,rnames,eTm_ok]
 case dbody=>
  intro cx hnt hn0
  refine dw_seq ?_;refine dwk [] TF6_ok hnt fun K hK=>hK _ _ ?_;clear hK K;refine dw_seq (dw_seq ?_)
  by_cases hd:d≤0
  ·rw[if_pos hd] at hV
   subst hV
   refine dwk [(11,.v (.bool true))] TF6_ok hnt fun K hK=>?_;refine And.intro (dtrue hd) ?_;refine hK _ _ ?_;clear hK K;refine dw_cond (t:=true) rfl ?_;rw[if_pos rfl];refine dw_seq ?_;refine dwk [(13,.v (.int .i64 (most + 1)))] TF6_ok hnt fun K hK=>?_;refine And.intro (dintE (IntWalk.i64_in _ (by omega))) ?_;refine hK _ _ ?_;clear hK K;refine dw_ret ?_
   exact retv (N:=0) (.inr rfl) rfl (VLe.refl _) trivial
  ·rw[if_neg hd] at hV;refine dwk [(11,.v (.bool false))] TF6_ok hnt fun K hK=>?_;refine And.intro (dfalse hd) ?_;refine hK _ _ ?_;clear hK K;refine dw_cond (t:=false) rfl ?_;rw[if_neg (by simp)];refine dw_skip ?_;refine dw_seq ?_;refine dwk [] TF6_ok hnt fun K hK=>hK _ _ ?_;clear hK K
   refine dw_cutE (ι:={ n:Int // 1≤n∧n≤2 * most∧V=fewMs most a (d - 1) n }) (fun n=>[(.t 1,.v (.int .i64 most)),(.t 2,.v (.int .i64 d)),(.t 3,.p 0 0),(.t 7,.v (.int .i64 n.1)),(.c 0 0,.sl 2 (eTys bs) none),(.c 0 1,.v (.int .i64 k)),(.c 0 2,.v (.int .i64 i)),(.c 0 3,.sl 4 (eTms a) none)]) 1 ?_ fun n=>?_
   ·refine dw_seq ?_;refine dwk [] TF6_ok hnt fun K hK=>hK _ _ ?_;clear hK K;refine dw_block ?_
    refine dw_loop (ι:={ p:Nat×Int // fewB1 most d (bs.drop p.1) p.2=fewB1 most d bs 1∧(p.1:Int) + 1≤p.2∧p.2≤2 * most∧p.1≤bs.length }) (fun p=>[(.t 1,.v (.int .i64 most)),(.t 2,.v (.int .i64 d)),(.t 3,.p 0 0),(.t 7,.v (.int .i64 p.1.2)),(.t 8,.v (.int .i64 (p.1.1:Int))),(.c 0 0,.sl 2 (eTys bs) none),(.c 0 1,.v (.int .i64 k)),(.c 0 2,.v (.int .i64 i)),(.c 0 3,.sl 4 (eTms a) none)]) 1 (fun p=>bs.length - p.1.1) ⟨(0,1),by simp,by simp,by dsimp only;omega,by simp⟩ VS.toA fun p=>?_
    obtain⟨⟨j,n⟩,hj1,hj2,hj3,hj4⟩:=p
    dsimp only at hj1 hj2 hj3 hj4 ⊢
    refine dw_seq (dw_seq ?_)
    by_cases hlt:j < bs.length
    ·have hdr:bs.drop j=bs[j] :: bs.drop (j + 1):=List.drop_eq_getElem_cons hlt
     rw[hdr,fewB1] at hj1
     by_cases hn:n≤most
     ·rw[if_pos hn] at hj1
      have hF:=Few4_d most h1 h2 bs[j] d hd1 hd2
      rw[eTy_eq] at hF
      have hq:(eTys bs).getD (j:Int).toNat []=[.sl 2 (eTys bs[j].args) none,.v (.int .i64 bs[j].base)]:=by rw[Int.toNat_natCast,eTys_getD bs j hlt,eTy_eq]
      have hb:(0:Int)≤(j:Int)∧(j:Int) < ((eTys bs).length:Int):=⟨by omega,by rw[eTys_len];omega⟩
      refine dwk [(18,.v (.bool true)),(22,.v (.bool true))] TF6_ok hnt fun K hK=>?_;refine And.intro (dtrue (by rw[eTys_len];omega)) ?_;refine And.intro (dtrue hn) ?_;refine hK _ _ ?_;clear hK K;refine dw_cond (t:=true) rfl ?_;rw[if_pos rfl];refine dw_skip ?_;refine dw_seq (dw_block ?_);refine dw_seq (dw_seq ?_)
      by_cases hff:fewT most bs[j] d≤most
      ·rw[if_pos hff] at hj1
       rw[decide_eq_true hff] at hF
       have hs1:=fewT_size h1 1000 bs[j] d (by omega) hff
       have hs2:=(fewT_le h1 1000 bs[j] d (by omega)).1
       have hS:=Size4_d bs[j] (by omega)
       rw[eTy_eq] at hS
       refine dwk [(29,.q [.sl 2 (eTys bs[j].args) none,.v (.int .i64 bs[j].base)])] TF6_ok hnt fun K hK=>?_;refine And.intro (hb) ?_;refine And.intro (VLe.of_eq (by rw[hq])) ?_;refine dcl (hF) ?_;refine hK _ _ ?_;clear hK K;refine dw_cond (t:=false) rfl ?_;rw[if_neg (by simp)];refine dw_skip ?_;refine dwk [(41,.q [.sl 2 (eTys bs[j].args) none,.v (.int .i64 bs[j].base)]),(44,.v (.int .i64 (n + (bs[j].size:Int))))] TF6_ok hnt fun K hK=>?_
       refine And.intro (hb) ?_;refine And.intro (VLe.of_eq (by rw[hq])) ?_;refine dcl (hS) ?_;refine And.intro (dintE (IntWalk.i64_in _ (by omega))) ?_;refine hK _ _ ?_;clear hK K;refine dwk [(25,.v (.int .i64 ((j + 1:Nat):Int)))] TF6_ok hnt fun K hK=>?_;refine And.intro (dintE (by rw[IntWalk.i64_in _ (by omega)];omega)) ?_;refine hK _ _ ?_;clear hK K
       exact⟨⟨(j + 1,n + (bs[j].size:Int)),hj1,by dsimp only;omega,by dsimp only;omega,hlt⟩,by dsimp only;omega,VS.toA⟩
      ·rw[if_neg hff] at hj1
       rw[decide_eq_false hff] at hF
       rw[←hj1] at hV
       dsimp only at hV
       subst hV
       refine dwk [(29,.q [.sl 2 (eTys bs[j].args) none,.v (.int .i64 bs[j].base)])] TF6_ok hnt fun K hK=>?_;refine And.intro (hb) ?_;refine And.intro (VLe.of_eq (by rw[hq])) ?_;refine dcl (hF) ?_;refine hK _ _ ?_;clear hK K;refine dw_cond (t:=true) rfl ?_;rw[if_pos rfl];refine dw_seq ?_;refine dwk [(36,.v (.int .i64 (most + 1)))] TF6_ok hnt fun K hK=>?_;refine And.intro (dintE (IntWalk.i64_in _ (by omega))) ?_
       refine hK _ _ ?_;clear hK K;refine dw_ret ?_
       exact retv (N:=0) (.inr rfl) rfl (VLe.refl _) trivial
     ·rw[if_neg hn] at hj1
      rw[←hj1] at hV
      dsimp only at hV
      refine dwk [(18,.v (.bool true)),(22,.v (.bool false))] TF6_ok hnt fun K hK=>?_;refine And.intro (dtrue (by rw[eTys_len];omega)) ?_;refine And.intro (dfalse hn) ?_;refine hK _ _ ?_;clear hK K;refine dw_cond (t:=false) rfl ?_;rw[if_neg (by simp)];refine dw_exit ?_
      exact cutE_ok (Q:=RetOk TF6 [ResultVar.tmp 6] (.v (.int .i64 V)) []) ⟨n,by omega,hj3,hV.symm⟩ VS.toA
    ·rw[List.drop_eq_nil_of_le (by omega),fewB1] at hj1
     rw[←hj1] at hV
     dsimp only at hV
     refine dwk [(18,.v (.bool false))] TF6_ok hnt fun K hK=>?_;refine And.intro (dfalse (by rw[eTys_len];omega)) ?_;refine hK _ _ ?_;clear hK K;refine dw_cond (t:=false) rfl ?_;rw[if_neg (by simp)];refine dw_exit ?_
     exact cutE_ok (Q:=RetOk TF6 [ResultVar.tmp 6] (.v (.int .i64 V)) []) ⟨n,by omega,hj3,hV.symm⟩ VS.toA
   ·obtain⟨n0,hn1,hn2,hVn⟩:=n
    dsimp only
    rw[hVn]
    refine dw_seq (dw_seq ?_);refine dwk [] TF6_ok hnt fun K hK=>hK _ _ ?_;clear hK K;refine dw_block ?_
    refine dw_loop (ι:={ p:Nat×Int // fewMs most (a.drop p.1) (d - 1) p.2=fewMs most a (d - 1) n0∧(p.1:Int) + 1≤p.2∧p.2≤2000000∧p.1≤a.length }) (fun p=>[(.t 1,.v (.int .i64 most)),(.t 2,.v (.int .i64 d)),(.t 3,.p 0 0),(.t 7,.v (.int .i64 p.1.2)),(.t 9,.v (.int .i64 (p.1.1:Int))),(.c 0 0,.sl 2 (eTys bs) none),(.c 0 1,.v (.int .i64 k)),(.c 0 2,.v (.int .i64 i)),(.c 0 3,.sl 4 (eTms a) none)]) 1 (fun p=>a.length - p.1.1) ⟨(0,n0),by simp,by dsimp only;omega,by dsimp only;omega,by simp⟩ VS.toA fun p=>?_
    obtain⟨⟨j,n⟩,hj1,hj2,hj3,hj4⟩:=p
    dsimp only at hj1 hj2 hj3 hj4 ⊢
    refine dw_seq (dw_seq ?_)
    by_cases hlt:j < a.length
    ·have hdr:a.drop j=a[j] :: a.drop (j + 1):=List.drop_eq_getElem_cons hlt
     rw[hdr,fewMs] at hj1
     by_cases hn:n≤most
     ·rw[if_pos hn] at hj1
      have hih:=ih a[j] (List.getElem_mem hlt) (d - 1) (by omega) (by omega)
      rw[eTm_eq] at hih
      have hbd:=fewM_le h1 1000 a[j] (d - 1) (by omega) (by omega)
      have hbd2:most * ((1000:Nat):Int)≤1000000:=by
       have:most * ((1000:Nat):Int)=1000 * most:=by rw[Int.mul_comm];rfl
       omega
      refine dwk [(49,.v (.bool true)),(53,.v (.bool true))] TF6_ok hnt fun K hK=>?_;refine And.intro (dtrue (by rw[eTms_len];omega)) ?_;refine And.intro (dtrue hn) ?_;refine hK _ _ ?_;clear hK K;refine dw_cond (t:=true) rfl ?_;rw[if_pos rfl];refine dw_skip ?_;refine dw_seq (dw_block ?_);refine dwk [(61,.q [.sl 2 (eTys a[j].binds) none,.v (.int .i64 a[j].kind),.v (.int .i64 a[j].index),.sl 4 (eTms a[j].args) none]),(65,.v (.int .i64 (d - 1))),(67,.v (.int .i64 (n + fewM most a[j] (d - 1))))] TF6_ok hnt fun K hK=>?_
      refine And.intro (⟨by omega,by rw[eTms_len];omega⟩) ?_;refine And.intro (VLe.of_eq (by rw[Int.toNat_natCast,eTms_getD a j hlt,eTm_eq])) ?_;refine And.intro (dintE (IntWalk.i64_in _ (by omega))) ?_;refine dcl (hih) ?_;refine And.intro (dintE (IntWalk.i64_in _ (by omega))) ?_;refine hK _ _ ?_;clear hK K;refine dwk [(56,.v (.int .i64 ((j + 1:Nat):Int)))] TF6_ok hnt fun K hK=>?_;refine And.intro (dintE (by rw[IntWalk.i64_in _ (by omega)];omega)) ?_
      refine hK _ _ ?_;clear hK K
      exact⟨⟨(j + 1,n + fewM most a[j] (d - 1)),hj1,by dsimp only;omega,by dsimp only;omega,hlt⟩,by dsimp only;omega,VS.toA⟩
     ·rw[if_neg hn] at hj1
      rw[←hj1]
      refine dwk [(49,.v (.bool true)),(53,.v (.bool false))] TF6_ok hnt fun K hK=>?_;refine And.intro (dtrue (by rw[eTms_len];omega)) ?_;refine And.intro (dfalse hn) ?_;refine hK _ _ ?_;clear hK K;refine dw_cond (t:=false) rfl ?_;rw[if_neg (by simp)];refine dw_exit ?_;refine dw_seq ?_;refine dwk [] TF6_ok hnt fun K hK=>hK _ _ ?_;clear hK K;refine dw_ret ?_
      exact retv (N:=0) (.inr rfl) rfl (VLe.refl _) trivial
    ·rw[List.drop_eq_nil_of_le (by omega),fewMs] at hj1
     rw[←hj1]
     refine dwk [(49,.v (.bool false))] TF6_ok hnt fun K hK=>?_;refine And.intro (dfalse (by rw[eTms_len];omega)) ?_;refine hK _ _ ?_;clear hK K;refine dw_cond (t:=false) rfl ?_;rw[if_neg (by simp)];refine dw_exit ?_;refine dw_seq ?_;refine dwk [] TF6_ok hnt fun K hK=>hK _ _ ?_;clear hK K;refine dw_ret ?_
     exact retv (N:=0) (.inr rfl) rfl (VLe.refl _) trivial
theorem Few6_d (most:Int)(h1:1≤most)(h2:most≤1000)(t:Tm)(d:Int)(h3:-1000≤d)(h4:d≤1000):PureC Tryz.prog 8 [.ag (eTm t),.v (.int .i64 most),.v (.int .i64 d)] (.v (.bool (decide (fewM most t d≤most)))):=by
 have h:=few6_d most h1 h2 t d h3 h4
 rw[eTm_eq] at h ⊢
 refine call_of_dw 0 13 [ResultVar.tmp 6] TF6_ok (by kernel_rfl) Tryz.func8 rfl Tryz.ntmps8 rfl (by simp) ?dwords ?dbody
 case dwords=>simp[wordsOk,D.ok,D.oks,rnames,eTys_ok,eTms_ok]
 case dbody=>
  intro cx hnt hn0
  refine dw_seq ?_;refine dwk [] TF6_ok hnt fun K hK=>hK _ _ ?_;clear hK K;refine dw_seq ?_;refine dwk [] TF6_ok hnt fun K hK=>?_;refine dcl (h) ?_;refine hK _ _ ?_;clear hK K;refine dw_ret ?_
  exact retv (N:=0) (.inr rfl) rfl (VLe.refl _) trivial

theorem fewB1_full {most d:Int}(hm:1≤most)(hd:d≤1000):∀ (l:List Ty) (n r:Int),fewB1 most d l n=some r→r≤most→r=n + Ty.sizes l
 | [],n,r,h,_=>by rw[fewB1] at h;cases h;simp[Ty.sizes]
 | t :: l,n,r,h,hr=>by
  rw[fewB1] at h
  split at h
  ·split at h
   ·have:=fewB1_full hm hd l _ r h hr
    rw[this,Ty.sizes];omega
   ·cases h
  ·cases h;omega
theorem fewMs_full {most:Int}:∀ (l:List Tm) (d n:Int),(∀ t∈l,fewM most t d≤most→(t.full:Int)=fewM most t d∧(t.depth:Int)≤d)→(∀ t∈l,1≤fewM most t d)→1≤n→fewMs most l d n≤most→fewMs most l d n=n + Tm.fulls l∧(∀ t∈l,(t.depth:Int)≤d)∧n≤most
 | [],d,n,_,_,_,h=>by rw[fewMs] at h ⊢;exact⟨by simp[Tm.fulls],nofun,h⟩
 | t :: l,d,n,h,h1,hn,hf=>by
  rw[fewMs] at hf ⊢
  split at hf
  ·rename_i hm
   rw[if_pos hm]
   have h2:=h1 t (by simp)
   obtain⟨h3,h4,h5⟩:=fewMs_full l d _ (fun u hu=>h u (by simp[hu])) (fun u hu=>h1 u (by simp[hu])) (by omega) hf
   obtain⟨h6,h7⟩:=h t (by simp) (by omega)
   refine⟨by rw[h3,Tm.fulls];omega,fun u hu=>?_,hm⟩
   rcases List.mem_cons.1 hu with rfl | hu
   ·exact h7
   ·exact h4 u hu
  ·rename_i hm;omega
theorem depths_max {d:Int}(hd:0≤d):∀ (l:List Tm),(∀ t∈l,(t.depth:Int)≤d)→(Tm.depths l:Int)≤d
 | [],_=>by simp[Tm.depths];exact hd
 | t :: l,h=>by
  have h1:=h t (by simp)
  have h2:=depths_max hd l fun u hu=>h u (by simp[hu])
  simp only[Tm.depths];omega
theorem fewM_full {most:Int}(hm:1≤most):∀ (k:Nat) (t:Tm) (d:Int),k≤1000→d≤k→fewM most t d≤most→(t.full:Int)=fewM most t d∧(t.depth:Int)≤d
 | 0,.mk bs kd i a,d,hk,hd,h=>by rw[fewM,if_pos (by omega)] at h;omega
 | k + 1,.mk bs kd i a,d,hk,hd,h=>by
  rw[fewM] at h ⊢
  split at h
  ·omega
  ·rename_i hp
   rw[if_neg hp]
   cases hb:fewB1 most d bs 1 with
   | none=>rw[hb] at h;dsimp only at h;omega
   | some n=>
    rw[hb] at h
    dsimp only at h ⊢
    have hn:=fewB1_le hm (by omega) bs 1 (by omega) (by omega) n hb
    obtain⟨h3,h4,h5⟩:=fewMs_full a (d - 1) n (fun t _=>fewM_full hm k t (d - 1) (by omega) (by omega)) (fun t _=>(fewM_le hm k t (d - 1) (by omega) (by omega)).1) hn.1 h
    have h6:=fewB1_full hm (by omega) bs 1 n hb h5
    have h7:=depths_max (by omega) a h4
    rw[Tm.full_eq,Tm.depth_eq]
    constructor
    ·omega
    ·omega
theorem to6_d (t:Tm)(h:t.full≤900000):PureC Tryz.prog 13 [.ag (eTm t)] (.ag (eTm t)):=to6D_d t h
namespace Pn
theorem walkL_bd:∀ (l:List (Tm×Tm)) (b b':Bd),(∀ p∈l,PPok p)→walkL l b=some b'→BdOk b→BdOk b'∧b'.length≤b.length + 250 * l.length
 | [],b,b',_,h,hb=>by rw[walkL] at h;cases h;exact⟨hb,Nat.le_add_right _ _⟩
 | p :: l,b,b',hp,h,hb=>by
  rw[walkL] at h
  split at h
  ·obtain⟨ok1,ok2,ok3,ok4,ok5⟩:=hp p (by simp)
   have h1:=walk_bd p.1 p.2 [] b hb (by simp[Ty.sizes];omega) ok3 ok4 ok5
   have h2:=walk_len p.1 p.2 [] b
   have h3:=walkL_bd l _ b' (fun q hq=>hp q (by simp[hq])) h h1
   refine⟨h3.1,?_⟩
   have:=h3.2
   rw[List.length_cons];omega
  ·cases h
theorem mAll_ok (l:List (Tm×Tm))(hp:∀ p∈l,PPok p):(∀ p∈(mAll l).1,p.2.full≤80000∧p.2.Fit)∧(mAll l).1.length≤250 * l.length:=by
 unfold mAll
 split
 ·cases hw:walkL l [] with
  | none=>exact⟨nofun,Nat.zero_le _⟩
  | some b=>
   have h:=walkL_bd l [] b hp hw bdOk_nil
   refine⟨fun p hp=>?_,by dsimp only;rw[So.ss_len];simpa using h.2⟩
   have hm:=(So.ss_same b).mem hp
   exact⟨h.1.full p hm,h.1.fit p hm⟩
 ·exact⟨nofun,Nat.zero_le _⟩
end Pn
namespace Pn
end Pn
namespace Pn
def hit (p:Tm)(s:Spot):Bool:=decide ((mAll [(p,nb s.1)]).2=0)
def fnd (p t:Tm):List Int×List (Int×Tm)×Int:=
 if p.binds≠[] then ([],[],1)
 else if may p≠0 then ([],[],may p)
 else match (subs t [] []).find? (hit p) with
  | some s=>(s.2.2,(mAll [(p,nb s.1)]).1,0)
  | none=>([],[],10)
theorem subss_low {a:List Tm}(h:∀ u∈a,∀ ar p,∀ s∈subs u ar p,lowB s.1=true)(ar:List Ty)(p:List Int)(j:Nat):∀ s∈subss a ar p j,lowB s.1=true:=fun s hs=>by
 obtain⟨i,hi,hs⟩:=subss_mem ar p a j hs
 exact h _ (List.getElem_mem hi) _ _ s hs
theorem subs_low (t:Tm):lowB t=true→∀ (ar:List Ty) (p:List Int),∀ s∈subs t ar p,lowB s.1=true:=by
 induction t using Tm.ind with
 | h bs k i a ih=>
  intro hl ar p s hs
  rw[subs_eq] at hs
  rcases List.mem_cons.1 hs with rfl | hs
  ·exact hl
  ·rw[lowB_eq] at hl
   simp only[Bool.and_eq_true] at hl
   exact subss_low (fun u hu=>ih u hu (low_mem hl.2 u hu)) _ _ _ s hs
theorem find_none {α:Type}{f:α→Bool}{l:List α}(h:∀ i (hi:i < l.length),f l[i]=false):l.find? f=none:=by
 rw[List.find?_eq_none]
 intro x hx
 obtain⟨i,hi,rfl⟩:=List.getElem_of_mem hx
 rw[h i hi];simp
theorem find_at {α:Type}{f:α→Bool}{l:List α}{j:Nat}(hj:j < l.length)(h:∀ i (hi:i < l.length),i < j→f l[i]=false)(hf:f l[j]=true):l.find? f=some l[j]:=by
 rw[List.find?_eq_some_iff_append]
 refine⟨hf,l.take j,l.drop (j + 1),?_,fun x hx=>?_⟩
 ·rw[←List.drop_eq_getElem_cons hj,List.take_append_drop]
 ·obtain⟨i,hi,rfl⟩:=List.getElem_of_mem hx
  rw[List.length_take] at hi
  rw[List.getElem_take,h i (by omega) (by omega)];rfl
end Pn
namespace Pn
variable {C M:List Ty}
theorem isOf_low (t:Tm):∀ (X:List Ty) (u:Ty),IsOf C M t X u→X.length + t.full≤900000→lowB t=true:=by
 induction t using Tm.ind with
 | h b k i a ih=>
  intro X u ht hz
  obtain⟨rfl,h,h1,h2,h3⟩:=isOf_mk.1 ht
  rw[Tm.full_eq] at hz
  have hbl:=Ty.le_sizes u.args
  have hal:(X ++ u.args).length=X.length + u.args.length:=List.length_append
  rw[lowB_eq]
  show (!(decide (k=0) && decide (900000 < i)) && lowsB a)=true
  have hi:¬ (k=0∧900000 < i):=by
   rintro⟨rfl,hi⟩
   obtain⟨n,rfl⟩:∃ n:Nat,i=n:=⟨i.toNat,by omega⟩
   rw[headTy_0] at h1
   have:=(List.getElem?_eq_some_iff.1 h1).1
   rw[List.length_reverse] at this
   omega
  have e1:(!(decide (k=0) && decide (900000 < i)))=true:=by
   rw[Bool.not_eq_true',←Bool.not_eq_true,Bool.and_eq_true,decide_eq_true_eq,decide_eq_true_eq];exact hi
  rw[e1,Bool.true_and,lowsB_all,List.all_eq_true]
  intro v hv
  obtain⟨j,hj,rfl⟩:=List.getElem_of_mem hv
  have hl:=isOfs_len h3
  have:=Tm.full_mem (List.getElem_mem hj)
  exact ih _ (List.getElem_mem hj) _ _ ((isOfs_iff.1 h3).2 j hj (by omega)) (by omega)
theorem mAll_not {l:List (Tm×Tm)}(h:(mAll l).2≠0):(mAll l).1=[]:=by
 unfold mAll at h ⊢
 split
 ·rename_i h0
  rw[if_pos h0] at h
  cases hw:walkL l [] with
  | some b=>rw[hw] at h;exact absurd rfl h
  | none=>rfl
 ·rfl
theorem nb_self {p t:Tm}{s:Bd}(h:mAll [(p,t)]=(s,0))(hb:¬ p.binds≠[]):nb t=t:=by
 obtain⟨b,hw,_,hm⟩:=mAll_one h
 obtain⟨pb,pk,pi,pa⟩:=p
 obtain⟨tb,tk,ti,ta⟩:=t
 have hb:pb=[]:=Classical.byContradiction hb
 subst hb
 rw[walk] at hw
 by_cases hn:([]:List Ty)≠(Tm.mk tb tk ti ta).binds
 ·rw[if_pos hn] at hw;cases (Prod.mk.inj hw).1
 ·have hn:[]=tb:=Classical.byContradiction hn
  subst hn;rfl
theorem fnd_self {p t:Tm}{s:Bd}(h:mAll [(p,t)]=(s,0)):fnd p t=if p.binds≠[] then ([],[],1) else ([],s,0):=by
 obtain⟨b,hw,_,hm⟩:=mAll_one h
 unfold fnd
 by_cases hb:p.binds≠[]
 ·rw[if_pos hb,if_pos hb]
 ·rw[if_neg hb,if_neg hb,if_neg (fun h=>h hm)]
  have hb:p.binds=[]:=Classical.byContradiction hb
  have hnb:nb t=t:=nb_self h fun h=>h hb
  have hs:∃ r,subs t [] []=(t,t.binds,[]) :: r:=by
   obtain⟨tb,tk,ti,ta⟩:=t
   rw[subs_eq];exact⟨_,rfl⟩
  obtain⟨r,hr⟩:=hs
  have hh:hit p (t,t.binds,[])=true:=by
   unfold hit
   rw[decide_eq_true_eq]
   show (mAll [(p,nb t)]).2=0
   rw[hnb,h]
  rw[hr,List.find?_cons_of_pos hh]
  show ([],(mAll [(p,nb t)]).1,(0:Int))=_
  rw[hnb,h]
end Pn

def ownPostX {α:Type}(B:Nat)(Kp Kx:World→World→Prop)(I:List α→World→Prop)(Ix:Code→List α→World→Prop)(xs:List α)(W:World):Exit→Act→World→Prop
 | .normal,_,W'=>KeepsFrom B W W'∧Kp W W'∧I xs W'
 | .ret,_,W'=>KeepsFrom B W W'∧Kx W W'∧Ix .ret xs W'
 | .exit id,_,W'=>KeepsFrom B W W'∧Kx W W'∧Ix (.exit id) xs W'
 | .goto t,_,W'=>KeepsFrom B W W'∧Kx W W'∧Ix (.goto t) xs W'
 | .panic _,_,_=>False
 | .outgrown,_,_=>False

def SeqSoftR {α:Type}(Ok:Obj→Prop)(F:Fence)(n:Nat)(P:Program)(g:Nat)(lb:Array Value)(encs:α→Array Value)(R:α→World→Prop)(Kp Kx:World→World→Prop)(S Sp:List α→Prop)(N:Nat)(w:World):Prop:=
 ∀ (l:Nat) (J Jx:List α→World→Prop) (W:World),Below w.heap.size w W→Mild Ok W.heap.size J→Mild Ok W.heap.size Jx →
  (∀ pre x V,J pre V→R x V→pre.length < N→YieldAt F (n - 1) P l (encs x) V fun e V'=>(e=.returned (.bool true)∧J (pre ++ [x]) V'∧Kp V V')∨(e=.returned (.bool false)∧Jx (pre ++ [x]) V'∧Kx V V')) →
  J [] W→CallsIn F n P g (#[.func (.yield l) #[] #[]] ++ lb) W fun e W'=>(∃ v,e=.returned v)∧((∃ xs,S xs∧J xs W')∨(∃ pre,Sp pre∧Jx pre W'))

theorem range_softR {Ok : Obj → Prop} (hOk : ∀ o : Obj, o.isCells = false → Ok o) {F : Fence} {n : Nat} {P : Program} {α : Type} {g : Operand} {ps : Array Tmp} {assign body : Code} {Q : Exit → Act → World → Prop} {a : Act} {w : World}
    (hro : F.round = none) (hn : 1 ≤ n) {gf : Nat} {lb : Array Value} (hg : a.eval g = .func (.func gf) #[] lb) (hF : F.fn gf) (eg : ∀ args w, (callFunc gf args).run P w = .ok (.enter gf args) w)
    {encs : α → Array Value} {R : α → World → Prop} {Kp Kx : World → World → Prop} {S Sp : List α → Prop} {N : Nat} {w0 : World} (hseq : SeqSoftR Ok F (n - 1) P gf lb encs R Kp Kx S Sp N w0)
    (hKt : ∀ {X Y Z : World}, Kp X Y → Kp Y Z → Kp X Z) (hKx : ∀ {X Y Z : World}, Kp X Y → Kx Y Z → Kx X Z) (hKy : ∀ {X Y Z : World}, Kx X Y → Kp Y Z → Kx X Z) (hKb : ∀ (W : World) (l : Nat) (o o' : Obj), w.heap.size ≤ l → W.heap[l]? = some o → o.isCells = false → o.isWalk = false → Kp W (W.putObj l o')) (hw0 : Below w0.heap.size w0 w) (hps : ∀ x, (encs x).size = ps.size)
    (I : List α → World → Prop) (Ix : Code → List α → World → Prop) (hI : Mild Ok w.heap.size I) (hIx : ∀ c, Mild Ok w.heap.size (Ix c)) (h0 : I [] w) (Ra : α → Act → World → Prop) (hRa : ∀ x a' W l (o o' : Obj), w.heap.size ≤ l → W.heap[l]? = some o → o.isCells = false → Ra x a' W → Ra x a' (W.putObj l o'))
    (hassign : ∀ (l : Nat) (pre : List α) (x : α) (W : World) (K : Act → World → Prop), I pre W → R x W → (∀ a' W', KeepsFrom w.heap.size W W' → Kp W W' → I pre W' → Ra x a' W' → K a' W') →
      assign.wpIn (F.inRound l) (n - 1 - 1) P (Exit.then K (fun _ _ _ => False)) { tmps := (ps.zip (encs x)).foldl (fun t (p, v) => t.setIfInBounds p v) a.tmps, defers := [] } W)
    (hbody : ∀ (l : Nat) (pre : List α) (x : α) (a' : Act) (W : World), I pre W → pre.length < N → Ra x a' W → body.wpIn (F.inRound l) (n - 1 - 1) P (ownPostX w.heap.size Kp Kx I Ix (pre ++ [x]) W) a' W)
    (hdone : ∀ (D : Nat) (xs : List α) (W : World), w.heap.size ≤ D → S xs → I xs W → W.heap[D]? = some (.deferred (some [])) → Q .normal { a with defers := { target := .collected D, args := #[] } :: a.defers } W)
    (hstop : ∀ (D : Nat) (c : Code) (pre : List α) (W : World), w.heap.size ≤ D → Sp pre → Ix c pre W → W.heap[D]? = some (.deferred (some [])) → c.wpIn F n P Q { a with defers := { target := .collected D, args := #[] } :: a.defers } W) :
    (Code.rangeFunc g ps assign body).wpIn F n P Q a w := by
  refine wpIn_rangeFunc fun fn hfn => ?_
  rw [hro]
  let L : LoopState → Option Code → Obj := fun st pe => .loop { state := st, pending := pe, fn, tmps := a.tmps, params := ps, assign, body, defers := w.heap.size }
  let D : Obj := .deferred (some [])
  obtain ⟨W1, hW1⟩ : ∃ W1, (w.alloc D).alloc (L .ready none) = W1 := ⟨_, rfl⟩
  have hz : W1.heap.size = w.heap.size + 2 := by rw [← hW1]; simp
  have hL : W1.heap[w.heap.size + 1]? = some (L .ready none) := by rw [← hW1]; have h := World.alloc_heap_new (w.alloc D) (L .ready none); rwa [World.size_alloc] at h
  have hD : W1.heap[w.heap.size]? = some D := by rw [← hW1]; exact (Below.heap_alloc _ _ _ (by simp)).trans (World.alloc_heap_new w D)
  refine ⟨w.heap.size + 1, [{ target := .collected w.heap.size, args := #[] }], W1, { target := .fn (.func gf) lb, args := #[.func (.yield (w.heap.size + 1)) #[] #[]] }, W1, gf,
    #[.func (.yield (w.heap.size + 1)) #[] #[]] ++ lb, W1, by rw [← hW1]; exact run_enterLoop_outer _ _ _ _ _, by simp only [resolve, hg]; simp [go_sem], ?_, by simp [invoke, go_sem, eg], fun _ => hn, ?_⟩
  · intro f' hf'; simp [Target.leads] at hf'; subst hf'; exact hF
  have up : ∀ {β : Type} {J : β → World → Prop}, Mild Ok w.heap.size J → Mild Ok W1.heap.size J := fun h => h.up (by omega)
  have m1 : ∀ (o : Obj), Mild Ok W1.heap.size (fun (_ : List α) W => W.heap[w.heap.size + 1]? = some o) := fun o => mild_block (by omega)
  have m0 : Mild Ok W1.heap.size (fun (_ : List α) W => W.heap[w.heap.size]? = some D) := mild_block (by omega)
  refine (hseq (w.heap.size + 1)
    (fun pre W => I pre W ∧ W.heap[w.heap.size + 1]? = some (L .ready none) ∧ W.heap[w.heap.size]? = some D)
    (fun pre W => ∃ c, Ix c pre W ∧ W.heap[w.heap.size + 1]? = some (L .done (some c)) ∧ W.heap[w.heap.size]? = some D) W1
    (by rw [← hW1]; exact hw0.trans ((((Below.refl _ w).alloc (Nat.le_refl _) _).alloc (by simp) _).mono hw0.size))
    ((up hI).and ((m1 _).and m0)) (fun s A B row ⟨c, h1, h2, h3⟩ hgr hr => ⟨c, up (hIx c) s A B row h1 hgr hr, m1 _ s A B row h2 hgr hr, m0 s A B row h3 hgr hr⟩)
    ?_ ⟨by rw [← hW1]; exact hI.alloc (hI.alloc h0 _) _, hL, hD⟩).mono ?_
  · -- a round
    rintro pre x V0 ⟨hi0, hl0, hd0⟩ hR0 hlen
    refine ⟨fn, _, assign, body, run_yield (P := P) (args := encs x) hl0 (hps x), roundIn_of_wpIn hfn (hassign _ pre x V0 _ hi0 hR0 fun a' V hkf hkp0 hi hra => ?_)⟩
    have hl := hkf.same _ _ (by omega) hl0 rfl
    have hd := hkf.same _ _ (Nat.le_refl _) hd0 rfl
    have hlt : w.heap.size + 1 < V.heap.size := (Array.getElem?_eq_some_iff.1 hl).1
    refine ⟨_, run_beginRound hl rfl, ?_⟩
    obtain ⟨V2, hV2⟩ : ∃ V2, V.putObj (w.heap.size + 1) (L .busy none) = V2 := ⟨_, rfl⟩
    have hl2 : V2.heap[w.heap.size + 1]? = some (L .busy none) := by rw [← hV2]; exact World.putObj_heap_same hlt
    have hd2 : V2.heap[w.heap.size]? = some D := by rw [← hV2]; exact (World.putObj_heap_other (by omega)).trans hd
    have hk2 : Kp V0 V2 := by rw [← hV2]; exact hKt hkp0 (hKb _ _ _ _ (by omega) hl rfl rfl)
    have hi2 : I pre V2 := by rw [← hV2]; exact hI.put hOk hi _ hl rfl (by omega)
    have hra2 : Ra x a' V2 := by rw [← hV2]; exact hRa _ _ _ _ _ _ (by omega) hl rfl hra
    show Code.wpIn _ _ _ _ _ _ (V.putObj (w.heap.size + 1) (L .busy none))
    rw [hV2]
    clear hV2 hl hd hi hlt
    refine wpIn_mono (hbody _ pre x a' V2 hi2 hlen hra2) ?_
    have fin : ∀ (jump : Option Code) (V3 : World), KeepsFrom w.heap.size V2 V3 → V3.heap[w.heap.size + 1]? = some (L .busy none) ∧ ∃ V4, V4 = V3.putObj (w.heap.size + 1) (L (if jump.isNone then .ready else .done) jump) ∧
        (Instr.endRound (w.heap.size + 1) jump).run P V3 = .ok (.bool jump.isNone) V4 ∧ V4.heap[w.heap.size + 1]? = some (L (if jump.isNone then .ready else .done) jump) ∧ V4.heap[w.heap.size]? = some D := fun jump V3 hk => by
      have h1 := hk.same _ _ (by omega) hl2 rfl
      exact ⟨h1, _, rfl, run_endRound (P := P) jump h1, World.putObj_heap_same (Array.getElem?_eq_some_iff.1 h1).1, (World.putObj_heap_other (by omega)).trans (hk.same _ _ (Nat.le_refl _) hd2 rfl)⟩
    have out : ∀ (c : Code) (V3 : World), KeepsFrom w.heap.size V2 V3 → Kx V2 V3 → Ix c (pre ++ [x]) V3 → ∃ r V4, (Instr.endRound (w.heap.size + 1) (some c)).run P V3 = .ok r V4 ∧ (Ending.returned r = .returned (.bool false) ∧ (∃ c, Ix c (pre ++ [x]) V4 ∧ V4.heap[w.heap.size + 1]? = some (L .done (some c)) ∧ V4.heap[w.heap.size]? = some D) ∧ Kx V0 V4) := fun c V3 hk hkx hi => by
      obtain ⟨h3, V4, rfl, hr, h4, h5⟩ := fin (some c) V3 hk
      exact ⟨_, _, hr, rfl, ⟨c, (hIx c).put hOk hi _ h3 rfl (by omega), h4, h5⟩, hKy (hKx hk2 hkx) (hKb _ _ _ _ (by omega) h3 rfl rfl)⟩
    rintro e a3 V3 hp
    cases e with
    | normal =>
      obtain ⟨hk, hkp, hi⟩ := hp
      obtain ⟨h3, V4, rfl, hr, h4, h5⟩ := fin none V3 hk
      exact ⟨_, _, hr, .inl ⟨rfl, ⟨hI.put hOk hi _ h3 rfl (by omega), h4, h5⟩, hKt (hKt hk2 hkp) (hKb _ _ _ _ (by omega) h3 rfl rfl)⟩⟩
    | ret => obtain ⟨r, V4, hr, h⟩ := out .ret V3 hp.1 hp.2.1 hp.2.2; exact ⟨r, V4, hr, .inr h⟩
    | exit id => obtain ⟨r, V4, hr, h⟩ := out (.exit id) V3 hp.1 hp.2.1 hp.2.2; exact ⟨r, V4, hr, .inr h⟩
    | goto t => obtain ⟨r, V4, hr, h⟩ := out (.goto t) V3 hp.1 hp.2.1 hp.2.2; exact ⟨r, V4, hr, .inr h⟩
    | panic ch => exact hp.elim
    | outgrown => exact hp.elim
  · -- behind the iterator
    rintro e W2 ⟨⟨v, rfl⟩, ⟨xs, hS, hi, hl, hd⟩ | ⟨pre, hSp, c, hi, hl, hd⟩⟩
    · exact ⟨none, _, run_endLoop (P := P) hl (by simp), hdone _ xs _ (Nat.le_refl _) hS (hI.put hOk hi _ hl rfl (by omega)) ((World.putObj_heap_other (by omega)).trans hd)⟩
    · exact ⟨some c, _, run_endLoop (P := P) hl (by simp), hstop _ c pre _ (Nat.le_refl _) hSp ((hIx c).put hOk hi _ hl rfl (by omega)) ((World.putObj_heap_other (by omega)).trans hd)⟩
end Go.Proofs.YtflbnonbfmmchaaGreat
namespace Go.Proofs.YtflbnonbfmmchaaGreat

section
variable {P:Program} {ops:Array Oper} {Q:Exit→Act→World→Prop} {md:Region.Mode} {S:World→Prop}

theorem wpN_pick (rs:List Nat){n:Nat}{listed:Array Bool}{a:Act}{w:World}(hr:Region.ready md ops listed=rs)(hne:rs≠[]) 
  (h:∀ i∈rs,wpOp P ops Q i (fun a' w'=>(asksS ops i=true→S w')∧wpN P md ops Q S n (listed.setIfInBounds i true) a' w') a w):wpN P md ops Q S (n + 1) listed a w:=
 ⟨fun h0=>absurd (hr.symm.trans h0) hne,fun i hi=>wpOp_mono (fun _ _ hh=>⟨fun ha _=>hh.1 ha,hh.2⟩) (h i (by rw[hr] at hi;exact hi))⟩

theorem pick_two {p:Nat→Prop}{i j:Nat}(hi:p i)(hj:p j):∀ x∈[i,j],p x:=by
 intro x hx
 simp only[List.mem_cons,List.not_mem_nil,or_false] at hx
 rcases hx with rfl | rfl
 ·exact hi
 ·exact hj
end

def WideF (F:Fence):Prop:=F=Fence.wide∨∃ l,F=Fence.wide.inRound l
theorem wide_self:WideF Fence.wide:=.inl rfl
theorem wide_round (l:Nat):WideF (Fence.wide.inRound l):=.inr ⟨l,rfl⟩

def OnlyN (Q:Exit→Act→World→Prop):Exit→Act→World→Prop
 | .normal,a,w=>Q .normal a w
 | _,_,_=>False
theorem OnlyN.normal {Q:Exit→Act→World→Prop}{a:Act}{w:World}(h:Q .normal a w):OnlyN Q .normal a w:=h

theorem calls_wideF {F:Fence}(hw:WideF F)(n:Nat){P:Program}{f:FuncId}{args:Array Value}{w:World}{R:Ending→World→Prop}(h:Calls P f args w R):CallsIn F n P f args w R:=by
 rcases hw with rfl | ⟨l,rfl⟩
 ·exact callsIn_wide.2 h
 ·exact CallsIn.inRound l (callsIn_wide.2 h)
theorem rows_wideF {F:Fence}(hw:WideF F)(n:Nat){P:Program}{row:String}{args:Array Value}{w:World}{R:Value→World→Prop}(h:Rows P row args w R):RowsIn F n P row args w R:=by
 rcases hw with rfl | ⟨l,rfl⟩
 ·exact fun c cs _=>let ⟨v,w',r,s⟩:=h c cs;⟨v,w',r,stepsIn_wide.2 s⟩
 ·exact fun c cs _=>let ⟨v,w',r,s⟩:=h c cs;⟨v,w',r,stepsIn_wide.2 s⟩
theorem oper_in {F:Fence}(hw:WideF F){n:Nat}{P:Program}{o:Oper}(ho:∀ c,o.op≠.defer c){a:Act}{w:World}{K:Act→World→Prop}{Q:Exit→Act→World→Prop}(h:o.wp P a w K (OnlyN Q)):o.wpIn F n P a w K Q:=by
 have hfn:∀ f,F.fn f:=by rcases hw with rfl | ⟨l,rfl⟩ <;> intro f <;> trivial
 have hd:F.depth=none:=by rcases hw with rfl | ⟨l,rfl⟩ <;> rfl
 refine⟨fun f _=>hfn f,?_⟩
 rw[Oper.semAt_eq _ _ _ ho]
 unfold Oper.wp at h
 generalize (execOp a.eval o).run P w=r at *
 have hdd:F.depth.isSome=true→1≤n:=fun e=>by rw[hd] at e;cases e
 cases r with
 | ok x w'=>
  cases x <;> simp only[Oper.upon,Oper.uponIn] at h ⊢ <;>
   first
    | exact h
    | exact⟨hdd,(calls_wideF hw _ h).mono (fun e w'' he=>by cases e <;> first | exact he | exact he.elim | (obtain⟨_,_,he⟩:=he;exact he.elim))⟩
    | exact⟨hdd,rows_wideF hw _ h⟩
 | halt x w'=>cases x <;> simp only[Oper.upon,Oper.uponIn] at h ⊢ <;> first | exact h.elim | exact h

def noDefer (ops:Array Oper):Bool:=ops.toList.all fun o=>match o.op with | .defer _=>false | _=>true
theorem noDefer_spec {ops:Array Oper}(h:noDefer ops=true){i:Nat}{o:Oper}(ho:ops[i]?=some o)(c:Call):o.op≠.defer c:=by
 intro e
 have hm:o∈ops.toList:=by
  rw[←Array.getElem?_toList] at ho
  exact List.mem_of_getElem? ho
 have:=List.all_eq_true.1 h o hm
 simp[e] at this

theorem wpOp_in {F:Fence}(hw:WideF F){n:Nat}{P:Program}{ops:Array Oper}(hnd:noDefer ops=true){Q:Exit→Act→World→Prop}{i:Nat}{K:Act→World→Prop}{a:Act}{w:World}(h:wpOp P ops (OnlyN Q) i K a w):wpOpIn F n P ops Q i K a w:=by
 have hfn:∀ f,F.fn f:=by rcases hw with rfl | ⟨l,rfl⟩ <;> intro f <;> trivial
 unfold wpOp at h
 unfold wpOpIn
 split
 ·rename_i ho;simpa[ho] using h
 ·rename_i o ho
  simp only[ho] at h
  by_cases hwant:Region.wanted o (yielded ops a.tmps)=true
  ·rw[if_pos hwant] at h ⊢
   rcases h with h | ⟨_,_,_,h⟩
   ·exact oper_in hw (noDefer_spec hnd ho) h
   ·exact h.elim
  ·rw[if_neg hwant] at h ⊢
   exact⟨fun f _=>hfn f,h⟩

theorem wpAny_in {F:Fence}(hw:WideF F){n:Nat}{P:Program}{md:Region.Mode}{ops:Array Oper}(hnd:noDefer ops=true){Q:Exit→Act→World→Prop}:∀ (fuel:Nat) (listed:Array Bool) (a:Act) (w:World),wpAny P md ops (OnlyN Q) fuel listed a w→wpAnyIn F n P md ops Q fuel listed a w
 | 0,_,_,_,h=>h
 | fuel + 1,_,_,_,h=>⟨h.1,fun i hi=>wpOpIn_mono (fun _ _ hh=>wpAny_in hw hnd fuel _ _ _ hh) (wpOp_in hw hnd (h.2 i hi))⟩

theorem wpIn_region_need {F:Fence}{n:Nat}{P:Program}{ops:Array Oper}{Q:Exit→Act→World→Prop}{S:World→Prop}{id:Nat}{a:Act}{w:World}(hw:WideF F)(hm:P.follows .mixedOrders=true)(hnd:noDefer ops=true) 
  (h:wpN P .any ops (OnlyN Q) S ops.size (Array.replicate ops.size false) a w.drew):(Code.region id ops true).wpIn F n P Q a w:=
 wpIn_region_any hm (wpAny_in hw hnd _ _ _ _ (wpN_any _ _ _ _ h))
end Go.Proofs.YtflbnonbfmmchaaGreat
namespace Go.Proofs.YtflbnonbfmmchaaGreat
open Go.RowKit Go.Shelf
def TFRR_41:TI:=⟨4,true,[Value.slice none 0 0,Value.int IntKind.i64 0,Value.int IntKind.i64 0,Value.slice none 0 0],[(0,1,false),(1,2,true),(3,1,false)],none,64,6,none,false⟩
theorem TFRR_41_ok:TypOk Tryz.prog 41 TFRR_41:=by constructor <;> kernel_rfl
def TFRR_59:TI:=⟨1,false,[Value.slice none 0 0],[],some 3,24,5,none,false⟩
theorem TFRR_59_ok:TypOk Tryz.prog 59 TFRR_59:=by constructor <;> kernel_rfl
def TFRR_39:TI:=⟨1,false,[Value.slice none 0 0],[],some 41,24,5,none,false⟩
theorem TFRR_39_ok:TypOk Tryz.prog 39 TFRR_39:=by constructor <;> kernel_rfl
def TFRR_3:TI:=⟨1,false,[Value.int IntKind.i64 0],[],none,8,2,none,false⟩
theorem TFRR_3_ok:TypOk Tryz.prog 3 TFRR_3:=by constructor <;> kernel_rfl
def TFRR_213:TI:=⟨1,false,[Value.nilFunc],[],none,8,8,none,false⟩
theorem TFRR_213_ok:TypOk Tryz.prog 213 TFRR_213:=by constructor <;> kernel_rfl
def TFRR:List (Nat×TI):=[(41,TFRR_41),(59,TFRR_59),(39,TFRR_39),(3,TFRR_3),(213,TFRR_213)]
theorem TFRR_ok:TabOk Tryz.prog TFRR:=((((((TabOk.nil _).cons TFRR_213_ok).cons TFRR_3_ok).cons TFRR_39_ok).cons TFRR_59_ok).cons TFRR_41_ok)
attribute [local go_sem] Oper.semAt_some

def RF (F:Nat→Prop)(w:World)(v:Value)(d:D):Prop:=Rel m00 (cellI F w) w v d
theorem RF.keep {F F':Nat→Prop}{w w':World}{v:Value}{d:D}(h:RF F w v d)(hF:∀ k,F k→F' k)(hk:Keep F w w'):RF F' w' v d:=
 Rel.mono h (Mp.le.refl _) (fun b o v hi hv=>hk b o v hi.1 hv) (fun b o hi=>⟨hF b hi.1,by obtain⟨v,hv⟩:=hi.2;exact⟨v,hk b o v hi.1 hv⟩⟩)
theorem RF.bel {F:Nat→Prop}{w w':World}{v:Value}{d:D}(h:RF F w v d)(hb:Below w.heap.size w w'):RF F w' v d:=h.keep (fun _ h=>h) ((Keep.refl _ _).below hb)
theorem rel_cell {m:Mp}{Im:Nat→Nat→Prop}{w:World}{x:Value}{d:D}(h:Rel m Im w x d):Rel m (fun b o=>Im b o∧∃ v,w.cell? ⟨b,o,none⟩=some v) w x d:=by
 induction h with
 | v x=>exact .v x
 | p k off b h=>exact .p k off b h
 | o k b h=>exact .o k b h
 | mo k b h=>exact .mo k b h
 | q bl off X l h hr ih=>exact .q bl off X l (fun i hl=>⟨(h i hl).1,(h i hl).2,_,(h i hl).1⟩) ih
 | sl a c bl off n X l g h1 ha hc hn ho hr hg ih=>exact .sl a c bl off n X l g h1 ha (fun i j hl hj=>⟨(hc i j hl hj).1,(hc i j hl hj).2,_,(hc i j hl hj).1⟩) hn ho ih hg
 | cl a n l h ih=>exact .cl a n l ih
 | ps a c g len ha hc h=>exact .ps a c g len ha hc h
 | pt a c g len n lo h=>exact .pt a c g len n lo h
 | pr g len n i j b h=>exact .pr g len n i j b h
 | ag cs l hn hr ih=>exact .ag cs l hn ih
 | tu cs l hn hr ih=>exact .tu cs l hn ih
 | fn f cs l hn hr ih=>exact .fn f cs l hn ih
theorem calls_rf {P:Program}{f:FuncId}{ds:List D}{V:D}(h:PureC P f ds V){F:Nat→Prop}{w:World}{vs:List Value}(hv:RelL m00 (cellI F w) w vs ds):
  Calls P f vs.toArray w fun e w'=>∃ v,e=.returned v∧Below w.heap.size w w'∧RF (fun k=>F k∨w.heap.size≤k) w' v V:=by
 refine(calls_of_pure h cellI_ok hv).mono ?_
 rintro e w' ⟨v,Im',rfl,hb,hr,hi⟩
 exact⟨v,rfl,hb,(rel_cell hr).mono (Mp.le.refl _) (KeepI.refl _ _) (fun b o h=>⟨(hi b o h.1).imp (fun h=>h.1) id,h.2⟩)⟩
def RX (X:Nat→Nat→Prop)(w:World)(v:Value)(d:D):Prop:=Rel m00 (fun b o=>X b o∧∃ v,w.cell? ⟨b,o,none⟩=some v) w v d
theorem RX.keep {X X':Nat→Nat→Prop}{w w':World}{v:Value}{d:D}(h:RX X w v d)(hX:∀ b o,X b o→X' b o)(hk:∀ b o v,X b o→w.cell? ⟨b,o,none⟩=some v→w'.cell? ⟨b,o,none⟩=some v):RX X' w' v d:=
 Rel.mono h (Mp.le.refl _) (fun b o v hi hv=>hk b o v hi.1 hv) (fun b o hi=>⟨hX b o hi.1,by obtain⟨v,hv⟩:=hi.2;exact⟨v,hk b o v hi.1 hv⟩⟩)
theorem RX.of {m:Mp}{Im X:Nat→Nat→Prop}{w:World}{v:Value}{d:D}(h:Rel m Im w v d)(hd:d.ok (fun _=>false) (fun _=>false)=true)(hX:∀ b o,Im b o→X b o):RX X w v d:=by
 have hc:=Rel.cut (f:=fun _=>false) (g:=fun _=>false) h hd
 have hmc:m.cut (fun _=>false) (fun _=>false)=m00:=by simp[Mp.cut,m00]
 rw[hmc] at hc
 exact(rel_cell hc).mono (Mp.le.refl _) (KeepI.refl _ _) (fun b o h=>⟨hX b o h.1,h.2⟩)
theorem calls_rx {P:Program}{f:FuncId}{ds:List D}{V:D}(h:PureC P f ds V){X:Nat→Nat→Prop}{w:World}{vs:List Value}(hv:RelL m00 (fun b o=>X b o∧∃ v,w.cell? ⟨b,o,none⟩=some v) w vs ds):
  Calls P f vs.toArray w fun e w'=>∃ v,e=.returned v∧Below w.heap.size w w'∧RX (fun b o=>X b o∨w.heap.size≤b) w' v V:=by
 refine(calls_of_pure h (fun b o h=>h.2) hv).mono ?_
 rintro e w' ⟨v,Im',rfl,hb,hr,hi⟩
 exact⟨v,rfl,hb,(rel_cell hr).mono (Mp.le.refl _) (KeepI.refl _ _) (fun b o h=>⟨(hi b o h.1).imp (fun h=>h.1) id,h.2⟩)⟩
theorem rx_arg {Y:Nat→Nat→Prop}{w:World}{b k i:Value}{bl off n c:Nat}{t:Tm}(h:RX Y w (.agg #[b,k,i,.slice (some ⟨bl,off,none⟩) n c]) (.ag (eTm t)))(j:Nat)(hj:j < t.args.length){v0 v1 v2 v3:Value} 
  (c0:w.cell? ⟨bl,off + j * 4,none⟩=some v0) (c1:w.cell? ⟨bl,off + j * 4 + 1,none⟩=some v1) (c2:w.cell? ⟨bl,off + j * 4 + 2,none⟩=some v2) (c3:w.cell? ⟨bl,off + j * 4 + 3,none⟩=some v3):RX Y w (.agg #[v0,v1,v2,v3]) (.ag (eTm t.args[j])):=by
 obtain⟨cs,he,hcs⟩:=rel_ag.1 h
 rw[eTm_eq] at hcs
 match cs,hcs,he with
 | [a1,a2,a3,a4],hcs,he=>
  have h4:=hcs.2.2.2.1
  have he':[b,k,i,Value.slice (some ⟨bl,off,none⟩) n c]=[a1,a2,a3,a4]:=by
   have:=congrArg (fun v=>match v with | .agg a=>a.toList | _=>[]) he
   simpa using this
  simp only[List.cons.injEq,and_true] at he'
  obtain⟨_,_,_,h4e⟩:=he'
  subst h4e
  obtain⟨a,c',bl',off',X,e0,hm,ha,hc,hn,ho,hr,hg⟩:=rel_sl h4
  injection e0 with e1 e2 e3
  have hjl:j < (eTms t.args).length:=by rw[eTms_len];exact hj
  have ha2:=ha (by omega)
  rw[←e1] at ha2
  injection ha2 with ha2
  injection ha2 with q1 q2 q3
  subst q1;subst q2
  have hget:(eTms t.args)[j]=eTm t.args[j]:=by
   have:=eTms_getD t.args j hj
   rw[List.getD_eq_getElem?_getD,List.getElem?_eq_getElem hjl] at this
   rw[eTm_eq];rw[eTm_eq] at this;exact this
  have hx:∀ d (hd:d < 4) v,w.cell? ⟨bl,off + j * 4 + d,none⟩=some v→X j d=v:=fun d hd v hv=>by
   have:=(hc j d hjl hd).1
   rw[hv] at this;cases this;rfl
  have h0:=hx 0 (by omega) v0 c0
  have h1:=hx 1 (by omega) v1 c1
  have h2:=hx 2 (by omega) v2 c2
  have h3:=hx 3 (by omega) v3 c3
  refine rel_ag.2 ⟨[v0,v1,v2,v3],rfl,relL_iff.2 ⟨by rw[eTm_len];rfl,fun d hd=>?_⟩⟩
  rw[eTm_len] at hd
  have hd4:d < ((eTms t.args)[j]).length:=by rw[hget,eTm_len];exact hd
  have hrr:=hr j hjl d hd4
  simp only[hget] at hrr
  have:[v0,v1,v2,v3].getD d undef=X j d:=by
   match d,hd with
   | 0,_=>exact h0.symm
   | 1,_=>exact h1.symm
   | 2,_=>exact h2.symm
   | 3,_=>exact h3.symm
  rw[this]
  exact hrr
theorem oper_append {P:Program}{w w':World}{o:Oper}{a:Act}{K:Act→World→Prop}{Q:Exit→Act→World→Prop}(s x:Operand)(ta tb:TypeId)(v':Value) 
  (ho:o.op=.call { callee:=.builtin .append,args:=#[s,x],argTypes:=#[ta,tb] }) (hr:(Builtin.append_ #[ta,tb] o.type #[a.eval s,a.eval x]).run P w=.ok v' w') (h:K (a.put o.dst v') w'):Oper.wp P o a w K Q:=by
 unfold Oper.wp execOp
 simp only[ho,resolve,invoke,builtin,Sem.run_bind,Sem.run_pure,Result.andThen_ok,List.map_toArray,List.map_cons,List.map_nil,hr]
 exact h
theorem app_rf {F:Nat→Prop}{w:World}{x y:Value}{l:List Int}{i:Int}(hx:RF F w x (.cl 1 (eIs l)))(hy:RF F w y (.sl 1 (eIs [i]) none))(hl:l.length≤900000)(ty:TypeId):
  ∃ v w',(Builtin.append_ #[59,59] ty #[x,y]).run Tryz.prog w=.ok v w'∧Below w.heap.size w w'∧RF (fun k=>F k∨w.heap.size≤k) w' v (.sl 1 (eIs (l ++ [i])) none):=by
 let cx:Cx:={ w0:=w,C:=fun _=>False,Im0:=cellI F w,m0:=m00,nt:=0,n0:=0,h0:=(fun k b hk=>by cases hk),h0o:=(fun k b hk=>by cases hk) }
 have hm:MemOk cx (fun _=>True) m00 (cellI F w) w:={
  off:=Off.refl _ _,im:=cellI_ok,imb:=fun b o h=>.inl h,im0:=fun b o h=>h
  own:=fun k b hk=>by cases hk
  lt:=fun k b hk=>by cases hk
  free:=fun k b o hk=>by cases hk
  nim:=fun k b o hk=>by cases hk
  inj:=fun k k' b hk=>by cases hk
  row:=fun g R hg=>by cases hg
  k0:=KeepI.refl _ _
  rown:=fun g R b hg=>by cases hg
  m0r:=fun g R hg=>by cases hg
  rIm:=fun g R b o hg=>by cases hg
  rblk:=fun g R b k hg=>by cases hg
  rinj:=fun g g' R R' b hg=>by cases hg
  fr:=fun k _=>⟨rfl,rfl,rfl⟩
  m0:=fun k b hk=>by cases hk
  m0o:=fun k b hk=>by cases hk
  oown:=fun k b hk=>by cases hk
  olt:=fun k b hk=>by cases hk
  onim:=fun k b o hk=>by cases hk
  oinj:=fun k k' b hk=>by cases hk
  oblk:=fun k k' b hk=>by cases hk
  orow:=fun k g R b hk=>by cases hk
  dis:=fun k b hk=>by cases hk }
 have hst:St cx (fun _=>True) m00 (cellI F w) w { tmps:=#[],defers:=[] } []:={
  mem:=hm,df:=rfl,nt:=rfl
  tm:=fun x d h=>by cases h
  ce:=fun k off d h=>by cases h
  ro:=fun g d h=>by cases h
  jk:=fun d h=>by cases h
  ok:=fun k d h=>by cases h }
 obtain⟨te,hte,h1,h2⟩:∃ te,tget TFRR 3=some te∧te.sz=1∧te.bys≤1000:=⟨_,rfl,rfl,by decide⟩
 obtain⟨ti,hti,h3⟩:∃ ti,tget TFRR 59=some ti∧ti.el=some 3:=⟨_,rfl,rfl⟩
 have hcl:(eIs [i]).length=1:=by rw[eIs_len];rfl
 obtain⟨v,w',m',Im',q1,_,_,_,q5,q6⟩:=app_clip (P:=Tryz.prog) TFRR_ok hst (nm:=0) trivial hti h3 hte (by omega) h2 (x:=x) (y:=y) (l:=eIs l) (l2:=eIs [i]) (e:=.sl 1 (eIs [i]) none) (by rw[h1];exact hx) hy (by rw[h1];rfl) (by rw[hcl];decide) (by rw[hcl,eIs_len];omega) ty
 rw[h1] at q5
 rw[←eIs_append] at q5
 have q7:Rel m' Im' w' v (.sl 1 (eIs (l ++ [i])) none):=q5.un1
 have hc:=(Rel.cut (f:=fun _=>false) (g:=fun _=>false) q7 (by simp[D.ok]))
 have hmc:m'.cut (fun _=>false) (fun _=>false)=m00:=by simp[Mp.cut,m00]
 rw[hmc] at hc
 have ho:=q6.mem.off
 refine⟨v,w',q1,⟨ho.os,ho.tape,ho.output,ho.size,fun b hb=>ho.block b hb (fun h=>h)⟩,?_⟩
 refine(rel_cell hc).mono (Mp.le.refl _) (KeepI.refl _ _) (fun b o h=>⟨?_,h.2⟩)
 rcases q6.mem.imb b o h.1 with h | h | h
 ·exact .inl h.1
 ·exact .inr h
 ·exact h.elim
theorem rf_ints {F:Nat→Prop}{w:World}{v:Value}{l:List Int}(h:RF F w v (.sl 1 (eIs l) none)):∃ a c,v=.slice a l.length c:=by
 obtain⟨a,c,_,_,_,h,_⟩:=rel_sl h
 exact⟨a,c,by rw[h,eIs_len]⟩
namespace Pn
theorem subss_app (ar:List Ty)(p:List Int):∀ (l r:List Tm) (j:Nat),subss (l ++ r) ar p j=subss l ar p j ++ subss r ar p (j + l.length)
 | [],r,j=>by simp[subss]
 | t :: l,r,j=>by rw[List.cons_append,subss,subss,subss_app ar p l r (j + 1),List.append_assoc,List.length_cons,show j + 1 + l.length=j + (l.length + 1) by omega]
theorem subss_take (ar:List Ty)(p:List Int)(a:List Tm)(j:Nat)(h:j < a.length):subss (a.take (j + 1)) ar p 0=subss (a.take j) ar p 0 ++ subs a[j] ar (p ++ [(j:Int)]):=by
 rw[List.take_succ_eq_append_getElem h,subss_app,List.length_take,Nat.min_eq_left (by omega),Nat.zero_add];simp[subss]
theorem subss_pre (ar:List Ty)(p:List Int)(a:List Tm)(j:Nat):subss (a.take j) ar p 0 <+: subss a ar p 0:=by
 conv=>rhs;rw[←List.take_append_drop j a,subss_app]
 exact List.prefix_append _ _
theorem subss_in (ar:List Ty)(p:List Int)(a:List Tm)(j:Nat)(h:j < a.length)(s:Spot)(hs:s∈subs a[j] ar (p ++ [(j:Int)])):s∈subss a ar p 0:=
 (subss_pre ar p a (j + 1)).subset (by rw[subss_take ar p a j h];exact List.mem_append_right _ hs)
theorem subss_len (ar:List Ty)(p:List Int):∀ (l:List Tm) (j:Nat),(subss l ar p j).length=Tm.sizes l
 | [],_=>by simp[subss,Tm.sizes]
 | t :: l,j=>by rw[subss,List.length_append,subs_len,subss_len ar p l];simp[Tm.sizes]
end Pn
theorem rf_one {F:Nat→Prop}{w:World}{B:Nat}{i:Int}(hb:Blk w B #[.int .i64 i] 3)(hF:F B):RF F w (.slice (some ⟨B,0,none⟩) 1 1) (.sl 1 (eIs [i]) none):=by
 have hc:w.cell? ⟨B,0,none⟩=some (.int .i64 i):=hb.cell rfl
 refine .sl (some ⟨B,0,none⟩) 1 B 0 1 (fun _ _=>.int .i64 i) (eIs [i]) none ⟨by rw[eIs_len];exact(by decide:1≤maxLen),by rw[eIs_len];exact Nat.le_refl 1⟩ (fun _=>rfl) (fun a b ha hb'=>?_) (fun a ha=>?_) (fun _ _ _ _=>rfl) (fun a ha b hb'=>?_) (fun _ e=>by cases e)
 ·have h1:a=0:=by rw[eIs_len] at ha;simp at ha;omega
  have h2:b=0:=by omega
  subst h1;subst h2
  exact⟨hc,hF,_,hc⟩
 ·have h1:a=0:=by rw[eIs_len] at ha;simp at ha;omega
  subst h1;rfl
 ·have h1:a=0:=by rw[eIs_len] at ha;simp at ha;omega
  subst h1
  have h2:b=0:=by change b < 1 at hb';omega
  subst h2
  exact .v _
structure HitS where
 s:Pn.Spot
 va:Option Addr
 vc:Nat
 pb:Option Addr
 cb:Nat
 pa:Option Addr
 ca:Nat
def HitS.path (x:HitS):Value:=.slice x.va x.s.2.2.length x.vc
def HitS.term (x:HitS):Value:=.agg #[.slice x.pb x.s.1.binds.length x.cb,.int .i64 x.s.1.kind,.int .i64 x.s.1.index,.slice x.pa x.s.1.args.length x.ca]
def HitS.enc (x:HitS):Array Value:=#[x.path,x.term]
def HitS.R (F:Nat→Prop)(Y:Nat→Nat→Prop)(Q:Pn.Spot→Prop)(x:HitS)(V:World):Prop:=Q x.s∧RF F V x.path (.sl 1 (eIs x.s.2.2) none)∧RX Y V x.term (.ag (eTm x.s.1))
def NoCell (o:Obj):Prop:=o.isCells=false
abbrev AllC:Nat→TypeId→Prop:=fun _ _=>True
abbrev FromC (B:Nat):Nat→TypeId→Prop:=fun k _=>B≤k
theorem KeepC.lower {G G':Nat→TypeId→Prop}{A B:World}(h:KeepC G A B)(hg:∀ k t,G' k t→G k t):KeepC G' A B:=⟨h.size,fun k cs t fr hk hc=>h.cells k cs t fr (hg k t hk) hc⟩
theorem KeepC.of_below {A B:World}(h:Below A.heap.size A B):KeepC AllC A B:=⟨h.size,fun k cs t fr _ hc=>(h.block k (Array.getElem?_eq_some_iff.1 hc).1).trans hc⟩
theorem Mild.below {β:Type}{Ok:Obj→Prop}{B:Nat}{J:β→World→Prop}(h:Mild Ok B J){s:β}{W W':World}(hs:J s W)(hb:Below W.heap.size W W'):J s W':=
 h s W W' none hs ⟨hb.os,hb.tape,hb.output,hb.size,fun k hk _=>hb.block k hk⟩ (fun r e=>by cases e)
def DownS (B0:Nat)(J Jx:List HitS→World→Prop)(pre:List HitS)(l:List Pn.Spot)(W:World)(e:Ending)(W':World):Prop:=
 (e=.returned (.bool true)∧KeepC AllC W W'∧∃ xs,xs.map HitS.s=l∧J (pre ++ xs) W')∨(e=.returned (.bool false)∧KeepC (FromC B0) W W'∧∃ xs,xs.map HitS.s <+: l∧Jx (pre ++ xs) W')
set_option maxRecDepth 100000 in
set_option maxHeartbeats 1600000 in
theorem sdown_k (F:Nat→Prop)(Y:Nat→Nat→Prop)(Q0:Pn.Spot→Prop)(l N B0:Nat)(hF:∀ k,B0≤k→F k)(hYB:∀ k o,B0≤k→Y k o)(J Jx:List HitS→World→Prop){B1:Nat}(hJ:Mild NoCell B1 J) 
  (hY:∀ m pre x W,J pre W→x.R F Y Q0 W→pre.length < N→YieldAt Fence.wide m Tryz.prog l (HitS.enc x) W fun e W'=>
   (e=.returned (.bool true)∧J (pre ++ [x]) W'∧KeepC AllC W W')∨(e=.returned (.bool false)∧Jx (pre ++ [x]) W'∧KeepC (FromC B0) W W')) :
  ∀ t:Tm,t.full≤80000→t.Fit→∀ {b k i a:Value} {F1:Nat→Prop} (ar:List Ty) (path:List Int) (va:Option Addr) (vc:Nat) (n:Nat) (pre:List HitS) (W:World),(∀ s∈Pn.subs t ar path,Q0 s)→IsTm F1 W b k i a t→RX Y W (.agg #[b,k,i,a]) (.ag (eTm t))→RF F W (.slice va path.length vc) (.sl 1 (eIs path) none)→B0≤W.heap.size→J pre W→pre.length + t.size≤N→path.length + t.depth≤80000 →
   CallsIn Fence.wide n Tryz.prog 122 #[.agg #[b,k,i,a],.slice va path.length vc,.func (.yield l) #[] #[]] W (DownS B0 J Jx pre (Pn.subs t ar path) W):=Tm.ind fun binds k0 i0 args ih=>by
 intro hz hfit b k i a F1 ar path va vc nn pre W hQs ht hyt hp hB0 hJ0 hN hd
 have Hih:=Lib.hid ih;clear ih
 have Hfit:=Lib.hid hfit;clear hfit
 have HQs:=Lib.hid hQs;clear hQs
 have Hyt:=Lib.hid hyt;clear hyt
 have HYB:=Lib.hid hYB;clear hYB
 have Hz:=Lib.hid hz;clear hz
 have HN:=Lib.hid hN;clear hN
 have Hd:=Lib.hid hd;clear hd
 have HF:=Lib.hid hF;clear hF
 have HJ:=Lib.hid hJ;clear hJ
 have HY:=Lib.hid hY;clear hY
 have HJ0:=Lib.hid hJ0;clear hJ0
 have Hp:=Lib.hid hp;clear hp
 have Ht:=Lib.hid ht
 obtain⟨pa,pc,qa,qc,rfl,rfl,rfl,rfl⟩:=ht.shape
 clear ht
 simp only[Tm.binds,Tm.kind,Tm.index,Tm.args] at Ht Hyt ⊢
 have hdd:∀ k:Nat,(Fence.wide.depth.isSome=true→1≤k):=fun k h=>by cases h
 obtain⟨n1,hn1⟩:∃ x,path.length=x:=⟨_,rfl⟩
 obtain⟨n2,hn2⟩:∃ x,binds.length=x:=⟨_,rfl⟩
 obtain⟨n3,hn3⟩:∃ x,args.length=x:=⟨_,rfl⟩
 rw[hn1] at Hp ⊢
 rw[hn2,hn3] at Ht Hyt ⊢
 have Hn1:=Lib.hid hn1;have Hn2:=Lib.hid hn2;have Hn3:=Lib.hid hn3
 clear hn1 hn2 hn3
 obtain⟨W1,hW1⟩:∃ W1,W.alloc (.cells #[.slice pa n2 pc,.int .i64 k0,.int .i64 i0,.slice qa n3 qc] 41)=W1:=⟨_,rfl⟩
 have b1:Below W.heap.size W W1:=by rw[←hW1];exact(Below.refl _ _).alloc (Nat.le_refl _) _
 have y1:Blk W1 W.heap.size #[.slice pa n2 pc,.int .i64 k0,.int .i64 i0,.slice qa n3 qc] 41:=by rw[←hW1];exact Blk.new _ _ _ rfl
 refine callsIn_of_wp Tryz.func122 rfl trivial ?_ rfl
 simp only[Tryz.ntmps122,List.size_toArray,List.length_cons,List.length_nil,Nat.reduceAdd,Nat.reduceSub,Array.replicate_succ,Array.replicate_zero,List.push_toArray,List.append_toArray,List.nil_append,List.cons_append]
 gi_wp2_with fail
 try rw[hW1]
 clear hW1
 have c0:W1.drew.cell? ⟨W.heap.size,0,none⟩=some (.slice pa n2 pc):=y1.drew.cell rfl
 have c1:W1.drew.cell? ⟨W.heap.size,1,none⟩=some (.int .i64 k0):=y1.drew.cell rfl
 have c2:W1.drew.cell? ⟨W.heap.size,2,none⟩=some (.int .i64 i0):=y1.drew.cell rfl
 have c3:W1.drew.cell? ⟨W.heap.size,3,none⟩=some (.slice qa n3 qc):=y1.drew.cell rfl
 obtain⟨QQ,hQQ⟩:∃ QQ:Exit→Act→World→Prop,QQ=(fun e a' W4=>e=.normal∧∃ X:HitS,X.s=(.mk binds k0 i0 args,ar ++ binds,path)∧∃ bb:Bool,a'={ tmps:=#[.agg #[.slice pa n2 pc,.int .i64 k0,.int .i64 i0,.slice qa n3 qc],.slice va n1 vc,.func (.yield l) #[] #[],.pointer (some ⟨W.heap.size,0,none⟩),undef,undef,.bool false,undef,undef,.func (.yield l) #[] #[],.slice va n1 vc,X.path,.agg #[.slice pa n2 pc,.int .i64 k0,.int .i64 i0,.slice qa n3 qc],X.term,.bool bb,.bool (!bb),undef,undef,undef,undef,undef,undef,undef,undef,undef,undef,undef,undef,undef,undef,undef,undef,undef,undef],defers:=[] } ∧
   ((bb=true∧J (pre ++ [X]) W4∧KeepC AllC W1 W4)∨(bb=false∧KeepC (FromC B0) W1 W4∧Jx (pre ++ [X]) W4))):=⟨_,rfl⟩
 have HQ:=Lib.hid hQQ;clear hQQ
 refine wpIn_mono (Q:=QQ) ?_ ?_
 ·have hYY:∀ W3:World,Below W1.heap.size W1 W3→∀ v1 tb tk ti ta,RF F W3 v1 (.sl 1 (eIs path) none)→RX Y W3 (.agg #[tb,tk,ti,ta]) (.ag (eTm (.mk binds k0 i0 args)))→∃ X:HitS,X.s=(.mk binds k0 i0 args,ar ++ binds,path)∧X.path=v1∧X.term=.agg #[tb,tk,ti,ta]∧YieldAt Fence.wide (nn - 1) Tryz.prog l #[v1,.agg #[tb,tk,ti,ta]] W3 fun e W'=>
   (e=.returned (.bool true)∧J (pre ++ [X]) W'∧KeepC AllC W3 W')∨(e=.returned (.bool false)∧Jx (pre ++ [X]) W'∧KeepC (FromC B0) W3 W'):=by
   intro W3 b3 v1 tb tk ti ta h1 h2
   obtain⟨a1,c1,rfl⟩:=rf_ints h1
   obtain⟨_,_,_,_,hag,hist⟩:=agTm h2
   obtain⟨pb,cb,pa,ca,rfl,rfl,rfl,rfl⟩:=hist.shape
   cases hag
   exact⟨⟨(.mk binds k0 i0 args,ar ++ binds,path),a1,c1,pb,cb,pa,ca⟩,rfl,rfl,rfl,HY.out (nn - 1) pre ⟨(.mk binds k0 i0 args,ar ++ binds,path),a1,c1,pb,cb,pa,ca⟩ W3 (HJ.out.below (HJ.out.below HJ0.out b1) b3) ⟨HQs.out _ (by rw[Pn.subs_eq];exact List.mem_cons_self ..),h1,h2⟩ (by have:=HN.out;have:=Tm.size_pos (.mk binds k0 i0 args);omega)⟩
  have HYY:=Lib.hid hYY;clear hYY
  refine wpIn_region_any (by kernel_rfl) ?_
  change wpAnyIn _ _ _ _ _ _ _ _ _ (World.drew _)
  refine wpAnyIn_take (i:=0) (v:=.func (.yield l) #[] #[]) rfl rfl (by kernel_rfl) (by kernel_rfl) (by kernel_rfl) (fun _ _ _ h=>by rw[HQ.out] at h;cases h.1) ⟨Or.inl ⟨by rfl,by intro w;go_simp⟩,fun _=>rfl⟩ ?_
  try simp only[Act.put,List.setIfInBounds_toArray,List.set_cons_zero,List.set_cons_succ]
  refine wpAnyIn_take (i:=1) (v:=.slice va n1 vc) rfl rfl (by kernel_rfl) (by kernel_rfl) (by kernel_rfl) (fun _ _ _ h=>by rw[HQ.out] at h;cases h.1) ⟨Or.inl ⟨by rfl,by intro w;go_simp⟩,fun _=>rfl⟩ ?_
  try simp only[Act.put,List.setIfInBounds_toArray,List.set_cons_zero,List.set_cons_succ]
  refine wpAnyIn_ready (rs:=[2,3]) (by kernel_rfl) (by simp) ?_
  refine AllReadyIn.cons rfl (fun K hK=>?_) (AllReadyIn.cons rfl (fun K hK=>?_) AllReadyIn.nil)
  ·go_simp
   refine⟨trivial,hdd _,callsIn_wide.2 ((calls_rf (clone_d path (by have:=Hn1.out;have:=Hd.out;omega)) (F:=F) (vs:=[.slice va n1 vc]) ⟨Hp.out.bel (b1.trans ((Below.refl _ _).drew)),trivial⟩).mono ?_)⟩
   rintro e W2 ⟨v1,rfl,hb2,hv1⟩
   have b2:Below W1.heap.size W1 W2:=(Below.refl _ _).drew.trans hb2
   have y2:=y1.below b2
   clear hb2
   refine hK _ _ ?_
   clear hK K
   have c0:W2.cell? ⟨W.heap.size,0,none⟩=some (.slice pa n2 pc):=y2.cell rfl
   have c1:W2.cell? ⟨W.heap.size,1,none⟩=some (.int .i64 k0):=y2.cell rfl
   have c2:W2.cell? ⟨W.heap.size,2,none⟩=some (.int .i64 i0):=y2.cell rfl
   have c3:W2.cell? ⟨W.heap.size,3,none⟩=some (.slice qa n3 qc):=y2.cell rfl
   refine wpAnyIn_ready (rs:=[3]) (by kernel_rfl) (by simp) ?_
   refine AllReadyIn.cons rfl (fun K hK=>?_) AllReadyIn.nil
   go_simp
   refine hK _ _ ?_
   clear hK K
   refine wpAnyIn_ready (rs:=[4]) (by kernel_rfl) (by simp) ?_
   refine AllReadyIn.cons rfl (fun K hK=>?_) AllReadyIn.nil
   go_simp
   refine⟨trivial,hdd _,callsIn_wide.2 ((calls_rx (copy_d (.mk binds k0 i0 args) Hz.out Hfit.out) (X:=Y) (vs:=[.agg #[.slice pa n2 pc,.int .i64 k0,.int .i64 i0,.slice qa n3 qc]]) ⟨Hyt.out.keep (fun _ _ h=>h) (fun b o v _ hv=>((b1.trans (b2.mono b1.size)).cell (p:=⟨b,o,none⟩) (Keep.lt hv)).trans hv),trivial⟩).mono ?_)⟩
   rintro e W3 ⟨vc3,rfl,hb3,hc⟩
   obtain⟨tb,tk,ti,ta,rfl,-⟩:=agTm hc
   have b3:Below W1.heap.size W1 W3:=b2.trans (hb3.mono b2.size)
   refine hK _ _ ?_
   clear hK K
   obtain⟨X,hX1,hX2,hX3,fn,tmps,assign,body,hy,hR⟩:=HYY.out W3 b3 v1 tb tk ti ta ((hv1.bel hb3).keep (fun k h=>h.elim id fun h=>HF.out k (by have h':W1.heap.size≤k:=h;have:=b1.size;omega)) (Keep.refl _ _)) (hc.keep (fun b o h=>h.elim id fun h=>HYB.out b o (by have h':W2.heap.size≤b:=h;have:=b1.size;have:=b2.size;omega)) (fun _ _ _ _ h=>h))
   have HX:=Lib.hid (And.intro hX1 (And.intro hX2 hX3));clear hX1 hX2 hX3
   refine wpAnyIn_ready (rs:=[5]) (by kernel_rfl) (by simp) ?_
   refine AllReadyIn.cons rfl (fun K hK=>?_) AllReadyIn.nil
   go_simp
   refine⟨hdd _,hR.mono ?_⟩
   rintro e W4 (⟨rfl,hJ4,hk4⟩ | ⟨rfl,hx4,hk4⟩)
   ·have HJ4:=Lib.hid hJ4;clear hJ4
    refine hK _ _ ?_
    clear hK K
    refine wpAnyIn_ready (rs:=[6]) (by kernel_rfl) (by simp) ?_
    refine AllReadyIn.cons rfl (fun K hK=>?_) AllReadyIn.nil
    go_simp
    refine hK _ _ ?_
    clear hK K
    refine wpAnyIn_done (by kernel_rfl) ?_ _
    rw[HQ.out]
    exact⟨rfl,X,HX.out.1,true,by rw[HX.out.2.1,HX.out.2.2];rfl,.inl ⟨rfl,HJ4.out,(KeepC.of_below (b3.mono (Nat.le_refl _))).trans hk4⟩⟩
   ·have Hx4:=Lib.hid hx4;clear hx4
    refine hK _ _ ?_
    clear hK K
    refine wpAnyIn_ready (rs:=[6]) (by kernel_rfl) (by simp) ?_
    refine AllReadyIn.cons rfl (fun K hK=>?_) AllReadyIn.nil
    go_simp
    refine hK _ _ ?_
    clear hK K
    refine wpAnyIn_done (by kernel_rfl) ?_ _
    rw[HQ.out]
    exact⟨rfl,X,HX.out.1,false,by rw[HX.out.2.1,HX.out.2.2];rfl,.inr ⟨rfl,((KeepC.of_below (b3.mono (Nat.le_refl _))).lower (fun _ _ _=>trivial)).trans hk4,Hx4.out⟩⟩
  ·go_simp
   refine hK _ _ ?_
   clear hK K
   refine wpAnyIn_ready (rs:=[2]) (by kernel_rfl) (by simp) ?_
   refine AllReadyIn.cons rfl (fun K hK=>?_) AllReadyIn.nil
   go_simp
   refine⟨trivial,hdd _,callsIn_wide.2 ((calls_rf (clone_d path (by have:=Hn1.out;have:=Hd.out;omega)) (F:=F) (vs:=[.slice va n1 vc]) ⟨Hp.out.bel (b1.trans ((Below.refl _ _).drew)),trivial⟩).mono ?_)⟩
   rintro e W2 ⟨v1,rfl,hb2,hv1⟩
   have b2:Below W1.heap.size W1 W2:=(Below.refl _ _).drew.trans hb2
   have y2:=y1.below b2
   clear hb2
   refine hK _ _ ?_
   clear hK K
   refine wpAnyIn_ready (rs:=[4]) (by kernel_rfl) (by simp) ?_
   refine AllReadyIn.cons rfl (fun K hK=>?_) AllReadyIn.nil
   go_simp
   refine⟨trivial,hdd _,callsIn_wide.2 ((calls_rx (copy_d (.mk binds k0 i0 args) Hz.out Hfit.out) (X:=Y) (vs:=[.agg #[.slice pa n2 pc,.int .i64 k0,.int .i64 i0,.slice qa n3 qc]]) ⟨Hyt.out.keep (fun _ _ h=>h) (fun b o v _ hv=>((b1.trans (b2.mono b1.size)).cell (p:=⟨b,o,none⟩) (Keep.lt hv)).trans hv),trivial⟩).mono ?_)⟩
   rintro e W3 ⟨vc3,rfl,hb3,hc⟩
   obtain⟨tb,tk,ti,ta,rfl,-⟩:=agTm hc
   have b3:Below W1.heap.size W1 W3:=b2.trans (hb3.mono b2.size)
   refine hK _ _ ?_
   clear hK K
   obtain⟨X,hX1,hX2,hX3,fn,tmps,assign,body,hy,hR⟩:=HYY.out W3 b3 v1 tb tk ti ta ((hv1.bel hb3).keep (fun k h=>h.elim id fun h=>HF.out k (by have h':W1.heap.size≤k:=h;have:=b1.size;omega)) (Keep.refl _ _)) (hc.keep (fun b o h=>h.elim id fun h=>HYB.out b o (by have h':W2.heap.size≤b:=h;have:=b1.size;have:=b2.size;omega)) (fun _ _ _ _ h=>h))
   have HX:=Lib.hid (And.intro hX1 (And.intro hX2 hX3));clear hX1 hX2 hX3
   refine wpAnyIn_ready (rs:=[5]) (by kernel_rfl) (by simp) ?_
   refine AllReadyIn.cons rfl (fun K hK=>?_) AllReadyIn.nil
   go_simp
   refine⟨hdd _,hR.mono ?_⟩
   rintro e W4 (⟨rfl,hJ4,hk4⟩ | ⟨rfl,hx4,hk4⟩)
   ·have HJ4:=Lib.hid hJ4;clear hJ4
    refine hK _ _ ?_
    clear hK K
    refine wpAnyIn_ready (rs:=[6]) (by kernel_rfl) (by simp) ?_
    refine AllReadyIn.cons rfl (fun K hK=>?_) AllReadyIn.nil
    go_simp
    refine hK _ _ ?_
    clear hK K
    refine wpAnyIn_done (by kernel_rfl) ?_ _
    rw[HQ.out]
    exact⟨rfl,X,HX.out.1,true,by rw[HX.out.2.1,HX.out.2.2];rfl,.inl ⟨rfl,HJ4.out,(KeepC.of_below (b3.mono (Nat.le_refl _))).trans hk4⟩⟩
   ·have Hx4:=Lib.hid hx4;clear hx4
    refine hK _ _ ?_
    clear hK K
    refine wpAnyIn_ready (rs:=[6]) (by kernel_rfl) (by simp) ?_
    refine AllReadyIn.cons rfl (fun K hK=>?_) AllReadyIn.nil
    go_simp
    refine hK _ _ ?_
    clear hK K
    refine wpAnyIn_done (by kernel_rfl) ?_ _
    rw[HQ.out]
    exact⟨rfl,X,HX.out.1,false,by rw[HX.out.2.1,HX.out.2.2];rfl,.inr ⟨rfl,((KeepC.of_below (b3.mono (Nat.le_refl _))).lower (fun _ _ _=>trivial)).trans hk4,Hx4.out⟩⟩
 ·rintro e a' W4 hq
  rw[HQ.out] at hq
  obtain⟨rfl,X,hX,bb,rfl,hq⟩:=hq
  have HX:=Lib.hid hX;clear hX HQ
  have hn3b:n3≤9000000:=by have:=fulls_len args;have:=Hn3.out;have h:=Hz.out;rw[Tm.full_eq] at h;omega
  rcases hq with⟨rfl,hJ4,hk4⟩ | ⟨rfl,hk4,hx4⟩
  rotate_left
  ·have Hx4:=Lib.hid hx4;clear hx4
   gi_wp2_with fail
   go_ret
   exact .inr ⟨rfl,((KeepC.of_below b1).lower (fun _ _ _=>trivial)).trans hk4,[X],⟨Pn.subss args (ar ++ binds) path 0,by rw[Pn.subs_eq,List.map_cons,HX.out];rfl⟩,Hx4.out⟩
  have HJ4:=Lib.hid hJ4;clear hJ4
  simp only[Bool.not_true]
  have y4:Blk W4 W.heap.size _ _:=hk4.blk y1 trivial
  have c0:W4.cell? ⟨W.heap.size,0,none⟩=some (.slice pa n2 pc):=y4.cell rfl
  have c1:W4.cell? ⟨W.heap.size,1,none⟩=some (.int .i64 k0):=y4.cell rfl
  have c2:W4.cell? ⟨W.heap.size,2,none⟩=some (.int .i64 i0):=y4.cell rfl
  have c3:W4.cell? ⟨W.heap.size,3,none⟩=some (.slice qa n3 qc):=y4.cell rfl
  gi_wp2_with fail
  clear c0 c1 c2 c3 y4
  have hk0:KeepC AllC W W4:=(KeepC.of_below b1).trans hk4
  obtain⟨_,_,_,hsl⟩:=Ht.out.inv
  simp only[Tm.args] at hsl
  obtain⟨hn,hm,bl,off,PA,A,PN,PC,N',C,Kd,Ix,ha,h1,h2,h3,h4,h5⟩:=sl_cells6 hsl
  clear hn
  rw[Hn3.out] at hm ha
  simp only[Hn3.out] at h1 h2 h3 h4
  clear hsl hk4
  gi_loopw [7,8,19] (fun _ _ i wr=>∃ (k:Nat) (xs:List HitS),i=.int .i64 k∧k≤n3∧Hid (xs.map HitS.s=Pn.subss (args.take k) (ar ++ binds) path 0)∧J (pre ++ [X] ++ xs) wr∧KeepC AllC W wr) (fun _ _ i _=>n3 - (intOf i).toNat)
  case atStart=>exact⟨0,[],rfl,by omega,by simp[Hid,Pn.subss],by simpa using HJ4.out,hk0⟩
  case round=>
   clear hk0
   obtain⟨k,xs,rfl,hk,hxs,hJr,hkr⟩:=hrel
   have Hkr:=Lib.hid hkr
   have HJr:=Lib.hid hJr;clear hJr
   have hsz:=hkr.size
   by_cases hlt:k < n3
   ·obtain⟨rfl,hF1⟩:=ha (by omega)
    have hKp:Keep F1 W wr:=hkr.keep' (Keep.refl _ _) (fun _ _ _ _=>trivial)
    have e1:=hKp _ _ _ hF1 (h1 k hlt)
    have e2:=hKp _ _ _ hF1 (h2 k hlt)
    have e3:=hKp _ _ _ hF1 (h3 k hlt)
    have e4:=hKp _ _ _ hF1 (h4 k hlt)
    gi_wp2_with fail
    obtain⟨V,hV⟩:∃ V,wr.alloc (.cells #[.slice (PA k) (PN k) (PC k),.int .i64 (Kd k),.int .i64 (Ix k),.slice (A k) (N' k) (C k)] 41)=V:=⟨_,rfl⟩
    have bV:Below wr.heap.size wr V:=by rw[←hV];exact(Below.refl _ _).alloc (Nat.le_refl _) _
    have yV:Blk V wr.heap.size #[.slice (PA k) (PN k) (PC k),.int .i64 (Kd k),.int .i64 (Ix k),.slice (A k) (N' k) (C k)] 41:=by rw[←hV];exact Blk.new _ _ _ rfl
    try rw[hV]
    have Hye:Hid (RX Y wr (.agg #[.slice (PA k) (PN k) (PC k),.int .i64 (Kd k),.int .i64 (Ix k),.slice (A k) (N' k) (C k)]) (.ag (eTm (args[k]'(by have:=Hn3.out;omega))))):=rx_arg (t:=.mk binds k0 i0 args) (Hyt.out.keep (fun _ _ h=>h) (fun b o v _ hv=>(hkr.keep' (F:=fun _=>True) (Keep.refl _ _) (fun _ _ _ _=>trivial)) b o v trivial hv)) k (by have:=Hn3.out;show k < args.length;omega) e1 e2 e3 e4
    clear hV e1 e2 e3 e4
    have hka:k < args.length:=by have:=Hn3.out;omega
    obtain⟨sub,hsub⟩:∃ s,Pn.subs args[k] (ar ++ binds) (path ++ [(k:Int)])=s:=⟨_,rfl⟩
    obtain⟨QQ2,hQQ2⟩:∃ QQ2:Exit→Act→World→Prop,QQ2=(fun e a' W6=>e=.normal∧∃ p26 p28 p29,∃ bb:Bool,a'={ tmps:=#[.agg #[.slice pa n2 pc,.int .i64 k0,.int .i64 i0,.slice (some ⟨bl,off,none⟩) n3 qc],.slice va n1 vc,.func (.yield l) #[] #[],.pointer (some ⟨W.heap.size,0,none⟩),undef,undef,u6,.int .i64 ↑k,.pointer (some ⟨wr.heap.size,0,none⟩),.func (.yield l) #[] #[],.slice va n1 vc,X.path,.agg #[.slice pa n2 pc,.int .i64 k0,.int .i64 i0,.slice (some ⟨bl,off,none⟩) n3 qc],X.term,.bool true,.bool false,.pointer (some ⟨W.heap.size,3,none⟩),.slice (some ⟨bl,off,none⟩) n3 qc,.int .i64 ↑n3,.int .i64 ↑k,.bool true,.int .i64 ↑k,.pointer (some ⟨bl,off + k * 4,none⟩),.agg #[.slice (PA k) (PN k) (PC k),.int .i64 (Kd k),.int .i64 (Ix k),.slice (A k) (N' k) (C k)],.agg #[.slice (PA k) (PN k) (PC k),.int .i64 (Kd k),.int .i64 (Ix k),.slice (A k) (N' k) (C k)],.slice va n1 vc,p26,.int .i64 ↑k,p28,p29,.func (.yield l) #[] #[],.bool bb,.bool (!bb),u33],defers:=[] } ∧
     ((bb=true∧KeepC AllC V W6∧∃ ys,ys.map HitS.s=sub∧J (pre ++ [X] ++ xs ++ ys) W6)∨(bb=false∧KeepC (FromC B0) V W6∧∃ ys,ys.map HitS.s <+: sub∧Jx (pre ++ [X] ++ xs ++ ys) W6))):=⟨_,rfl⟩
    have HQ2:=Lib.hid hQQ2;clear hQQ2
    have bW:KeepC AllC W V:=Hkr.out.trans (KeepC.of_below bV)
    have hDN:∀ W5,Below V.heap.size V W5→∀ a5 n5 c5,(path ++ [(k:Int)]).length=n5→RF F W5 (.slice a5 n5 c5) (.sl 1 (eIs (path ++ [(k:Int)])) none)→Calls Tryz.prog 122 #[.agg #[.slice (PA k) (PN k) (PC k),.int .i64 (Kd k),.int .i64 (Ix k),.slice (A k) (N' k) (C k)],.slice a5 n5 c5,.func (.yield l) #[] #[]] W5 (DownS B0 J Jx (pre ++ [X] ++ xs) sub W5):=by
     intro W5 b5 a5 n5 c5 hn5 h5v
     subst hn5
     rw[←hsub]
     have hl:xs.length=Tm.sizes (args.take k):=by
      have:=congrArg List.length hxs.out
      rw[List.length_map,Pn.subss_len] at this;exact this
     have q1:=Tm.sizes_take args k hka
     have q2:=Tm.sizes_take_le args (k + 1)
     have q3:=HN.out
     have q4:=Hd.out
     have q5:=Tm.full_mem (List.getElem_mem hka)
     have q6:=Hz.out
     have q7:=Tm.depth_mem (List.getElem_mem hka)
     rw[Tm.size_eq] at q3
     rw[Tm.depth_eq] at q4
     rw[Tm.full_eq] at q6
     refine callsIn_wide.1 (Hih.out args[k] (List.getElem_mem hka) (by omega) ((Tm.fit_iff.1 Hfit.out).2.2 _ (List.getElem_mem hka)) (ar ++ binds) (path ++ [(k:Int)]) a5 c5 0 (pre ++ [X] ++ xs) W5 (fun s hs=>HQs.out s (by rw[Pn.subs_eq];exact List.mem_cons_of_mem _ (Pn.subss_in _ _ _ k hka s hs))) ((h5 k hka).keep ((bW.keep' (Keep.refl _ _) (fun _ _ _ _=>trivial)).below b5)) (Hye.out.keep (fun _ _ h=>h) (fun b o v _ hv=>((bV.trans (b5.mono bV.size)).cell (p:=⟨b,o,none⟩) (Keep.lt hv)).trans hv)) h5v (by have:=bW.size;have:=b5.size;omega) (HJ.out.below (HJ.out.below HJr.out bV) b5) (by simp;omega) (by simp;omega))
    have HDN:=Lib.hid hDN;clear hDN
    refine wpIn_mono (Q:=QQ2) ?_ ?_
    ·skip
     refine wpIn_region_need (S:=fun w'=>w'.cell? ⟨wr.heap.size,0,none⟩=some (.slice (PA k) (PN k) (PC k))∧w'.cell? ⟨wr.heap.size,1,none⟩=some (.int .i64 (Kd k))∧w'.cell? ⟨wr.heap.size,2,none⟩=some (.int .i64 (Ix k))∧w'.cell? ⟨wr.heap.size,3,none⟩=some (.slice (A k) (N' k) (C k))) (wide_self) (by kernel_rfl) (by kernel_rfl) ?_
     have hS:(V.drew).cell? ⟨wr.heap.size,0,none⟩=some (.slice (PA k) (PN k) (PC k))∧(V.drew).cell? ⟨wr.heap.size,1,none⟩=some (.int .i64 (Kd k))∧(V.drew).cell? ⟨wr.heap.size,2,none⟩=some (.int .i64 (Ix k))∧(V.drew).cell? ⟨wr.heap.size,3,none⟩=some (.slice (A k) (N' k) (C k)):=⟨yV.drew.cell rfl,yV.drew.cell rfl,yV.drew.cell rfl,yV.drew.cell rfl⟩
     refine wpN_take (i:=0) (v:=?v1) rfl (by kernel_rfl) (fun _ _ _ h=>h) hS (Or.inl ⟨by rfl,?hy1⟩) ?hr1
     case hy1=>(intro wS hSw;(try dsimp only at hSw);go_simp;(try with_reducible rfl))
     try simp only[Act.put,List.setIfInBounds_toArray,List.set_cons_zero,List.set_cons_succ,List.getElem_toArray,List.getElem_cons_zero,List.getElem_cons_succ]
     refine wpN_take (i:=1) (v:=?v2) rfl (by kernel_rfl) (fun _ _ _ h=>h) hS (Or.inl ⟨by rfl,?hy2⟩) ?hr2
     case hy2=>(intro wS hSw;(try dsimp only at hSw);go_simp;(try with_reducible rfl))
     try simp only[Act.put,List.setIfInBounds_toArray,List.set_cons_zero,List.set_cons_succ,List.getElem_toArray,List.getElem_cons_zero,List.getElem_cons_succ]
     refine wpN_take (i:=3) (v:=?v3) rfl (by kernel_rfl) (fun _ _ _ h=>h) hS (Or.inl ⟨by rfl,?hy3⟩) ?hr3
     case hy3=>(intro wS hSw;(try dsimp only at hSw);go_simp;(try with_reducible rfl))
     try simp only[Act.put,List.setIfInBounds_toArray,List.set_cons_zero,List.set_cons_succ,List.getElem_toArray,List.getElem_cons_zero,List.getElem_cons_succ]
     refine wpN_take (i:=6) (v:=?v4) rfl (by kernel_rfl) (fun _ _ _ h=>h) hS (Or.inl ⟨by rfl,?hy4⟩) ?hr4
     case hy4=>(intro wS hSw;(try dsimp only at hSw);go_simp;(try with_reducible rfl))
     try simp only[Act.put,List.setIfInBounds_toArray,List.set_cons_zero,List.set_cons_succ,List.getElem_toArray,List.getElem_cons_zero,List.getElem_cons_succ]
     refine wpN_pick [2,4] (by kernel_rfl) (by simp) (pick_two ?_ ?_)
     ·refine wpOp_step (i:=2) rfl (fun K hK=>?_)
      have hK:=Lib.hid hK
      try simp only[Act.put,List.setIfInBounds_toArray,List.set_cons_zero,List.set_cons_succ,List.getElem_toArray,List.getElem_cons_zero,List.getElem_cons_succ]
      go_simp
      refine(calls_rf (clip_d path) (F:=F) (vs:=[.slice va n1 vc]) ⟨Hp.out.keep (fun _ h=>h) ((bW.keep' (Keep.refl _ _) (fun _ _ _ _=>trivial)).below ((Below.refl V.heap.size V).drew)),trivial⟩).mono ?_
      rintro e W2 ⟨v2,rfl,hb2,hv2⟩
      have b2:Below V.heap.size V W2:=(Below.refl _ _).drew.trans hb2
      have hS:(W2).cell? ⟨wr.heap.size,0,none⟩=some (.slice (PA k) (PN k) (PC k))∧(W2).cell? ⟨wr.heap.size,1,none⟩=some (.int .i64 (Kd k))∧(W2).cell? ⟨wr.heap.size,2,none⟩=some (.int .i64 (Ix k))∧(W2).cell? ⟨wr.heap.size,3,none⟩=some (.slice (A k) (N' k) (C k)):=⟨(yV.below b2).cell rfl,(yV.below b2).cell rfl,(yV.below b2).cell rfl,(yV.below b2).cell rfl⟩
      refine hK.out _ _ ⟨fun _=>hS,?_⟩
      try simp only[Act.put,List.setIfInBounds_toArray,List.set_cons_zero,List.set_cons_succ,List.getElem_toArray,List.getElem_cons_zero,List.getElem_cons_succ]
      refine wpN_step (i:=4) (by kernel_rfl) rfl (fun K hK=>?_)
      go_simp
      obtain⟨W3,hW3⟩:∃ W3,W2.alloc (.cells #[.int .i64 (k:Int)] 3)=W3:=⟨_,rfl⟩
      have b23:Below W2.heap.size W2 W3:=by rw[←hW3];exact(Below.refl _ _).alloc (Nat.le_refl _) _
      have b3:Below V.heap.size V W3:=b2.trans (b23.mono b2.size)
      have y3:Blk W3 W2.heap.size #[.int .i64 (k:Int)] 3:=by rw[←hW3];exact Blk.new _ _ _ rfl
      try rw[hW3]
      have hS:(W3).cell? ⟨wr.heap.size,0,none⟩=some (.slice (PA k) (PN k) (PC k))∧(W3).cell? ⟨wr.heap.size,1,none⟩=some (.int .i64 (Kd k))∧(W3).cell? ⟨wr.heap.size,2,none⟩=some (.int .i64 (Ix k))∧(W3).cell? ⟨wr.heap.size,3,none⟩=some (.slice (A k) (N' k) (C k)):=⟨(yV.below b3).cell rfl,(yV.below b3).cell rfl,(yV.below b3).cell rfl,(yV.below b3).cell rfl⟩
      refine hK.out _ _ (fun _=>hS) ?_
      clear hK K
      try simp only[Act.put,List.setIfInBounds_toArray,List.set_cons_zero,List.set_cons_succ,List.getElem_toArray,List.getElem_cons_zero,List.getElem_cons_succ]
      have hv3:=hv2.bel b23
      have hi3:RF (fun q=>F q∨V.drew.heap.size≤q) W3 (.slice (some ⟨W2.heap.size,0,none⟩) 1 1) (.sl 1 (eIs [(k:Int)]) none):=rf_one y3 (.inr (by have:=b2.size;exact this))
      obtain⟨v3,W5,happ,hb5,hv5⟩:=app_rf hv3 hi3 (by have:=Hn1.out;have:=Hd.out;omega) 59
      have b5:Below V.heap.size V W5:=b3.trans (hb5.mono b3.size)
      obtain⟨a5,c5,hv3e⟩:=rf_ints hv5
      obtain⟨n5,hn5⟩:∃ x,(path ++ [(k:Int)]).length=x:=⟨_,rfl⟩
      have Hn5:=Lib.hid hn5
      rw[hn5] at hv3e
      subst hv3e
      clear hn5
      have Hv5:Hid (RF F W5 (.slice a5 n5 c5) (.sl 1 (eIs (path ++ [(k:Int)])) none)):=hv5.keep (fun q h=>by
       rcases h with(h | h) | h
       ·exact h
       ·exact HF.out q (by have h':V.heap.size≤q:=h;have:=bW.size;omega)
       ·exact HF.out q (by have:=bW.size;have:=b3.size;omega)) (Keep.refl _ _)
      clear hv5 hv3 hi3 hv2
      refine wpN_step (i:=5) (by kernel_rfl) rfl (fun K hK=>?_)
      rw[if_pos (by rfl)]
      refine oper_append (.tmp 26) (.tmp 28) 59 59 _ rfl happ ?_
      clear happ
      have hS:(W5).cell? ⟨wr.heap.size,0,none⟩=some (.slice (PA k) (PN k) (PC k))∧(W5).cell? ⟨wr.heap.size,1,none⟩=some (.int .i64 (Kd k))∧(W5).cell? ⟨wr.heap.size,2,none⟩=some (.int .i64 (Ix k))∧(W5).cell? ⟨wr.heap.size,3,none⟩=some (.slice (A k) (N' k) (C k)):=⟨(yV.below b5).cell rfl,(yV.below b5).cell rfl,(yV.below b5).cell rfl,(yV.below b5).cell rfl⟩
      refine hK.out _ _ (fun _=>hS) ?_
      clear hK K
      try simp only[Act.put,List.setIfInBounds_toArray,List.set_cons_zero,List.set_cons_succ,List.getElem_toArray,List.getElem_cons_zero,List.getElem_cons_succ]
      refine wpN_step (i:=7) (by kernel_rfl) rfl (fun K hK=>?_)
      go_simp
      refine(HDN.out W5 b5 a5 n5 c5 Hn5.out Hv5.out).mono ?_
      rintro e W6 (⟨rfl,hk6,ys,hys,hJ6⟩ | ⟨rfl,hk6,ys,hys,hx6⟩)
      ·have HJ6:=Lib.hid hJ6;have Hys:=Lib.hid hys;have Hk6:=Lib.hid hk6
       clear hJ6 hys hk6
       have y6:=Hk6.out.blk (yV.below b5) trivial
       have hS:(W6).cell? ⟨wr.heap.size,0,none⟩=some (.slice (PA k) (PN k) (PC k))∧(W6).cell? ⟨wr.heap.size,1,none⟩=some (.int .i64 (Kd k))∧(W6).cell? ⟨wr.heap.size,2,none⟩=some (.int .i64 (Ix k))∧(W6).cell? ⟨wr.heap.size,3,none⟩=some (.slice (A k) (N' k) (C k)):=⟨y6.cell rfl,y6.cell rfl,y6.cell rfl,y6.cell rfl⟩
       refine hK.out _ _ (fun _=>hS) ?_
       clear hK K
       try simp only[Act.put,List.setIfInBounds_toArray,List.set_cons_zero,List.set_cons_succ,List.getElem_toArray,List.getElem_cons_zero,List.getElem_cons_succ]
       refine wpN_step (i:=8) (by kernel_rfl) rfl (fun K hK=>?_)
       go_simp
       refine hK.out _ _ (fun _=>hS) ?_
       clear hK K
       try simp only[Act.put,List.setIfInBounds_toArray,List.set_cons_zero,List.set_cons_succ,List.getElem_toArray,List.getElem_cons_zero,List.getElem_cons_succ]
       refine wpN_done (by kernel_rfl) ?_
       refine OnlyN.normal ?_
       rw[HQ2.out]
       exact⟨rfl,_,_,_,true,rfl,.inl ⟨rfl,(KeepC.of_below b5).trans Hk6.out,ys,Hys.out,HJ6.out⟩⟩
      ·have HJ6:=Lib.hid hx6;have Hys:=Lib.hid hys;have Hk6:=Lib.hid hk6
       clear hx6 hys hk6
       have y6:=Hk6.out.blk (yV.below b5) (by have:=bW.size;have:=Hkr.out.size;show B0≤wr.heap.size;omega)
       have hS:(W6).cell? ⟨wr.heap.size,0,none⟩=some (.slice (PA k) (PN k) (PC k))∧(W6).cell? ⟨wr.heap.size,1,none⟩=some (.int .i64 (Kd k))∧(W6).cell? ⟨wr.heap.size,2,none⟩=some (.int .i64 (Ix k))∧(W6).cell? ⟨wr.heap.size,3,none⟩=some (.slice (A k) (N' k) (C k)):=⟨y6.cell rfl,y6.cell rfl,y6.cell rfl,y6.cell rfl⟩
       refine hK.out _ _ (fun _=>hS) ?_
       clear hK K
       try simp only[Act.put,List.setIfInBounds_toArray,List.set_cons_zero,List.set_cons_succ,List.getElem_toArray,List.getElem_cons_zero,List.getElem_cons_succ]
       refine wpN_step (i:=8) (by kernel_rfl) rfl (fun K hK=>?_)
       go_simp
       refine hK.out _ _ (fun _=>hS) ?_
       clear hK K
       try simp only[Act.put,List.setIfInBounds_toArray,List.set_cons_zero,List.set_cons_succ,List.getElem_toArray,List.getElem_cons_zero,List.getElem_cons_succ]
       refine wpN_done (by kernel_rfl) ?_
       refine OnlyN.normal ?_
       rw[HQ2.out]
       exact⟨rfl,_,_,_,false,rfl,.inr ⟨rfl,((KeepC.of_below b5).lower (fun _ _ _=>trivial)).trans Hk6.out,ys,Hys.out,HJ6.out⟩⟩
     ·refine wpOp_step (i:=4) rfl (fun K hK=>?_)
      have hK:=Lib.hid hK
      try simp only[Act.put,List.setIfInBounds_toArray,List.set_cons_zero,List.set_cons_succ,List.getElem_toArray,List.getElem_cons_zero,List.getElem_cons_succ]
      go_simp
      obtain⟨W1',hW1'⟩:∃ W3,(V.alloc (.cells #[.int .i64 (k:Int)] 3)).drew=W3:=⟨_,rfl⟩
      have b1':Below V.heap.size V W1':=by rw[←hW1'];exact((Below.refl _ _).alloc (Nat.le_refl _) _).drew
      have y1':Blk W1' V.heap.size #[.int .i64 (k:Int)] 3:=by rw[←hW1'];exact(Blk.new _ _ _ rfl).drew
      try rw[hW1']
      have hS:(W1').cell? ⟨wr.heap.size,0,none⟩=some (.slice (PA k) (PN k) (PC k))∧(W1').cell? ⟨wr.heap.size,1,none⟩=some (.int .i64 (Kd k))∧(W1').cell? ⟨wr.heap.size,2,none⟩=some (.int .i64 (Ix k))∧(W1').cell? ⟨wr.heap.size,3,none⟩=some (.slice (A k) (N' k) (C k)):=⟨(yV.below b1').cell rfl,(yV.below b1').cell rfl,(yV.below b1').cell rfl,(yV.below b1').cell rfl⟩
      refine hK.out _ _ ⟨fun _=>hS,?_⟩
      try simp only[Act.put,List.setIfInBounds_toArray,List.set_cons_zero,List.set_cons_succ,List.getElem_toArray,List.getElem_cons_zero,List.getElem_cons_succ]
      refine wpN_step (i:=2) (by kernel_rfl) rfl (fun K hK=>?_)
      go_simp
      refine(calls_rf (clip_d path) (F:=F) (vs:=[.slice va n1 vc]) ⟨Hp.out.keep (fun _ h=>h) ((bW.keep' (Keep.refl _ _) (fun _ _ _ _=>trivial)).below b1'),trivial⟩).mono ?_
      rintro e W2 ⟨v2,rfl,hb2,hv2⟩
      have b3:Below V.heap.size V W2:=b1'.trans (hb2.mono b1'.size)
      have hS:(W2).cell? ⟨wr.heap.size,0,none⟩=some (.slice (PA k) (PN k) (PC k))∧(W2).cell? ⟨wr.heap.size,1,none⟩=some (.int .i64 (Kd k))∧(W2).cell? ⟨wr.heap.size,2,none⟩=some (.int .i64 (Ix k))∧(W2).cell? ⟨wr.heap.size,3,none⟩=some (.slice (A k) (N' k) (C k)):=⟨(yV.below b3).cell rfl,(yV.below b3).cell rfl,(yV.below b3).cell rfl,(yV.below b3).cell rfl⟩
      refine hK.out _ _ (fun _=>hS) ?_
      clear hK K
      try simp only[Act.put,List.setIfInBounds_toArray,List.set_cons_zero,List.set_cons_succ,List.getElem_toArray,List.getElem_cons_zero,List.getElem_cons_succ]
      obtain⟨W3,hW3⟩:∃ W3,W2=W3:=⟨_,rfl⟩
      rw[hW3] at b3 hv2 hb2 ⊢
      have hv3:RF (fun q=>F q∨V.drew.heap.size≤q) W3 v2 (.cl 1 (eIs path)):=hv2.keep (fun q h=>h.imp id fun h=>by have h':W1'.heap.size≤q:=h;have:=b1'.size;exact Nat.le_trans this h') (Keep.refl _ _)
      have hi3:RF (fun q=>F q∨V.drew.heap.size≤q) W3 (.slice (some ⟨V.heap.size,0,none⟩) 1 1) (.sl 1 (eIs [(k:Int)]) none):=rf_one (y1'.below hb2) (.inr (Nat.le_refl _))
      obtain⟨v3,W5,happ,hb5,hv5⟩:=app_rf hv3 hi3 (by have:=Hn1.out;have:=Hd.out;omega) 59
      have b5:Below V.heap.size V W5:=b3.trans (hb5.mono b3.size)
      obtain⟨a5,c5,hv3e⟩:=rf_ints hv5
      obtain⟨n5,hn5⟩:∃ x,(path ++ [(k:Int)]).length=x:=⟨_,rfl⟩
      have Hn5:=Lib.hid hn5
      rw[hn5] at hv3e
      subst hv3e
      clear hn5
      have Hv5:Hid (RF F W5 (.slice a5 n5 c5) (.sl 1 (eIs (path ++ [(k:Int)])) none)):=hv5.keep (fun q h=>by
       rcases h with(h | h) | h
       ·exact h
       ·exact HF.out q (by have h':V.heap.size≤q:=h;have:=bW.size;omega)
       ·exact HF.out q (by have:=bW.size;have:=b3.size;omega)) (Keep.refl _ _)
      clear hv5 hv3 hi3 hv2
      refine wpN_step (i:=5) (by kernel_rfl) rfl (fun K hK=>?_)
      rw[if_pos (by rfl)]
      refine oper_append (.tmp 26) (.tmp 28) 59 59 _ rfl happ ?_
      clear happ
      have hS:(W5).cell? ⟨wr.heap.size,0,none⟩=some (.slice (PA k) (PN k) (PC k))∧(W5).cell? ⟨wr.heap.size,1,none⟩=some (.int .i64 (Kd k))∧(W5).cell? ⟨wr.heap.size,2,none⟩=some (.int .i64 (Ix k))∧(W5).cell? ⟨wr.heap.size,3,none⟩=some (.slice (A k) (N' k) (C k)):=⟨(yV.below b5).cell rfl,(yV.below b5).cell rfl,(yV.below b5).cell rfl,(yV.below b5).cell rfl⟩
      refine hK.out _ _ (fun _=>hS) ?_
      clear hK K
      try simp only[Act.put,List.setIfInBounds_toArray,List.set_cons_zero,List.set_cons_succ,List.getElem_toArray,List.getElem_cons_zero,List.getElem_cons_succ]
      refine wpN_step (i:=7) (by kernel_rfl) rfl (fun K hK=>?_)
      go_simp
      refine(HDN.out W5 b5 a5 n5 c5 Hn5.out Hv5.out).mono ?_
      rintro e W6 (⟨rfl,hk6,ys,hys,hJ6⟩ | ⟨rfl,hk6,ys,hys,hx6⟩)
      ·have HJ6:=Lib.hid hJ6;have Hys:=Lib.hid hys;have Hk6:=Lib.hid hk6
       clear hJ6 hys hk6
       have y6:=Hk6.out.blk (yV.below b5) trivial
       have hS:(W6).cell? ⟨wr.heap.size,0,none⟩=some (.slice (PA k) (PN k) (PC k))∧(W6).cell? ⟨wr.heap.size,1,none⟩=some (.int .i64 (Kd k))∧(W6).cell? ⟨wr.heap.size,2,none⟩=some (.int .i64 (Ix k))∧(W6).cell? ⟨wr.heap.size,3,none⟩=some (.slice (A k) (N' k) (C k)):=⟨y6.cell rfl,y6.cell rfl,y6.cell rfl,y6.cell rfl⟩
       refine hK.out _ _ (fun _=>hS) ?_
       clear hK K
       try simp only[Act.put,List.setIfInBounds_toArray,List.set_cons_zero,List.set_cons_succ,List.getElem_toArray,List.getElem_cons_zero,List.getElem_cons_succ]
       refine wpN_step (i:=8) (by kernel_rfl) rfl (fun K hK=>?_)
       go_simp
       refine hK.out _ _ (fun _=>hS) ?_
       clear hK K
       try simp only[Act.put,List.setIfInBounds_toArray,List.set_cons_zero,List.set_cons_succ,List.getElem_toArray,List.getElem_cons_zero,List.getElem_cons_succ]
       refine wpN_done (by kernel_rfl) ?_
       refine OnlyN.normal ?_
       rw[HQ2.out]
       exact⟨rfl,_,_,_,true,rfl,.inl ⟨rfl,(KeepC.of_below b5).trans Hk6.out,ys,Hys.out,HJ6.out⟩⟩
      ·have HJ6:=Lib.hid hx6;have Hys:=Lib.hid hys;have Hk6:=Lib.hid hk6
       clear hx6 hys hk6
       have y6:=Hk6.out.blk (yV.below b5) (by have:=bW.size;have:=Hkr.out.size;show B0≤wr.heap.size;omega)
       have hS:(W6).cell? ⟨wr.heap.size,0,none⟩=some (.slice (PA k) (PN k) (PC k))∧(W6).cell? ⟨wr.heap.size,1,none⟩=some (.int .i64 (Kd k))∧(W6).cell? ⟨wr.heap.size,2,none⟩=some (.int .i64 (Ix k))∧(W6).cell? ⟨wr.heap.size,3,none⟩=some (.slice (A k) (N' k) (C k)):=⟨y6.cell rfl,y6.cell rfl,y6.cell rfl,y6.cell rfl⟩
       refine hK.out _ _ (fun _=>hS) ?_
       clear hK K
       try simp only[Act.put,List.setIfInBounds_toArray,List.set_cons_zero,List.set_cons_succ,List.getElem_toArray,List.getElem_cons_zero,List.getElem_cons_succ]
       refine wpN_step (i:=8) (by kernel_rfl) rfl (fun K hK=>?_)
       go_simp
       refine hK.out _ _ (fun _=>hS) ?_
       clear hK K
       try simp only[Act.put,List.setIfInBounds_toArray,List.set_cons_zero,List.set_cons_succ,List.getElem_toArray,List.getElem_cons_zero,List.getElem_cons_succ]
       refine wpN_done (by kernel_rfl) ?_
       refine OnlyN.normal ?_
       rw[HQ2.out]
       exact⟨rfl,_,_,_,false,rfl,.inr ⟨rfl,((KeepC.of_below b5).lower (fun _ _ _=>trivial)).trans Hk6.out,ys,Hys.out,HJ6.out⟩⟩
    ·rintro e a' W6 hq
     rw[HQ2.out] at hq
     obtain⟨rfl,p26,p28,p29,bb,rfl,hq⟩:=hq
     clear HQ2 HDN
     rcases hq with⟨rfl,hk6,ys,hys,hJ6⟩ | ⟨rfl,hk6,ys,hys,hx6⟩
     ·have HJ6:=Lib.hid hJ6;have Hys:=Lib.hid hys;have Hk6:=Lib.hid hk6
      clear hJ6 hys hk6
      simp only[Bool.not_true]
      gi_wp2_with fail
      go_roundw
      case rel=>exact⟨k + 1,xs ++ ys,by go_num,by omega,by show _=_;rw[List.map_append,hxs.out,Hys.out,Pn.subss_take _ _ _ _ hka,hsub],by rw[←List.append_assoc];exact HJ6.out,bW.trans Hk6.out⟩
      case measure=>simp[intOf];omega
     ·have Hx6:=Lib.hid hx6;have Hys:=Lib.hid hys;have Hk6:=Lib.hid hk6
      clear hx6 hys hk6
      gi_wp2_with fail
      go_ret
      refine .inr ⟨rfl,(bW.lower (fun _ _ _=>trivial)).trans Hk6.out,X :: (xs ++ ys),?_,by simpa using Hx6.out⟩
      obtain⟨r,hr⟩:=Hys.out
      obtain⟨q,hq⟩:=Pn.subss_pre (ar ++ binds) path args (k + 1)
      refine⟨r ++ q,?_⟩
      rw[Pn.subs_eq,List.map_cons,List.map_append,HX.out,List.cons_append,←hq,Pn.subss_take _ _ _ _ hka,hsub,←hr,←hxs.out]
      simp
   ·gi_wp2_with fail
    go_ret
    refine .inl ⟨rfl,Hkr.out,X :: xs,?_,by simpa using HJr.out⟩
    have h:=hxs.out
    rw[List.take_of_length_le (by have:=Hn3.out;omega)] at h
    rw[Pn.subs_eq,List.map_cons,HX.out,h]
end Go.Proofs.YtflbnonbfmmchaaGreat
