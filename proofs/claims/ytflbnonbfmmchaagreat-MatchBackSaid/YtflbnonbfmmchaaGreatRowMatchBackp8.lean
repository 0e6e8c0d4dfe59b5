/-
  Package slices' stable sort of pairs, walked in the deep way: the merge. Package slices' stable sort of pairs, walked in the deep way: the merge of many. Package slices' stable sort of pairs, walked in the deep way: the whole; subst.sorted, subst.Of. Package subst's lists, walked in the deep way: Without, Set, Domain, Get. The document's places and uses, walked in the deep way: All, At, Has, Vars, Uses; loose indexes. The document's uses, and what is taken out, walked in the deep way. The document's Take, walked in the deep way; what is wrong with a pattern. Terms that are the same, as deep contracts. Package match, walked in the deep way: put. Package match, walked in the deep way: walk, may. What matching takes out of a term, put back, is the term; plain. A flexible head's term, put back, is the term; plain. Terms put for metavariables keep types; plain. What a matching binds, put into the pattern, is the term; plain. What a matching binds, put into the pattern, is the term: by the pattern; plain. What a matching binds is typed; plain. A loop over a function, whose round writes to what its own assignment laid. The reference's loose indexes, and terms that grow. The document's heads of a term. The document's Heads and Count. term.Count. slices.Sort and slices.Compact of ints of the call's own; what they hand back rises. A function that has run loops over functions leaves with a mark for each; rows of ints that grow within such rounds. term.Metas. A pattern matches what a substitution made of it, by just that; plain.
-/
import Derived.Test.YtflbnonbfmmchaaGreatRowMatchBackp7
import Derived.Test.YtflbnonbfmmchaaGreatRowMatchBackp5
import Derived.Test.YtflbnonbfmmchaaGreatRowMatchBackp6
import Derived.Deep.QuietTactic
import Derived.BigQuiet
import Derived.WalkSmall
import Derived.Test.YtflbnonbfmmchaaGreatRowMatchBackp1
import Derived.Lib.OwnBridge
import Derived.Sort.OwnSortedInts
import Derived.RangeFuncBox
set_option maxRecDepth 100000
set_option maxHeartbeats 1000000
set_option linter.unusedVariables false
set_option linter.unusedSimpArgs false
namespace Go.Proofs.YtflbnonbfmmchaaGreat
open Go.RowKit
theorem half_i (k:Nat)(h:k<4611686018427387904):IntKind.i64.wrap ((IntKind.u64.wrap (↑k:Int)).fdiv 2)=((k / 2:Nat):Int):=by
 have e1:IntKind.u64.wrap (↑k:Int)=↑k:=by
  simp only[IntKind.wrap,IntKind.bits,IntKind.signed]
  simp
  omega
 rw[e1,Int.fdiv_eq_ediv_of_nonneg _ (by omega),IntWalk.i64_in _ (by omega)]
 omega
namespace So
def ky (L:List (Int×Tm))(i:Nat):Int:=((L[i]?).map (·.1)).getD 0
theorem ky_at {L:List (Int×Tm)}{i:Nat}{x:Int×Tm}(h:L[i]?=some x):ky L i=x.1:=by simp[ky,h]
theorem at_ex {α:Type}{L:List α}{n i:Nat}(hn:L.length=n)(hi:i<n):∃ x,L[i]?=some x:=⟨L[i]'(by omega),List.getElem?_eq_getElem (by omega)⟩
theorem left_one {x:Int×Tm}{Y1 Y2:List (Int×Tm)}(hY:Srt (Y1++Y2))(h1:∀ y∈Y1,y.1<x.1)(h2:∀ y∈Y2,x.1≤y.1):ss ([x]++(Y1++Y2))=Y1++x :: Y2:=by
 have a:=srt_app.1 hY
 have h:=ss_cut (X1:=[]) (X2:=[x]) (Y1:=Y1) (Y2:=Y2) (srt_one x) hY (fun _ h=>by cases h) (fun y hy u hu=>by rw[List.mem_singleton] at hu;subst hu;exact h1 y hy)
 rw[List.nil_append,List.nil_append,ss_self a.1,ss_self (l:=[x]++Y2) (List.pairwise_cons.2 ⟨h2,a.2.1⟩)] at h
 exact h
theorem right_one {y:Int×Tm}{X1 X2:List (Int×Tm)}(hX:Srt (X1++X2))(h1:∀ x∈X1,x.1≤y.1)(h2:∀ x∈X2,y.1<x.1):ss (X1++X2++[y])=X1++y :: X2:=ss_snoc (ss_self hX).symm h1 h2
theorem sym_cut {A X Y Z L:List (Int×Tm)}{a m b mid s:Nat}(hX:Srt X)(hY:Srt Y)(hL:L=A++X++Y++Z)(ha:A.length=a)(hm:a+X.length=m)(hb:m+Y.length=b)(q1:a≤s)(q2:s≤m)(q3:s≤mid)(q4:mid+m≤s+b) 
  (h1:s=a∨mid+m=s+b∨ky L (s-1)≤ky L (mid+m-s)) (h2:s=mid∨s=m∨ky L (mid+m-1-s)<ky L s) :
  ∃ X1 X2 Y1 Y2,X=X1++X2∧Y=Y1++Y2∧a+X1.length=s∧s+Y1.length=mid∧(∀ x∈X1,∀ y∈Y2,x.1≤y.1)∧(∀ y∈Y1,∀ x∈X2,y.1<x.1):=by
 obtain⟨X1,X2,rfl,hx⟩:∃ X1 X2,X=X1++X2∧a+X1.length=s:=⟨X.take (s-a),X.drop (s-a),(List.take_append_drop _ _).symm,by simp;omega⟩
 obtain⟨Y1,Y2,rfl,hy⟩:∃ Y1 Y2,Y=Y1++Y2∧s+Y1.length=mid:=⟨Y.take (mid-s),Y.drop (mid-s),(List.take_append_drop _ _).symm,by simp;omega⟩
 rw[List.length_append] at hm hb
 have sx:=srt_app.1 hX
 have sy:=srt_app.1 hY
 refine⟨X1,X2,Y1,Y2,rfl,rfl,hx,hy,fun x hxm y hym=>?_,fun y hym x hxm=>?_⟩
 ·rcases snoc_cases X1 with rfl | ⟨U,u,rfl⟩
  ·cases hxm
  cases Y2 with
  | nil=>cases hym
  | cons v V=>
   simp at hx hm hb
   have e1:L[s-1]?=some u:=at_ (P:=A++U) (R:=X2++(Y1++v :: V)++Z) (by rw[hL];simp) (by simp;omega)
   have e2:L[mid+m-s]?=some v:=at_ (P:=A++(U++[u]++X2)++Y1) (R:=V++Z) (by rw[hL];simp) (by simp;omega)
   rcases h1 with h1 | h1 | h1
   ·omega
   ·omega
   ·rw[ky_at e1,ky_at e2] at h1
    have a1:x.1≤u.1:=by
     rcases List.mem_append.1 hxm with h | h
     ·exact(srt_app.1 sx.1).2.2 x h u (by simp)
     ·rw[List.mem_singleton] at h;rw[h];exact Int.le_refl _
    have a2:v.1≤y.1:=by
     rcases List.mem_cons.1 hym with h | h
     ·rw[h];exact Int.le_refl _
     ·exact(List.pairwise_cons.1 sy.2.1).1 y h
    omega
 ·rcases snoc_cases Y1 with rfl | ⟨U,u,rfl⟩
  ·cases hym
  cases X2 with
  | nil=>cases hxm
  | cons v V=>
   simp at hy hm hb
   have e1:L[mid+m-1-s]?=some u:=at_ (P:=A++(X1++v :: V)++U) (R:=Y2++Z) (by rw[hL];simp) (by simp;omega)
   have e2:L[s]?=some v:=at_ (P:=A++X1) (R:=V++(U++[u]++Y2)++Z) (by rw[hL];simp) (by simp;omega)
   rcases h2 with h2 | h2 | h2
   ·omega
   ·omega
   ·rw[ky_at e1,ky_at e2] at h2
    have a1:y.1≤u.1:=by
     rcases List.mem_append.1 hym with h | h
     ·exact(srt_app.1 sy.1).2.2 y h u (by simp)
     ·rw[List.mem_singleton] at h;rw[h];exact Int.le_refl _
    have a2:v.1≤x.1:=by
     rcases List.mem_cons.1 hxm with h | h
     ·rw[h];exact Int.le_refl _
     ·exact(List.pairwise_cons.1 sx.2.1).1 x h
    omega
end So
abbrev symIn (n a m b:Nat):List D:=[.ps 0 n,.v (.int .i64 ↑a),.v (.int .i64 ↑m),.v (.int .i64 ↑b),.fn 113 []]
abbrev symR (L:List (Int×Tm)):List (Key×D):=[(.r 0,.rp 79 5 (ePairs L))]
theorem sym_left (A:List (Int×Tm))(x:Int×Tm)(Y Z:List (Int×Tm))(n a m b:Nat)(hn:(A++[x]++Y++Z).length=n)(ha:A.length=a)(hm:a+1=m)(hb:m+Y.length=b)(hY:So.Srt Y)(hM:n≤1000000):
  CallG Tryz.prog 179 (symIn n a m b) (symR (A++[x]++Y++Z)) (symR (A++So.ss ([x]++Y)++Z)) (.tu []):=by
 have hbn:b≤n:=by simp at hn;omega
 obtain⟨L,hL⟩:∃ L,A++[x]++Y++Z=L:=⟨_,rfl⟩
 rw[hL] at hn ⊢
 have hx:L[a]?=some x:=at_ (P:=A) (R:=Y++Z) (by rw[←hL];simp) ha
 have lx:=pl_lt hn hx
 subst hb
 refine callG_of_dw 1 220 [] TSO_ok (by kernel_rfl) Tryz.func179 rfl Tryz.ntmps179 rfl (by simp) ?dwords ?dbody
 case dwords=>simp[wordsG,rowN,rowsR,gkey,Key.eq,D.ok,D.oks,D.okss,rnames,inN,ckey,ePairs_ok]
 case dbody=>
  intro cx hnt hn0
  refine dw_seq ?_;refine dw_seq ?_;refine dwk [(27,.v (.int .i64 (↑1))),(28,.v (.bool true))] TSO_ok hnt fun K hK=>?_;refine And.intro auI ?_;refine And.intro (beqT rfl) ?_;refine hK _ _ ?_;clear hK K;refine dw_cond (t:=true) rfl ?_;rw[if_pos rfl];refine dw_seq ?_;refine dwk [] TSO_ok hnt fun _ z9=>z9 _ _ ?_;refine dw_seq ?_;refine dwk [] TSO_ok hnt fun K hK=>?_
  refine hK _ _ ?_;clear hK K;refine dw_seq ?_;refine dw_block ?_
  refine dw_loop (ι:={ p:List (Int×Tm)×List (Int×Tm)×List (Int×Tm) // p.1++p.2.1++p.2.2=Y∧(∀ y∈p.1,y.1<x.1)∧(∀ y∈p.2.2,x.1≤y.1) }) (fun p=>[(.t 0,.ps 0 n),(.t 1,.v (.int .i64 ↑a)),(.t 4,.fn 113 []),(.t 10,.v (.int .i64 ↑(m+p.1.1.length))),(.t 11,.v (.int .i64 ↑(m+p.1.1.length+p.1.2.1.length))),(.r 0,.rp 79 5 (ePairs L))]) 1 (fun p=>p.1.2.1.length) (⟨([],Y,[]),by simp,by simp,by simp⟩) ((VS.toK (by omega) (by repeat first | exact trivial | refine And.intro (And.intro (by first | rfl | simp[D.ok,D.oks,D.okss,D.okm,upto,keyOk,argsT]) (by first | exact Or.inl rfl | exact Or.inr ⟨_,rfl,(by repeat first | exact VLe.refl _ | exact VLe.nil _ | exact VLe.untag _ _ _ | refine VLe.ag ?_ | refine VLe.tu ?_ | refine VLeL.cons ?_ ?_ | exact VLeL.nil),trivial⟩ | simp[get,Key.eq,argsT])) ?_))) fun j=>?_
  obtain⟨⟨Y1,Mi,Y2⟩,hs,h1,h2⟩:=j
  dsimp only at hs h1 h2 ⊢
  have hYl:Y1.length+Mi.length+Y2.length=Y.length:=by rw[←hs];simp;omega
  by_cases h0:Mi.length=0
  ·have:Mi=[]:=List.length_eq_zero_iff.1 h0
   subst this
   rw[List.append_nil] at hs
   rw[List.length_nil,Nat.add_zero] at hYl ⊢
   refine dw_seq ?_;refine dw_seq ?_;refine dwk [(33,.v (.bool false))] TSO_ok hnt fun K hK=>?_;refine And.intro auF ?_;refine hK _ _ ?_;clear hK K;refine dw_cond (t:=false) rfl ?_;rw[if_neg (by simp)];refine dw_exit ?_;refine dw_seq ?_;refine dw_seq ?_;refine dwk [] TSO_ok hnt fun _ z9=>z9 _ _ ?_;refine dw_block ?_
   refine dw_loop (ι:={ p:List (Int×Tm)×List (Int×Tm) // p.1++p.2=Y1 }) (fun p=>[(.t 0,.ps 0 n),(.t 10,.v (.int .i64 ↑(m+Y1.length))),(.t 13,.v (.int .i64 ↑(a+p.1.1.length))),(.r 0,.rp 79 5 (ePairs (A++p.1.1++x :: p.1.2++Y2++Z)))]) 1 (fun p=>p.1.2.length) (⟨([],Y1),rfl⟩) ((VS.toK (by omega) (by repeat first | exact trivial | refine And.intro (And.intro (by first | rfl | simp[D.ok,D.oks,D.okss,D.okm,upto,keyOk,←hL,←hs]) (by first | exact Or.inl rfl | exact Or.inr ⟨_,rfl,(by repeat first | exact VLe.refl _ | exact VLe.nil _ | exact VLe.untag _ _ _ | refine VLe.ag ?_ | refine VLe.tu ?_ | refine VLeL.cons ?_ ?_ | exact VLeL.nil),trivial⟩ | simp[get,Key.eq,←hL,←hs])) ?_))) fun j=>?_
   obtain⟨⟨B1,B2⟩,hB⟩:=j
   dsimp only at hB ⊢
   have hBl:B1.length+B2.length=Y1.length:=by rw[←hB];simp
   cases B2 with
   | nil=>
    rw[List.length_nil] at hBl
    rw[List.append_nil] at hB
    have hf:So.ss ([x]++Y)=Y1++x :: Y2:=by rw[←hs];exact So.left_one (by rw[hs];exact hY) h1 h2
    rw[hf]
    have e2:A++B1++[x]++Y2++Z=A++(Y1++x :: Y2)++Z:=by rw[hB];simp
    rw[e2]
    refine dw_seq ?_;refine dw_seq ?_;refine dwk [(57,.v (.int .i64 (↑(a+Y1.length)))),(58,.v (.bool false))] TSO_ok hnt fun K hK=>?_;refine And.intro auI ?_;refine And.intro auF ?_;refine hK _ _ ?_;clear hK K;refine dw_cond (t:=false) rfl ?_;rw[if_neg (by simp)];refine dw_exit ?_;refine dw_ret ?_
    exact reta rfl
   | cons y B2=>
    rw[List.length_cons] at hBl
    obtain⟨L2,hL2⟩:∃ L2,A++B1++x :: (y :: B2)++Y2++Z=L2:=⟨_,rfl⟩
    rw[hL2]
    have hn2:L2.length=n:=by rw[←hL2,←hn,←hL,←hs,←hB];simp;omega
    have gx:L2[a+B1.length]?=some x:=at_ (P:=A++B1) (R:=y :: B2++Y2++Z) (by rw[←hL2];simp) (by simp;omega)
    have gy:L2[a+B1.length+1]?=some y:=at_ (P:=A++B1++[x]) (R:=B2++Y2++Z) (by rw[←hL2];simp) (by simp;omega)
    have ly:=pl_lt hn2 gy
    refine dw_seq ?_;refine dw_seq ?_;refine dwk [(57,.v (.int .i64 (↑(a+Y1.length)))),(58,.v (.bool true))] TSO_ok hnt fun K hK=>?_;refine And.intro auI ?_;refine And.intro auT ?_;refine hK _ _ ?_;clear hK K;refine dw_cond (t:=true) rfl ?_;rw[if_pos rfl];refine dw_skip ?_;refine dw_seq ?_;refine dw_block ?_;refine dwkD [(65,.v (.int .i64 (↑(a+B1.length+1)))),(68,.v (.int .i64 (↑(a+B1.length+1)))),(69,.pr 0 n 5 ((a+B1.length+1)) 0),(70,.ag [.v (.int .i64 y.1),.sl 2 (eTys y.2.binds) none,.v (.int .i64 y.2.kind),.v (.int .i64 y.2.index),.sl 4 (eTms y.2.args) none]),(73,.pr 0 n 5 ((a+B1.length)) 0),(74,.ag [.v (.int .i64 x.1),.sl 2 (eTys x.2.binds) none,.v (.int .i64 x.2.kind),.v (.int .i64 x.2.index),.sl 4 (eTms x.2.args) none]),(75,.pr 0 n 5 ((a+B1.length)) 0),(76,.pr 0 n 5 ((a+B1.length+1)) 0)] TSO_ok hnt fun K hK=>?_
    refine And.intro auI ?_;refine And.intro auI ?_;refine And.intro (by constructor <;> omega) ?_;refine And.intro (by first | rfl | exact VLe.of_eq (by simp)) ?_;refine And.intro (pl_ok hn2 gy) ?_;refine And.intro (pl_eq gy) ?_;refine And.intro (by constructor <;> omega) ?_;refine And.intro (by first | rfl | exact VLe.of_eq (by simp)) ?_;refine And.intro (pl_ok hn2 gx) ?_;refine And.intro (pl_eq gx) ?_
    refine And.intro (by constructor <;> omega) ?_;refine And.intro (by first | rfl | exact VLe.of_eq (by simp)) ?_;refine And.intro (st_ok hn2 gx) ?_;refine And.intro (by constructor <;> omega) ?_;refine And.intro (by first | rfl | exact VLe.of_eq (by simp)) ?_;refine And.intro (st_ok2 hn2 gy) ?_;refine hK _ _ (by kernel_rfl) ?_;clear hK K
    rw[eP_swap (P:=A++B1) (Q:=[]) (R:=B2++Y2++Z) (L':=A++(B1++[y])++x :: B2++Y2++Z) (by rw[←hL2];simp) (by simp;omega) (by simp) (by simp)]
    refine dwk [(60,.v (.int .i64 (↑(a+(B1++[y]).length))))] TSO_ok hnt fun K hK=>?_;refine And.intro (dintE (by rw[IntWalk.i64_in _ (by omega)];simp;omega)) ?_;refine hK _ _ ?_;clear hK K
    refine⟨⟨(B1++[y],B2),by rw[←hB];simp⟩,by simp,VS.toA⟩
  ·obtain⟨M1,y,M2,rfl,hh⟩:∃ M1 y M2,Mi=M1++y :: M2∧m+Y1.length+M1.length=(m+Y1.length+(m+Y1.length+Mi.length)) / 2:=by
    have hlt:Mi.length / 2<Mi.length:=by omega
    refine⟨Mi.take (Mi.length / 2),Mi[Mi.length / 2],Mi.drop (Mi.length / 2+1),?_,?_⟩
    ·rw[←List.drop_eq_getElem_cons hlt,List.take_append_drop]
    ·rw[List.length_take,Nat.min_eq_left (by omega)];omega
   have hMl:(M1++y :: M2).length=M1.length+M2.length+1:=by simp;omega
   have hy:L[m+Y1.length+M1.length]?=some y:=at_ (P:=A++[x]++Y1++M1) (R:=M2++Y2++Z) (by rw[←hL,←hs];simp) (by simp;omega)
   have ho:=sorder_d y x
   rw[ePair_eq,ePair_eq] at ho
   have hsrt:=hY
   rw[←hs] at hsrt
   have a1:=(So.srt_app.1 (So.srt_app.1 hsrt).1).2.1
   have a2:=So.srt_app.1 a1
   obtain⟨c,hc⟩:∃ c,m+Y1.length+(M1++y :: M2).length=c:=⟨_,rfl⟩
   rw[hc] at hh ⊢
   by_cases hlt:y.1<x.1
   ·skip
    refine dw_seq ?_;refine dw_seq ?_;refine dwk [(33,.v (.bool true))] TSO_ok hnt fun K hK=>?_;refine And.intro auT ?_;refine hK _ _ ?_;clear hK K;refine dw_cond (t:=true) rfl ?_;rw[if_pos rfl];refine dw_skip ?_;refine dw_block ?_;refine dw_seq ?_;refine dwk [(36,.v (.int .i64 (↑(m+Y1.length+c)))),(39,.v (.int .i64 (↑(m+Y1.length+M1.length))))] TSO_ok hnt fun K hK=>?_;refine And.intro auI ?_
    refine And.intro (dintE (by rw[hh];exact half_i _ (by omega))) ?_;refine hK _ _ ?_;clear hK K;refine dw_seq ?_;refine dwkD [(43,.pr 0 n 5 ((m+Y1.length+M1.length)) 0),(44,.ag [.v (.int .i64 y.1),.sl 2 (eTys y.2.binds) none,.v (.int .i64 y.2.kind),.v (.int .i64 y.2.index),.sl 4 (eTms y.2.args) none]),(47,.pr 0 n 5 (a) 0),(48,.ag [.v (.int .i64 x.1),.sl 2 (eTys x.2.binds) none,.v (.int .i64 x.2.kind),.v (.int .i64 x.2.index),.sl 4 (eTms x.2.args) none]),(50,.v (.bool true))] TSO_ok hnt fun K hK=>?_
    refine And.intro (by constructor <;> omega) ?_;refine And.intro (by first | rfl | exact VLe.of_eq (by simp)) ?_;refine And.intro (pl_ok hn hy) ?_;refine And.intro (pl_eq hy) ?_;refine And.intro (by constructor <;> omega) ?_;refine And.intro (by first | rfl | exact VLe.of_eq (by simp)) ?_;refine And.intro (pl_ok hn hx) ?_;refine And.intro (pl_eq hx) ?_;refine dcl (ho) ?_;refine And.intro (dtrue (cmpI_lt.2 hlt)) ?_
    refine hK _ _ (by kernel_rfl) ?_;clear hK K;refine dw_cond (t:=true) rfl ?_;rw[if_pos rfl];refine dwk [(52,.v (.int .i64 (↑(m+(Y1++(M1++[y])).length))))] TSO_ok hnt fun K hK=>?_;refine And.intro (dintE (by rw[IntWalk.i64_in _ (by omega)];simp;omega)) ?_;refine hK _ _ ?_;clear hK K
    have e3:c=m+(Y1++(M1++[y])).length+M2.length:=by rw[←hc];simp;omega
    rw[e3]
    refine⟨⟨(Y1++(M1++[y]),M2,Y2),by rw[←hs];simp,fun u hu=>?g1,h2⟩,by simp;omega,VS.toA⟩
    case g1=>
     rcases List.mem_append.1 hu with hu | hu
     ·exact h1 u hu
     ·rcases List.mem_append.1 hu with hu | hu
      ·have:=a2.2.2 u hu y (by simp);omega
      ·rw[List.mem_singleton] at hu;subst hu;exact hlt
   ·skip
    refine dw_seq ?_;refine dw_seq ?_;refine dwk [(33,.v (.bool true))] TSO_ok hnt fun K hK=>?_;refine And.intro auT ?_;refine hK _ _ ?_;clear hK K;refine dw_cond (t:=true) rfl ?_;rw[if_pos rfl];refine dw_skip ?_;refine dw_block ?_;refine dw_seq ?_;refine dwk [(36,.v (.int .i64 (↑(m+Y1.length+c)))),(39,.v (.int .i64 (↑(m+Y1.length+M1.length))))] TSO_ok hnt fun K hK=>?_;refine And.intro auI ?_
    refine And.intro (dintE (by rw[hh];exact half_i _ (by omega))) ?_;refine hK _ _ ?_;clear hK K;refine dw_seq ?_;refine dwkD [(43,.pr 0 n 5 ((m+Y1.length+M1.length)) 0),(44,.ag [.v (.int .i64 y.1),.sl 2 (eTys y.2.binds) none,.v (.int .i64 y.2.kind),.v (.int .i64 y.2.index),.sl 4 (eTms y.2.args) none]),(47,.pr 0 n 5 (a) 0),(48,.ag [.v (.int .i64 x.1),.sl 2 (eTys x.2.binds) none,.v (.int .i64 x.2.kind),.v (.int .i64 x.2.index),.sl 4 (eTms x.2.args) none]),(50,.v (.bool false))] TSO_ok hnt fun K hK=>?_
    refine And.intro (by constructor <;> omega) ?_;refine And.intro (by first | rfl | exact VLe.of_eq (by simp)) ?_;refine And.intro (pl_ok hn hy) ?_;refine And.intro (pl_eq hy) ?_;refine And.intro (by constructor <;> omega) ?_;refine And.intro (by first | rfl | exact VLe.of_eq (by simp)) ?_;refine And.intro (pl_ok hn hx) ?_;refine And.intro (pl_eq hx) ?_;refine dcl (ho) ?_;refine And.intro (dfalse (fun h=>hlt (cmpI_lt.1 h))) ?_
    refine hK _ _ (by kernel_rfl) ?_;clear hK K;refine dw_cond (t:=false) rfl ?_;rw[if_neg (by simp)];refine dwk [] TSO_ok hnt fun _ z9=>z9 _ _ ?_
    refine⟨⟨(Y1,M1,y :: M2++Y2),by rw[←hs];simp,h1,fun u hu=>?g2⟩,by simp,VS.toA⟩
    case g2=>
     rcases List.mem_append.1 hu with hu | hu
     ·rcases List.mem_cons.1 hu with rfl | hu
      ·omega
      ·have:=(List.pairwise_cons.1 a2.2.1).1 u hu;omega
     ·exact h2 u hu
theorem sym_right (A:List (Int×Tm))(X:List (Int×Tm))(y:Int×Tm)(Z:List (Int×Tm))(n a m b:Nat)(hn:(A++X++[y]++Z).length=n)(ha:A.length=a)(hm:a+X.length=m)(hb:m+1=b)(hX:So.Srt X)(h1X:X.length≠1)(hM:n≤1000000):
  CallG Tryz.prog 179 (symIn n a m b) (symR (A++X++[y]++Z)) (symR (A++So.ss (X++[y])++Z)) (.tu []):=by
 have hbn:b≤n:=by simp at hn;omega
 obtain⟨L,hL⟩:∃ L,A++X++[y]++Z=L:=⟨_,rfl⟩
 rw[hL] at hn ⊢
 have hy:L[m]?=some y:=at_ (P:=A++X) (R:=Z) (by rw[←hL];simp) (by simp;omega)
 have ly:=pl_lt hn hy
 subst hm
 refine callG_of_dw 1 220 [] TSO_ok (by kernel_rfl) Tryz.func179 rfl Tryz.ntmps179 rfl (by simp) ?dwords ?dbody
 case dwords=>simp[wordsG,rowN,rowsR,gkey,Key.eq,D.ok,D.oks,D.okss,rnames,inN,ckey,ePairs_ok]
 case dbody=>
  intro cx hnt hn0
  refine dw_seq ?_;refine dw_seq ?_;refine dwk [(27,.v (.int .i64 (↑X.length))),(28,.v (.bool false))] TSO_ok hnt fun K hK=>?_;refine And.intro auI ?_;refine And.intro (beqF (by omega)) ?_;refine hK _ _ ?_;clear hK K;refine dw_cond (t:=false) rfl ?_;rw[if_neg (by simp)];refine dw_skip ?_;refine dw_seq ?_;refine dw_seq ?_;refine dwk [(79,.v (.int .i64 (↑1))),(80,.v (.bool true))] TSO_ok hnt fun K hK=>?_
  refine And.intro auI ?_;refine And.intro (beqT rfl) ?_;refine hK _ _ ?_;clear hK K;refine dw_cond (t:=true) rfl ?_;rw[if_pos rfl];refine dw_seq ?_;refine dwk [] TSO_ok hnt fun _ z9=>z9 _ _ ?_;refine dw_seq ?_;refine dwk [] TSO_ok hnt fun _ z9=>z9 _ _ ?_;refine dw_seq ?_;refine dw_block ?_
  refine dw_loop (ι:={ p:List (Int×Tm)×List (Int×Tm)×List (Int×Tm) // p.1++p.2.1++p.2.2=X∧(∀ x∈p.1,x.1≤y.1)∧(∀ x∈p.2.2,y.1<x.1) }) (fun p=>[(.t 0,.ps 0 n),(.t 2,.v (.int .i64 ↑(a+X.length))),(.t 4,.fn 113 []),(.t 14,.v (.int .i64 ↑(a+p.1.1.length))),(.t 15,.v (.int .i64 ↑(a+p.1.1.length+p.1.2.1.length))),(.r 0,.rp 79 5 (ePairs L))]) 1 (fun p=>p.1.2.1.length) (⟨([],X,[]),by simp,by simp,by simp⟩) ((VS.toK (by omega) (by repeat first | exact trivial | refine And.intro (And.intro (by first | rfl | simp[D.ok,D.oks,D.okss,D.okm,upto,keyOk,argsT]) (by first | exact Or.inl rfl | exact Or.inr ⟨_,rfl,(by repeat first | exact VLe.refl _ | exact VLe.nil _ | exact VLe.untag _ _ _ | refine VLe.ag ?_ | refine VLe.tu ?_ | refine VLeL.cons ?_ ?_ | exact VLeL.nil),trivial⟩ | simp[get,Key.eq,argsT])) ?_))) fun j=>?_
  obtain⟨⟨X1,Mi,X2⟩,hs,h1,h2⟩:=j
  dsimp only at hs h1 h2 ⊢
  have hXl:X1.length+Mi.length+X2.length=X.length:=by rw[←hs];simp;omega
  by_cases h0:Mi.length=0
  ·have:Mi=[]:=List.length_eq_zero_iff.1 h0
   subst this
   rw[List.append_nil] at hs
   rw[List.length_nil,Nat.add_zero] at hXl ⊢
   refine dw_seq ?_;refine dw_seq ?_;refine dwk [(85,.v (.bool false))] TSO_ok hnt fun K hK=>?_;refine And.intro auF ?_;refine hK _ _ ?_;clear hK K;refine dw_cond (t:=false) rfl ?_;rw[if_neg (by simp)];refine dw_exit ?_;refine dw_seq ?_;refine dw_seq ?_;refine dwk [(17,.v (.int .i64 ↑(a+X1.length+X2.length)))] TSO_ok hnt fun K hK=>?_;refine And.intro (VLe.of_eq (by rw[←hXl,Nat.add_assoc])) ?_
   refine hK _ _ ?_;clear hK K;refine dw_block ?_
   refine dw_loop (ι:={ p:List (Int×Tm)×List (Int×Tm) // p.1++p.2=X2 }) (fun p=>[(.t 0,.ps 0 n),(.t 14,.v (.int .i64 ↑(a+X1.length))),(.t 17,.v (.int .i64 ↑(a+X1.length+p.1.1.length))),(.r 0,.rp 79 5 (ePairs (A++X1++p.1.1++y :: p.1.2++Z)))]) 1 (fun p=>p.1.1.length) (⟨(X2,[]),by simp⟩) ((VS.toK (by omega) (by repeat first | exact trivial | refine And.intro (And.intro (by first | rfl | simp[D.ok,D.oks,D.okss,D.okm,upto,keyOk,←hL,←hs]) (by first | exact Or.inl rfl | exact Or.inr ⟨_,rfl,(by repeat first | exact VLe.refl _ | exact VLe.nil _ | exact VLe.untag _ _ _ | refine VLe.ag ?_ | refine VLe.tu ?_ | refine VLeL.cons ?_ ?_ | exact VLeL.nil),trivial⟩ | simp[get,Key.eq,←hL,←hs])) ?_))) fun j=>?_
   obtain⟨⟨B1,B2⟩,hB⟩:=j
   dsimp only at hB ⊢
   have hBl:B1.length+B2.length=X2.length:=by rw[←hB];simp
   rcases snoc_cases B1 with rfl | ⟨B,x,rfl⟩
   ·rw[List.nil_append] at hB
    have hf:So.ss (X++[y])=X1++y :: X2:=by rw[←hs];exact So.right_one (by rw[hs];exact hX) h1 h2
    rw[hf,List.append_nil]
    have e2:A++X1++y :: B2++Z=A++(X1++y :: X2)++Z:=by rw[hB];simp
    rw[e2,List.length_nil,Nat.add_zero]
    refine dw_seq ?_;refine dw_seq ?_;refine dwk [(110,.v (.bool false))] TSO_ok hnt fun K hK=>?_;refine And.intro auF ?_;refine hK _ _ ?_;clear hK K;refine dw_cond (t:=false) rfl ?_;rw[if_neg (by simp)];refine dw_exit ?_;refine dw_ret ?_
    exact reta rfl
   ·obtain⟨k,hk⟩:∃ k,a+X1.length+B.length=k:=⟨_,rfl⟩
    have hk2:a+X1.length+(B++[x]).length=k+1:=by simp;omega
    rw[hk2]
    obtain⟨L2,hL2⟩:∃ L2,A++X1++(B++[x])++y :: B2++Z=L2:=⟨_,rfl⟩
    rw[hL2]
    have hn2:L2.length=n:=by rw[←hL2,←hn,←hL,←hs,←hB];simp;omega
    have gx:L2[k]?=some x:=at_ (P:=A++X1++B) (R:=y :: B2++Z) (by rw[←hL2];simp) (by simp;omega)
    have gy:L2[k+1]?=some y:=at_ (P:=A++X1++B++[x]) (R:=B2++Z) (by rw[←hL2];simp) (by simp;omega)
    have ly2:=pl_lt hn2 gy
    refine dw_seq ?_;refine dw_seq ?_;refine dwk [(110,.v (.bool true))] TSO_ok hnt fun K hK=>?_;refine And.intro auT ?_;refine hK _ _ ?_;clear hK K;refine dw_cond (t:=true) rfl ?_;rw[if_pos rfl];refine dw_skip ?_;refine dw_seq ?_;refine dw_block ?_;refine dwkD [(117,.v (.int .i64 (↑k))),(120,.v (.int .i64 (↑k))),(121,.pr 0 n 5 (k) 0),(122,.ag [.v (.int .i64 x.1),.sl 2 (eTys x.2.binds) none,.v (.int .i64 x.2.kind),.v (.int .i64 x.2.index),.sl 4 (eTms x.2.args) none]),(125,.pr 0 n 5 ((k+1)) 0),(126,.ag [.v (.int .i64 y.1),.sl 2 (eTys y.2.binds) none,.v (.int .i64 y.2.kind),.v (.int .i64 y.2.index),.sl 4 (eTms y.2.args) none]),(127,.pr 0 n 5 ((k+1)) 0),(128,.pr 0 n 5 (k) 0)] TSO_ok hnt fun K hK=>?_
    refine And.intro auI ?_;refine And.intro auI ?_;refine And.intro (by constructor <;> omega) ?_;refine And.intro (by first | rfl | exact VLe.of_eq (by simp)) ?_;refine And.intro (pl_ok hn2 gx) ?_;refine And.intro (pl_eq gx) ?_;refine And.intro (by constructor <;> omega) ?_;refine And.intro (by first | rfl | exact VLe.of_eq (by simp)) ?_;refine And.intro (pl_ok hn2 gy) ?_;refine And.intro (pl_eq gy) ?_
    refine And.intro (by constructor <;> omega) ?_;refine And.intro (by first | rfl | exact VLe.of_eq (by simp)) ?_;refine And.intro (st_ok hn2 gy) ?_;refine And.intro (by constructor <;> omega) ?_;refine And.intro (by first | rfl | exact VLe.of_eq (by simp)) ?_;refine And.intro (st_ok2 hn2 gx) ?_;refine hK _ _ (by kernel_rfl) ?_;clear hK K
    rw[eP_swap' (P:=A++X1++B) (Q:=[]) (R:=B2++Z) (L':=A++X1++B++y :: (x :: B2)++Z) (by rw[←hL2];simp) (by simp;omega) (by simp) (by simp)]
    refine dwk [(112,.v (.int .i64 (↑k)))] TSO_ok hnt fun K hK=>?_;refine And.intro auI ?_;refine hK _ _ ?_;clear hK K
    rw[←hk]
    refine⟨⟨(B,x :: B2),by rw[←hB];simp⟩,by simp,VS.toA⟩
  ·obtain⟨M1,x,M2,rfl,hh⟩:∃ M1 x M2,Mi=M1++x :: M2∧a+X1.length+M1.length=(a+X1.length+(a+X1.length+Mi.length)) / 2:=by
    have hlt:Mi.length / 2<Mi.length:=by omega
    refine⟨Mi.take (Mi.length / 2),Mi[Mi.length / 2],Mi.drop (Mi.length / 2+1),?_,?_⟩
    ·rw[←List.drop_eq_getElem_cons hlt,List.take_append_drop]
    ·rw[List.length_take,Nat.min_eq_left (by omega)];omega
   have hMl:(M1++x :: M2).length=M1.length+M2.length+1:=by simp;omega
   have hx:L[a+X1.length+M1.length]?=some x:=at_ (P:=A++X1++M1) (R:=M2++X2++[y]++Z) (by rw[←hL,←hs];simp) (by simp;omega)
   have ho:=sorder_d y x
   rw[ePair_eq,ePair_eq] at ho
   have hsrt:=hX
   rw[←hs] at hsrt
   have a1:=(So.srt_app.1 (So.srt_app.1 hsrt).1).2.1
   have a2:=So.srt_app.1 a1
   obtain⟨c,hc⟩:∃ c,a+X1.length+(M1++x :: M2).length=c:=⟨_,rfl⟩
   rw[hc] at hh ⊢
   by_cases hlt:y.1<x.1
   ·skip
    refine dw_seq ?_;refine dw_seq ?_;refine dwk [(85,.v (.bool true))] TSO_ok hnt fun K hK=>?_;refine And.intro auT ?_;refine hK _ _ ?_;clear hK K;refine dw_cond (t:=true) rfl ?_;rw[if_pos rfl];refine dw_skip ?_;refine dw_block ?_;refine dw_seq ?_;refine dwk [(88,.v (.int .i64 (↑(a+X1.length+c)))),(91,.v (.int .i64 (↑(a+X1.length+M1.length))))] TSO_ok hnt fun K hK=>?_;refine And.intro auI ?_
    refine And.intro (dintE (by rw[hh];exact half_i _ (by omega))) ?_;refine hK _ _ ?_;clear hK K;refine dw_seq ?_;refine dwkD [(95,.pr 0 n 5 ((a+X.length)) 0),(96,.ag [.v (.int .i64 y.1),.sl 2 (eTys y.2.binds) none,.v (.int .i64 y.2.kind),.v (.int .i64 y.2.index),.sl 4 (eTms y.2.args) none]),(99,.pr 0 n 5 ((a+X1.length+M1.length)) 0),(100,.ag [.v (.int .i64 x.1),.sl 2 (eTys x.2.binds) none,.v (.int .i64 x.2.kind),.v (.int .i64 x.2.index),.sl 4 (eTms x.2.args) none]),(102,.v (.bool true))] TSO_ok hnt fun K hK=>?_
    refine And.intro (by constructor <;> omega) ?_;refine And.intro (by first | rfl | exact VLe.of_eq (by simp)) ?_;refine And.intro (pl_ok hn hy) ?_;refine And.intro (pl_eq hy) ?_;refine And.intro (by constructor <;> omega) ?_;refine And.intro (by first | rfl | exact VLe.of_eq (by simp)) ?_;refine And.intro (pl_ok hn hx) ?_;refine And.intro (pl_eq hx) ?_;refine dcl (ho) ?_;refine And.intro (dtrue (cmpI_lt.2 hlt)) ?_
    refine hK _ _ (by kernel_rfl) ?_;clear hK K;refine dw_cond (t:=false) rfl ?_;rw[if_neg (by simp)];refine dwk [] TSO_ok hnt fun _ z9=>z9 _ _ ?_
    refine⟨⟨(X1,M1,x :: M2++X2),by rw[←hs];simp,h1,fun u hu=>?g2⟩,by simp,VS.toA⟩
    case g2=>
     rcases List.mem_append.1 hu with hu | hu
     ·rcases List.mem_cons.1 hu with rfl | hu
      ·exact hlt
      ·have:=(List.pairwise_cons.1 a2.2.1).1 u hu;omega
     ·exact h2 u hu
   ·skip
    refine dw_seq ?_;refine dw_seq ?_;refine dwk [(85,.v (.bool true))] TSO_ok hnt fun K hK=>?_;refine And.intro auT ?_;refine hK _ _ ?_;clear hK K;refine dw_cond (t:=true) rfl ?_;rw[if_pos rfl];refine dw_skip ?_;refine dw_block ?_;refine dw_seq ?_;refine dwk [(88,.v (.int .i64 (↑(a+X1.length+c)))),(91,.v (.int .i64 (↑(a+X1.length+M1.length))))] TSO_ok hnt fun K hK=>?_;refine And.intro auI ?_
    refine And.intro (dintE (by rw[hh];exact half_i _ (by omega))) ?_;refine hK _ _ ?_;clear hK K;refine dw_seq ?_;refine dwkD [(95,.pr 0 n 5 ((a+X.length)) 0),(96,.ag [.v (.int .i64 y.1),.sl 2 (eTys y.2.binds) none,.v (.int .i64 y.2.kind),.v (.int .i64 y.2.index),.sl 4 (eTms y.2.args) none]),(99,.pr 0 n 5 ((a+X1.length+M1.length)) 0),(100,.ag [.v (.int .i64 x.1),.sl 2 (eTys x.2.binds) none,.v (.int .i64 x.2.kind),.v (.int .i64 x.2.index),.sl 4 (eTms x.2.args) none]),(102,.v (.bool false))] TSO_ok hnt fun K hK=>?_
    refine And.intro (by constructor <;> omega) ?_;refine And.intro (by first | rfl | exact VLe.of_eq (by simp)) ?_;refine And.intro (pl_ok hn hy) ?_;refine And.intro (pl_eq hy) ?_;refine And.intro (by constructor <;> omega) ?_;refine And.intro (by first | rfl | exact VLe.of_eq (by simp)) ?_;refine And.intro (pl_ok hn hx) ?_;refine And.intro (pl_eq hx) ?_;refine dcl (ho) ?_;refine And.intro (dfalse (fun h=>hlt (cmpI_lt.1 h))) ?_
    refine hK _ _ (by kernel_rfl) ?_;clear hK K;refine dw_cond (t:=true) rfl ?_;rw[if_pos rfl];refine dwk [(105,.v (.int .i64 (↑(a+(X1++(M1++[x])).length))))] TSO_ok hnt fun K hK=>?_;refine And.intro (dintE (by rw[IntWalk.i64_in _ (by omega)];simp;omega)) ?_;refine hK _ _ ?_;clear hK K
    have e3:c=a+(X1++(M1++[x])).length+M2.length:=by rw[←hc];simp;omega
    rw[e3]
    refine⟨⟨(X1++(M1++[x]),M2,X2),by rw[←hs];simp,fun u hu=>?g1,h2⟩,by simp;omega,VS.toA⟩
    case g1=>
     rcases List.mem_append.1 hu with hu | hu
     ·exact h1 u hu
     ·rcases List.mem_append.1 hu with hu | hu
      ·have:=a2.2.2 u hu x (by simp);omega
      ·rw[List.mem_singleton] at hu;subst hu;omega
def SymC (N:Nat):Prop:=∀ (A X Y Z:List (Int×Tm)) (n a m b:Nat),X.length+Y.length≤N→(A++X++Y++Z).length=n→A.length=a→a+X.length=m→m+Y.length=b→0<X.length→0<Y.length→So.Srt X→So.Srt Y→n≤1000000 →
 CallG Tryz.prog 179 (symIn n a m b) (symR (A++X++Y++Z)) (symR (A++So.ss (X++Y)++Z)) (.tu [])
set_option maxHeartbeats 4000000 in
theorem sym_step (N:Nat)(ih:∀ k,k<N→SymC k)(A X Y Z:List (Int×Tm))(n a m b:Nat)(hN:X.length+Y.length≤N)(hn:(A++X++Y++Z).length=n)(ha:A.length=a)(hm:a+X.length=m)(hb:m+Y.length=b)(hX2:2≤X.length)(hY2:2≤Y.length)(hX:So.Srt X)(hY:So.Srt Y)(hM:n≤1000000):
  CallG Tryz.prog 179 (symIn n a m b) (symR (A++X++Y++Z)) (symR (A++So.ss (X++Y)++Z)) (.tu []):=by
 have hbn:b+Z.length=n:=by simp at hn;omega
 obtain⟨L,hL⟩:∃ L,A++X++Y++Z=L:=⟨_,rfl⟩
 rw[hL] at hn ⊢
 obtain⟨mid,hmid⟩:∃ mid,mid=(a+b) / 2:=⟨_,rfl⟩
 obtain⟨lo,hi,hlo⟩:∃ lo hi,(mid<m∧lo+b=mid+m∧hi=mid)∨(m≤mid∧lo=a∧hi=m):=by
  by_cases h:mid<m
  ·exact⟨mid+m-b,mid,.inl ⟨h,by omega,rfl⟩⟩
  ·exact⟨a,m,.inr ⟨by omega,rfl,rfl⟩⟩
 obtain⟨q,hq⟩:∃ q,q+1=mid+m:=⟨mid+m-1,by omega⟩
 refine callG_of_dw 1 220 [] TSO_ok (by kernel_rfl) Tryz.func179 rfl Tryz.ntmps179 rfl (by simp) ?dwords ?dbody
 case dwords=>simp[wordsG,rowN,rowsR,gkey,Key.eq,D.ok,D.oks,D.okss,rnames,inN,ckey,ePairs_ok]
 case dbody=>
  intro cx hnt hn0
  refine dw_seq ?_;refine dw_seq ?_;refine dwk [(27,.v (.int .i64 (↑X.length))),(28,.v (.bool false))] TSO_ok hnt fun K hK=>?_;refine And.intro auI ?_;refine And.intro (beqF (by omega)) ?_;refine hK _ _ ?_;clear hK K;refine dw_cond (t:=false) rfl ?_;rw[if_neg (by simp)];refine dw_skip ?_;refine dw_seq ?_;refine dw_seq ?_;refine dwk [(79,.v (.int .i64 (↑Y.length))),(80,.v (.bool false))] TSO_ok hnt fun K hK=>?_
  refine And.intro auI ?_;refine And.intro (beqF (by omega)) ?_;refine hK _ _ ?_;clear hK K;refine dw_cond (t:=false) rfl ?_;rw[if_neg (by simp)];refine dw_skip ?_;refine dw_seq ?_;refine dwk [(131,.v (.int .i64 (↑(a+b)))),(134,.v (.int .i64 (↑mid)))] TSO_ok hnt fun K hK=>?_;refine And.intro auI ?_;refine And.intro (dintE (by rw[hmid];exact half_i _ (by omega))) ?_;refine hK _ _ ?_;clear hK K
  refine dw_seq ?_;refine dwk [(137,.v (.int .i64 (↑(mid+m))))] TSO_ok hnt fun K hK=>?_;refine And.intro auI ?_;refine hK _ _ ?_;clear hK K;refine dw_seq ?_;refine dwk [] TSO_ok hnt fun _ z9=>z9 _ _ ?_
  refine dw_cut (τ:=[(.t 0,.ps 0 n),(.t 1,.v (.int .i64 ↑a)),(.t 2,.v (.int .i64 ↑m)),(.t 3,.v (.int .i64 ↑b)),(.t 4,.fn 113 []),(.t 18,.v (.int .i64 ↑mid)),(.t 19,.v (.int .i64 ↑(mid+m))),(.t 20,.v (.int .i64 ↑lo)),(.t 21,.v (.int .i64 ↑hi)),(.r 0,.rp 79 5 (ePairs L))]) (N1:=1) ?_ ?_
  ·rcases hlo with⟨g1,g2,g3⟩ | ⟨g1,g2,g3⟩
   ·rw[g3]
    refine dw_seq ?_;refine dwk [(140,.v (.bool true))] TSO_ok hnt fun K hK=>?_;refine And.intro auT ?_;refine hK _ _ ?_;clear hK K;refine dw_cond (t:=true) rfl ?_;rw[if_pos rfl];refine dw_seq ?_;refine dwk [(143,.v (.int .i64 (↑lo)))] TSO_ok hnt fun K hK=>?_;refine And.intro auI ?_;refine hK _ _ ?_;clear hK K;refine dwk [] TSO_ok hnt fun _ z9=>z9 _ _ ?_
    exact cut_ok (VS.toK (by omega) (by repeat first | exact trivial | refine And.intro (And.intro (by first | rfl | simp[D.ok,D.oks,D.okss,D.okm,upto,keyOk,argsT]) (by first | exact Or.inl rfl | exact Or.inr ⟨_,rfl,(by repeat first | exact VLe.refl _ | exact VLe.nil _ | exact VLe.untag _ _ _ | refine VLe.ag ?_ | refine VLe.tu ?_ | refine VLeL.cons ?_ ?_ | exact VLeL.nil),trivial⟩ | simp[get,Key.eq,argsT])) ?_))
   ·rw[g2,g3]
    refine dw_seq ?_;refine dwk [(140,.v (.bool false))] TSO_ok hnt fun K hK=>?_;refine And.intro auF ?_;refine hK _ _ ?_;clear hK K;refine dw_cond (t:=false) rfl ?_;rw[if_neg (by simp)];refine dw_seq ?_;refine dwk [] TSO_ok hnt fun _ z9=>z9 _ _ ?_;refine dwk [] TSO_ok hnt fun _ z9=>z9 _ _ ?_
    exact cut_ok (VS.toK (by omega) (by repeat first | exact trivial | refine And.intro (And.intro (by first | rfl | simp[D.ok,D.oks,D.okss,D.okm,upto,keyOk,argsT]) (by first | exact Or.inl rfl | exact Or.inr ⟨_,rfl,(by repeat first | exact VLe.refl _ | exact VLe.nil _ | exact VLe.untag _ _ _ | refine VLe.ag ?_ | refine VLe.tu ?_ | refine VLeL.cons ?_ ?_ | exact VLeL.nil),trivial⟩ | simp[get,Key.eq,argsT])) ?_))
  ·skip
   refine dw_seq ?_;refine dwk [(148,.v (.int .i64 (↑q)))] TSO_ok hnt fun K hK=>?_;refine And.intro auI ?_;refine hK _ _ ?_;clear hK K;refine dw_seq ?_;refine dw_block ?_
   refine dw_loop (ι:={ p:Nat×Nat // lo≤p.1∧p.1≤p.2∧p.2≤hi∧(p.1=lo∨So.ky L (p.1-1)≤So.ky L (mid+m-p.1))∧(p.2=hi∨So.ky L (mid+m-1-p.2)<So.ky L p.2) }) (fun p=>[(.t 0,.ps 0 n),(.t 1,.v (.int .i64 ↑a)),(.t 2,.v (.int .i64 ↑m)),(.t 3,.v (.int .i64 ↑b)),(.t 4,.fn 113 []),(.t 18,.v (.int .i64 ↑mid)),(.t 19,.v (.int .i64 ↑(mid+m))),(.t 20,.v (.int .i64 ↑p.1.1)),(.t 21,.v (.int .i64 ↑p.1.2)),(.t 22,.v (.int .i64 ↑q)),(.r 0,.rp 79 5 (ePairs L))]) 1 (fun p=>p.1.2-p.1.1) (⟨(lo,hi),Nat.le_refl _,by dsimp only;omega,Nat.le_refl _,.inl rfl,.inl rfl⟩) (VS.toA) fun j=>?_
   obtain⟨⟨s,r⟩,k1,k2,k3,k4,k5⟩:=j
   dsimp only at k1 k2 k3 k4 k5 ⊢
   by_cases hsr:s<r
   ·obtain⟨c,hc⟩:∃ c,c=(s+r) / 2:=⟨_,rfl⟩
    have hcm:c<m:=by omega
    obtain⟨d,hd⟩:∃ d,d+c=q:=⟨q-c,by omega⟩
    obtain⟨x,hx⟩:=So.at_ex hn (show c<n by omega)
    obtain⟨y,hy⟩:=So.at_ex hn (show d<n by omega)
    have ex:=So.ky_at hx
    have ey:=So.ky_at hy
    have ho:=sorder_d y x
    rw[ePair_eq,ePair_eq] at ho
    by_cases hlt:y.1<x.1
    ·skip
     refine dw_seq ?_;refine dw_seq ?_;refine dwk [(151,.v (.bool true))] TSO_ok hnt fun K hK=>?_;refine And.intro auT ?_;refine hK _ _ ?_;clear hK K;refine dw_cond (t:=true) rfl ?_;rw[if_pos rfl];refine dw_skip ?_;refine dw_block ?_;refine dw_seq ?_;refine dwk [(154,.v (.int .i64 (↑(s+r)))),(157,.v (.int .i64 (↑c)))] TSO_ok hnt fun K hK=>?_;refine And.intro auI ?_;refine And.intro (dintE (by rw[hc];exact half_i _ (by omega))) ?_
     refine hK _ _ ?_;clear hK K;refine dw_seq ?_;refine dwkD [(162,.v (.int .i64 (↑d))),(163,.pr 0 n 5 (d) 0),(164,.ag [.v (.int .i64 y.1),.sl 2 (eTys y.2.binds) none,.v (.int .i64 y.2.kind),.v (.int .i64 y.2.index),.sl 4 (eTms y.2.args) none]),(167,.pr 0 n 5 (c) 0),(168,.ag [.v (.int .i64 x.1),.sl 2 (eTys x.2.binds) none,.v (.int .i64 x.2.kind),.v (.int .i64 x.2.index),.sl 4 (eTms x.2.args) none]),(170,.v (.bool true))] TSO_ok hnt fun K hK=>?_
     refine And.intro auI ?_;refine And.intro (by constructor <;> omega) ?_;refine And.intro (by first | rfl | exact VLe.of_eq (by simp)) ?_;refine And.intro (pl_ok hn hy) ?_;refine And.intro (pl_eq hy) ?_;refine And.intro (by constructor <;> omega) ?_;refine And.intro (by first | rfl | exact VLe.of_eq (by simp)) ?_;refine And.intro (pl_ok hn hx) ?_;refine And.intro (pl_eq hx) ?_;refine dcl (ho) ?_
     refine And.intro (dtrue (cmpI_lt.2 hlt)) ?_;refine hK _ _ (by kernel_rfl) ?_;clear hK K;refine dw_cond (t:=false) rfl ?_;rw[if_neg (by simp)];refine dwk [] TSO_ok hnt fun _ z9=>z9 _ _ ?_
     refine⟨⟨(s,c),k1,by dsimp only;omega,by dsimp only;omega,k4,.inr (by dsimp only;rw[show mid+m-1-c=d by omega,ex,ey];exact hlt)⟩,by first | omega | (dsimp only;omega),VS.toA⟩
    ·skip
     refine dw_seq ?_;refine dw_seq ?_;refine dwk [(151,.v (.bool true))] TSO_ok hnt fun K hK=>?_;refine And.intro auT ?_;refine hK _ _ ?_;clear hK K;refine dw_cond (t:=true) rfl ?_;rw[if_pos rfl];refine dw_skip ?_;refine dw_block ?_;refine dw_seq ?_;refine dwk [(154,.v (.int .i64 (↑(s+r)))),(157,.v (.int .i64 (↑c)))] TSO_ok hnt fun K hK=>?_;refine And.intro auI ?_;refine And.intro (dintE (by rw[hc];exact half_i _ (by omega))) ?_
     refine hK _ _ ?_;clear hK K;refine dw_seq ?_;refine dwkD [(162,.v (.int .i64 (↑d))),(163,.pr 0 n 5 (d) 0),(164,.ag [.v (.int .i64 y.1),.sl 2 (eTys y.2.binds) none,.v (.int .i64 y.2.kind),.v (.int .i64 y.2.index),.sl 4 (eTms y.2.args) none]),(167,.pr 0 n 5 (c) 0),(168,.ag [.v (.int .i64 x.1),.sl 2 (eTys x.2.binds) none,.v (.int .i64 x.2.kind),.v (.int .i64 x.2.index),.sl 4 (eTms x.2.args) none]),(170,.v (.bool false))] TSO_ok hnt fun K hK=>?_
     refine And.intro auI ?_;refine And.intro (by constructor <;> omega) ?_;refine And.intro (by first | rfl | exact VLe.of_eq (by simp)) ?_;refine And.intro (pl_ok hn hy) ?_;refine And.intro (pl_eq hy) ?_;refine And.intro (by constructor <;> omega) ?_;refine And.intro (by first | rfl | exact VLe.of_eq (by simp)) ?_;refine And.intro (pl_ok hn hx) ?_;refine And.intro (pl_eq hx) ?_;refine dcl (ho) ?_
     refine And.intro (dfalse (fun h=>hlt (cmpI_lt.1 h))) ?_;refine hK _ _ (by kernel_rfl) ?_;clear hK K;refine dw_cond (t:=true) rfl ?_;rw[if_pos rfl];refine dwk [(173,.v (.int .i64 (↑(c+1))))] TSO_ok hnt fun K hK=>?_;refine And.intro auI ?_;refine hK _ _ ?_;clear hK K
     refine⟨⟨(c+1,r),by dsimp only;omega,by dsimp only;omega,k3,.inr (by dsimp only;rw[show c+1-1=c by omega,show mid+m-(c+1)=d by omega,ex,ey];omega),k5⟩,by first | omega | (dsimp only;omega),VS.toA⟩
   ·have hrs:r=s:=by omega
    subst hrs
    obtain⟨X1,X2,Y1,Y2,rfl,rfl,e1,e2,h1,h2⟩:=So.sym_cut (mid:=mid) (s:=r) hX hY hL.symm ha hm hb (by omega) (by omega) (by omega) (by omega) (by
      rcases k4 with k4 | k4
      ·omega
      ·exact .inr (.inr k4)) (by
      rcases k5 with k5 | k5
      ·omega
      ·exact .inr (.inr k5))
    rw[List.length_append] at hm hb hX2 hY2
    rw[List.length_append,List.length_append] at hN
    obtain⟨e,he⟩:∃ e,e+r=mid+m:=⟨mid+m-r,by omega⟩
    have hcut:=So.ss_cut hX hY h1 h2
    have sx:=So.srt_app.1 hX
    have sy:=So.srt_app.1 hY
    have hlen:A.length+X1.length+X2.length+Y1.length+Y2.length+Z.length=n:=by omega
    rw[hcut]
    refine dw_seq ?_;refine dw_seq ?_;refine dwk [(151,.v (.bool false))] TSO_ok hnt fun K hK=>?_;refine And.intro auF ?_;refine hK _ _ ?_;clear hK K;refine dw_cond (t:=false) rfl ?_;rw[if_neg (by simp)];refine dw_exit ?_;refine dw_seq ?_;refine dwk [(177,.v (.int .i64 (↑e)))] TSO_ok hnt fun K hK=>?_;refine And.intro auI ?_;refine hK _ _ ?_;clear hK K
    refine dw_cut (τ:=[(.t 0,.ps 0 n),(.t 1,.v (.int .i64 ↑a)),(.t 3,.v (.int .i64 ↑b)),(.t 4,.fn 113 []),(.t 18,.v (.int .i64 ↑mid)),(.t 20,.v (.int .i64 ↑r)),(.t 24,.v (.int .i64 ↑e)),(.r 0,.rp 79 5 (ePairs (A++X1++Y1++(X2++(Y2++Z)))))]) (N1:=1) ?_ ?_
    ·by_cases c1:r<m
     ·by_cases c2:m<e
      ·have hrot:=rotate_d (A++X1) X2 Y1 (Y2++Z) n r m e (by simp;omega) (by simp;omega) (by omega) (by omega) (by omega) (by omega) hM
       have f1:A++X1++Y1++X2++(Y2++Z)=A++X1++Y1++(X2++(Y2++Z)):=by simp
       have f2:L=A++X1++X2++Y1++(Y2++Z):=by rw[←hL];simp
       rw[f1] at hrot
       rw[f2]
       refine dw_seq ?_;refine dwk [(180,.v (.bool true)),(184,.v (.bool true))] TSO_ok hnt fun K hK=>?_;refine And.intro auT ?_;refine And.intro auT ?_;refine hK _ _ ?_;clear hK K;refine dw_cond (t:=true) rfl ?_;rw[if_pos rfl];refine dwk [] TSO_ok hnt fun K hK=>?_;refine dcn (CallG.n (hrot) _) ?_;refine hK _ _ ?_;clear hK K
       exact cut_ok VS.toA
      ·have:Y1=[]:=List.length_eq_zero_iff.1 (by omega)
       have f2:L=A++X1++Y1++(X2++(Y2++Z)):=by rw[←hL,this];simp
       rw[f2]
       refine dw_seq ?_;refine dwk [(180,.v (.bool true)),(184,.v (.bool false))] TSO_ok hnt fun K hK=>?_;refine And.intro auT ?_;refine And.intro auF ?_;refine hK _ _ ?_;clear hK K;refine dw_cond (t:=false) rfl ?_;rw[if_neg (by simp)];refine dw_skip ?_
       exact cut_ok VS.toA
     ·have:X2=[]:=List.length_eq_zero_iff.1 (by omega)
      have f2:L=A++X1++Y1++(X2++(Y2++Z)):=by rw[←hL,this];simp
      rw[f2]
      refine dw_seq ?_;refine dwk [(180,.v (.bool false))] TSO_ok hnt fun K hK=>?_;refine And.intro auF ?_;refine hK _ _ ?_;clear hK K;refine dw_cond (t:=false) rfl ?_;rw[if_neg (by simp)];refine dw_skip ?_
      exact cut_ok VS.toA
    ·skip
     refine dw_cut (τ:=[(.t 0,.ps 0 n),(.t 3,.v (.int .i64 ↑b)),(.t 4,.fn 113 []),(.t 18,.v (.int .i64 ↑mid)),(.t 24,.v (.int .i64 ↑e)),(.r 0,.rp 79 5 (ePairs (A++So.ss (X1++Y1)++X2++Y2++Z)))]) (N1:=1) ?_ ?_
     ·have f1:A++So.ss (X1++Y1)++(X2++(Y2++Z))=A++So.ss (X1++Y1)++X2++Y2++Z:=by simp
      by_cases c1:a<r
      ·by_cases c2:r<mid
       ·have hs:=ih (X1.length+Y1.length) (by omega) A X1 Y1 (X2++(Y2++Z)) n a r mid (Nat.le_refl _) (by simp;omega) ha e1 e2 (by omega) (by omega) sx.1 sy.1 hM
        rw[f1] at hs
        refine dw_seq ?_;refine dwk [(194,.v (.bool true)),(198,.v (.bool true))] TSO_ok hnt fun K hK=>?_;refine And.intro auT ?_;refine And.intro auT ?_;refine hK _ _ ?_;clear hK K;refine dw_cond (t:=true) rfl ?_;rw[if_pos rfl];refine dwk [] TSO_ok hnt fun K hK=>?_;refine dcn (CallG.n (hs) _) ?_;refine hK _ _ ?_;clear hK K
        exact cut_ok VS.toA
       ·have hy0:Y1=[]:=List.length_eq_zero_iff.1 (by omega)
        have hss:So.ss (X1++Y1)=X1++Y1:=So.ss_self (by rw[hy0,List.append_nil];exact sx.1)
        rw[←f1,hss,←List.append_assoc A X1 Y1]
        refine dw_seq ?_;refine dwk [(194,.v (.bool true)),(198,.v (.bool false))] TSO_ok hnt fun K hK=>?_;refine And.intro auT ?_;refine And.intro auF ?_;refine hK _ _ ?_;clear hK K;refine dw_cond (t:=false) rfl ?_;rw[if_neg (by simp)];refine dw_skip ?_
        exact cut_ok VS.toA
      ·have hx0:X1=[]:=List.length_eq_zero_iff.1 (by omega)
       have hss:So.ss (X1++Y1)=X1++Y1:=So.ss_self (by rw[hx0,List.nil_append];exact sy.1)
       rw[←f1,hss,←List.append_assoc A X1 Y1]
       refine dw_seq ?_;refine dwk [(194,.v (.bool false))] TSO_ok hnt fun K hK=>?_;refine And.intro auF ?_;refine hK _ _ ?_;clear hK K;refine dw_cond (t:=false) rfl ?_;rw[if_neg (by simp)];refine dw_skip ?_
       exact cut_ok VS.toA
     ·have f3:A++(So.ss (X1++Y1)++So.ss (X2++Y2))++Z=A++So.ss (X1++Y1)++So.ss (X2++Y2)++Z:=by simp
      rw[f3]
      by_cases c1:mid<e
      ·by_cases c2:e<b
       ·have hs:=ih (X2.length+Y2.length) (by omega) (A++So.ss (X1++Y1)) X2 Y2 Z n mid e b (Nat.le_refl _) (by simp[So.ss_len];omega) (by simp[So.ss_len];omega) (by omega) (by omega) (by omega) (by omega) sx.2.1 sy.2.1 hM
        refine dw_seq ?_;refine dwk [(208,.v (.bool true)),(212,.v (.bool true))] TSO_ok hnt fun K hK=>?_;refine And.intro auT ?_;refine And.intro auT ?_;refine hK _ _ ?_;clear hK K;refine dw_cond (t:=true) rfl ?_;rw[if_pos rfl];refine dwk [] TSO_ok hnt fun K hK=>?_;refine dcn (CallG.n (hs) _) ?_;refine hK _ _ ?_;clear hK K
        exact reta rfl
       ·have hy0:Y2=[]:=List.length_eq_zero_iff.1 (by omega)
        have hss:So.ss (X2++Y2)=X2++Y2:=So.ss_self (by rw[hy0,List.append_nil];exact sx.2.1)
        rw[hss,←List.append_assoc _ X2 Y2]
        refine dw_seq ?_;refine dwk [(208,.v (.bool true)),(212,.v (.bool false))] TSO_ok hnt fun K hK=>?_;refine And.intro auT ?_;refine And.intro auF ?_;refine hK _ _ ?_;clear hK K;refine dw_cond (t:=false) rfl ?_;rw[if_neg (by simp)];refine dw_skip ?_
        exact reta rfl
      ·have hx0:X2=[]:=List.length_eq_zero_iff.1 (by omega)
       have hss:So.ss (X2++Y2)=X2++Y2:=So.ss_self (by rw[hx0,List.nil_append];exact sy.2.1)
       rw[hss,←List.append_assoc _ X2 Y2]
       refine dw_seq ?_;refine dwk [(208,.v (.bool false))] TSO_ok hnt fun K hK=>?_;refine And.intro auF ?_;refine hK _ _ ?_;clear hK K;refine dw_cond (t:=false) rfl ?_;rw[if_neg (by simp)];refine dw_skip ?_
       exact reta rfl
theorem sym_all (N:Nat):SymC N:=by
 induction N using Nat.strongRecOn with
 | ind N ih=>
  intro A X Y Z n a m b hN hn ha hm hb h1 h2 hX hY hM
  by_cases c1:X.length=1
  ·obtain⟨x,rfl⟩:=List.length_eq_one_iff.1 c1
   exact sym_left A x Y Z n a m b hn ha (by simpa using hm) hb hY hM
  ·by_cases c2:Y.length=1
   ·obtain⟨y,rfl⟩:=List.length_eq_one_iff.1 c2
    exact sym_right A X y Z n a m b hn ha hm (by simpa using hb) hX c1 hM
   ·exact sym_step N ih A X Y Z n a m b hN hn ha hm hb (by omega) (by omega) hX hY hM
theorem symM_d (A X Y Z:List (Int×Tm))(n a m b:Nat)(hn:(A++X++Y++Z).length=n)(ha:A.length=a)(hm:a+X.length=m)(hb:m+Y.length=b)(h1:0<X.length)(h2:0<Y.length)(hX:So.Srt X)(hY:So.Srt Y)(hM:n≤1000000):
  CallG Tryz.prog 179 (symIn n a m b) (symR (A++X++Y++Z)) (symR (A++So.ss (X++Y)++Z)) (.tu []):=sym_all _ A X Y Z n a m b (Nat.le_refl _) hn ha hm hb h1 h2 hX hY hM
def TSP_79:TI:=⟨5,true,[Value.int IntKind.i64 0,Value.slice none 0 0,Value.int IntKind.i64 0,Value.int IntKind.i64 0,Value.slice none 0 0],[(0,1,false),(1,4,true)],none,72,6,none,false⟩
theorem TSP_79_ok:TypOk Tryz.prog 79 TSP_79:=by constructor <;> kernel_rfl
def TSP_51:TI:=⟨1,false,[Value.slice none 0 0],[],some 79,24,5,none,false⟩
theorem TSP_51_ok:TypOk Tryz.prog 51 TSP_51:=by constructor <;> kernel_rfl
def TSP_50:TI:=⟨1,false,[Value.slice none 0 0],[],some 79,24,5,none,false⟩
theorem TSP_50_ok:TypOk Tryz.prog 50 TSP_50:=by constructor <;> kernel_rfl
def TSP_3:TI:=⟨1,false,[Value.int IntKind.i64 0],[],none,8,2,none,false⟩
theorem TSP_3_ok:TypOk Tryz.prog 3 TSP_3:=by constructor <;> kernel_rfl
def TSP_41:TI:=⟨4,true,[Value.slice none 0 0,Value.int IntKind.i64 0,Value.int IntKind.i64 0,Value.slice none 0 0],[(0,1,false),(1,2,true),(3,1,false)],none,64,6,none,false⟩
theorem TSP_41_ok:TypOk Tryz.prog 41 TSP_41:=by constructor <;> kernel_rfl
def TSP_204:TI:=⟨1,false,[Value.nilFunc],[],none,8,8,none,false⟩
theorem TSP_204_ok:TypOk Tryz.prog 204 TSP_204:=by constructor <;> kernel_rfl
def TSP:List (Nat×TI):=[(79,TSP_79),(51,TSP_51),(50,TSP_50),(3,TSP_3),(41,TSP_41),(204,TSP_204)]
theorem TSP_ok:TabOk Tryz.prog TSP:=(((((((TabOk.nil _).cons TSP_204_ok).cons TSP_41_ok).cons TSP_3_ok).cons TSP_50_ok).cons TSP_51_ok).cons TSP_79_ok)
namespace So
theorem Ch.two {α:Type}{s:Nat}{Q:List (Int×α)}(h:Ch s Q)(hl:2 * s≤Q.length)(hs:0<s):∃ c d l,Q=c++d++l∧c.length=s∧d.length=s∧Srt c∧Srt d∧Ch s l:=by
 obtain⟨c,l,rfl,hc,hsc,hch⟩:=h.more (by omega)
 rw[List.length_append] at hl
 by_cases h1:s<l.length
 ·obtain⟨d,l2,rfl,hd,hsd,hch2⟩:=hch.more h1
  exact⟨c,d,l2,by rw[List.append_assoc],hc,hd,hsc,hsd,hch2⟩
 ·exact⟨c,l,[],by simp,hc,by omega,hsc,hch.one (by omega) hs,.last [] (by simp) srt_nil⟩
end So
set_option maxHeartbeats 4000000 in
theorem stableC_d (l:List (Int×Tm))(n:Nat)(hn:l.length=n)(hM:n≤1000000):
  CallG Tryz.prog 149 [.ps 0 n,.v (.int .i64 ↑n),.fn 113 []] (symR l) (symR (So.ss l)) (.tu []):=by
 refine callG_of_dw 1 63 [] TSO_ok (by kernel_rfl) Tryz.func149 rfl Tryz.ntmps149 rfl (by simp) ?dwords ?dbody
 case dwords=>simp[wordsG,rowN,rowsR,gkey,Key.eq,D.ok,D.oks,D.okss,rnames,inN,ckey,ePairs_ok]
 case dbody=>
  intro cx hnt hn0
  refine dw_seq ?_;refine dwk [] TSO_ok hnt fun _ z9=>z9 _ _ ?_;refine dw_seq ?_;refine dwk [] TSO_ok hnt fun _ z9=>z9 _ _ ?_;refine dw_seq ?_;refine dw_block ?_
  refine dw_loop (ι:={ p:List (Int×Tm)×List (Int×Tm) // So.Fu 20 p.1∧So.Same (p.1++p.2) l∧p.1.length+p.2.length=n }) (fun p=>[(.t 0,.ps 0 n),(.t 1,.v (.int .i64 ↑n)),(.t 2,.fn 113 []),(.t 6,.v (.int .i64 20)),(.t 7,.v (.int .i64 ↑p.1.1.length)),(.t 8,.v (.int .i64 ↑(p.1.1.length+20))),(.r 0,.rp 79 5 (ePairs (p.1.1++p.1.2)))]) 1 (fun p=>p.1.2.length) (⟨([],l),.nil,So.Same.refl _,by simpa using hn⟩) ((VS.toK (by omega) (by repeat first | exact trivial | refine And.intro (And.intro (by first | rfl | simp[D.ok,D.oks,D.okss,D.okm,upto,keyOk,argsT]) (by first | exact Or.inl rfl | exact Or.inr ⟨_,rfl,(by repeat first | exact VLe.refl _ | exact VLe.nil _ | exact VLe.untag _ _ _ | refine VLe.ag ?_ | refine VLe.tu ?_ | refine VLeL.cons ?_ ?_ | exact VLeL.nil),trivial⟩ | simp[get,Key.eq,argsT])) ?_))) fun j=>?_
  obtain⟨⟨P,Q⟩,hF,hS,hl⟩:=j
  dsimp only at hF hS hl ⊢
  by_cases hb:P.length+20≤n
  ·obtain⟨Q1,Q2,rfl,h20⟩:∃ Q1 Q2,Q=Q1++Q2∧Q1.length=20:=⟨Q.take 20,Q.drop 20,(List.take_append_drop _ _).symm,by simp;omega⟩
   rw[List.length_append] at hl
   have hins:=insSort_d P Q1 Q2 n P.length (P.length+20) (by simp;omega) rfl (by omega) hM
   rw[←List.append_assoc]
   refine dw_seq ?_;refine dw_seq ?_;refine dwk [(13,.v (.bool true))] TSO_ok hnt fun K hK=>?_;refine And.intro auT ?_;refine hK _ _ ?_;clear hK K;refine dw_cond (t:=true) rfl ?_;rw[if_pos rfl];refine dw_skip ?_;refine dw_block ?_;refine dw_seq ?_;refine dwk [] TSO_ok hnt fun K hK=>?_;refine dcn (CallG.n (hins) _) ?_;refine hK _ _ ?_;clear hK K;refine dw_seq ?_;refine dwk [(7,.v (.int .i64 ↑(P++So.ss Q1).length))] TSO_ok hnt fun K hK=>?_
   refine And.intro (VLe.of_eq (by rw[List.length_append,So.ss_len,h20])) ?_;refine hK _ _ ?_;clear hK K;refine dwk [(22,.v (.int .i64 (↑((P++So.ss Q1).length+20))))] TSO_ok hnt fun K hK=>?_;refine And.intro (dintE (by rw[IntWalk.i64_in _ (by omega)];simp[So.ss_len];omega)) ?_;refine hK _ _ ?_;clear hK K
   refine⟨⟨(P++So.ss Q1,Q2),hF.snoc (by rw[So.ss_len,h20]) (So.ss_srt _),So.Same.trans (by simpa using((So.Same.refl P).app ((So.ss_same Q1).app (So.Same.refl Q2)))) (by simpa using hS),by simp[So.ss_len];omega⟩,by simp;omega,VS.toA⟩
  ·have hins:=insSort_d P Q [] n P.length n (by simp;omega) rfl hl hM
   rw[List.append_nil,List.append_nil] at hins
   refine dw_seq ?_;refine dw_seq ?_;refine dwk [(13,.v (.bool false))] TSO_ok hnt fun K hK=>?_;refine And.intro auF ?_;refine hK _ _ ?_;clear hK K;refine dw_cond (t:=false) rfl ?_;rw[if_neg (by simp)];refine dw_exit ?_;refine dw_seq ?_;refine dwk [] TSO_ok hnt fun K hK=>?_;refine dcn (CallG.n (hins) _) ?_;refine hK _ _ ?_;clear hK K;refine dw_block ?_
   refine dw_loop (ι:={ p:Nat×List (Int×Tm) // 0<p.1∧p.1≤20+2 * n∧So.Ch p.1 p.2∧So.Same p.2 l∧p.2.length=n }) (fun p=>[(.t 0,.ps 0 n),(.t 1,.v (.int .i64 ↑n)),(.t 2,.fn 113 []),(.t 6,.v (.int .i64 ↑p.1.1)),(.r 0,.rp 79 5 (ePairs p.1.2))]) 1 (fun p=>n-p.1.1) (⟨(20,P++So.ss Q),by dsimp only;omega,by dsimp only;omega,hF.ch (.last _ (by rw[So.ss_len];omega) (So.ss_srt _)),((So.Same.refl P).app (So.ss_same Q)).trans hS,by simp[So.ss_len];omega⟩) (VS.toA) fun j=>?_
   clear hins hF hS hl hb P Q
   obtain⟨⟨s,L⟩,h0,hbd,hC,hS,hl⟩:=j
   dsimp only at h0 hbd hC hS hl ⊢
   by_cases hsn:s<n
   ·skip
    refine dw_seq ?_;refine dw_seq ?_;refine dwk [(30,.v (.bool true))] TSO_ok hnt fun K hK=>?_;refine And.intro auT ?_;refine hK _ _ ?_;clear hK K;refine dw_cond (t:=true) rfl ?_;rw[if_pos rfl];refine dw_skip ?_;refine dw_block ?_;refine dw_seq ?_;refine dwk [(32,.v (.int .i64 (↑(2 * s)))),(8,.v (.int .i64 ↑(0+2 * s)))] TSO_ok hnt fun K hK=>?_;refine And.intro auI ?_;refine And.intro (VLe.of_eq (by rw[Nat.zero_add])) ?_
    refine hK _ _ ?_;clear hK K;refine dw_seq ?_;refine dw_block ?_
    refine dw_loop (ι:={ p:List (Int×Tm)×List (Int×Tm) // So.Fu (2 * s) p.1∧So.Ch s p.2∧So.Same (p.1++p.2) l∧p.1.length+p.2.length=n }) (fun p=>[(.t 0,.ps 0 n),(.t 1,.v (.int .i64 ↑n)),(.t 2,.fn 113 []),(.t 6,.v (.int .i64 ↑s)),(.t 7,.v (.int .i64 ↑p.1.1.length)),(.t 8,.v (.int .i64 ↑(p.1.1.length+2 * s))),(.r 0,.rp 79 5 (ePairs (p.1.1++p.1.2)))]) 1 (fun p=>p.1.2.length) (⟨([],L),.nil,hC,hS,by simpa using hl⟩) ((VS.toK (by omega) (by repeat first | exact trivial | refine And.intro (And.intro (by first | rfl | simp[D.ok,D.oks,D.okss,D.okm,upto,keyOk,Nat.zero_add]) (by first | exact Or.inl rfl | exact Or.inr ⟨_,rfl,(by repeat first | exact VLe.refl _ | exact VLe.nil _ | exact VLe.untag _ _ _ | refine VLe.ag ?_ | refine VLe.tu ?_ | refine VLeL.cons ?_ ?_ | exact VLeL.nil),trivial⟩ | simp[get,Key.eq,Nat.zero_add])) ?_))) fun j=>?_
    clear hC hS hl L
    obtain⟨⟨P,Q⟩,hF,hC,hS,hl⟩:=j
    dsimp only at hF hC hS hl ⊢
    by_cases hb:P.length+2 * s≤n
    ·obtain⟨c,d,Q2,rfl,hc,hd,sc,sd,hC2⟩:=hC.two (by omega) h0
     rw[List.length_append,List.length_append] at hl
     have hm:=symM_d P c d Q2 n P.length (P.length+s) (P.length+2 * s) (by simp;omega) rfl (by omega) (by omega) (by omega) (by omega) sc sd hM
     have e1:P++(c++d++Q2)=P++c++d++Q2:=by simp
     rw[e1]
     refine dw_seq ?_;refine dw_seq ?_;refine dwk [(35,.v (.bool true))] TSO_ok hnt fun K hK=>?_;refine And.intro auT ?_;refine hK _ _ ?_;clear hK K;refine dw_cond (t:=true) rfl ?_;rw[if_pos rfl];refine dw_skip ?_;refine dw_block ?_;refine dw_seq ?_;refine dwk [(40,.v (.int .i64 (↑(P.length+s))))] TSO_ok hnt fun K hK=>?_;refine And.intro auI ?_;refine dcn (CallG.n (hm) _) ?_;refine hK _ _ ?_;clear hK K
     refine dw_seq ?_;refine dwk [(7,.v (.int .i64 ↑(P++So.ss (c++d)).length))] TSO_ok hnt fun K hK=>?_;refine And.intro (VLe.of_eq (by rw[List.length_append,So.ss_len,List.length_append,hc,hd,Nat.two_mul])) ?_;refine hK _ _ ?_;clear hK K;refine dwk [(47,.v (.int .i64 (↑(2 * s)))),(48,.v (.int .i64 (↑((P++So.ss (c++d)).length+2 * s))))] TSO_ok hnt fun K hK=>?_;refine And.intro auI ?_
     refine And.intro (dintE (by rw[IntWalk.i64_in _ (by omega)];simp[So.ss_len];omega)) ?_;refine hK _ _ ?_;clear hK K
     refine⟨⟨(P++So.ss (c++d),Q2),hF.snoc (by rw[So.ss_len,List.length_append];omega) (So.ss_srt _),hC2,So.Same.trans (by simpa using((So.Same.refl P).app ((So.ss_same (c++d)).app (So.Same.refl Q2)))) (by simpa using hS),by simp[So.ss_len];omega⟩,by simp;omega,VS.toA⟩
    ·by_cases hq:s<Q.length
     ·obtain⟨c,d,rfl,hc,sc,hC2⟩:=hC.more hq
      rw[List.length_append] at hl hq
      have sd:=hC2.one (by omega) h0
      have hm:=symM_d P c d [] n P.length (P.length+s) n (by simp;omega) rfl (by omega) (by omega) (by omega) (by omega) sc sd hM
      have e1:P++(c++d)=P++c++d:=by simp
      rw[List.append_nil,List.append_nil] at hm
      rw[e1]
      refine dw_seq ?_;refine dw_seq ?_;refine dwk [(35,.v (.bool false))] TSO_ok hnt fun K hK=>?_;refine And.intro auF ?_;refine hK _ _ ?_;clear hK K;refine dw_cond (t:=false) rfl ?_;rw[if_neg (by simp)];refine dw_exit ?_;refine dw_seq ?_;refine dw_seq ?_;refine dwk [(51,.v (.int .i64 (↑(P.length+s))))] TSO_ok hnt fun K hK=>?_;refine And.intro auI ?_;refine hK _ _ ?_;clear hK K
      refine dw_seq ?_;refine dwk [(54,.v (.bool true))] TSO_ok hnt fun K hK=>?_;refine And.intro auT ?_;refine hK _ _ ?_;clear hK K;refine dw_cond (t:=true) rfl ?_;rw[if_pos rfl];refine dwk [] TSO_ok hnt fun K hK=>?_;refine dcn (CallG.n (hm) _) ?_;refine hK _ _ ?_;clear hK K;refine dwk [(62,.v (.int .i64 (↑(2 * s))))] TSO_ok hnt fun K hK=>?_;refine And.intro auI ?_;refine hK _ _ ?_;clear hK K
      refine⟨⟨(2 * s,P++So.ss (c++d)),by dsimp only;omega,by dsimp only;omega,hF.ch (.last _ (by rw[So.ss_len,List.length_append];omega) (So.ss_srt _)),So.Same.trans ((So.Same.refl P).app (So.ss_same (c++d))) hS,by simp[So.ss_len];omega⟩,by first | omega | (dsimp only;omega),VS.toA⟩
     ·have sq:=hC.one (by omega) h0
      refine dw_seq ?_;refine dw_seq ?_;refine dwk [(35,.v (.bool false))] TSO_ok hnt fun K hK=>?_;refine And.intro auF ?_;refine hK _ _ ?_;clear hK K;refine dw_cond (t:=false) rfl ?_;rw[if_neg (by simp)];refine dw_exit ?_;refine dw_seq ?_;refine dw_seq ?_;refine dwk [(51,.v (.int .i64 (↑(P.length+s))))] TSO_ok hnt fun K hK=>?_;refine And.intro auI ?_;refine hK _ _ ?_;clear hK K
      refine dw_seq ?_;refine dwk [(54,.v (.bool false))] TSO_ok hnt fun K hK=>?_;refine And.intro auF ?_;refine hK _ _ ?_;clear hK K;refine dw_cond (t:=false) rfl ?_;rw[if_neg (by simp)];refine dw_skip ?_;refine dwk [(62,.v (.int .i64 (↑(2 * s))))] TSO_ok hnt fun K hK=>?_;refine And.intro auI ?_;refine hK _ _ ?_;clear hK K
      refine⟨⟨(2 * s,P++Q),by dsimp only;omega,by dsimp only;omega,hF.ch (.last _ (by omega) sq),hS,by simp;omega⟩,by first | omega | (dsimp only;omega),VS.toA⟩
   ·have hsrt:=hC.one (by omega) h0
    have hfin:So.ss l=L:=So.ss_eq hsrt hS
    rw[hfin]
    refine dw_seq ?_;refine dw_seq ?_;refine dwk [(30,.v (.bool false))] TSO_ok hnt fun K hK=>?_;refine And.intro auF ?_;refine hK _ _ ?_;clear hK K;refine dw_cond (t:=false) rfl ?_;rw[if_neg (by simp)];refine dw_exit ?_
    exact reta rfl
theorem stable_d (l:List (Int×Tm))(n:Nat)(hn:l.length=n)(hM:n≤1000000):
  CallG Tryz.prog 123 [.ps 0 n,.fn 113 []] (symR l) (symR (So.ss l)) (.tu []):=by
 have hs:=stableC_d l n hn hM
 refine callG_of_dw 1 9 [] TSO_ok (by kernel_rfl) Tryz.func123 rfl Tryz.ntmps123 rfl (by simp) ?dwords ?dbody
 case dwords=>simp[wordsG,rowN,rowsR,gkey,Key.eq,D.ok,D.oks,D.okss,rnames,inN,ckey,ePairs_ok]
 case dbody=>
  intro cx hnt hn0
  refine dwk [] TSO_ok hnt fun K hK=>?_;refine dcn (CallG.n (hs) _) ?_;refine hK _ _ ?_;clear hK K
  exact reta rfl
theorem sortedN_d (l:List (Int×Tm))(hl:l.length≤1000000)(ht:∀ p∈l,p.2.full≤80000∧p.2.Fit)(nm:Nat):CallN Tryz.prog 83 [.sl 5 (ePairs l) none] [] nm [(.r nm,.rw 79 5 l.length)] (.sl 5 (ePairs (So.ss l)) (some nm)):=by
 have hst:=stable_d l l.length rfl hl
 refine callRow_of_dw 25 [ResultVar.tmp 2] TSP_ok (by kernel_rfl) Tryz.func83 rfl Tryz.ntmps83 rfl (by simp) (by simp[D.ok,ePairs_ok]) (by simp[D.okss,ePairs_ok]) ?dbody nm
 case dbody=>
  intro cx hnt hn0
  refine dw_seq ?_;refine dwk [] TSP_ok hnt fun _ z9=>z9 _ _ ?_
  refine dw_cut (τ:=[(.t 0,.sl 5 (ePairs l) none),(.t 3,.v (.slice none 0 0))]) (N1:=0) ?_ ?_
  ·skip
   refine dwk [] TSP_ok hnt fun _ z9=>z9 _ _ ?_
   exact cut_ok (VS.toK (by omega) (by repeat first | exact trivial | refine And.intro (And.intro (by first | rfl | simp[D.ok,D.oks,D.okss,D.okm,upto,keyOk,argsT]) (by first | exact Or.inl rfl | exact Or.inr ⟨_,rfl,(by repeat first | exact VLe.refl _ | exact VLe.nil _ | exact VLe.untag _ _ _ | refine VLe.ag ?_ | refine VLe.tu ?_ | refine VLeL.cons ?_ ?_ | exact VLeL.nil),trivial⟩ | simp[get,Key.eq,argsT])) ?_))
  ·refine DW.vs (VS.rowPT (x:=3) (by rw[hnt];decide) 79 5 rfl) ?_
   refine dw_seq ?_;refine dw_seq ?_;refine dwk [(7,.v (.int .i64 (↑l.length)))] TSP_ok hnt fun K hK=>?_;refine And.intro (dintE (by rw[ePairs_len])) ?_;refine hK _ _ ?_;clear hK K;refine dw_block ?_
   refine dw_loop (ι:={ k:Nat // k≤l.length }) (fun k=>[(.t 3,.ps 0 k.1),(.t 6,.sl 5 (ePairs l) none),(.t 7,.v (.int .i64 ↑l.length)),(.t 8,.v (.int .i64 ↑k.1)),(.r 0,.rp 79 5 (ePairs (l.take k.1)))]) 1 (fun k=>l.length-k.1) (⟨0,Nat.zero_le _⟩) ((VS.toK (by omega) (by repeat first | exact trivial | refine And.intro (And.intro (by first | rfl | simp[D.ok,D.oks,D.okss,D.okm,upto,keyOk,argsT]) (by first | exact Or.inl rfl | exact Or.inr ⟨_,rfl,(by repeat first | exact VLe.refl _ | exact VLe.nil _ | exact VLe.untag _ _ _ | refine VLe.ag ?_ | refine VLe.tu ?_ | refine VLeL.cons ?_ ?_ | exact VLeL.nil),trivial⟩ | simp[get,Key.eq,argsT])) ?_))) fun k=>?_
   obtain⟨k,hk⟩:=k
   dsimp only
   by_cases hlt:k<l.length
   ·have hc:=copy_d l[k].2 (ht _ (List.getElem_mem hlt)).1 (ht _ (List.getElem_mem hlt)).2
    rw[eTm_eq] at hc
    have htk:ePairs (l.take k)++[[.v (.int .i64 l[k].1),.sl 2 (eTys l[k].2.binds) none,.v (.int .i64 l[k].2.kind),.v (.int .i64 l[k].2.index),.sl 4 (eTms l[k].2.args) none]]=ePairs (l.take (k+1)):=by
     rw[List.take_add_one,List.getElem?_eq_getElem hlt,←ePair_eq]
     show List.map ePair (l.take k)++[ePair l[k]]=List.map ePair (l.take k++[l[k]])
     rw[List.map_append];rfl
    refine dw_seq ?_;refine dwk [(9,.v (.bool true))] TSP_ok hnt fun K hK=>?_;refine And.intro auT ?_;refine hK _ _ ?_;clear hK K;refine dw_seq ?_;refine dw_cond (t:=true) rfl ?_;rw[if_pos rfl];refine dw_skip ?_;refine dw_seq ?_;refine dw_block ?_;refine dw_seq ?_;refine dwk [(10,.q [.v (.int .i64 l[k].1),.sl 2 (eTys l[k].2.binds) none,.v (.int .i64 l[k].2.kind),.v (.int .i64 l[k].2.index),.sl 4 (eTms l[k].2.args) none])] TSP_ok hnt fun K hK=>?_
    refine And.intro (elo (ePairs_len l)) ?_;refine And.intro (elv (ePairs_getD l k) (ePair_eq _)) ?_;refine hK _ _ ?_;clear hK K;refine dwkD [(20,.ps 0 (k+1))] TSP_ok hnt fun K hK=>?_;refine dcl (hc) ?_;refine And.intro (⟨by simp[ePairs_len];omega,by simp[ePairs_len];omega⟩) ?_;refine And.intro (VLe.refl _) ?_;refine hK _ _ (by kernel_rfl) ?_;clear hK K
    rw[htk]
    refine dwk [(21,.v (.int .i64 (↑(k+1))))] TSP_ok hnt fun K hK=>?_;refine And.intro auI ?_;refine hK _ _ ?_;clear hK K
    refine⟨⟨k+1,by omega⟩,by first | omega | (dsimp only;omega),VS.toA⟩
   ·have hke:l.take k=l:=List.take_of_length_le (by omega)
    have hkl:k=l.length:=by omega
    rw[hke,hkl]
    refine dw_seq ?_;refine dwk [(9,.v (.bool false))] TSP_ok hnt fun K hK=>?_;refine And.intro auF ?_;refine hK _ _ ?_;clear hK K;refine dw_seq ?_;refine dw_cond (t:=false) rfl ?_;rw[if_neg (by simp)];refine dw_exit ?_;refine dw_seq ?_;refine dwk [] TSP_ok hnt fun K hK=>?_;refine dcn (CallG.n (hst) _) ?_;refine hK _ _ ?_;clear hK K;refine dw_seq ?_;refine dwk [] TSP_ok hnt fun K hK=>?_
    refine hK _ _ ?_;clear hK K
    refine dw_freeze (x:=2) (g:=0) rfl rfl (ePairs_len _ |>.trans (So.ss_len l)) ?_
    rw[show (ePairs (So.ss l)).length=l.length by rw[ePairs_len,So.ss_len]]
    refine dw_ret ?_
    exact⟨.inr rfl,0,rfl,rfl⟩
theorem sOf_d (l:List (Int×Tm))(hl:l.length≤1000000)(ht:∀ p∈l,p.2.full≤80000∧p.2.Fit):PureC Tryz.prog 104 [.sl 5 (ePairs l) none] (.tu [.sl 5 (if Sb.right (So.ss l) then ePairs (So.ss l) else []) none,.v (.int .i64 (if Sb.right (So.ss l) then 0 else 1))]):=by
 have hs:=sortedN_d l hl ht
 have hr:=sright_d (So.ss l) (by rw[So.ss_len];exact hl)
 cases h:Sb.right (So.ss l) with
 | true=>
  rw[h] at hr
  rw[if_pos rfl,if_pos rfl]
  refine calldw 0 11 [ResultVar.tmp 2,ResultVar.tmp 3] TSP_ok Tryz.func104 rfl Tryz.ntmps104 rfl fun cx hnt hn0=>?_
  ·skip
   refine dw_seq ?_;refine dwk [] TSP_ok hnt fun _ z9=>z9 _ _ ?_;refine dw_seq ?_;refine dwk [(6,.sl 5 (ePairs (So.ss l)) none)] TSP_ok hnt fun K hK=>?_;refine dcn (hs _) ?_;refine And.intro (VLe.untag _ _ _) ?_;refine hK _ _ ?_;clear hK K;refine dw_seq ?_;refine dw_seq ?_;refine dwk [] TSP_ok hnt fun K hK=>?_;refine dcl (hr) ?_;refine hK _ _ ?_;clear hK K;refine dw_cond (t:=false) rfl ?_
   rw[if_neg (by simp)];refine dw_skip ?_;refine dw_seq ?_;refine dwk [] TSP_ok hnt fun _ z9=>z9 _ _ ?_;refine dw_ret ?_
   exact reta rfl
 | false=>
  rw[h] at hr
  rw[if_neg (by simp),if_neg (by simp)]
  refine calldw 0 11 [ResultVar.tmp 2,ResultVar.tmp 3] TSP_ok Tryz.func104 rfl Tryz.ntmps104 rfl fun cx hnt hn0=>?_
  ·skip
   refine dw_seq ?_;refine dwk [] TSP_ok hnt fun _ z9=>z9 _ _ ?_;refine dw_seq ?_;refine dwk [(6,.sl 5 (ePairs (So.ss l)) none)] TSP_ok hnt fun K hK=>?_;refine dcn (hs _) ?_;refine And.intro (VLe.untag _ _ _) ?_;refine hK _ _ ?_;clear hK K;refine dw_seq ?_;refine dw_seq ?_;refine dwk [] TSP_ok hnt fun K hK=>?_;refine dcl (hr) ?_;refine hK _ _ ?_;clear hK K;refine dw_cond (t:=true) rfl ?_
   rw[if_pos rfl];refine dw_seq ?_;refine dwk [] TSP_ok hnt fun _ z9=>z9 _ _ ?_;refine dw_ret ?_
   exact reta rfl
namespace So
variable {α:Type} {f:α→Bool} {l:List α} {j:Nat}
end So
def del (m:List Int)(p:Int×Tm):Bool:=m.any fun x=>decide (x=p.1)
def kept (m:List Int)(l:List (Int×Tm)):List (Int×Tm):=l.filter fun p=>!del m p
def TRP_22:TI:=⟨1,false,[Value.slice none 0 0],[],some 103,24,5,none,false⟩
theorem TRP_22_ok:TypOk Tryz.prog 22 TRP_22:=by constructor <;> kernel_rfl
def TRP_103:TI:=⟨2,true,[Value.slice none 0 0,Value.int IntKind.i64 0],[(0,1,false),(1,1,false)],none,32,6,none,false⟩
theorem TRP_103_ok:TypOk Tryz.prog 103 TRP_103:=by constructor <;> kernel_rfl
def TRP:List (Nat×TI):=[(22,TRP_22),(103,TRP_103)]
theorem TRP_ok:TabOk Tryz.prog TRP:=(((TabOk.nil _).cons TRP_103_ok).cons TRP_22_ok)
namespace Pn
mutual
def pth:Tm→List Int→List (List Int)
 | .mk _ _ _ a,p=>p :: pths a p 0
def pths:List Tm→List Int→Nat→List (List Int)
 | [],_,_=>[]
 | t :: l,p,j=>pth t (p++[(j:Int)])++pths l p (j+1)
end
end Pn
def ePaths (l:List (List Int)):List (List D):=l.map fun p=>[.sl 1 (eIs p) none]
@[simp] theorem ePaths_ok (f g:Nat→Bool) (l:List (List Int)):D.okss f g (ePaths l)=true:=D.okss_map _ l fun l _=>by simp[D.oks,D.ok,eIs_ok]
theorem rbehind_d (l r:List Ty)(h:l.length+r.length≤900000):PureC Tryz.prog 48 [.sl 2 (eTys l) none,.sl 2 (eTys r) none] (.sl 2 (eTys (l++r)) none):=by
 rw[eTys_append]
 have e1:=eTys_len l
 have e2:=eTys_len r
 refine call_of_dw 0 12 [ResultVar.tmp 4] TRP_ok (by kernel_rfl) Tryz.func48 rfl Tryz.ntmps48 rfl (by simp) ?dwords ?dbody
 case dwords=>simp[wordsOk,D.ok,D.oks,D.okss,rnames,inN,ckey,eTys_ok,←eTys_append]
 case dbody=>
  intro cx hnt hn0
  refine dw_seq ?_;refine dwk [] TRP_ok hnt fun _ z9=>z9 _ _ ?_;refine dw_seq ?_;refine dwk [] TRP_ok hnt fun _ z9=>z9 _ _ ?_;refine dw_seq ?_;refine dwk [] TRP_ok hnt fun K hK=>?_;refine And.intro (by omega) ?_;refine hK _ _ ?_;clear hK K;refine dw_seq ?_;refine dwk [] TRP_ok hnt fun K hK=>?_;refine And.intro (⟨rfl,by omega⟩) ?_;refine hK _ _ ?_;clear hK K
  refine dw_ret ?_
  exact reta rfl
namespace Pn
end Pn
namespace Pn
end Pn
def TP4_41:TI:=⟨4,true,[Value.slice none 0 0,Value.int IntKind.i64 0,Value.int IntKind.i64 0,Value.slice none 0 0],[(0,1,false),(1,2,true),(3,1,false)],none,64,6,none,false⟩
theorem TP4_41_ok:TypOk Tryz.prog 41 TP4_41:=by constructor <;> kernel_rfl
def TP4_39:TI:=⟨1,false,[Value.slice none 0 0],[],some 41,24,5,none,false⟩
theorem TP4_39_ok:TypOk Tryz.prog 39 TP4_39:=by constructor <;> kernel_rfl
def TP4_33:TI:=⟨1,false,[Value.slice none 0 0],[],some 44,24,5,none,false⟩
theorem TP4_33_ok:TypOk Tryz.prog 33 TP4_33:=by constructor <;> kernel_rfl
def TP4_201:TI:=⟨1,true,[Value.map none],[(0,1,false)],none,8,6,none,false⟩
theorem TP4_201_ok:TypOk Tryz.prog 201 TP4_201:=by constructor <;> kernel_rfl
def TP4_3:TI:=⟨1,false,[Value.int IntKind.i64 0],[],none,8,2,none,false⟩
theorem TP4_3_ok:TypOk Tryz.prog 3 TP4_3:=by constructor <;> kernel_rfl
def TP4_38:TI:=⟨2,true,[Value.int IntKind.i64 0,Value.int IntKind.i64 0],[(0,1,false),(1,1,false)],none,16,6,none,true⟩
theorem TP4_38_ok:TypOk Tryz.prog 38 TP4_38:=by constructor <;> kernel_rfl
def TP4_199:TI:=⟨1,false,[Value.map none],[],none,8,7,some 41,false⟩
theorem TP4_199_ok:TypOk Tryz.prog 199 TP4_199:=by constructor <;> kernel_rfl
def TP4_45:TI:=⟨1,false,[Value.int IntKind.i64 0],[],none,8,2,none,false⟩
theorem TP4_45_ok:TypOk Tryz.prog 45 TP4_45:=by constructor <;> kernel_rfl
def TP4_192:TI:=⟨1,false,[Value.slice none 0 0],[],some 33,24,5,none,false⟩
theorem TP4_192_ok:TypOk Tryz.prog 192 TP4_192:=by constructor <;> kernel_rfl
def TP4_59:TI:=⟨1,false,[Value.slice none 0 0],[],some 3,24,5,none,false⟩
theorem TP4_59_ok:TypOk Tryz.prog 59 TP4_59:=by constructor <;> kernel_rfl
def TP4_144:TI:=⟨1,false,[Value.nilFunc],[],none,8,8,none,false⟩
theorem TP4_144_ok:TypOk Tryz.prog 144 TP4_144:=by constructor <;> kernel_rfl
def TP4_44:TI:=⟨2,true,[Value.slice none 0 0,Value.int IntKind.i64 0],[(0,1,false),(1,1,false)],none,32,6,none,false⟩
theorem TP4_44_ok:TypOk Tryz.prog 44 TP4_44:=by constructor <;> kernel_rfl
def TP4:List (Nat×TI):=[(41,TP4_41),(39,TP4_39),(33,TP4_33),(201,TP4_201),(3,TP4_3),(38,TP4_38),(199,TP4_199),(45,TP4_45),(192,TP4_192),(59,TP4_59),(144,TP4_144),(44,TP4_44)]
theorem TP4_ok:TabOk Tryz.prog TP4:=(((((((((((((TabOk.nil _).cons TP4_44_ok).cons TP4_144_ok).cons TP4_59_ok).cons TP4_192_ok).cons TP4_45_ok).cons TP4_199_ok).cons TP4_38_ok).cons TP4_3_ok).cons TP4_201_ok).cons TP4_33_ok).cons TP4_39_ok).cons TP4_41_ok)
def eBd (b:Pn.Bd):List (Int×D):=b.map fun p=>(p.1,.ag (eTm p.2))
@[simp] theorem eBd_ok (f g:Nat→Bool) (b:Pn.Bd):D.okm f g (eBd b)=true:=okm_map _ b fun p _=>by simp[D.ok,eTm_ok]
theorem eBd_find (b:Pn.Bd)(m:Int):mfind (eBd b) m=(Pn.bfind b m).map fun t=>.ag (eTm t):=by
 induction b with
 | nil=>rfl
 | cons p b ih=>
  show (if m=p.1 then _ else mfind (eBd b) m)=_
  unfold Pn.bfind at ih ⊢
  rw[List.find?_cons]
  by_cases h:p.1=m
  ·simp[h]
  ·have h2:(p.1==m)=false:=by simp[h]
   rw[if_neg fun e=>h e.symm,h2,ih]
theorem eBd_put (b:Pn.Bd)(m:Int)(t:Tm)(h:Pn.bfind b m=none):mput (eBd b) m (.ag (eTm t))=eBd (b++[(m,t)]):=by
 induction b with
 | nil=>rfl
 | cons p b ih=>
  show (if m=p.1 then _ else _ :: mput (eBd b) m _)=_
  unfold Pn.bfind at ih h
  rw[List.find?_cons] at h
  by_cases hp:p.1=m
  ·simp[hp] at h
  ·have h2:(p.1==m)=false:=by simp[hp]
   rw[h2] at h
   rw[if_neg fun e=>hp e.symm,ih h];rfl
theorem mput_d (b:Pn.Bd)(m:Int)(t:Tm):CallC Tryz.prog 168 [.mo 0,.v (.int .i64 m),.ag (eTm t)] [(.o 0,.mp (eBd b))] [(.o 0,.mp (eBd (Pn.bput b m t).2))] (.v (.bool (Pn.bput b m t).1)):=by
 have hfi:=eBd_find b m
 cases h:Pn.bfind b m with
 | some u=>
  have he:=equal2_d t u
  have hb:Pn.bput b m t=(decide (t=u),b):=by unfold Pn.bput;rw[h]
  rw[h] at hfi
  rw[hb]
  rw[eTm_eq,eTm_eq] at he
  rw[eTm_eq]
  dsimp only
  refine calldw 1 22 [ResultVar.tmp 6] TP4_ok Tryz.func168 rfl Tryz.ntmps168 rfl fun cx hnt hn0=>?_
  ·skip
   refine dw_seq ?_;refine dwk [] TP4_ok hnt fun _ z9=>z9 _ _ ?_;refine dw_seq ?_;refine dw_seq ?_;refine dwk [(12,.tu [.ag [.sl 2 (eTys u.binds) none,.v (.int .i64 u.kind),.v (.int .i64 u.index),.sl 4 (eTms u.args) none],.v (.bool true)])] TP4_ok hnt fun K hK=>?_;refine And.intro (VLe.of_eq (by unfold lookD;rw[hfi,←eTm_eq];rfl)) ?_;refine hK _ _ ?_;clear hK K
   refine dw_seq ?_;refine dwk [] TP4_ok hnt fun _ z9=>z9 _ _ ?_;refine dw_cond (t:=true) rfl ?_;rw[if_pos rfl];refine dw_seq ?_;refine dwk [] TP4_ok hnt fun K hK=>?_;refine dcl (he) ?_;refine hK _ _ ?_;clear hK K;refine dw_ret ?_
   exact reta rfl
 | none=>
  have hb:Pn.bput b m t=(true,b++[(m,t)]):=by unfold Pn.bput;rw[h]
  have hp:=eBd_put b m t h
  rw[h] at hfi
  rw[hb]
  rw[eTm_eq] at hp ⊢
  dsimp only
  refine calldw 1 22 [ResultVar.tmp 6] TP4_ok Tryz.func168 rfl Tryz.ntmps168 rfl fun cx hnt hn0=>?_
  ·skip
   refine dw_seq ?_;refine dwk [] TP4_ok hnt fun _ z9=>z9 _ _ ?_;refine dw_seq ?_;refine dw_seq ?_;refine dwk [(12,.tu [.ag [.v (.slice none 0 0),.v (.int .i64 0),.v (.int .i64 0),.v (.slice none 0 0)],.v (.bool false)])] TP4_ok hnt fun K hK=>?_;refine And.intro (VLe.of_eq (by unfold lookD;rw[hfi];rfl)) ?_;refine hK _ _ ?_;clear hK K;refine dw_seq ?_;refine dwk [] TP4_ok hnt fun K hK=>?_
   refine hK _ _ ?_;clear hK K;refine dw_cond (t:=false) rfl ?_;rw[if_neg (by simp)];refine dw_skip ?_;refine dw_seq ?_;refine dwk [] TP4_ok hnt fun _ z9=>z9 _ _ ?_
   rw[hp]
   refine dw_seq ?_;refine dwk [] TP4_ok hnt fun _ z9=>z9 _ _ ?_;refine dw_ret ?_
   exact reta rfl
theorem mflex_d (b:Pn.Bd)(p t:Tm)(ar:List Ty)(hk:p.kind=2)(hzp:p.full≤10000)(hfp:p.Fit)(har:ar.length≤10000)(ht:∀ v,Pn.varsL (ar.length:Nat) p.args []=some v→Ty.sizes (Pn.types ar v)+(Tm.mk [] t.kind t.index t.args).full≤80000)(hlow:lowB (.mk [] t.kind t.index t.args)=true)(hft:(Tm.mk [] t.kind t.index t.args).Fit):
  CallC Tryz.prog 140 [.ag [.mo 0],.ag (eTm p),.ag (eTm t),.sl 2 (eTys ar) none] [(.o 0,.mp (eBd b))] [(.o 0,.mp (eBd (Pn.flex b p t ar).2))] (.v (.bool (Pn.flex b p t ar).1)):=by
 have hva:=pvars_d p (ar.length:Nat) (by omega) hfp
 have hvv:Pn.vars p (ar.length:Nat)=match Pn.varsL (ar.length:Nat) p.args [] with | some l=>(l,0) | none=>([],6):=by unfold Pn.vars;exact if_neg (by simp[hk])
 rw[hvv] at hva
 have hpl:=full_args p
 have hpa:=fulls_len p.args
 unfold Pn.flex
 cases hv:Pn.varsL (ar.length:Nat) p.args [] with
 | none=>
  rw[hv] at hva
  rw[eTm_eq] at hva
  rw[eTm_eq,eTm_eq]
  dsimp only at hva ⊢
  refine calldw 1 43 [ResultVar.tmp 8] TP4_ok Tryz.func140 rfl Tryz.ntmps140 rfl fun cx hnt hn0=>?_
  ·skip
   refine dw_seq ?_;refine dwk [] TP4_ok hnt fun _ z9=>z9 _ _ ?_;refine dw_seq ?_;refine dwk [(15,.v (.int .i64 (↑ar.length)))] TP4_ok hnt fun K hK=>?_;refine And.intro (dintE (by rw[eTys_len])) ?_;refine dcl (hva) ?_;refine hK _ _ ?_;clear hK K;refine dw_seq ?_;refine dw_seq ?_;refine dwk [(20,.v (.bool true))] TP4_ok hnt fun K hK=>?_;refine And.intro (VLe.refl _) ?_
   refine hK _ _ ?_;clear hK K;refine dw_cond (t:=true) rfl ?_;rw[if_pos rfl];refine dw_seq ?_;refine dwk [] TP4_ok hnt fun _ z9=>z9 _ _ ?_;refine dw_ret ?_
   exact reta rfl
 | some v=>
  have hvl:=Pn.varsL_len _ _ _ _ hv
  have htk:=ptake_d (.mk [] t.kind t.index t.args) ar v har (by simp at hvl;omega) (ht v hv) hlow hft
  rw[hv] at hva
  rw[eTm_eq] at hva
  obtain⟨⟨x,e⟩,hx⟩:∃ x,Pn.take (.mk [] t.kind t.index t.args) ar v=x:=⟨_,rfl⟩
  have hpu:=mput_d b p.index x
  dsimp only
  rw[hx] at htk ⊢
  rw[eTm_eq,eTm_eq] at htk
  rw[eTm_eq] at hpu
  rw[eTm_eq,eTm_eq]
  dsimp only[Tm.binds,Tm.kind,Tm.index,Tm.args,eTys] at hva htk hpu ⊢
  by_cases he:e=0
  ·rw[if_pos he]
   refine calldw 1 43 [ResultVar.tmp 8] TP4_ok Tryz.func140 rfl Tryz.ntmps140 rfl fun cx hnt hn0=>?_
   ·skip
    refine dw_seq ?_;refine dwk [] TP4_ok hnt fun _ z9=>z9 _ _ ?_;refine dw_seq ?_;refine dwk [(15,.v (.int .i64 (↑ar.length)))] TP4_ok hnt fun K hK=>?_;refine And.intro (dintE (by rw[eTys_len])) ?_;refine dcl (hva) ?_;refine hK _ _ ?_;clear hK K;refine dw_seq ?_;refine dw_seq ?_;refine dwk [(20,.v (.bool false))] TP4_ok hnt fun K hK=>?_;refine And.intro (VLe.refl _) ?_
    refine hK _ _ ?_;clear hK K;refine dw_cond (t:=false) rfl ?_;rw[if_neg (by simp)];refine dw_skip ?_;refine dw_seq ?_;refine dwk [(26,.ag [.sl 2 [] none,.v (.int .i64 t.kind),.v (.int .i64 t.index),.sl 4 (eTms t.args) none])] TP4_ok hnt fun K hK=>?_;refine And.intro (auV) ?_;refine dcl (htk) ?_;refine hK _ _ ?_;clear hK K;refine dw_seq ?_;refine dwk [(33,.v (.bool true))] TP4_ok hnt fun K hK=>?_
    refine And.intro (VLe.of_eq (by simp[he])) ?_;refine dcl (hpu) ?_;refine hK _ _ ?_;clear hK K;refine dw_ret ?_
    exact reta rfl
  ·rw[if_neg he]
   refine calldw 1 43 [ResultVar.tmp 8] TP4_ok Tryz.func140 rfl Tryz.ntmps140 rfl fun cx hnt hn0=>?_
   ·skip
    refine dw_seq ?_;refine dwk [] TP4_ok hnt fun _ z9=>z9 _ _ ?_;refine dw_seq ?_;refine dwk [(15,.v (.int .i64 (↑ar.length)))] TP4_ok hnt fun K hK=>?_;refine And.intro (dintE (by rw[eTys_len])) ?_;refine dcl (hva) ?_;refine hK _ _ ?_;clear hK K;refine dw_seq ?_;refine dw_seq ?_;refine dwk [(20,.v (.bool false))] TP4_ok hnt fun K hK=>?_;refine And.intro (VLe.refl _) ?_
    refine hK _ _ ?_;clear hK K;refine dw_cond (t:=false) rfl ?_;rw[if_neg (by simp)];refine dw_skip ?_;refine dw_seq ?_;refine dwk [(26,.ag [.sl 2 [] none,.v (.int .i64 t.kind),.v (.int .i64 t.index),.sl 4 (eTms t.args) none])] TP4_ok hnt fun K hK=>?_;refine And.intro (auV) ?_;refine dcl (htk) ?_;refine hK _ _ ?_;clear hK K;refine dw_seq ?_;refine dwk [(33,.v (.bool false))] TP4_ok hnt fun K hK=>?_
    refine And.intro (VLe.of_eq (by simp[he])) ?_;refine hK _ _ ?_;clear hK K;refine dw_ret ?_
    exact reta rfl
namespace Pn
theorem walks_app (ar:List Ty):∀ (l r ts:List Tm) (b:Bd),walks (l++r) ts ar b=if (walks l ts ar b).1 then walks r (ts.drop l.length) ar (walks l ts ar b).2 else walks l ts ar b
 | [],r,ts,b=>by simp[walks]
 | p :: l,r,ts,b=>by
  rw[List.cons_append,walks,walks]
  by_cases h:(walk p (ts.headD Tm.zero) ar b).1=true
  ·rw[if_pos h,if_pos h,walks_app ar l r]
   have:ts.tail.drop l.length=ts.drop (p :: l).length:=by cases ts <;> simp
   rw[this]
  ·rw[if_neg h,if_neg h,if_neg h]
theorem walks_take (ar:List Ty)(a ts:List Tm)(b b':Bd)(j:Nat)(hj:j<a.length)(ht:j<ts.length)(h:walks (a.take j) ts ar b=(true,b')):walks (a.take (j+1)) ts ar b=walk a[j] ts[j] ar b':=by
 rw[List.take_add_one,List.getElem?_eq_getElem hj]
 show walks (a.take j++[a[j]]) ts ar b=_
 rw[walks_app,h,if_pos rfl,List.length_take,Nat.min_eq_left (by omega),walks]
 have:(ts.drop j).headD Tm.zero=ts[j]:=by rw[List.drop_eq_getElem_cons ht];rfl
 rw[this]
 dsimp only
 split
 ·rename_i h;rw[walks,←h]
 ·rfl
theorem walks_stop (ar:List Ty)(a ts:List Tm)(b b':Bd)(j:Nat)(h:walks (a.take j) ts ar b=(false,b')):walks a ts ar b=(false,b'):=by
 have h1:walks a ts ar b=walks (a.take j++a.drop j) ts ar b:=by rw[List.take_append_drop]
 rw[h1,walks_app,h,if_neg (by simp)]
theorem types_size (ar:List Ty):∀ v:List Int,Ty.sizes (types ar v)≤v.length * (Ty.sizes ar+1)
 | []=>by simp[types,Ty.sizes]
 | i :: v=>by
  have h:=types_size ar v
  have h1:(ar.getD ((ar.length:Int)-1-i).toNat (.mk [] 0)).size≤Ty.sizes ar+1:=by
   rw[List.getD_eq_getElem?_getD]
   cases hx:ar[((ar.length:Int)-1-i).toNat]? with
   | none=>simp[Ty.size,Ty.sizes]
   | some x=>
    have hm:=List.mem_of_getElem? hx
    have:x.size≤Ty.sizes ar:=by
     clear hx h
     induction ar with
     | nil=>cases hm
     | cons y ar ih=>
      simp only[Ty.sizes]
      rcases List.mem_cons.1 hm with rfl | hm
      ·omega
      ·have:=ih hm;omega
    simp;omega
  have h2:Ty.sizes (types ar (i :: v))=(ar.getD ((ar.length:Int)-1-i).toNat (.mk [] 0)).size+Ty.sizes (types ar v):=by
   show Ty.sizes (_ :: types ar v)=_
   rw[Ty.sizes]
  rw[h2,List.length_cons,Nat.succ_mul]
  omega
structure BdOk (b:Bd):Prop where
 keys:(b.map (·.1)).Nodup
 full:∀ p∈b,p.2.full≤80000
 fit:∀ p∈b,p.2.Fit
theorem bdOk_nil:BdOk []:=⟨List.nodup_nil,nofun,nofun⟩
theorem bfind_none {b:Bd}{m:Int}(h:bfind b m=none):m∉b.map (·.1):=by
 unfold bfind at h
 rw[Option.map_eq_none_iff,List.find?_eq_none] at h
 intro hm
 obtain⟨p,hp,rfl⟩:=List.mem_map.1 hm
 exact h p hp (by simp)
theorem bput_ok {b:Bd}(h:BdOk b){m:Int}{t:Tm}(h1:t.full≤80000)(h2:t.Fit):BdOk (bput b m t).2:=by
 unfold bput
 split
 ·exact h
 ·rename_i hf
  refine⟨?_,fun p hp=>?_,fun p hp=>?_⟩
  ·rw[List.map_append]
   refine List.nodup_append.2 ⟨h.keys,by simp,?_⟩
   intro x hx y hy e
   rw[List.map_cons,List.map_nil,List.mem_singleton] at hy
   subst hy;subst e
   exact bfind_none hf hx
  ·rcases List.mem_append.1 hp with hp | hp
   ·exact h.full p hp
   ·rw[List.mem_singleton] at hp;subst hp;exact h1
  ·rcases List.mem_append.1 hp with hp | hp
   ·exact h.fit p hp
   ·rw[List.mem_singleton] at hp;subst hp;exact h2
abbrev nb (t:Tm):Tm:=.mk [] t.kind t.index t.args
theorem nb_full (t:Tm):(nb t).full≤t.full:=by have:=full_args t;rw[Tm.full_eq];simp[Ty.sizes];omega
theorem nb_low {t:Tm}(h:lowB t=true):lowB (nb t)=true:=by obtain⟨b,k,i,a⟩:=t;rw[lowB_eq] at h ⊢;exact h
theorem nb_fit {t:Tm}(h:t.Fit):(nb t).Fit:=by obtain⟨b,k,i,a⟩:=t;exact Tm.fit_iff.2 (Tm.fit_iff.1 h)
theorem take_full (t:Tm)(ar:List Ty)(v:List Int)(h:(take t ar v).2=0):(take t ar v).1.full=Ty.sizes (types ar v)+t.full:=by
 unfold take at h ⊢
 split at h
 ·rename_i h1
  split at h
  ·rename_i h2
   rw[if_pos h1,if_pos h2]
   rw[Tm.full_eq,Ty.sizes_append]
   have h3:=tk_full ar.length v t 0
   have h4:=full_args (tk ar.length v t 0)
   have h5:(tk ar.length v t 0).binds=t.binds:=by obtain⟨b,k,i,a⟩:=t;rw[tk_eq];rfl
   rw[h5] at h4
   omega
  ·cases h
 ·cases h
theorem take_fit (t:Tm)(ar:List Ty)(v:List Int)(har:ar.length≤10000)(hv:v.length≤10000)(hz:t.full≤90000)(hlow:lowB t=true)(hfit:t.Fit):(take t ar v).1.Fit:=by
 unfold take
 split
 ·split
  ·have:=tk_fit ar.length v ⟨by omega,by omega⟩ hv t 0 (by omega) (by omega) hlow hfit
   generalize tk ar.length v t 0=u at this ⊢
   obtain⟨b,k,i,a⟩:=u
   exact Tm.fit_iff.2 (Tm.fit_iff.1 this)
  ·exact Tm.fit_iff.2 ⟨by decide,by decide,nofun⟩
 ·exact Tm.fit_iff.2 ⟨by decide,by decide,nofun⟩
theorem flex_ok {b:Bd}(h:BdOk b)(p t:Tm)(ar:List Ty)(hp:p.full≤250)(har:Ty.sizes ar≤250)(ht:t.full≤10000)(hlow:lowB t=true)(hfit:t.Fit):BdOk (flex b p t ar).2:=by
 unfold flex
 split
 ·exact h
 ·rename_i v hv
  have hvl:=varsL_len _ _ _ _ hv
  have hal:=full_args p
  have hpl:=fulls_len p.args
  have hsz:=types_size ar v
  have hle:=Ty.le_sizes ar
  have hnf:(Tm.mk [] t.kind t.index t.args).full≤t.full:=nb_full t
  split
  ·rename_i h0
   refine bput_ok h ?_ (take_fit _ ar v (by omega) (by simp at hvl;omega) (by omega) (nb_low hlow) (nb_fit hfit))
   rw[take_full _ ar v h0]
   simp at hvl
   have:v.length * (Ty.sizes ar+1)≤250 * 251:=Nat.mul_le_mul (by omega) (by omega)
   omega
  ·exact h
theorem low_mem {a:List Tm}(h:lowsB a=true):∀ t∈a,lowB t=true:=by rw[lowsB_all,List.all_eq_true] at h;exact h
theorem walk_bd (p:Tm):∀ (t:Tm) (ar:List Ty) (b:Bd),BdOk b→Ty.sizes ar+p.full≤250→t.full≤10000→lowB t=true→t.Fit→BdOk (walk p t ar b).2:=by
 induction p using Tm.ind with
 | h bs k i a ih=>
  intro t ar b hb hz ht hlow hfit
  rw[Tm.full_eq] at hz
  have hfa:=full_args t
  rw[walk]
  split
  ·exact hb
  ·split
   ·exact flex_ok hb _ t _ (by rw[Tm.full_eq];omega) (by rw[Ty.sizes_append];omega) ht hlow hfit
   ·split
    ·exact hb
    ·have hla:∀ u∈t.args,lowB u=true:=by obtain⟨b',k',i',a'⟩:=t;rw[lowB_eq] at hlow;simp only[Bool.and_eq_true] at hlow;exact low_mem hlow.2
     have key:∀ (m ts:List Tm) (b:Bd),(∀ x∈m,x∈a)→(∀ x∈ts,x∈t.args)→BdOk b→BdOk (walks m ts (ar++bs) b).2:=by
      intro m
      induction m with
      | nil=>intro ts b _ _ hb;rw[walks];exact hb
      | cons x m ihm=>
       intro ts b hm hts hb
       have hxm:=full_mem (hm x (by simp))
       have hy:(ts.headD Tm.zero).full≤10000∧lowB (ts.headD Tm.zero)=true∧(ts.headD Tm.zero).Fit:=by
        cases ts with
        | nil=>exact⟨by decide,by decide,Tm.fit_iff.2 ⟨by decide,by decide,nofun⟩⟩
        | cons y ts=>
         have h1:=hts y (by simp)
         have:=full_mem h1
         exact⟨by show y.full≤_;omega,hla y h1,fit_args hfit y h1⟩
       have h1:=ih x (hm x (by simp)) (ts.headD Tm.zero) (ar++bs) b hb (by rw[Ty.sizes_append];omega) hy.1 hy.2.1 hy.2.2
       rw[walks]
       split
       ·exact ihm ts.tail _ (fun y hy=>hm y (by simp[hy])) (fun y hy=>hts y (List.mem_of_mem_tail hy)) h1
       ·exact h1
     exact key a t.args b (fun _ h=>h) (fun _ h=>h) hb
end Pn
theorem mwalk_flex (b:Pn.Bd)(p t:Tm)(ar:List Ty)(hk:p.kind=2)(hz:Ty.sizes ar≤250)(hzp:p.full≤250)(hfp:p.Fit)(ht:t.full≤10000)(hlow:lowB t=true)(hft:t.Fit):
  CallC Tryz.prog 140 [.ag [.mo 0],.ag (eTm p),.ag (eTm t),.sl 2 (eTys ar) none] [(.o 0,.mp (eBd b))] [(.o 0,.mp (eBd (Pn.flex b p t ar).2))] (.v (.bool (Pn.flex b p t ar).1)):=by
 have hle:=Ty.le_sizes ar
 have hnf:(Tm.mk [] t.kind t.index t.args).full≤t.full:=Pn.nb_full t
 refine mflex_d b p t ar hk (by omega) hfp (by omega) (fun v hv=>?_) (Pn.nb_low hlow) (Pn.nb_fit hft)
 have hvl:=Pn.varsL_len _ _ _ _ hv
 have hal:=full_args p
 have hpl:=fulls_len p.args
 have hsz:=Pn.types_size ar v
 simp at hvl
 have:v.length * (Ty.sizes ar+1)≤250 * 251:=Nat.mul_le_mul (by omega) (by omega)
 omega
set_option maxHeartbeats 4000000 in
theorem mwalk_d:∀ (p t:Tm) (ar:List Ty) (b:Pn.Bd),Ty.sizes ar+p.full≤250→p.Fit→t.full≤10000→lowB t=true→t.Fit →
  CallC Tryz.prog 111 [.ag [.mo 0],.ag (eTm p),.ag (eTm t),.sl 2 (eTys ar) none] [(.o 0,.mp (eBd b))] [(.o 0,.mp (eBd (Pn.walk p t ar b).2))] (.v (.bool (Pn.walk p t ar b).1)):=by
 intro p
 induction p using Tm.ind with
 | h bs k i a ih=>
 intro t ar b hz hfp hzt hlow hft
 rw[Tm.full_eq] at hz
 have hft2:=fit_args hfp
 dsimp only[Tm.args] at hft2
 have hfa:=full_args t
 have hal:=fulls_len a
 have htl:=fulls_len t.args
 have hla:∀ u∈t.args,lowB u=true:=by obtain⟨b',k',i',a'⟩:=t;rw[lowB_eq] at hlow;simp only[Bool.and_eq_true] at hlow;exact Pn.low_mem hlow.2
 have heq:=eqTys_d bs t.binds 69 rfl
 have hcat:=concat_d [ar,bs] (by simp[lens];have:=Ty.le_sizes ar;have:=Ty.le_sizes bs;omega) (by simp)
 simp only[List.flatten_cons,List.flatten_nil,List.append_nil] at hcat
 have hfl:PureC Tryz.prog 134 [.ag (eTm (.mk bs k i a))] (.v (.bool (decide (k=2)))):=pflex_d (.mk bs k i a)
 have hcl:=mwalk_flex b (.mk bs k i a) t (ar++bs)
 rw[Pn.walk]
 rw[eTm_eq,eTm_eq]
 rw[eTm_eq] at hfl
 rw[eTm_eq,eTm_eq] at hcl
 simp only[binds_mk',kind_mk',index_mk',args_mkT] at hfl hcl ⊢
 by_cases hb:bs=t.binds
 ·rw[if_neg (by simpa using hb)]
  rw[decide_eq_true hb] at heq
  by_cases hk:k=2
  ·rw[if_pos hk]
   rw[decide_eq_true hk] at hfl
   have hcl:=hcl hk (by rw[Ty.sizes_append];omega) (by rw[Tm.full_eq];omega) hfp hzt hlow hft
   refine calldw 1 62 [ResultVar.tmp 8] TP4_ok Tryz.func111 rfl Tryz.ntmps111 rfl fun cx hnt hn0=>?_
   ·skip
    refine dw_seq ?_;refine dwk [] TP4_ok hnt fun _ z9=>z9 _ _ ?_;refine dw_seq ?_;refine dw_seq ?_;refine dwk [] TP4_ok hnt fun K hK=>?_;refine dcl (heq) ?_;refine hK _ _ ?_;clear hK K;refine dw_cond (t:=false) rfl ?_;rw[if_neg (by simp)];refine dw_skip ?_;refine dw_seq ?_;refine dwk [(20,.sl 1 (eTyss [ar,bs]) none)] TP4_ok hnt fun K hK=>?_;refine And.intro (VLe.untag _ _ _) ?_
    refine dcl (hcat) ?_;refine hK _ _ ?_;clear hK K;refine dw_seq ?_;refine dw_seq ?_;refine dwk [] TP4_ok hnt fun K hK=>?_;refine dcl (hfl) ?_;refine hK _ _ ?_;clear hK K;refine dw_cond (t:=true) rfl ?_;rw[if_pos rfl];refine dw_seq ?_;refine dwk [] TP4_ok hnt fun K hK=>?_;refine dcl (hcl) ?_;refine hK _ _ ?_;clear hK K;refine dw_ret ?_
    exact reta rfl
  ·rw[if_neg hk]
   rw[decide_eq_false hk] at hfl
   by_cases hc:(k≠t.kind∨i≠t.index)∨a.length≠t.args.length
   ·rw[if_pos hc]
    by_cases hc1:k≠t.kind∨i≠t.index
    ·skip
     refine calldw 1 62 [ResultVar.tmp 8] TP4_ok Tryz.func111 rfl Tryz.ntmps111 rfl fun cx hnt hn0=>?_
     ·skip
      refine dw_seq ?_;refine dwk [] TP4_ok hnt fun _ z9=>z9 _ _ ?_;refine dw_seq ?_;refine dw_seq ?_;refine dwk [] TP4_ok hnt fun K hK=>?_;refine dcl (heq) ?_;refine hK _ _ ?_;clear hK K;refine dw_cond (t:=false) rfl ?_;rw[if_neg (by simp)];refine dw_skip ?_;refine dw_seq ?_;refine dwk [(20,.sl 1 (eTyss [ar,bs]) none)] TP4_ok hnt fun K hK=>?_;refine And.intro (VLe.untag _ _ _) ?_
      refine dcl (hcat) ?_;refine hK _ _ ?_;clear hK K;refine dw_seq ?_;refine dw_seq ?_;refine dwk [] TP4_ok hnt fun K hK=>?_;refine dcl (hfl) ?_;refine hK _ _ ?_;clear hK K;refine dw_cond (t:=false) rfl ?_;rw[if_neg (by simp)];refine dw_skip ?_;refine dw_seq ?_;refine dw_seq ?_;refine dwk [(33,.v (.bool true))] TP4_ok hnt fun K hK=>?_;refine And.intro (VLe.of_eq (by congr 2;rcases hc1 with h | h <;> simp[h])) ?_
      refine hK _ _ ?_;clear hK K;refine dw_cond (t:=true) rfl ?_;rw[if_pos rfl];refine dw_seq ?_;refine dwk [] TP4_ok hnt fun _ z9=>z9 _ _ ?_;refine dw_ret ?_
      exact reta rfl
    ·have hc2:a.length≠t.args.length:=by rcases hc with h | h;exact absurd h hc1;exact h
     refine calldw 1 62 [ResultVar.tmp 8] TP4_ok Tryz.func111 rfl Tryz.ntmps111 rfl fun cx hnt hn0=>?_
     ·skip
      refine dw_seq ?_;refine dwk [] TP4_ok hnt fun _ z9=>z9 _ _ ?_;refine dw_seq ?_;refine dw_seq ?_;refine dwk [] TP4_ok hnt fun K hK=>?_;refine dcl (heq) ?_;refine hK _ _ ?_;clear hK K;refine dw_cond (t:=false) rfl ?_;rw[if_neg (by simp)];refine dw_skip ?_;refine dw_seq ?_;refine dwk [(20,.sl 1 (eTyss [ar,bs]) none)] TP4_ok hnt fun K hK=>?_;refine And.intro (VLe.untag _ _ _) ?_
      refine dcl (hcat) ?_;refine hK _ _ ?_;clear hK K;refine dw_seq ?_;refine dw_seq ?_;refine dwk [] TP4_ok hnt fun K hK=>?_;refine dcl (hfl) ?_;refine hK _ _ ?_;clear hK K;refine dw_cond (t:=false) rfl ?_;rw[if_neg (by simp)];refine dw_skip ?_;refine dw_seq ?_;refine dw_seq ?_;refine dwk [(33,.v (.bool false)),(37,.v (.int .i64 (↑a.length))),(40,.v (.int .i64 (↑t.args.length))),(41,.v (.bool true))] TP4_ok hnt fun K hK=>?_
      refine And.intro (VLe.of_eq (by congr 2;simp at hc1;simp[hc1])) ?_;refine And.intro (dintE (by rw[eTms_len])) ?_;refine And.intro (dintE (by rw[eTms_len])) ?_;refine And.intro (VLe.of_eq (by congr 2;simp;omega)) ?_;refine hK _ _ ?_;clear hK K;refine dw_cond (t:=true) rfl ?_;rw[if_pos rfl];refine dw_seq ?_;refine dwk [] TP4_ok hnt fun _ z9=>z9 _ _ ?_;refine dw_ret ?_
      exact reta rfl
   ·rw[if_neg hc]
    have hc1:¬ (k≠t.kind∨i≠t.index):=fun h=>hc (.inl h)
    have hc2:a.length=t.args.length:=by by_cases h:a.length=t.args.length;exact h;exact absurd (.inr h) hc
    refine calldw 1 62 [ResultVar.tmp 8] TP4_ok Tryz.func111 rfl Tryz.ntmps111 rfl fun cx hnt hn0=>?_
    ·skip
     refine dw_seq ?_;refine dwk [] TP4_ok hnt fun _ z9=>z9 _ _ ?_;refine dw_seq ?_;refine dw_seq ?_;refine dwk [] TP4_ok hnt fun K hK=>?_;refine dcl (heq) ?_;refine hK _ _ ?_;clear hK K;refine dw_cond (t:=false) rfl ?_;rw[if_neg (by simp)];refine dw_skip ?_;refine dw_seq ?_;refine dwk [(20,.sl 1 (eTyss [ar,bs]) none)] TP4_ok hnt fun K hK=>?_;refine And.intro (VLe.untag _ _ _) ?_
     refine dcl (hcat) ?_;refine hK _ _ ?_;clear hK K;refine dw_seq ?_;refine dw_seq ?_;refine dwk [] TP4_ok hnt fun K hK=>?_;refine dcl (hfl) ?_;refine hK _ _ ?_;clear hK K;refine dw_cond (t:=false) rfl ?_;rw[if_neg (by simp)];refine dw_skip ?_;refine dw_seq ?_;refine dw_seq ?_;refine dwk [(33,.v (.bool false)),(37,.v (.int .i64 (↑a.length))),(40,.v (.int .i64 (↑t.args.length))),(41,.v (.bool false))] TP4_ok hnt fun K hK=>?_
     refine And.intro (VLe.of_eq (by congr 2;simp at hc1;simp[hc1])) ?_;refine And.intro (dintE (by rw[eTms_len])) ?_;refine And.intro (dintE (by rw[eTms_len])) ?_;refine And.intro (VLe.of_eq (by congr 2;simp;omega)) ?_;refine hK _ _ ?_;clear hK K;refine dw_cond (t:=false) rfl ?_;rw[if_neg (by simp)];refine dw_skip ?_;refine dw_seq ?_;refine dw_seq ?_;refine dwk [(45,.v (.int .i64 (↑a.length)))] TP4_ok hnt fun K hK=>?_
     refine And.intro (dintE (by rw[eTms_len])) ?_;refine hK _ _ ?_;clear hK K;refine dw_block ?_
     refine dw_loop (ι:={ q:Nat×Pn.Bd // Pn.walks (a.take q.1) t.args (ar++bs) b=(true,q.2) }) (fun q=>[(.t 3,.sl 2 (eTys (ar++bs)) none),(.t 4,.p 1 0),(.t 6,.p 3 0),(.t 44,.sl 4 (eTms a) none),(.t 45,.v (.int .i64 ↑a.length)),(.t 46,.v (.int .i64 ↑q.1.1)),(.c 1 0,.mo 0),(.c 3 0,.sl 2 (eTys t.binds) none),(.c 3 1,.v (.int .i64 t.kind)),(.c 3 2,.v (.int .i64 t.index)),(.c 3 3,.sl 4 (eTms t.args) none),(.o 0,.mp (eBd q.1.2))]) 4 (fun q=>a.length-q.1.1) (⟨(0,b),by rw[List.take_zero,Pn.walks]⟩) (VS.toA) fun q=>?_
     obtain⟨⟨j,bj⟩,hq⟩:=q
     dsimp only at hq ⊢
     by_cases hlt:j<a.length
     ·have hjt:j<t.args.length:=by omega
      have hst:=Pn.walks_take (ar++bs) a t.args b bj j hlt hjt hq
      have hmem:=List.getElem_mem hlt
      have hmet:=List.getElem_mem hjt
      have hm1:=full_mem hmem
      have hm2:=full_mem hmet
      have hih:=ih a[j] hmem t.args[j] (ar++bs) bj (by rw[Ty.sizes_append];omega) (hft2 _ hmem) (by omega) (hla _ hmet) (fit_args hft _ hmet)
      obtain⟨⟨wb,wl⟩,hw⟩:∃ r,Pn.walk a[j] t.args[j] (ar++bs) bj=r:=⟨_,rfl⟩
      rw[hw] at hih hst
      rw[eTm_eq,eTm_eq] at hih
      dsimp only at hih
      refine dw_seq ?_;refine dwk [(47,.v (.bool true))] TP4_ok hnt fun K hK=>?_;refine And.intro auT ?_;refine hK _ _ ?_;clear hK K;refine dw_seq ?_;refine dw_cond (t:=true) rfl ?_;rw[if_pos rfl];refine dw_skip ?_;refine dw_seq ?_;refine dw_block ?_;refine dw_seq ?_;refine dwk [(49,.q [.sl 2 (eTys a[j].binds) none,.v (.int .i64 a[j].kind),.v (.int .i64 a[j].index),.sl 4 (eTms a[j].args) none])] TP4_ok hnt fun K hK=>?_
      refine And.intro (elo (eTms_len a)) ?_;refine And.intro (elv (eTms_getD a j) (eTm_eq _)) ?_;refine hK _ _ ?_;clear hK K
      cases wb with
      | true=>
       refine dw_seq ?_;refine dwkD [(56,.q [.sl 2 (eTys t.args[j].binds) none,.v (.int .i64 t.args[j].kind),.v (.int .i64 t.args[j].index),.sl 4 (eTms t.args[j].args) none])] TP4_ok hnt fun K hK=>?_;refine And.intro (elo (eTms_len t.args)) ?_;refine And.intro (elv (eTms_getD t.args j) (eTm_eq _)) ?_;refine dcl (hih) ?_;refine hK _ _ (by kernel_rfl) ?_;clear hK K;refine dw_cond (t:=false) rfl ?_
       rw[if_neg (by simp)];refine dw_skip ?_;refine dwk [(61,.v (.int .i64 (↑(j+1))))] TP4_ok hnt fun K hK=>?_;refine And.intro auI ?_;refine hK _ _ ?_;clear hK K
       refine⟨⟨(j+1,wl),hst⟩,by first | omega | (dsimp only;omega),VS.toA⟩
      | false=>
       rw[Pn.walks_stop (ar++bs) a t.args b wl (j+1) hst]
       refine dw_seq ?_;refine dwkD [(56,.q [.sl 2 (eTys t.args[j].binds) none,.v (.int .i64 t.args[j].kind),.v (.int .i64 t.args[j].index),.sl 4 (eTms t.args[j].args) none])] TP4_ok hnt fun K hK=>?_;refine And.intro (elo (eTms_len t.args)) ?_;refine And.intro (elv (eTms_getD t.args j) (eTm_eq _)) ?_;refine dcl (hih) ?_;refine hK _ _ (by kernel_rfl) ?_;clear hK K;refine dw_cond (t:=true) rfl ?_
       rw[if_pos rfl];refine dw_seq ?_;refine dwk [] TP4_ok hnt fun _ z9=>z9 _ _ ?_;refine dw_ret ?_
       exact reta rfl
     ·rw[List.take_of_length_le (by omega)] at hq
      rw[hq]
      refine dw_seq ?_;refine dwk [(47,.v (.bool false))] TP4_ok hnt fun K hK=>?_;refine And.intro auF ?_;refine hK _ _ ?_;clear hK K;refine dw_seq ?_;refine dw_cond (t:=false) rfl ?_;rw[if_neg (by simp)];refine dw_exit ?_;refine dw_seq ?_;refine dwk [] TP4_ok hnt fun _ z9=>z9 _ _ ?_;refine dw_ret ?_
      exact reta rfl
 ·rw[if_pos (by simpa using hb)]
  rw[decide_eq_false hb] at heq
  refine calldw 1 62 [ResultVar.tmp 8] TP4_ok Tryz.func111 rfl Tryz.ntmps111 rfl fun cx hnt hn0=>?_
  ·skip
   refine dw_seq ?_;refine dwk [] TP4_ok hnt fun _ z9=>z9 _ _ ?_;refine dw_seq ?_;refine dw_seq ?_;refine dwk [] TP4_ok hnt fun K hK=>?_;refine dcl (heq) ?_;refine hK _ _ ?_;clear hK K;refine dw_cond (t:=true) rfl ?_;rw[if_pos rfl];refine dw_seq ?_;refine dwk [] TP4_ok hnt fun _ z9=>z9 _ _ ?_;refine dw_ret ?_
   exact reta rfl
theorem looses_pos (t:Tm):∀ n:Int,∀ x∈t.looses n,0≤x:=by
 induction t using Tm.ind with
 | h b k i a ih=>
  intro n x hx
  rw[Tm.looses_eq _ _ _ _ _ _ rfl] at hx
  rcases List.mem_append.1 hx with hx | hx
  ·split at hx
   ·rename_i h;rw[List.mem_singleton] at hx;subst hx;omega
   ·cases hx
  ·have key:∀ (l:List Tm),(∀ t∈l,t∈a)→∀ n,∀ x∈Tm.loosess l n,0≤x:=by
    intro l
    induction l with
    | nil=>intro _ n x hx;simp[Tm.loosess] at hx
    | cons t l ihl=>
     intro hl n x hx
     rw[Tm.loosess] at hx
     rcases List.mem_append.1 hx with hx | hx
     ·exact ih t (hl t (by simp)) n x hx
     ·exact ihl (fun u hu=>hl u (by simp[hu])) n x hx
   exact key a (fun _ h=>h) _ x hx
theorem mmay_d (p:Tm)(h1:p.full≤10000)(hf:p.Fit):PureC Tryz.prog 71 [.ag (eTm p)] (.v (.int .i64 (Pn.may p))):=by
 have hl:=loose_d p (by omega) hf
 have hi:=is_d p (by omega) hf
 have hp:=looseL_pos (looses_pos p 0)
 unfold Pn.may
 obtain⟨n,hn⟩:∃ n,(p.looses 0).foldl looseL 0=n:=⟨_,rfl⟩
 rw[hn] at hl hp
 rw[eTm_eq] at hl hi ⊢
 by_cases hL:p.looses 0=[]
 ·rw[if_neg (by simp[hL])]
  have hn0:¬ 0<n:=fun h=>hp.1 h hL
  cases hu:(Pn.uses p [] []).2 with
  | true=>
   rw[hu] at hi
   rw[if_neg (by simp)]
   refine calldw 0 11 [ResultVar.tmp 2] TP4_ok Tryz.func71 rfl Tryz.ntmps71 rfl fun cx hnt hn0=>?_
   ·skip
    refine dw_seq ?_;refine dwk [] TP4_ok hnt fun _ z9=>z9 _ _ ?_;refine dw_seq ?_;refine dw_block ?_;refine dw_seq ?_;refine dwk [(6,.v (.bool false)),(3,.v (.bool false))] TP4_ok hnt fun K hK=>?_;refine dcl (hl) ?_;refine And.intro auF ?_;refine And.intro auF ?_;refine hK _ _ ?_;clear hK K;refine dw_cond (t:=false) rfl ?_;rw[if_neg (by simp)];refine dw_seq ?_
    refine dwk [] TP4_ok hnt fun K hK=>?_;refine dcl (hi) ?_;refine hK _ _ ?_;clear hK K;refine dw_cond (t:=false) rfl ?_;rw[if_neg (by simp)];refine dw_skip ?_;refine dw_seq ?_;refine dwk [] TP4_ok hnt fun _ z9=>z9 _ _ ?_;refine dw_ret ?_
    exact reta rfl
  | false=>
   rw[hu] at hi
   rw[if_pos rfl]
   refine calldw 0 11 [ResultVar.tmp 2] TP4_ok Tryz.func71 rfl Tryz.ntmps71 rfl fun cx hnt hn0=>?_
   ·skip
    refine dw_seq ?_;refine dwk [] TP4_ok hnt fun _ z9=>z9 _ _ ?_;refine dw_seq ?_;refine dw_block ?_;refine dw_seq ?_;refine dwk [(6,.v (.bool false)),(3,.v (.bool false))] TP4_ok hnt fun K hK=>?_;refine dcl (hl) ?_;refine And.intro auF ?_;refine And.intro auF ?_;refine hK _ _ ?_;clear hK K;refine dw_cond (t:=false) rfl ?_;rw[if_neg (by simp)];refine dw_seq ?_
    refine dwk [] TP4_ok hnt fun K hK=>?_;refine dcl (hi) ?_;refine hK _ _ ?_;clear hK K;refine dw_cond (t:=true) rfl ?_;rw[if_pos rfl];refine dw_seq ?_;refine dwk [] TP4_ok hnt fun _ z9=>z9 _ _ ?_;refine dw_ret ?_
    exact reta rfl
 ·rw[if_pos hL]
  have hn0:0<n:=hp.2 hL
  refine calldw 0 11 [ResultVar.tmp 2] TP4_ok Tryz.func71 rfl Tryz.ntmps71 rfl fun cx hnt hn0=>?_
  ·skip
   refine dw_seq ?_;refine dwk [] TP4_ok hnt fun _ z9=>z9 _ _ ?_;refine dw_seq ?_;refine dw_block ?_;refine dw_seq ?_;refine dwk [(6,.v (.bool true)),(3,.v (.bool true))] TP4_ok hnt fun K hK=>?_;refine dcl (hl) ?_;refine And.intro auT ?_;refine And.intro auT ?_;refine hK _ _ ?_;clear hK K;refine dw_cond (t:=true) rfl ?_;rw[if_pos rfl];refine dw_seq ?_;refine dwk [] TP4_ok hnt fun K hK=>?_
   refine hK _ _ ?_;clear hK K;refine dw_ret ?_
   exact reta rfl
namespace Pn
variable {C M:List Ty}
def wv (vs:List Int)(j:Nat):Nat:=(vs.getD j 0).toNat
theorem wv_at {vs:List Int}{j:Nat}{x:Int}(h:vs[j]?=some x):wv vs j=x.toNat:=by
 unfold wv;rw[List.getD_eq_getElem?_getD,h];rfl
end Pn
variable {C M:List Ty}
theorem isOfs_etas {b us Y:List Ty}(h:IsOfs C M (Ty.etas b) (Y++b) us):us=b:=by
 obtain⟨h1,h2⟩:=isOfs_iff.1 h
 rw[Ty.etas_len] at h1
 refine List.ext_getElem h1 fun j hj hj'=>?_
 have h3:=h2 j (by rw[Ty.etas_len];exact hj') hj
 rw[Nm.etas_nth] at h3
 obtain⟨c,e⟩:∃ x,x=b[j]:=⟨_,rfl⟩
 rw[←e] at h3 ⊢
 obtain⟨c,d⟩:=c
 rw[Ty.eta_eq,if_pos rfl] at h3
 obtain⟨e1,h',e2,e3,_⟩:=isOf_mk.1 h3
 rw[show ((b.length-1-j:Nat):Int)+(c.length:Nat)=((c.length+(b.length-1-j):Nat):Int) by omega,headTy_0,rev_app,if_neg (by omega),show c.length+(b.length-1-j)-c.length=b.length-1-j by omega,rev_app,if_pos (by omega),List.getElem?_reverse (by omega),show b.length-1-(b.length-1-j)=j by omega,List.getElem?_eq_getElem hj',←e] at e2
 have e2:=Option.some.inj e2
 subst e2
 obtain⟨ua,ub⟩:∃ x,x=us[j]:=⟨_,rfl⟩
 rw[←ub] at e1 e3 ⊢
 obtain⟨ua,uc⟩:=ua
 have e1:c=ua:=e1
 have e3:d=uc:=e3
 rw[e1,e3]
theorem eta_of {Y:List Ty}{t:Tm}{T:Ty}(ht:IsOf C M t Y T)(hl:longB t=true)(hk:t.kind=0):∃ w:Nat,t.headIx=w∧t=Ty.eta T 0 w∧Y.reverse[w]?=some T:=by
 obtain⟨b,k,i,a⟩:=t
 have hk:k=0:=hk
 subst hk
 rw[longB_iff] at hl
 obtain⟨l1,l2⟩:=hl
 have l1:a=Ty.etas b:=l1
 have l2:=l2 rfl
 have l2:(b.length:Int)≤i:=l2
 subst l1
 obtain⟨rfl,h,h1,h2,h3⟩:=isOf_mk.1 ht
 have h4:=isOfs_etas h3
 have hT:h=T:=by
  obtain⟨c,d⟩:=h
  obtain⟨c',d'⟩:=T
  have h4:c=c':=h4
  have h2:d=d':=h2
  rw[h4,h2]
 subst hT
 obtain⟨w,hw⟩:∃ w:Nat,i=((h.args.length+w:Nat):Int):=⟨(i-h.args.length).toNat,by omega⟩
 subst hw
 rw[headTy_0,rev_app,if_neg (by omega),show h.args.length+w-h.args.length=w by omega] at h1
 refine⟨w,?_,?_,h1⟩
 ·show (if (0:Int)=0 then ((h.args.length+w:Nat):Int)-(h.args.length:Nat) else _)=_
  rw[if_pos rfl];omega
 ·obtain⟨c,d⟩:=h
  rw[Ty.eta_eq,if_pos rfl]
  show Tm.mk c 0 ((c.length+w:Nat):Int) (Ty.etas c)=_
  congr 1;omega
namespace Pn
theorem varsL_map (n:Int):∀ (l:List Tm) (acc r:List Int),varsL n l acc=some r→r=acc++l.map Tm.headIx∧∀ t∈l,longB t=true∧t.kind=0∧t.headIx<n
 | [],acc,r,h=>by rw[varsL] at h;cases h;exact⟨by simp,nofun⟩
 | t :: l,acc,r,h=>by
  rw[varsL] at h
  split at h
  ·rename_i hi
   obtain⟨h1,h2⟩:=varsL_map n l _ _ h
   unfold isVar at hi
   simp only[Bool.and_eq_true,decide_eq_true_eq] at hi
   refine⟨by rw[h1];simp,fun u hu=>?_⟩
   rcases List.mem_cons.1 hu with rfl | hu
   ·exact⟨hi.1,hi.2.1,hi.2.2.1⟩
   ·exact h2 u hu
  ·cases h
theorem vars_typed {X0 ar us:List Ty}{xs:List Tm}{vs:List Int}(hx:IsOfs C M xs (X0++ar) us)(hv:varsL ar.length xs []=some vs):
  vs.length=xs.length∧(∀ x∈vs,0≤x∧x<(ar.length:Int))∧types ar vs=us∧∀ j (h:j<xs.length) (h':j<us.length),xs[j]=Ty.eta us[j] 0 (wv vs j:Nat)∧(X0++ar).reverse[wv vs j]?=some us[j]:=by
 obtain⟨h1,h2⟩:=varsL_map _ _ _ _ hv
 rw[List.nil_append] at h1
 have hl:=isOfs_len hx
 have key:∀ j (h:j<xs.length) (h':j<us.length),∃ w:Nat,vs[j]?=some (w:Int)∧xs[j]=Ty.eta us[j] 0 w∧w<ar.length∧ar.reverse[w]?=some us[j]:=fun j h h'=>by
  have h3:=h2 _ (List.getElem_mem h)
  obtain⟨w,w1,w2,w3⟩:=eta_of ((isOfs_iff.1 hx).2 j h h') h3.1 h3.2.1
  have hw:w<ar.length:=by have:=h3.2.2;omega
  rw[rev_app,if_pos hw] at w3
  exact⟨w,by rw[h1,List.getElem?_map,List.getElem?_eq_getElem h,Option.map_some,w1],w2,hw,w3⟩
 have hvl:vs.length=xs.length:=by rw[h1,List.length_map]
 refine⟨hvl,fun x hx=>?_,?_,fun j h h'=>?_⟩
 ·obtain⟨j,hj,rfl⟩:=List.getElem_of_mem hx
  obtain⟨w,w1,w2,w4,w3⟩:=key j (by omega) (by omega)
  rw[List.getElem?_eq_getElem hj] at w1
  have w1:=Option.some.inj w1
  omega
 ·refine List.ext_getElem (by unfold types;rw[List.length_map];omega) fun j hj hj'=>?_
  obtain⟨w,w1,w2,w4,w3⟩:=key j (by omega) hj'
  have hjv:j<vs.length:=by omega
  rw[List.getElem?_eq_getElem hjv] at w1
  have w1:=Option.some.inj w1
  rw[List.getElem?_reverse w4,List.getElem?_eq_getElem (by omega)] at w3
  have w3:=Option.some.inj w3
  apply Option.some.inj
  rw[←List.getElem?_eq_getElem hj]
  unfold types
  rw[List.getElem?_map,List.getElem?_eq_getElem hjv,Option.map_some,w1,show ((ar.length:Int)-1-w).toNat=ar.length-1-w by omega,List.getD_eq_getElem?_getD,List.getElem?_eq_getElem (by omega),Option.getD_some]
  rw[w3]
 ·obtain⟨w,w1,w2,w4,w3⟩:=key j h h'
  rw[wv_at w1,Int.toNat_natCast]
  exact⟨w2,by rw[rev_app,if_pos w4];exact w3⟩
end Pn
end Go.Proofs.YtflbnonbfmmchaaGreat
namespace Go.Proofs.YtflbnonbfmmchaaGreat
open Go.RowKit
namespace Sb
variable {C M:List Ty} {B:Nat}
theorem put_keeps {v:Tm}{xs:List Tm}{X:List Ty}{h:Ty}{left:Int}{dry:Bool}(h0:0≤left∧left≤1000000000)(hB:B≤1000)(hv:Bnd B v)(hx:∀ x∈xs,Bnd B x)(hxf:∀ x∈xs,x.full≤8000000000000)(hX:X.length≤500000000) 
  (hvt:IsOf C M v X h) (hxt:IsOfs C M xs X h.args) :
  (Nm.put 100001 v xs ⟨left,dry,0,0⟩).2.e≠1∧((Nm.put 100001 v xs ⟨left,dry,0,0⟩).2.e=0→IsOf C M (.mk [] (Nm.put 100001 v xs ⟨left,dry,0,0⟩).1.kind (Nm.put 100001 v xs ⟨left,dry,0,0⟩).1.index (Nm.put 100001 v xs ⟨left,dry,0,0⟩).1.args) X (.mk [] h.base)):=by
 have hw:WkOk ⟨left,dry,0,0⟩:=⟨h0,⟨Int.le_refl 0,(by decide:(0:Int)≤100001)⟩,fun _=>(by decide:(0:Int)≤100000)⟩
 obtain⟨vb,vk,vi,va⟩:=v
 obtain⟨v1,v2,v3⟩:=hv.inv
 obtain⟨rfl,h',hh,hb,ha⟩:=isOf_mk.1 hvt
 have hl:=isOfs_len hxt
 have hvl:=Ty.le_sizes h.args
 have hm:(2 * B+2) * 100001≤2002 * 100001:=Nat.mul_le_mul_right _ (by omega)
 have hk:=Nm.through_keeps C M B 100001 xs h.args.length (.mk [] vk vi va) 0 ⟨left,dry,0,0⟩ X h.args [] (.mk [] h.base) hw (fun _=>by show (100001:Int)-0≤((100001:Nat):Int);decide) hx (.mk _ _ _ _ (by simp[Ty.sizes]) v2 v3) hxf (by omega) (by omega) rfl rfl (by simp only[List.length_nil];omega)
  (by rw[List.take_of_length_le (by omega)];exact hxt) (by rw[List.append_nil];exact isOf_mk.2 ⟨rfl,h',by rw[List.append_nil];exact hh,hb,by rw[List.append_nil];exact ha⟩)
 rw[List.drop_of_length_le (by omega),List.append_nil,List.append_nil] at hk
 unfold Nm.put Nm.putW
 rw[if_neg (by rintro(h9 | h9);exact h9 rfl;exact absurd h9 (by show ¬ xs.length>h.args.length;omega))]
 dsimp only
 show (Nm.through 100001 xs h.args.length (.mk [] vk vi va) 0 ⟨left,dry,0,0⟩).2.e≠1∧_
 refine⟨hk.1 (by show (0:Int)≠1;decide),fun e=>?_⟩
 have h2:=(hk.2 e).2
 show IsOf C M (.mk [] (Nm.through 100001 xs h.args.length (.mk [] vk vi va) 0 ⟨left,dry,0,0⟩).1.kind (Nm.through 100001 xs h.args.length (.mk [] vk vi va) 0 ⟨left,dry,0,0⟩).1.index (Nm.through 100001 xs h.args.length (.mk [] vk vi va) 0 ⟨left,dry,0,0⟩).1.args) X (.mk [] h.base)
 generalize (Nm.through 100001 xs h.args.length (.mk [] vk vi va) 0 ⟨left,dry,0,0⟩).1=r at h2 ⊢
 obtain⟨rb,rk,ri,ra⟩:=r
 obtain⟨e1,hr⟩:=isOf_mk.1 h2
 have e1:rb=[]:=e1
 subst e1
 exact h2
theorem Put_keeps {v:Tm}{xs:List Tm}{X:List Ty}{h:Ty}{left:Int}{dry:Bool}(h0:0≤left∧left≤1000000000)(hB:B≤1000)(hv:Bnd B v)(hx:∀ x∈xs,Bnd B x)(hxf:∀ x∈xs,x.full≤8000000000000)(hX:X.length≤500000000) 
  (hvt:IsOf C M v X h) (hxt:IsOfs C M xs X h.args) :
  (Nm.Put v xs left dry).2.e≠1∧((Nm.Put v xs left dry).2.e=0→IsOf C M (.mk [] (Nm.Put v xs left dry).1.kind (Nm.Put v xs left dry).1.index (Nm.Put v xs left dry).1.args) X (.mk [] h.base)):=by
 have h1:=put_keeps (dry:=dry) h0 hB hv hx hxf hX hvt hxt
 unfold Nm.Put Nm.done
 dsimp only
 generalize Nm.put 100001 v xs ⟨left,dry,0,0⟩=p at h1
 by_cases hc:p.2.e=0∧¬ (p.1.size≤5000∧p.1.depth≤60)
 ·rw[if_pos hc]
  have hf:(Nm.fail p.2 2).e=2:=by unfold Nm.fail;rw[if_pos hc.1]
  rw[if_pos (by rw[hf];decide)]
  refine⟨by rw[hf];decide,fun e=>?_⟩
  rw[hf] at e;cases e
 ·rw[if_neg hc]
  by_cases hp:p.2.e=0
  ·rw[if_neg (fun h=>h hp)]
   exact h1
  ·rw[if_pos hp]
   exact⟨h1.1,fun e=>absurd e hp⟩
theorem find_at {l:List (Int×Tm)}{i:Int}{u:Tm}(h:find l i=some u):∃ p∈l,p.2=u∧p.1=i:=by
 unfold find at h
 cases hf:l.find? (fun p=>p.1==i) with
 | none=>rw[hf] at h;cases h
 | some p=>
  rw[hf] at h;cases h
  have:=List.find?_some hf
  exact⟨p,List.mem_of_find?_eq_some hf,rfl,by simpa using this⟩
theorem seq_keeps {g:Tm→Nm.St→Tm×Nm.St}{X X':List Ty}:∀ (a:List Tm) (us:List Ty) (hg:∀ t∈a,∀ u s,InR s→IsOf C M t X u→Nm.Kp s (g t s) fun r=>IsOf C M r X' u) (hi:∀ t∈a,∀ s,InR s→InR (g t s).2) (s:Nm.St),InR s →
  IsOfs C M a X us→(s.e≠1→(Nm.seqM g a s).2.e≠1)∧((Nm.seqM g a s).2.e=0→s.e=0∧IsOfs C M (Nm.seqM g a s).1 X' us)
 | [],[],_,_,s,_,_=>⟨fun h=>h,fun h=>⟨h,by rw[Nm.seqM,IsOfs];trivial⟩⟩
 | [],_ :: _,_,_,s,_,h=>by rw[IsOfs] at h;exact h.elim
 | _ :: _,[],_,_,s,_,h=>by rw[IsOfs] at h;exact h.elim
 | t :: a,u :: us,hg,hi,s,hs,h=>by
  rw[IsOfs] at h
  have h1:=hg t (by simp) u s hs h.1
  have h2:=seq_keeps a us (fun v hv=>hg v (by simp[hv])) (fun v hv=>hi v (by simp[hv])) (g t s).2 (hi t (by simp) s hs) h.2
  refine⟨fun e=>h2.1 (h1.1 e),fun e=>?_⟩
  have h3:=h2.2 e
  have h4:=h1.2 h3.1
  exact⟨h4.1,by rw[Nm.seqM,IsOfs];exact⟨h4.2,h3.2⟩⟩
theorem replaced_eq (b:List Ty)(k i:Int)(a:List Tm)(v:Tm)(s:Nm.St):replaced (.mk b k i a) v s=if v.binds.length≠a.length then (Nm.tz,{ s with e:=1 })
  else if (Nm.Put v a s.left s.dry).2.e≠0 then (Nm.tz,{ s with left:=(Nm.Put v a s.left s.dry).2.left,dry:=(Nm.Put v a s.left s.dry).2.dry,e:=(Nm.Put v a s.left s.dry).2.e })
  else (.mk b (Nm.Put v a s.left s.dry).1.kind (Nm.Put v a s.left s.dry).1.index (Nm.Put v a s.left s.dry).1.args,{ s with left:=(Nm.Put v a s.left s.dry).2.left,dry:=(Nm.Put v a s.left s.dry).2.dry }):=rfl
theorem keeps (hB:B≤1000)(l:List (Int×Tm))(X0:List Ty)(hl:∀ p∈l,(∃ h,headTy C M X0 2 p.1=some h∧IsOf C M p.2 X0 h)∧Bnd B p.2∧p.2.full≤1000000):
  ∀ (t:Tm) (Z:List Ty) (u:Ty),IsOf C M t (X0++Z) u→Bnd B t→X0.length+Z.length+t.full≤100000000→∀ s,InR s→Nm.Kp s (through l t (Z.length:Nat) s) fun r=>IsOf C M r (X0++Z) u:=by
 intro t
 induction t using Tm.ind with
 | h b k i a ih=>
  intro Z u ht hbn hz s hs
  obtain⟨hbu,h,hh,hbase,hargs⟩:=isOf_mk.1 ht
  obtain⟨t1,t2,t3⟩:=hbn.inv
  have hbl:=Ty.le_sizes b
  rw[Tm.full_eq] at hz
  have hZb:(Z++b).length=Z.length+b.length:=List.length_append
  have hwr:Nm.wr ((Z.length:Nat)+b.length)=(((Z++b).length:Nat):Int):=by rw[wr_id (by omega) (by omega),hZb];omega
  rw[through]
  dsimp only
  rw[hwr]
  clear hwr
  by_cases he:s.e=0
  rotate_left
  ·rw[if_pos he];exact⟨fun h=>h,fun e=>absurd e he⟩
  rw[if_neg (fun h=>h he)]
  by_cases hsp:(Nm.spend s).1=true
  rotate_left
  ·rw[if_pos (by simpa using hsp)]
   exact⟨fun _=>by show (11:Int)≠1;decide,fun e=>by cases e⟩
  rw[if_neg (by rw[hsp];simp)]
  obtain⟨s1,s2⟩:=spend_ok hsp
  have hin:=spend_in hs
  rw[throughs_seq]
  rw[List.append_assoc] at hh hargs
  have hq:=seq_keeps (C:=C) (M:=M) (g:=fun t s=>through l t ((Z++b).length:Nat) s) (X:=X0++(Z++b)) (X':=X0++(Z++b)) a h.args
   (fun v hv w s hs hw=>ih v hv (Z++b) w hw (t3 v hv) (by have:=Tm.full_mem hv;omega) s hs) (fun v hv s hs=>through_in l v _ s hs) (Nm.spend s).2 hin hargs
  have hgr:=seq_grow (B:=B) (g:=fun t s=>through l t ((Z++b).length:Nat) s) a (fun v hv s hs=>grow l (fun p hp=>(hl p hp).2.1) v (t3 v hv) _ s hs) (fun v hv s hs=>through_in l v _ s hs) (Nm.spend s).2 hin
  have hqi:=seqM_in (g:=fun t s=>through l t ((Z++b).length:Nat) s) a (fun v hv s hs=>through_in l v _ s hs) _ hin
  have hql:=Nm.seqM_length (fun t s=>through l t ((Z++b).length:Nat) s) a (Nm.spend s).2
  generalize Nm.seqM (fun t s=>through l t ((Z++b).length:Nat) s) a (Nm.spend s).2=q at hq hgr hqi hql ⊢
  have hq1:q.2.e≠1:=hq.1 (by omega)
  have stays:Nm.Kp s (.mk b k i q.1,q.2) fun r=>IsOf C M r (X0++Z) u:=
   ⟨fun _=>hq1,fun e=>⟨he,isOf_mk.2 ⟨hbu,h,by rw[List.append_assoc];exact hh,hbase,by rw[List.append_assoc];exact(hq.2 e).2⟩⟩⟩
  by_cases hk:k≠2∨q.2.e≠0
  ·rw[if_pos hk];exact stays
  rw[if_neg hk]
  have hk2:k=2:=by
   by_cases h:k=2
   ·exact h
   ·exact absurd (.inl h) hk
  have hqe:q.2.e=0:=by
   by_cases h:q.2.e=0
   ·exact h
   ·exact absurd (.inr h) hk
  subst hk2
  cases hfi:find l i with
  | none=>exact stays
  | some v=>
   obtain⟨p,hp,rfl,rfl⟩:=find_at hfi
   obtain⟨⟨h',hh',hvt⟩,hvb,hvf⟩:=hl p hp
   have hsame:h'=h:=by
    rw[headTy_ctx (X':=X0++(Z++b)) (by decide),hh] at hh'
    exact(Option.some.inj hh').symm
   subst hsame
   have hlt:=lift_isOf p.2 X0 (Z++b) [] h' (by simp only[List.length_nil];omega) (by rw[List.append_nil];exact hvt)
   rw[List.append_nil] at hlt
   have hlb:Bnd B (Nm.lift ((Z++b).length:Nat) p.2 0):=Bnd.lift _ _ _ hvb
   have hqa:=(hq.2 hqe).2
   have hqg:=hgr hqe
   have hfull:∀ x∈q.1,x.full≤8000000000000:=fun x hx=>by
    have h1:=Bnd.full x (hqg.2.2 x hx)
    have h2:x.size≤1000000000:=by
     have:=Tm.size_mem hx
     have:=hqg.2.1
     have:=hin.2
     have:=hqi.1
     omega
    have h3:x.size * (B+1)≤1000000000 * 1001:=Nat.mul_le_mul h2 (by omega)
    omega
   have hPk:=Put_keeps (dry:=q.2.dry) (left:=q.2.left) hqi hB hlb hqg.2.2 hfull (by rw[List.length_append];omega) hlt hqa
   have hbl2:(Nm.lift ((Z++b).length:Nat) p.2 0).binds=h'.args:=by
    generalize Nm.lift ((Z++b).length:Nat) p.2 0=v at hlt
    obtain⟨vb,vk,vi,va⟩:=v
    exact(isOf_mk.1 hlt).1
   have hal:=isOfs_len hargs
   show Nm.Kp s (replaced (.mk b 2 p.1 q.1) (Nm.lift ((Z++b).length:Nat) p.2 0) q.2) _
   rw[replaced_eq,if_neg (fun hne=>hne (by rw[hbl2,hal,hql]))]
   generalize Nm.Put (Nm.lift ((Z++b).length:Nat) p.2 0) q.1 q.2.left q.2.dry=r at hPk ⊢
   by_cases hr:r.2.e=0
   ·rw[if_neg (fun h=>h hr)]
    refine⟨fun _=>hq1,fun _=>⟨he,?_⟩⟩
    obtain⟨_,h2,hrh,hrbase,hrargs⟩:=isOf_mk.1 (hPk.2 hr)
    rw[List.append_nil] at hrh hrargs
    exact isOf_mk.2 ⟨hbu,h2,by rw[List.append_assoc];exact hrh,hrbase.trans hbase,by rw[List.append_assoc];exact hrargs⟩
   ·rw[if_pos hr]
    exact⟨fun _=>hPk.1,fun e=>absurd e hr⟩
theorem apply_keeps (hB:B≤1000)(l:List (Int×Tm))(X0:List Ty)(hr:right l=true)(hl:∀ p∈l,(∃ h,headTy C M X0 2 p.1=some h∧IsOf C M p.2 X0 h)∧Bnd B p.2∧p.2.full≤1000000) 
  (t:Tm) (u:Ty) (ht:IsOf C M t X0 u) (hbn:Bnd B t) (hz:X0.length+t.full≤100000000) (left:Int) (dry:Bool) (h0:0≤left∧left≤1000000000) :
  (apply l t left dry).2.e≠1∧((apply l t left dry).2.e=0→IsOf C M (apply l t left dry).1 X0 u):=by
 have h1:=keeps hB l X0 hl t [] u (by rw[List.append_nil];exact ht) hbn (by simp only[List.length_nil];omega) ⟨left,dry,0,0⟩ h0
 rw[List.append_nil] at h1
 unfold apply
 rw[if_neg (by rw[hr];simp)]
 dsimp only
 have h2:=h1.1 (by show (0:Int)≠1;decide)
 have h3:=h1.2
 simp only[List.length_nil] at h2 h3
 have e0:(((0:Nat):Int))=0:=rfl
 rw[e0] at h2 h3
 generalize through l t 0 ⟨left,dry,0,0⟩=r at h2 h3
 by_cases hc:r.2.e=0∧¬ (r.1.size≤5000∧r.1.depth≤60)
 ·rw[if_pos hc]
  exact⟨by show (if (2:Int)≠0 then _ else _:Tm×Nm.St).2.e≠1;rw[if_pos (by decide)];show (2:Int)≠1;decide,fun e=>by
   have e':(if (2:Int)≠0 then _ else _:Tm×Nm.St).2.e=0:=e
   rw[if_pos (by decide)] at e';cases e'⟩
 ·rw[if_neg hc]
  by_cases hp:r.2.e=0
  ·rw[if_neg (fun h=>h hp)]
   exact⟨h2,fun e=>(h3 e).2⟩
  ·rw[if_pos hp]
   exact⟨h2,fun e=>absurd e hp⟩
end Sb
namespace Sb
theorem seq_to {g:Tm→Nm.St→Tm×Nm.St}(hi:∀ t s,InR s→InR (g t s).2):∀ (l ys:List Tm),ys.length=l.length→(∀ j (h:j<l.length) (h':j<ys.length) s,InR s→(g l[j] s).2.e=0→s.e=0∧(g l[j] s).1=ys[j])→∀ s,InR s→(Nm.seqM g l s).2.e=0→s.e=0∧(Nm.seqM g l s).1=ys
 | [],ys,hl,_,s,_,he=>⟨he,by
   have:ys=[]:=List.length_eq_zero_iff.1 hl
   rw[this,Nm.seqM]⟩
 | _ :: _,[],hl,_,s,_,_=>by simp at hl
 | t :: l,y :: ys,hl,hg,s,hs,he=>by
  have h1:=hg 0 (by simp) (by simp) s hs
  have h2:=seq_to hi l ys (by simpa using hl) (fun j h h' s hs he=>hg (j+1) (by simp;omega) (by simp;omega) s hs he) (g t s).2 (hi t s hs) he
  have h3:=h1 h2.1
  refine⟨h3.1,?_⟩
  show (g t s).1 :: (Nm.seqM g l (g t s).2).1=_
  rw[h2.2]
  have:(g t s).1=y:=h3.2
  rw[this]
theorem replaced_e {b:List Ty}{k i:Int}{a:List Tm}{v:Tm}{s:Nm.St}(hs:s.e=0)(he:(replaced (.mk b k i a) v s).2.e=0):v.binds.length=a.length∧(Nm.Put v a s.left s.dry).2.e=0∧(replaced (.mk b k i a) v s).1=.mk b (Nm.Put v a s.left s.dry).1.kind (Nm.Put v a s.left s.dry).1.index (Nm.Put v a s.left s.dry).1.args:=by
 rw[replaced_eq] at he ⊢
 by_cases hl:v.binds.length≠a.length
 ·rw[if_pos hl] at he;cases he
 ·rw[if_neg hl] at he ⊢
  by_cases hp:(Nm.Put v a s.left s.dry).2.e≠0
  ·rw[if_pos hp] at he;exact absurd he hp
  ·rw[if_neg hp]
   exact⟨by omega,by omega,rfl⟩
theorem Put_e {v:Tm}{xs:List Tm}{left:Int}{dry:Bool}(hl:v.binds.length=xs.length)(he:(Nm.Put v xs left dry).2.e=0):
  (Nm.through 100001 xs xs.length (.mk [] v.kind v.index v.args) 0 ⟨left,dry,0,0⟩).2.e=0∧(Nm.Put v xs left dry).1.kind=(Nm.through 100001 xs xs.length (.mk [] v.kind v.index v.args) 0 ⟨left,dry,0,0⟩).1.kind ∧
   (Nm.Put v xs left dry).1.index=(Nm.through 100001 xs xs.length (.mk [] v.kind v.index v.args) 0 ⟨left,dry,0,0⟩).1.index∧(Nm.Put v xs left dry).1.args=(Nm.through 100001 xs xs.length (.mk [] v.kind v.index v.args) 0 ⟨left,dry,0,0⟩).1.args:=by
 have hp:Nm.put 100001 v xs ⟨left,dry,0,0⟩=(.mk (v.binds.drop xs.length) (Nm.through 100001 xs xs.length (.mk [] v.kind v.index v.args) 0 ⟨left,dry,0,0⟩).1.kind (Nm.through 100001 xs xs.length (.mk [] v.kind v.index v.args) 0 ⟨left,dry,0,0⟩).1.index (Nm.through 100001 xs xs.length (.mk [] v.kind v.index v.args) 0 ⟨left,dry,0,0⟩).1.args,(Nm.through 100001 xs xs.length (.mk [] v.kind v.index v.args) 0 ⟨left,dry,0,0⟩).2):=by
  unfold Nm.put Nm.putW
  rw[if_neg (by rintro(h | h);exact h rfl;omega),hl]
 unfold Nm.Put Nm.done at he ⊢
 rw[hp] at he ⊢
 generalize Nm.through 100001 xs xs.length (.mk [] v.kind v.index v.args) 0 ⟨left,dry,0,0⟩=r at he ⊢
 dsimp only at he ⊢
 by_cases hc:r.2.e=0∧¬ ((Tm.mk (v.binds.drop xs.length) r.1.kind r.1.index r.1.args).size≤5000∧(Tm.mk (v.binds.drop xs.length) r.1.kind r.1.index r.1.args).depth≤60)
 ·rw[if_pos hc] at he
  have hf:(Nm.fail r.2 2).e=2:=by unfold Nm.fail;rw[if_pos hc.1]
  rw[if_pos (by rw[hf];decide)] at he
  rw[hf] at he;cases he
 ·rw[if_neg hc] at he ⊢
  by_cases hr:r.2.e=0
  ·rw[if_neg (fun h=>h hr)]
   exact⟨hr,rfl,rfl,rfl⟩
  ·rw[if_pos hr] at he;exact absurd he hr
theorem thr_step {l:List (Int×Tm)}{b:List Ty}{k i:Int}{a:List Tm}{ins m:Int}{s:Nm.St}(hs:InR s)(hm:Nm.wr (ins+b.length)=m)(he:(through l (.mk b k i a) ins s).2.e=0):
  s.e=0∧InR (Nm.spend s).2∧(Nm.seqM (fun t s=>through l t m s) a (Nm.spend s).2).2.e=0∧through l (.mk b k i a) ins s=(if k≠2 then (.mk b k i (Nm.seqM (fun t s=>through l t m s) a (Nm.spend s).2).1,(Nm.seqM (fun t s=>through l t m s) a (Nm.spend s).2).2) else match find l i with
    | none=>(.mk b k i (Nm.seqM (fun t s=>through l t m s) a (Nm.spend s).2).1,(Nm.seqM (fun t s=>through l t m s) a (Nm.spend s).2).2)
    | some u=>replaced (.mk b k i (Nm.seqM (fun t s=>through l t m s) a (Nm.spend s).2).1) (Nm.lift m u 0) (Nm.seqM (fun t s=>through l t m s) a (Nm.spend s).2).2):=by
 rw[through] at he ⊢
 rw[hm,throughs_seq] at he ⊢
 by_cases h0:s.e=0
 rotate_left
 ·rw[if_pos h0] at he;exact absurd he h0
 rw[if_neg (fun h=>h h0)] at he ⊢
 by_cases hsp:(Nm.spend s).1=true
 rotate_left
 ·rw[if_pos (by simpa using hsp)] at he;cases he
 rw[if_neg (by rw[hsp];simp)] at he ⊢
 dsimp only at he ⊢
 have hin:=spend_in hs
 generalize Nm.seqM (fun t s=>through l t m s) a (Nm.spend s).2=q at he ⊢
 by_cases hq:q.2.e=0
 ·refine⟨h0,hin,hq,?_⟩
  by_cases hk:k≠2
  ·rw[if_pos hk,if_pos (.inl hk)]
  ·rw[if_neg hk,if_neg (by rintro(h | h);exact hk h;exact h hq)]
   cases find l i <;> rfl
 ·rw[if_pos (.inr hq)] at he;exact absurd he hq
theorem eta_stays (l:List (Int×Tm))(T:Ty):∀ (w z:Nat) (s:Nm.St),InR s→z+T.size≤1000000000→(through l (Ty.eta T 0 w) (z:Nat) s).2.e=0→s.e=0∧(through l (Ty.eta T 0 w) (z:Nat) s).1=Ty.eta T 0 w:=by
 induction T using Ty.ind with
 | h a b ih=>
  intro w z s hs hz he
  have hts:=ty_size a b
  have hal:=Ty.le_sizes a
  rw[Ty.eta_eq,if_pos rfl] at he ⊢
  have hw:Nm.wr (((z:Nat):Int)+a.length)=((z+a.length:Nat):Int):=by rw[wr_id (by omega) (by omega)];omega
  obtain⟨s0,s1,s2,s3⟩:=thr_step hs hw he
  clear hw
  rw[s3,if_pos (by decide)]
  refine⟨s0,?_⟩
  have hq:=(seq_to (g:=fun t s=>through l t ((z+a.length:Nat):Int) s) (fun t s hs=>through_in l t _ s hs) (Ty.etas a) (Ty.etas a) rfl (fun j h _ s hs he=>by
   have hj:j<a.length:=by rw[Ty.etas_len] at h;exact h
   have:=Nm.size_le2 hj
   rw[Nm.etas_nth h] at he ⊢
   exact ih a[j] (List.getElem_mem hj) _ _ s hs (by omega) he) _ s1 s2).2
  show Tm.mk a 0 _ _=_
  rw[hq]
end Sb
namespace Pn
variable {C M:List Ty}
theorem bfind_app {b r:Bd}{m:Int}{v:Tm}(h:bfind b m=some v):bfind (b++r) m=some v:=by
 unfold bfind at h ⊢
 rw[List.find?_append]
 cases hf:b.find? (fun p=>p.1==m) with
 | none=>rw[hf] at h;cases h
 | some p=>rw[hf] at h;exact h
theorem bput_keeps {b:Bd}{m m':Int}{t v:Tm}(h:bfind b m=some v):bfind (bput b m' t).2 m=some v:=by
 unfold bput
 cases bfind b m' with
 | some u=>exact h
 | none=>exact bfind_app h
theorem flex_keeps {b:Bd}{p t:Tm}{ar:List Ty}{m:Int}{v:Tm}(h:bfind b m=some v):bfind (flex b p t ar).2 m=some v:=by
 unfold flex
 split
 ·exact h
 ·split
  ·exact bput_keeps h
  ·exact h
theorem walk_keeps (p:Tm):∀ (t:Tm) (ar:List Ty) (b:Bd) (m:Int) (v:Tm),bfind b m=some v→bfind (walk p t ar b).2 m=some v:=by
 induction p using Tm.ind with
 | h bs k i a ih=>
  intro t ar b m v h
  rw[walk]
  split
  ·exact h
  ·split
   ·exact flex_keeps h
   ·split
    ·exact h
    ·have key:∀ (l:List Tm),(∀ x∈l,x∈a)→∀ (ts:List Tm) (b:Bd),bfind b m=some v→bfind (walks l ts (ar++bs) b).2 m=some v:=by
      intro l
      induction l with
      | nil=>intro _ ts b h;exact h
      | cons x l ihl=>
       intro hl ts b h
       rw[walks]
       have h1:=ih x (hl x (by simp)) (ts.headD Tm.zero) (ar++bs) b m v h
       split
       ·exact ihl (fun u hu=>hl u (by simp[hu])) _ _ h1
       ·exact h1
     exact key a (fun x hx=>hx) _ _ h
theorem walks_keeps (ar:List Ty):∀ (l ts:List Tm) (b:Bd) (m:Int) (v:Tm),bfind b m=some v→bfind (walks l ts ar b).2 m=some v
 | [],_,_,_,_,h=>h
 | x :: l,ts,b,m,v,h=>by
  rw[walks]
  have h1:=walk_keeps x (ts.headD Tm.zero) ar b m v h
  split
  ·exact walks_keeps ar l _ _ _ _ h1
  ·exact h1
end Pn
namespace Pn
variable {C M:List Ty}
end Pn
variable {β:Type} {Ok:Obj→Prop} {B:Nat} {I I':β→World→Prop}
end Go.Proofs.YtflbnonbfmmchaaGreat
namespace Go.Proofs.YtflbnonbfmmchaaGreat
open Go.RowKit
def rpInt:Rp Int where
 n:=1
 R _ _ x v:=x=[.int .i64 v]
 len:=by rintro F w x a rfl;rfl
 one:=by rintro F w x a rfl u hu;simp at hu;subst hu;rfl
 keep:=fun h _=>h
 weaken:=fun h _=>h
theorem infoI:(Tryz.prog.info? 3).map (fun i=>(i.zero,i.size,i.bytes))=some (some (.int .i64 0),1,8):=by kernel_rfl
def FreshInts (l:List Int)(w:World)(e:Ending)(w':World):Prop:=∃ a c,e=.returned (.slice a l.length c)∧IsSl rpInt (fun q=>w.heap.size≤q) w' (.slice a l.length c) l∧Below w.heap.size w w'
namespace Tm
mutual
def heads:Tm→Int→List (Int×Int)
 | .mk b k i a,n=>(if k≠0 then [(k,i)] else if n+(b.length:Int)≤i then [(0,i-(n+(b.length:Int)))] else [])++headss a (n+(b.length:Int))
def headss:List Tm→Int→List (Int×Int)
 | [],_=>[]
 | t :: l,n=>heads t n++headss l n
end
end Tm
end Go.Proofs.YtflbnonbfmmchaaGreat
namespace Go.Proofs.YtflbnonbfmmchaaGreat
open Go.RowKit Go.Shelf
attribute [local go_sem] Oper.semAt_some
end Go.Proofs.YtflbnonbfmmchaaGreat
namespace Go.Proofs.YtflbnonbfmmchaaGreat
open Go.RowKit
def sortU (zs:List Int):List Int:=Lib.compact (zs.mergeSort fun x y=>decide (x≤y))
theorem keeps_zero (d:Array Int):Lib.keeps d 0=true:=by simp[Lib.keeps]
theorem upTo_rises (d:Array Int):∀ m,m≤d.size→(∀ i j,i≤j→j<d.size→d[i]! ≤ d[j]!)→(Lib.compactUpTo d m).Pairwise (· < ·)∧(∀ x∈Lib.compactUpTo d m,∃ j,j<m∧d[j]! = x)∧(∀ j,j<m→d[j]! ∈ Lib.compactUpTo d m):=by
 intro m
 induction m with
 | zero=>intro _ _;simp[Lib.compactUpTo]
 | succ m ih=>
  intro hm hs
  obtain⟨h1,h2,h3⟩:=ih (by omega) hs
  rw[Lib.compactUpTo_succ]
  by_cases hk:Lib.keeps d m=true
  ·rw[if_pos hk]
   refine⟨?_,?_,?_⟩
   ·rw[List.pairwise_append]
    refine⟨h1,by simp,fun a ha b hb=>?_⟩
    obtain⟨j,hj,rfl⟩:=h2 a ha
    simp at hb;subst hb
    have hle:=hs j (m-1) (by omega) (by omega)
    have hle2:=hs (m-1) m (by omega) (by omega)
    have hne:d[m-1]! ≠ d[m]! := by
     cases m with
     | zero=>omega
     | succ k=>
      have:d[k+1]! ≠ d[k]! := by simpa[Lib.keeps] using hk
      exact fun e=>this e.symm
    omega
   ·intro x hx
    rcases List.mem_append.1 hx with hx | hx
    ·obtain⟨j,hj,e⟩:=h2 x hx;exact⟨j,by omega,e⟩
    ·simp at hx;exact⟨m,by omega,hx.symm⟩
   ·intro j hj
    rw[List.mem_append]
    by_cases hjm:j=m
    ·subst hjm;right;simp
    ·left;exact h3 j (by omega)
  ·rw[if_neg hk,List.append_nil]
   refine⟨h1,fun x hx=>by obtain⟨j,hj,e⟩:=h2 x hx;exact⟨j,by omega,e⟩,fun j hj=>?_⟩
   by_cases hjm:j=m
   ·subst hjm
    cases j with
    | zero=>exact absurd (keeps_zero d) hk
    | succ k=>
     have:d[k+1]! = d[k]! := by simpa[Lib.keeps] using hk
     rw[this];exact h3 k (by omega)
   ·exact h3 j (by omega)
theorem sortU_spec (zs:List Int):(sortU zs).Pairwise (· < ·)∧∀ x,x∈sortU zs↔x∈zs:=by
 obtain⟨ss,hss⟩:∃ ss,(zs.mergeSort fun x y=>decide (x≤y))=ss:=⟨_,rfl⟩
 have hp:ss.Perm zs:=by rw[←hss];exact List.mergeSort_perm _ _
 have hs:ss.Pairwise (fun x y=>x≤y):=by
  have:=List.pairwise_mergeSort (le:=fun x y:Int=>decide (x≤y)) (fun a b c h1 h2=>by simp at *;omega) (fun a b=>by simp;omega) zs
  rw[hss] at this
  simpa using this
 have hs':∀ i j,i≤j→j<ss.toArray.size→ss.toArray[i]! ≤ ss.toArray[j]! := by
  intro i j hij hj
  have hj':j<ss.length:=by simpa using hj
  have hi':i<ss.length:=by omega
  simp only[List.getElem!_toArray,getElem!_pos ss i hi',getElem!_pos ss j hj']
  by_cases e:i=j
  ·subst e;exact Int.le_refl _
  ·exact List.pairwise_iff_getElem.1 hs i j hi' hj' (by omega)
 obtain⟨h1,h2,h3⟩:=upTo_rises ss.toArray ss.length (by simp) hs'
 unfold sortU
 rw[hss]
 refine⟨h1,fun x=>?_⟩
 rw[←hp.mem_iff]
 constructor
 ·intro hx
  obtain⟨j,hj,e⟩:=h2 x hx
  rw[←e]
  simp only[List.getElem!_toArray,getElem!_pos ss j hj]
  exact List.getElem_mem hj
 ·intro hx
  obtain⟨j,hj,e⟩:=List.getElem_of_mem hx
  have:=h3 j hj
  simp only[List.getElem!_toArray,getElem!_pos ss j hj,e] at this
  exact this
theorem sort_own {base:Nat}{w:World}{v:Value}{zs:List Int}(h:w.ownsRow base 3 1 v zs.length (zs.map (Value.int .i64)))(hl:zs.length≤1000000):
  Calls Tryz.prog 89 #[v] w fun e w'=>e=.returned (.tuple #[])∧w'.ownsRow base 3 1 v zs.length ((zs.mergeSort fun x y=>decide (x≤y)).map (Value.int .i64))∧w.grownBy w' v.ownBlock:=by
 by_cases hv:v=.slice none 0 0
 ·subst hv
  have h0:zs=[]:=by
   rcases h.2 with⟨_,e⟩ | ⟨_,_,_,e,_⟩
   ·exact List.eq_nil_of_length_eq_zero e
   ·cases e
  subst h0
  refine(Tryz.slices_Sort_int_none none 0 w).mono ?_
  rintro e w' ⟨rfl,rfl⟩
  exact⟨rfl,by simpa using h,⟨rfl,rfl,rfl,Nat.le_refl _,fun _ _ _=>rfl⟩⟩
 ·obtain⟨g,cap,rfl,hb,hlt,hn,hm,_,hH⟩:=Lib.holds_of_ownsRow h hv
  refine(Tryz.slices_Sort_int g 0 cap zs w hH hlt (by omega)).mono ?_
  rintro e w' ⟨rfl,n,os,rfl⟩
  refine⟨rfl,?_,grownBy_sortedI _⟩
  rcases h.2 with⟨e,_⟩ | ⟨g',cap',cur,e,_,hg,_,_,hc,_⟩
  ·cases e
  ·cases e
   exact ownsRow_sortedI (ss:=zs) (by simp) hb hg hn hm hc
theorem compact_own {base:Nat}{w:World}{v:Value}{zs:List Int}(h:w.ownsRow base 3 1 v zs.length (zs.map (Value.int .i64)))(hl:zs.length≤1000000):
  Calls Tryz.prog 90 #[v] w fun e w'=>∃ v',e=.returned v'∧w'.ownsRow base 3 1 v' (Lib.compact zs).length ((Lib.compact zs).map (Value.int .i64))∧w.grownBy w' v.ownBlock:=by
 by_cases hv:v=.slice none 0 0
 ·subst hv
  have h0:zs=[]:=by
   rcases h.2 with⟨_,e⟩ | ⟨_,_,_,e,_⟩
   ·exact List.eq_nil_of_length_eq_zero e
   ·cases e
  subst h0
  refine(Tryz.slices_Compact_int_empty none 0 w).mono ?_
  rintro e w' ⟨rfl,rfl⟩
  exact⟨_,rfl,h,⟨rfl,rfl,rfl,Nat.le_refl _,fun _ _ _=>rfl⟩⟩
 ·obtain⟨g,cap,rfl,hb,hlt,hn,hm,_,hH⟩:=Lib.holds_of_ownsRow h hv
  refine(Tryz.slices_Compact_int g 0 cap zs w hH (by omega) hn).mono ?_
  rintro e w' ⟨rfl,q,rfl⟩
  have hcl:=Lib.compact_length_le zs
  refine⟨_,rfl,?_,?_⟩
  ·have:=Lib.ownsRow_putRow (q:=q) (k:=(Lib.compact zs).length) (ys:=Lib.compact zs++List.replicate (zs.length-(Lib.compact zs).length) 0) h (by simp;omega) hcl
   simpa using this
  ·have:=grownBy_sortedI (w:=w) (g:=g) (n:=q) (os:=#[]) (Lib.compact zs++List.replicate (zs.length-(Lib.compact zs).length) 0).toArray
   simpa[Value.ownBlock] using this
theorem own_ints {base:Nat}{w:World}{v:Value}{l:List Int}(h:w.ownsRow base 3 1 v l.length (l.map (Value.int .i64))):∃ a c,v=.slice a l.length c∧IsSl rpInt (fun q=>base≤q) w v l:=by
 have hA:Acc rpInt 3 base (fun _=>False) w v l:=by
  refine⟨l.map (fun z=>[.int .i64 z]),by simp,?_,fun i hi=>⟨[.int .i64 l[i]],by simp[List.getElem?_eq_getElem hi],rfl⟩⟩
  have:(l.map (fun z=>[Value.int .i64 z])).flatten=l.map (Value.int .i64):=by
   clear h
   induction l with
   | nil=>rfl
   | cons a l ih=>simp only[List.map_cons,List.flatten_cons,ih];rfl
  rw[this];exact h
 obtain⟨a,c,hv⟩:=hA.len_shape
 exact⟨a,c,hv,hA.sl (fun _ _ h=>h.elim) (fun _ h=>h)⟩
theorem leaves_marks {F:Fence}{n:Nat}{P:Program}{fn:Func}{tmps:Array Value}{R:Ending→World→Prop}(B:Nat):∀ (Ds:List Nat) (w:World),Ds.Nodup→B≤w.heap.size→(∀ D∈Ds,B≤D∧w.heap[D]?=some (.deferred (some []))) →
  (∀ w',Keep (fun _=>True) w w'→Below B w w'→LeavesIn F n P fn tmps R [] .returning w')→LeavesInM F n P fn tmps R (Ds.map fun D=>{ target:=.collected D,args:=#[] }) .returning w
 | [],w,_,_,_,hk=>hk w (Keep.refl _ _) (Below.refl _ _)
 | D :: Ds,w,hd,hB,hD,hk=>by
  rw[List.nodup_cons] at hd
  have h1:=hD D (by simp)
  have hlt:D<w.heap.size:=(Array.getElem?_eq_some_iff.1 h1.2).1
  refine⟨by simp,.inl ⟨D,_,rfl,run_takeDeferred h1.2,?_⟩⟩
  have hbel:Below B w (w.putObj D (.deferred none)):=(Below.refl _ _).grown (grownBy_putObj' w D (.deferred none)) hB (fun r e=>by cases e;exact h1.1)
  have hkp:Keep (fun _=>True) w (w.putObj D (.deferred none)):=fun o v k _ hv=>cell_kept hv (grownBy_putObj' _ D (.deferred none)) (fun r e=>by cases e;exact⟨_,h1.2,rfl⟩)
  refine leaves_marks B Ds _ hd.2 (by simpa using hB) (fun D' hD'=>⟨(hD D' (by simp[hD'])).1,?_⟩) fun w' hk' hb'=>hk w' (hkp.trans hk') (hbel.trans hb')
  have hne:D'≠D:=fun e=>hd.1 (e ▸ hD')
  exact(World.putObj_heap_other hne).trans (hD D' (by simp[hD'])).2
theorem keepsOthers_grown {W W':World}{row:Option Nat}(hg:W.grownBy W' row)(hr:∀ r,row=some r→∃ o:Obj,W.heap[r]?=some o∧o.isCells=true):KeepsOthers W W':=
 ⟨hg.size,fun k o ho hc=>(hg.block k (Array.getElem?_eq_some_iff.1 ho).1 (fun e=>by
  obtain⟨o',ho',hc'⟩:=hr k e.symm
  rw[ho] at ho';cases ho';rw[hc] at hc';cases hc')).trans ho⟩
theorem own_row {w:World}{base:Nat}{e:TypeId}{size:Nat}{v:Value}{n:Nat}{xs:List Value}(h:w.ownsRow base e size v n xs):∀ r,v.ownBlock=some r→base≤r∧∃ cs,w.heap[r]?=some (.cells cs e (0,0)):=by
 intro r hr
 rcases h.2 with⟨rfl,_⟩ | ⟨g,cap,cur,rfl,hb,hg,_⟩
 ·cases hr
 ·cases hr;exact⟨hb,_,hg⟩
theorem own_kept {w w':World}{base:Nat}{e:TypeId}{size:Nat}{v:Value}{n:Nat}{xs:List Value}{row:Option Nat}(h:w.ownsRow base e size v n xs)(hg:w.grownBy w' row) 
  (hr:∀ r,row=some r→∃ o:Obj,w.heap[r]?=some o∧∀ cs,o≠.cells cs e (0,0)):w'.ownsRow base e size v n xs:=by
 refine h.kept hg ?_
 cases hv:v.ownBlock with
 | none=>exact .inl rfl
 | some g=>
  refine .inr fun e'=>?_
  obtain⟨_,cs,hc⟩:=own_row h g hv
  obtain⟨o,ho,hne⟩:=hr g e'.symm
  rw[hc] at ho;cases ho;exact hne cs rfl
structure OutAt (w:World) (Ds:List Nat) (vv:Value) (zs:List Int) (W:World):Prop where
 box:Blk W w.heap.size #[vv] 59
 own:W.ownsRow (w.heap.size+1) 3 1 vv zs.length (zs.map (Value.int .i64))
 nod:Ds.Nodup
 marks:∀ D∈Ds,w.heap.size+1≤D∧W.heap[D]?=some (.deferred (some []))
 below:Below w.heap.size w W
def OutG (B k:Nat)(t:TypeId):Prop:=k<B∨(B<k∧t≠3)
namespace OutAt
variable {w W W':World} {Ds:List Nat} {vv:Value} {zs:List Int}
theorem lt (h:OutAt w Ds vv zs W):∀ D∈Ds,D<W.heap.size:=fun D hD=>(Array.getElem?_eq_some_iff.1 (h.marks D hD).2).1
theorem blw (h:OutAt w Ds vv zs W)(hb:Below W.heap.size W W'):OutAt w Ds vv zs W':=
 ⟨h.box.below hb,ownsRow_below h.own hb,h.nod,fun D hD=>⟨(h.marks D hD).1,(hb.block D (h.lt D hD)).trans (h.marks D hD).2⟩,h.below.trans (hb.mono h.below.size)⟩
theorem alloc (h:OutAt w Ds vv zs W)(o:Obj):OutAt w Ds vv zs (W.alloc o):=h.blw ((Below.refl _ _).alloc (Nat.le_refl _) _)
theorem grown {B:Nat}{row:Option Nat}(h:OutAt w Ds vv zs W)(hlt:∀ D∈Ds,D<B)(hwB:w.heap.size<B)(hg:W.grownBy W' row) 
  (hr:∀ r,row=some r→B≤r∧∃ o:Obj,W.heap[r]?=some o∧∀ cs,o≠.cells cs 3 (0,0)):OutAt w Ds vv zs W':=
 ⟨h.box.grown hg (fun e=>by have:=(hr _ e).1;omega),own_kept h.own hg (fun r e=>(hr r e).2),h.nod,
  fun D hD=>⟨(h.marks D hD).1,(hg.block D (h.lt D hD) (fun e=>by have:=(hr _ e.symm).1;have:=hlt D hD;omega)).trans (h.marks D hD).2⟩,
  h.below.grown hg h.below.size (fun r e=>by have:=(hr r e).1;omega)⟩
theorem mark (h:OutAt w Ds vv zs W){D:Nat}(hD:W.heap[D]?=some (.deferred (some [])))(hn:∀ D'∈Ds,D'<D)(hw:w.heap.size+1≤D):OutAt w (D :: Ds) vv zs W:=
 ⟨h.box,h.own,List.nodup_cons.2 ⟨fun hm=>by have:=hn D hm;omega,h.nod⟩,fun D' h'=>by
  rcases List.mem_cons.1 h' with rfl | h'
  ·exact⟨hw,hD⟩
  ·exact h.marks D' h',h.below⟩
theorem push (h:OutAt w Ds vv zs W)(x:Int){w3:World}{v':Value}(hg:(W.alloc (.cells #[.int .i64 x] 3)).grownBy w3 vv.ownBlock) 
  (hown:w3.ownsRow (w.heap.size+1) 3 1 v' (zs.length+1) (zs.map (Value.int .i64)++[.int .i64 x])) :
  OutAt w Ds v' (zs++[x]) (w3.setCell ⟨w.heap.size,0,none⟩ v')∧KeepsOthers W (w3.setCell ⟨w.heap.size,0,none⟩ v')∧KeepC (OutG w.heap.size) W (w3.setCell ⟨w.heap.size,0,none⟩ v'):=by
 have ho1:=h.own.alloc (.cells #[.int .i64 x] 3)
 have h1:=h.alloc (.cells #[.int .i64 x] 3)
 have hrow:=own_row ho1
 have hk3:KeepsOthers (W.alloc (.cells #[.int .i64 x] 3)) w3:=keepsOthers_grown hg (fun r e=>by
  obtain⟨_,cs,hc⟩:=hrow r e;exact⟨_,hc,rfl⟩)
 have hbox3:Blk w3 w.heap.size #[vv] 59:=h1.box.grown hg (fun e=>by have:=(hrow _ e).1;omega)
 have hbel3:Below w.heap.size w w3:=h1.below.grown hg h1.below.size (fun r e=>by have:=(hrow r e).1;omega)
 have hkc:KeepC (OutG w.heap.size) (W.alloc (.cells #[.int .i64 x] 3)) w3:=⟨hg.size,fun k cs t fr hk hc=>(hg.block k (Array.getElem?_eq_some_iff.1 hc).1 (fun e=>by
  obtain⟨hle,cs',hc'⟩:=hrow k e.symm
  rw[hc] at hc';cases hc'
  rcases hk with hk | hk
  ·omega
  ·exact hk.2 rfl)).trans hc⟩
 refine⟨⟨hbox3.set 0 _,?_,h.nod,fun D hD=>⟨(h1.marks D hD).1,?_⟩,hbel3.setCell (by simp) _⟩,(((KeepsOthers.alloc W _).trans hk3).trans (KeepsOthers.setCell _ _ _)),?_⟩
 ·have:=ownsRow_setCell_below hown (a:=⟨w.heap.size,0,none⟩) (by simp) v'
  simpa using this
 ·exact(KeepsOthers.setCell w3 _ v').same D _ (hk3.same D _ (h1.marks D hD).2 rfl) rfl
 ·exact(((KeepC.refl _ W).alloc _).trans hkc).setCell _ _ (fun t ht=>by rcases ht with h | h <;> simp at h)
theorem push_box (h:OutAt w Ds vv zs W){x:Int}{w3:World}(hg:(W.alloc (.cells #[.int .i64 x] 3)).grownBy w3 vv.ownBlock):Blk w3 w.heap.size #[vv] 59:=
 (h.alloc (.cells #[.int .i64 x] 3)).box.grown hg (fun e=>by have:=(own_row (h.own.alloc (.cells #[.int .i64 x] 3)) _ e).1;omega)
theorem turned (h:OutAt w Ds vv zs W){ys:List Int}{W':World}(hg:W.grownBy W' vv.ownBlock){v':Value}(hown:W'.ownsRow (w.heap.size+1) 3 1 v' ys.length (ys.map (Value.int .i64))):
  (Blk W' w.heap.size #[vv] 59∧∀ D∈Ds,w.heap.size+1≤D∧W'.heap[D]?=some (.deferred (some [])))∧Below w.heap.size w W':=by
 have hrow:=own_row h.own
 refine⟨⟨h.box.grown hg (fun e=>by have:=(hrow _ e).1;omega),fun D hD=>⟨(h.marks D hD).1,?_⟩⟩,h.below.grown hg h.below.size (fun r e=>by have:=(hrow r e).1;omega)⟩
 refine(hg.block D (h.lt D hD) (fun e=>?_)).trans (h.marks D hD).2
 obtain⟨_,cs,hc⟩:=hrow D e.symm
 rw[(h.marks D hD).2] at hc;cases hc
theorem sorted (h:OutAt w Ds vv zs W){ys:List Int}{W':World}(hg:W.grownBy W' vv.ownBlock)(hown:W'.ownsRow (w.heap.size+1) 3 1 vv ys.length (ys.map (Value.int .i64))):OutAt w Ds vv ys W':=
 let q:=h.turned hg hown
 ⟨q.1.1,hown,h.nod,q.1.2,q.2⟩
theorem leave (h:OutAt w Ds vv zs W){ys:List Int}{W':World}(hg:W.grownBy W' vv.ownBlock){v':Value}(hown:W'.ownsRow (w.heap.size+1) 3 1 v' ys.length (ys.map (Value.int .i64))) 
  {F:Fence} {n:Nat} {P:Program} {fn:Func} {tmps:Array Value} (hr:∀ w3:World,(results fn tmps).run P w3=.ok v' w3) :
  LeavesInM F n P fn tmps (FreshInts ys w) (Ds.map fun D=>{ target:=.collected D,args:=#[] }) .returning W':=by
 obtain⟨⟨hb,hm⟩,hbel⟩:=h.turned hg hown
 refine leaves_marks (w.heap.size+1) Ds W' h.nod (by have:=hb.lt;omega) hm (fun w3 hk hb3=>?_)
 obtain⟨a,c,hv,hs⟩:=own_ints hown
 subst hv
 exact⟨_,hr w3,a,c,rfl,(hs.keep (fun k o u _ hu=>hk k o u trivial hu)).weaken (by decide) (fun q _ hq=>by omega),hbel.trans (hb3.mono (by omega))⟩
end OutAt
end Go.Proofs.YtflbnonbfmmchaaGreat
namespace Go.Proofs.YtflbnonbfmmchaaGreat
open Go.RowKit Go.Shelf
attribute [local go_sem] Oper.semAt_some
theorem tms_cells {F:Nat→Prop}{w:World}{v:Value}{l:List Tm}(h:IsSl rpTm F w v l):∃ a c,v=.slice a l.length c∧(l.length≤maxLen∧l.length≤c)∧∃ (bl off:Nat),
  (0<l.length→a=some ⟨bl,off,none⟩∧F bl)∧∀ j (hj:j<l.length),∃ b k i s,w.cell? ⟨bl,off+j * 4,none⟩=some b∧w.cell? ⟨bl,off+j * 4+1,none⟩=some k∧w.cell? ⟨bl,off+j * 4+2,none⟩=some i∧w.cell? ⟨bl,off+j * 4+3,none⟩=some s∧IsTm F w b k i s l[j]:=by
 obtain⟨a,c,bl,off,X,hv,hm,ha,h1,h2⟩:=h
 refine⟨a,c,hv,hm,bl,off,ha,fun j hj=>?_⟩
 obtain⟨b,k,i,s,hx,ht⟩:=h2 j hj
 exact⟨b,k,i,s,h1 j 0 b hj (by rw[hx];rfl),h1 j 1 k hj (by rw[hx];rfl),h1 j 2 i hj (by rw[hx];rfl),h1 j 3 s hj (by rw[hx];rfl),ht⟩
def metasP (l:List (Nat×Nat×Tm)):List Int:=l.filterMap fun p=>if p.2.2.kind=2 then some p.2.2.index else none
def metasL (l:List Tm):List Int:=l.flatMap fun t=>metasP (t.pre 0 1)
theorem metasL_take (l:List Tm)(j:Nat)(h:j<l.length):metasL (l.take (j+1))=metasL (l.take j)++metasP (l[j].pre 0 1):=by
 rw[List.take_succ_eq_append_getElem h];unfold metasL;rw[List.flatMap_append];simp
theorem metasL_len (l:List Tm)(m:Nat)(h:∀ t∈l,t.full≤m):(metasL l).length≤l.length * m:=by
 induction l with
 | nil=>simp[metasL]
 | cons t l ih=>
  have h1:=h t (by simp)
  have h2:=ih (fun u hu=>h u (by simp[hu]))
  have h3:(metasL (t :: l)).length=(metasP (t.pre 0 1)).length+(metasL l).length:=by simp[metasL]
  have h4:(metasP (t.pre 0 1)).length≤(t.pre 0 1).length:=List.length_filterMap_le _ _
  rw[Tm.pre_length] at h4
  have h5:=Tm.size_le_full t
  rw[h3,List.length_cons,Nat.succ_mul];omega
set_option maxRecDepth 100000 in
set_option maxHeartbeats 4000000 in
theorem metas6_k {F:Nat→Prop}{w:World}{v:Value}{l:List Tm}(h:IsSl rpTm F w v l)(hl:l.length≤9)(hsz:∀ t∈l,t.full≤90000):Calls Tryz.prog 31 #[v] w (FreshInts (sortU (metasL l)) w):=by
 refine(callsIn_wide (n:=9)).1 ?_
 have Ht:=Lib.hid (h.weaken (F':=fun _=>True) (by decide) fun _ _ _=>trivial)
 obtain⟨a,c,rfl,hm,bl,off,ha,hc⟩:=tms_cells Ht.out
 obtain⟨ll,hll⟩:∃ x,l.length=x:=⟨_,rfl⟩
 clear h Ht
 have Hm:=Lib.hid hm;clear hm
 have Hc:=Lib.hid hc;clear hc
 have Hsz:=Lib.hid hsz;clear hsz
 rw[hll] at ha hl ⊢
 obtain⟨i2,hi2,hz0,hz1,hz2⟩:=info_parts infoI
 refine callsIn_of_wp_marks Tryz.func31 rfl trivial ?_ rfl
 simp only[Tryz.ntmps31,List.size_toArray,List.length_cons,List.length_nil,Nat.reduceAdd,Nat.reduceSub,Array.replicate_succ,Array.replicate_zero,List.push_toArray,List.append_toArray,List.nil_append,List.cons_append]
 gi_wp2_with fail
 refine wpIn_loop (fun a' w'=>∃ (j:Nat) (Ds:List Nat) (zs:List Int) (vv u5 u11 u12 u13 u14 u15 u28:Value),a'={ tmps:=#[.slice a ll c,undef,.slice none 0 0,.pointer (some ⟨w.heap.size,0,none⟩),undef,u5,undef,undef,.slice a ll c,.int .i64 ll,.int .i64 j,u11,u12,u13,u14,u15,undef,undef,undef,undef,undef,undef,undef,undef,undef,undef,undef,undef,u28,undef,undef,undef,undef],defers:=Ds.map fun D=>{ target:=.collected D,args:=#[] } } ∧
   j≤ll∧Hid (zs=metasL (l.take j))∧OutAt w Ds vv zs w') (fun a' _=>ll-(intOf (a'.tmps.getD 10 undef)).toNat) ?start ?round
 case start=>
  refine⟨0,[],[],.slice none 0 0,undef,undef,undef,undef,undef,undef,undef,rfl,by omega,by show _=_;simp[metasL],?_⟩
  exact⟨Blk.new _ _ _ rfl,World.ownsRow_nil _ _ _ _,by simp,by simp,(Below.refl _ _).alloc (Nat.le_refl _) _⟩
 case round=>
  rintro a' W ⟨j,Ds,zs,vv,u5,u11,u12,u13,u14,u15,u28,rfl,hj,hzs,hO⟩
  have hj0:(0:Int)≤(j:Int):=Int.natCast_nonneg _
  have HO:=Lib.hid hO;clear hO
  by_cases hlt:j<ll
  ·have hj1:(j:Int)<(ll:Int):=by omega
   obtain⟨rfl,_⟩:=ha (by omega)
   obtain⟨vb,vk,vi,vs,e1,e2,e3,e4,hty⟩:=Hc.out j (by omega)
   have hW:=HO.out.below
   have e1:=((Keep.refl (fun _=>True) _).below hW) _ _ _ trivial e1
   have e2:=((Keep.refl (fun _=>True) _).below hW) _ _ _ trivial e2
   have e3:=((Keep.refl (fun _=>True) _).below hW) _ _ _ trivial e3
   have e4:=((Keep.refl (fun _=>True) _).below hW) _ _ _ trivial e4
   have Htk:=Lib.hid (metasL_take l j (by omega))
   have hts:=Hsz.out l[j] (List.getElem_mem _)
   obtain⟨t,ht⟩:∃ t,l[j]=t:=⟨_,rfl⟩
   rw[ht] at hty Htk hts
   clear ht
   obtain⟨pa,pc,qa,qc,rfl,rfl,rfl,rfl⟩:=hty.shape
   have Hty:=Lib.hid hty;clear hty
   obtain⟨x1,hx1⟩:∃ x,t.binds.length=x:=⟨_,rfl⟩
   obtain⟨x2,hx2⟩:∃ x,t.args.length=x:=⟨_,rfl⟩
   obtain⟨x3,hx3⟩:∃ x,t.kind=x:=⟨_,rfl⟩
   obtain⟨x4,hx4⟩:∃ x,t.index=x:=⟨_,rfl⟩
   rw[hx1,hx2,hx3,hx4] at Hty
   rw[hx1] at e1
   rw[hx3] at e2
   rw[hx4] at e3
   rw[hx2] at e4
   clear hx1 hx2 hx3 hx4
   gi_wp2_with fail
   refine⟨trivial,(each6_k _ _ _ _ _ _ ⟨_,_,_,rfl⟩ ⟨_,rfl⟩ ⟨_,rfl⟩ ⟨_,_,_,rfl⟩).mono ?_⟩
   rintro e w' ⟨rfl,rfl⟩
   gi_wp2_with fail
   have HO5:=Lib.hid ((HO.out.alloc (.cells #[.slice pa x1 pc,.int .i64 x3,.int .i64 x4,.slice qa x2 qc] 41)).alloc (.cells #[.slice pa x1 pc,.int .i64 x3,.int .i64 x4,.slice qa x2 qc] 41))
   obtain⟨w5,hw5⟩:∃ w5,(W.alloc (.cells #[.slice pa x1 pc,.int .i64 x3,.int .i64 x4,.slice qa x2 qc] 41)).alloc (.cells #[.slice pa x1 pc,.int .i64 x3,.int .i64 x4,.slice qa x2 qc] 41)=w5:=⟨_,rfl⟩
   have hz:w5.heap.size=W.heap.size+2:=by rw[←hw5];simp
   have y3:Blk w5 (W.heap.size+1) #[.slice pa x1 pc,.int .i64 x3,.int .i64 x4,.slice qa x2 qc] 41:=by rw[←hw5];exact Blk.new _ _ _ (by simp)
   rw[hw5] at HO5 ⊢
   clear hw5
   have hsz1:=HO.out.box.lt
   have hlts:=HO.out.lt
   clear HO
   have Hlts:Hid (∀ D∈Ds,D<w5.heap.size):=fun D hD=>by have:=hlts D hD;omega
   clear hlts
   refine range_softA (Ok:=SpotOk) (fun o h=>.inl h) rfl (by omega) (gf:=126) (lb:=#[.pointer (some ⟨W.heap.size+1,0,none⟩)]) rfl trivial (enters_of Tryz.func126 (by kernel_rfl) rfl)
    (each6_soft (OutG w.heap.size) (fun k _ _ hk=>.inl hk) Hty.out (by omega) (9-1) w5 (fun k _ hk ht=>.inr ⟨by omega,ht⟩) ((Keep.refl _ _).below HO5.out.below) (W.heap.size+1) y3)
    (fun h h'=>h.trans h') (fun W l o o' _ hl ho _=>KeepC.putObj _ W l o o' hl ho) (Below.refl _ _) (fun _=>rfl)
    (fun pre V=>∃ v',OutAt w Ds v' (zs++metasP (pre.map Hit6.key)) V)
    (fun _ _ _=>False)
    (fun pre A B row ⟨v',h⟩ hg hr=>⟨v',h.grown Hlts.out (by omega) hg (fun r e=>by
     obtain⟨h1,o,ho,hc⟩:=hr r e
     refine⟨h1,o,ho,fun cs e=>?_⟩
     subst e
     rcases hc with hc | ⟨cs',fr,hc⟩
     ·simp[Obj.isCells] at hc
     ·cases hc)⟩)
    (fun _ _ _ _ _ hs _ _=>hs)
    ⟨vv,by simpa[metasP] using HO5.out⟩
    (fun x a' V=>∃ Bx,Blk V Bx #[.slice x.pb x.t.binds.length x.cb,.int .i64 x.t.kind,.int .i64 x.t.index,.slice x.pa x.t.args.length x.ca] 41∧a'={ tmps:=#[.slice (some ⟨bl,off,none⟩) ll c,undef,.slice none 0 0,.pointer (some ⟨w.heap.size,0,none⟩),undef,.pointer (some ⟨W.heap.size,0,none⟩),undef,.pointer (some ⟨Bx,0,none⟩),.slice (some ⟨bl,off,none⟩) ll c,.int .i64 ll,.int .i64 j,.bool true,.pointer (some ⟨bl,off+j * 4,none⟩),.agg #[.slice pa x1 pc,.int .i64 x3,.int .i64 x4,.slice qa x2 qc],.agg #[.slice pa x1 pc,.int .i64 x3,.int .i64 x4,.slice qa x2 qc],.func (.func 126) #[] #[.pointer (some ⟨W.heap.size+1,0,none⟩)],.agg #[.int .i64 x.s,.int .i64 x.d],.agg #[.slice x.pb x.t.binds.length x.cb,.int .i64 x.t.kind,.int .i64 x.t.index,.slice x.pa x.t.args.length x.ca],undef,undef,undef,undef,undef,undef,undef,undef,undef,undef,u28,undef,undef,undef,undef],defers:=[] })
    (fun x a' W l o o' hl ho hoc=>by
     rintro⟨Bx,h2,h3⟩
     have hne:l≠Bx:=fun e=>by
      subst e
      have hb:W.heap[l]?=_:=h2
      rw[hb] at ho;cases ho;simp[Obj.isCells] at hoc
     exact⟨Bx,(World.putObj_heap_other (Ne.symm hne)).trans h2,h3⟩) ?assign ?body ?done ?stop
   case assign=>
    rintro l pre x V K ⟨v',hV⟩ hK
    have HK:=Lib.hid hK;clear hK
    have HV:=Lib.hid hV;clear hV
    simp only[Hit6.enc] at *
    gi_wp2
    exact HK.out _ _ ((KeepsOthers.alloc _ _).from _) ((KeepC.refl _ V).alloc _) ⟨v',HV.out.alloc _⟩ ⟨V.heap.size,Blk.new _ _ _ rfl,rfl⟩
   case body=>
    rintro l' pre x a' V ⟨v',hV⟩ hlt' ⟨Bx,bX,rfl⟩
    have c1:V.cell? ⟨w.heap.size,0,none⟩=some v':=hV.box.cell rfl
    have cx1:V.cell? ⟨Bx,1,none⟩=some (.int .i64 x.t.kind):=bX.cell rfl
    have cx2:V.cell? ⟨Bx,2,none⟩=some (.int .i64 x.t.index):=bX.cell rfl
    have hlen0:(zs++metasP (pre.map Hit6.key)).length≤900000:=by
     have h1:(metasL (l.take j)).length≤720000:=by
      have:=metasL_len (l.take j) 90000 (fun t ht=>Hsz.out t (List.mem_of_mem_take ht))
      have h2:(l.take j).length≤8:=by simp;omega
      exact Nat.le_trans this (Nat.le_trans (Nat.mul_le_mul_right 90000 h2) (by decide))
     have h2:(metasP (pre.map Hit6.key)).length≤pre.length:=by
      have:=List.length_filterMap_le (fun p:Nat×Nat×Tm=>if p.2.2.kind=2 then some p.2.2.index else none) (pre.map Hit6.key)
      simpa[metasP] using this
     have h3:=Tm.size_le_full t
     rw[hzs.out,List.length_append]
     omega
    have hkey:metasP ((pre++[x]).map Hit6.key)=metasP (pre.map Hit6.key)++(if x.t.kind=2 then [x.t.index] else []):=by
     unfold metasP
     rw[List.map_append,List.filterMap_append]
     congr 1
     by_cases hk:x.t.kind=2
     ·simp[Hit6.key,hk]
     ·simp[Hit6.key,hk]
    have hkey2:zs++metasP ((pre++[x]).map Hit6.key)=(zs++metasP (pre.map Hit6.key))++(if x.t.kind=2 then [x.t.index] else []):=by rw[hkey,List.append_assoc]
    clear hkey
    obtain⟨zp,hzp⟩:∃ zp,zs++metasP (pre.map Hit6.key)=zp:=⟨_,rfl⟩
    rw[hzp] at hV hkey2 hlen0
    obtain⟨kk,hkk⟩:∃ k,x.t.kind=k:=⟨_,rfl⟩
    obtain⟨ii,hii⟩:∃ k,x.t.index=k:=⟨_,rfl⟩
    rw[hkk,hii] at hkey2
    rw[hkk] at cx1 ⊢
    rw[hii] at cx2 ⊢
    clear hzp hkk hii
    have HV:=Lib.hid hV;clear hV
    have hsz3:=HV.out.below.size
    have f0:=HV.out.box.free 0
    by_cases hk:kk=2
    ·subst hk
     rw[if_pos rfl] at hkey2
     have Hkey:=Lib.hid hkey2;clear hkey2
     gi_wp2_with (gi_at_builtin;refine wpListIn_append_own _ rfl _ _ 59 rfl (w.heap.size+1) 3 i2 _ 1 8 Tryz.underlying59 hi2 hz0 hz1 hz2 rfl (by decide) v' zp.length (zp.map (Value.int .i64)) rfl (HV.out.own.alloc _) ⟨V.heap.size,0,none⟩ 1 1 [.int .i64 ii] rfl rfl (fun jj u hu=>by
       cases jj with
       | zero=>simp at hu;subst hu;exact(Blk.new V #[.int .i64 ii] 3 rfl).cell rfl
       | succ _=>simp at hu) (by simp[Value.oneCell']) (by simp[maxLen];omega) (by omega) (by have:=HV.out.box.lt;simp;omega) ?_;intro v2 w3 hown3 hg3 hnil3;have Hg3:=Lib.hid hg3;obtain⟨g3,cap3,rfl⟩:=ownsRow_succ hown3;have Hown3:=Lib.hid hown3;clear hown3 hg3 hnil3;have c3:=(HV.out.push_box Hg3.out).cell (i:=0) rfl;have f3:=(HV.out.push_box Hg3.out).free 0)
     obtain⟨q1,q2,q3⟩:=HV.out.push ii Hg3.out Hown3.out
     exact⟨q2.from _,q3,_,by rw[Hkey.out];exact q1⟩
    ·rw[if_neg hk,List.append_nil] at hkey2
     have Hkey:=Lib.hid hkey2;clear hkey2
     have hk':(kk==2)=false:=by simpa using hk
     gi_wp2
     exact⟨(KeepsOthers.refl _).from _,KeepC.refl _ _,_,by rw[Hkey.out];exact HV.out⟩
   case done=>
    rintro D ys V hD hys ⟨v',hV⟩ hK
    have hV2:=hV.mark hK (fun D' h'=>by have:=Hlts.out D' h';omega) (by omega)
    have Hz:Hid (zs++metasP (ys.map Hit6.key)=metasL (l.take (j+1))):=by show _=_;rw[hys,Htk.out,hzs.out]
    rw[Hz.out] at hV2
    clear hV hK hys
    have HV:=Lib.hid hV2;clear hV2
    gi_wp2_with fail
    refine⟨⟨j+1,D :: Ds,_,v',_,_,_,_,_,_,_,rfl,by omega,rfl,HV.out⟩,?_⟩
    simp[intOf];omega
   case stop=>
    rintro D cc pre V _ _ h _
    exact h.elim
  ·have hO:=HO.out
   have hz2:zs=metasL l:=by rw[hzs.out,List.take_of_length_le (by omega)]
   have hlen:zs.length≤1000000:=by
    have:=metasL_len l 90000 Hsz.out
    rw[hz2]
    exact Nat.le_trans this (Nat.le_trans (Nat.mul_le_mul_right 90000 (show l.length≤9 by omega)) (by decide))
   have c1:W.cell? ⟨w.heap.size,0,none⟩=some vv:=hO.box.cell rfl
   clear hO
   gi_wp2_with fail
   refine⟨trivial,(callsIn_wide.2 (sort_own (base:=w.heap.size+1) HO.out.own hlen)).mono ?_⟩
   rintro e W2 ⟨rfl,hown2,hg2⟩
   have hl2:=List.length_mergeSort (le:=fun x y:Int=>decide (x≤y)) zs
   have HO2:=Lib.hid (HO.out.sorted hg2 (by rw[hl2];exact hown2))
   clear HO hown2 hg2
   have c2:W2.cell? ⟨w.heap.size,0,none⟩=some vv:=HO2.out.box.cell rfl
   gi_wp2_with fail
   refine⟨trivial,(callsIn_wide.2 (compact_own (base:=w.heap.size+1) HO2.out.own (by rw[hl2];exact hlen))).mono ?_⟩
   rintro e W3 ⟨v',rfl,hown3,hg3⟩
   have Hown3:=Lib.hid hown3;have Hg3:=Lib.hid hg3
   clear hown3 hg3
   gi_wp2_with fail
   have h:=HO2.out.leave Hg3.out Hown3.out (F:=Fence.wide) (n:=9) (P:=Tryz.prog) (fn:=Tryz.f31) (tmps:=#[.slice a ll c,undef,v',.pointer (some ⟨w.heap.size,0,none⟩),undef,u5,undef,undef,.slice a ll c,.int .i64 ll,.int .i64 j,.bool false,u12,u13,u14,u15,undef,undef,undef,undef,undef,undef,undef,undef,undef,undef,undef,undef,u28,vv,.tuple #[],vv,v']) (fun w3=>results_tmp (t:=2) rfl _ _ w3)
   rw[hz2] at h
   exact h
end Go.Proofs.YtflbnonbfmmchaaGreat
namespace Go.Proofs.YtflbnonbfmmchaaGreat
open Go.RowKit
namespace Pn
variable {C M:List Ty}
mutual
def mtt:Tm→List Int
 | .mk _ k i a=>(if k=2 then [i] else [])++mtts a
def mtts:List Tm→List Int
 | []=>[]
 | t :: l=>mtt t++mtts l
end
theorem mtt_eq (b:List Ty)(k i:Int)(a:List Tm):mtt (.mk b k i a)=(if k=2 then [i] else [])++mtts a:=by rw[mtt]
theorem mtts_mem {n:Int}:∀ {l:List Tm},n∈mtts l↔∃ t∈l,n∈mtt t
 | []=>by simp[mtts]
 | t :: l=>by rw[mtts,List.mem_append,mtts_mem];simp
theorem metasP_pres_mtt {l:List Tm}(h:∀ t∈l,∀ s p,metasP (t.pre s p)=mtt t):∀ s p,metasP (Tm.pres l s p)=mtts l:=by
 induction l with
 | nil=>intro s p;rw[Tm.pres,mtts];rfl
 | cons t l ih=>
  intro s p
  rw[Tm.pres,mtts,←ih (fun u hu=>h u (by simp[hu])) s p,←h t (by simp) s p]
  unfold metasP;rw[List.filterMap_append]
theorem metasP_mtt (t:Tm):∀ s p,metasP (t.pre s p)=mtt t:=by
 induction t using Tm.ind with
 | h b k i a ih=>
  intro s p
  have hr:=metasP_pres_mtt ih (s+b.length) (p+1)
  rw[Tm.pre_eq,mtt_eq,←hr]
  unfold metasP
  rw[List.filterMap_cons]
  by_cases hk:k=2
  ·simp[hk,Tm.kind,Tm.index]
  ·simp[hk,Tm.kind,Tm.index]
theorem mem_mtt (t:Tm)(n:Int):n∈sortU (metasL [t])↔n∈mtt t:=by
 rw[(sortU_spec _).2]
 unfold metasL
 simp only[List.flatMap_cons,List.flatMap_nil,List.append_nil,metasP_mtt]
theorem eta_mtt (T:Ty):∀ i:Int,mtt (Ty.eta T 0 i)=[]:=by
 induction T using Ty.ind with
 | h a b ih=>
  intro i
  rw[Ty.eta_eq,if_pos rfl,mtt_eq,if_neg (by decide),List.nil_append,List.eq_nil_iff_forall_not_mem]
  intro n hn
  obtain⟨t,ht,hn⟩:=mtts_mem.1 hn
  obtain⟨j,hj,rfl⟩:=List.getElem_of_mem ht
  rw[Nm.etas_nth hj] at hn
  rw[ih _ (List.getElem_mem _)] at hn
  cases hn
theorem ix_self:∀ {vs:List Int} (_:vs.Nodup) {q:Nat} (h:q<vs.length),ix vs[q] vs=some q
 | [],_,q,h=>by simp at h
 | u :: l,hnd,0,h=>by rw[ix];exact if_pos rfl
 | u :: l,hnd,q+1,h=>by
  have h':q<l.length:=by simpa using h
  have hne:u≠l[q]:=fun e=>(List.nodup_cons.1 hnd).1 (e ▸ List.getElem_mem h')
  show ix l[q] (u :: l)=_
  rw[ix,if_neg hne,ix_self (List.nodup_cons.1 hnd).2 h'];rfl
theorem varsL_nodup (n:Int):∀ (l:List Tm) (acc r:List Int),varsL n l acc=some r→acc.Nodup→r.Nodup
 | [],acc,r,h,ha=>by rw[varsL] at h;cases h;exact ha
 | t :: l,acc,r,h,ha=>by
  rw[varsL] at h
  split at h
  ·rename_i hi
   refine varsL_nodup n l _ r h ?_
   unfold isVar at hi
   simp only[Bool.and_eq_true,decide_eq_true_eq,Bool.not_eq_true',List.contains_eq_mem,decide_eq_false_iff_not] at hi
   rw[List.nodup_append]
   exact⟨ha,by simp,fun x hx y hy=>by rw[List.mem_singleton] at hy;subst hy;rintro rfl;exact hi.2.2.2 hx⟩
  ·cases h
theorem mayL_of (n:Int):∀ (vs acc:List Int),(∀ x∈vs,0≤x∧x<n)→(acc++vs).Nodup→mayL n vs acc=true
 | [],_,_,_=>rfl
 | v :: l,acc,h,hnd=>by
  rw[mayL]
  have h1:=h v (by simp)
  have h2:v∉acc:=fun hv=>(List.nodup_append.1 hnd).2.2 v hv v (by simp) rfl
  rw[mayL_of n l (acc++[v]) (fun x hx=>h x (by simp[hx])) (by rw[List.append_assoc];exact hnd)]
  simp[h1,h2]
theorem tk_forth (n:Nat)(vs:List Int)(hnd:vs.Nodup)(hv:∀ x∈vs,0≤x∧x<(n:Int))(t:Tm):∀ ins:Nat,
  tkB n vs (Rn (Nm.ph vs.length (wv vs)) (Rn (· + n) t (vs.length+ins)) ins) ins=true∧tk n vs (Rn (Nm.ph vs.length (wv vs)) (Rn (· + n) t (vs.length+ins)) ins) ins=t:=by
 induction t using Tm.ind with
 | h b k i a ih=>
  intro ins
  rw[Rn_eq,Rn_eq]
  obtain⟨i1,hi1⟩:∃ i1,(if k=0∧((vs.length+ins+b.length:Nat):Int)≤i then ((vs.length+ins+b.length+(· + n) (i-((vs.length+ins+b.length:Nat):Int)).toNat:Nat):Int) else i)=i1:=⟨_,rfl⟩
  rw[hi1]
  obtain⟨i2,hi2⟩:∃ i2,(if k=0∧((ins+b.length:Nat):Int)≤i1 then ((ins+b.length+Nm.ph vs.length (wv vs) (i1-((ins+b.length:Nat):Int)).toNat:Nat):Int) else i1)=i2:=⟨_,rfl⟩
  rw[hi2,tk_eq,tks_map,tkB,tkBs_all,Bool.and_eq_true,List.all_eq_true]
  dsimp only at hi1
  have hargs:∀ t∈a,tkB n vs (Rn (Nm.ph vs.length (wv vs)) (Rn (· + n) t (vs.length+ins+b.length)) (ins+b.length)) (((ins:Nat):Int)+(b.length:Nat))=true∧tk n vs (Rn (Nm.ph vs.length (wv vs)) (Rn (· + n) t (vs.length+ins+b.length)) (ins+b.length)) (((ins:Nat):Int)+(b.length:Nat))=t:=fun t ht=>by
   rw[show (((ins:Nat):Int)+(b.length:Nat))=((ins+b.length:Nat):Int) by omega,Nat.add_assoc]
   exact ih t ht _
  have key:(!(decide (k=0)&&decide (((ins:Nat):Int)+(b.length:Nat)≤i2)&&(decide (i2-(((ins:Nat):Int)+(b.length:Nat))<n)&&(ix (i2-(((ins:Nat):Int)+(b.length:Nat))) vs).isNone)))=true ∧
    (if k=0∧((ins:Nat):Int)+(b.length:Nat)≤i2 then ((ins:Nat):Int)+(b.length:Nat)+go n vs (i2-(((ins:Nat):Int)+(b.length:Nat))) else i2)=i:=by
   by_cases hk:k=0
   ·subst hk
    by_cases hlt:((ins:Nat):Int)+(b.length:Nat)≤i
    ·obtain⟨d,hd⟩:∃ d:Nat,i=((ins+b.length+d:Nat):Int):=⟨(i-(((ins:Nat):Int)+(b.length:Nat))).toNat,by omega⟩
     by_cases hdl:d<vs.length
     ·rw[if_neg (by rintro⟨_,h⟩;omega)] at hi1
      subst hi1
      rw[if_pos ⟨rfl,by omega⟩,show (i-((ins+b.length:Nat):Int)).toNat=d by omega] at hi2
      obtain⟨q,hqe⟩:∃ q,q+1+d=vs.length:=⟨vs.length-1-d,by omega⟩
      have hq:q<vs.length:=by omega
      obtain⟨x,hx⟩:∃ x:Nat,vs[q]=(x:Int):=⟨(vs[q]).toNat,by have:=(hv _ (List.getElem_mem hq)).1;omega⟩
      have hxn:=(hv _ (List.getElem_mem hq)).2
      rw[hx] at hxn
      have hph:Nm.ph vs.length (wv vs) d=x:=by
       unfold Nm.ph
       rw[if_pos hdl,show vs.length-1-d=q by omega,wv_at (x:=(x:Int)) (by rw[List.getElem?_eq_getElem hq,hx])];omega
      rw[hph] at hi2
      have hix:ix (x:Int) vs=some q:=by rw[←hx];exact ix_self hnd hq
      have e2:i2-(((ins:Nat):Int)+(b.length:Nat))=(x:Int):=by omega
      rw[e2,hix]
      refine⟨by simp,?_⟩
      rw[if_pos ⟨rfl,by omega⟩]
      unfold go
      rw[if_neg (by omega),hix]
      dsimp only
      omega
     ·rw[if_pos ⟨rfl,by omega⟩,show (i-((vs.length+ins+b.length:Nat):Int)).toNat=d-vs.length by omega] at hi1
      rw[if_pos ⟨rfl,by omega⟩,show (i1-((ins+b.length:Nat):Int)).toNat=d+n by omega] at hi2
      have hph:Nm.ph vs.length (wv vs) (d+n)=d+n-vs.length:=by
       unfold Nm.ph
       rw[if_neg (by omega)]
      rw[hph] at hi2
      have e2:i2-(((ins:Nat):Int)+(b.length:Nat))=((d+n-vs.length:Nat):Int):=by omega
      rw[e2]
      refine⟨?_,?_⟩
      ·rw[decide_eq_false (p:=((d+n-vs.length:Nat):Int)<n) (by omega)];simp
      ·rw[if_pos ⟨rfl,by omega⟩]
       unfold go
       rw[if_pos (by omega)]
       omega
    ·rw[if_neg (by rintro⟨_,h⟩;omega)] at hi1
     subst hi1
     rw[if_neg (by rintro⟨_,h⟩;omega)] at hi2
     subst hi2
     refine⟨?_,if_neg (fun h=>hlt h.2)⟩
     rw[decide_eq_false hlt];simp
   ·rw[if_neg (fun h=>hk h.1)] at hi1
    rw[if_neg (fun h=>hk h.1)] at hi2
    refine⟨?_,by rw[if_neg (fun h=>hk h.1)];exact hi2.symm.trans hi1.symm⟩
    rw[decide_eq_false hk];simp
  refine⟨⟨key.1,fun t ht=>?_⟩,?_⟩
  ·obtain⟨u,hu,rfl⟩:=List.mem_map.1 ht
   obtain⟨v,hv,rfl⟩:=List.mem_map.1 hu
   exact(hargs v hv).1
  ·congr 1
   ·exact key.2
   ·rw[List.map_map,List.map_map]
    exact Eq.trans (List.map_congr_left (g:=fun t=>t) fun t ht=>(hargs t ht).2) (List.map_id' a)
end Pn
end Go.Proofs.YtflbnonbfmmchaaGreat
