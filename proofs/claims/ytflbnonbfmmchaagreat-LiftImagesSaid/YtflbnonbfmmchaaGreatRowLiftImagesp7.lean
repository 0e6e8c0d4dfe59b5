/-
  Package slices' stable sort of pairs, walked in the deep way: the merge of many. Package slices' stable sort of pairs, walked in the deep way: the whole; subst.sorted, subst.Of. Package subst's lists, walked in the deep way: Without, Set, Domain, Get. The document's places and uses, walked in the deep way: All, At, Has, Vars, Uses; loose indexes. How many types and terms: exactly what the reference counts. How many terms: exactly what the reference counts; the laws' Few. What the laws' Few tells of a term. The laws' Small (seats without Chk9). Types and terms of the laws, there and back, walked in the deep way. Pairs of terms with the types of their metavariables (rule.Pair, filigreeref17.Pair), and the laws' helpers for them: To, Of, Same, Few. The readings of a row's arguments that are pairs of terms with their metavariables' types. Package subst, walked in the deep way: Apply. Package subst, walked in the deep way: through, Apply. What forms grow to where terms are put for variables: no more heads than units that are spent; plain. What is asked of the forms on the way of subst.Apply holds with small budgets; plain. The type of a head: the program's and the document's. The type of a head: the document's. Whether a term is of a type: the plain law.
-/
import Derived.Test.YtflbnonbfmmchaaGreatRowLiftImagesp6
import Derived.Test.YtflbnonbfmmchaaGreatRowLiftImagesp5
import Derived.Test.YtflbnonbfmmchaaGreatRowLiftImagesp1
import Derived.Deep.QuietTactic
import Derived.BigQuiet
import Derived.WalkSmall
set_option maxRecDepth 100000
set_option maxHeartbeats 1000000
set_option linter.unusedVariables false
set_option linter.unusedSimpArgs false
namespace Go.Proofs.YtflbnonbfmmchaaGreat
open Go.RowKit
def SymC (N:Nat):Prop:=∀ (A X Y Z:List (Int×Tm)) (n a m b:Nat),X.length+Y.length≤N→(A++X++Y++Z).length=n→A.length=a→a+X.length=m→m+Y.length=b→0<X.length→0<Y.length→So.Srt X→So.Srt Y→n≤1000000 →
 CallG Tryz.prog 179 (symIn n a m b) (symR (A++X++Y++Z)) (symR (A++So.ss (X++Y)++Z)) (.tu [])
set_option maxHeartbeats 4000000 in
theorem sym_step (N:Nat)(ih:∀ k,k<N→SymC k)(A X Y Z:List (Int×Tm))(n a m b:Nat)(hN:X.length+Y.length≤N)(hn:(A++X++Y++Z).length=n)(ha:A.length=a)(hm:a+X.length=m)(hb:m+Y.length=b)(hX2:2≤X.length)(hY2:2≤Y.length)(hX:So.Srt X)(hY:So.Srt Y)(hM:n≤1000000):
  CallG Tryz.prog 179 (symIn n a m b) (symR (A++X++Y++Z)) (symR (A++So.ss (X++Y)++Z)) (.tu []):=by
 have hbn:b+Z.length=n:=by simp at hn;omega
 obtain⟨L,hL⟩:∃ L,A++X++Y++Z=L:=⟨_,rfl⟩
 rw[hL] at hn ⊢
 obtain⟨mid,hmid⟩:∃ mid,mid=(a+b) / 2:=⟨_,rfl⟩
 obtain⟨lo,hi,hlo⟩:∃ lo hi,(mid<m∧lo+b=mid+m∧hi=mid)∨(m≤mid∧lo=a∧hi=m):=by
  by_cases h:mid<m
  ·exact⟨mid+m-b,mid,.inl ⟨h,by omega,rfl⟩⟩
  ·exact⟨a,m,.inr ⟨by omega,rfl,rfl⟩⟩
 obtain⟨q,hq⟩:∃ q,q+1=mid+m:=⟨mid+m-1,by omega⟩
 refine callG_of_dw 1 220 [] TSO_ok (by kernel_rfl) Tryz.func179 rfl Tryz.ntmps179 rfl (by simp) ?dwords ?dbody
 case dwords=>simp[wordsG,rowN,rowsR,gkey,Key.eq,D.ok,D.oks,D.okss,rnames,inN,ckey,ePairs_ok]
 case dbody=>
  intro cx hnt hn0
  refine dw_seq ?_;refine dw_seq ?_;refine dwk [(27,.v (.int .i64 (↑X.length))),(28,.v (.bool false))] TSO_ok hnt fun K hK=>?_;refine And.intro auI ?_;refine And.intro (beqF (by omega)) ?_;refine hK _ _ ?_;clear hK K;refine dw_cond (t:=false) rfl ?_;rw[if_neg (by simp)];refine dw_skip ?_;refine dw_seq ?_;refine dw_seq ?_;refine dwk [(79,.v (.int .i64 (↑Y.length))),(80,.v (.bool false))] TSO_ok hnt fun K hK=>?_
  refine And.intro auI ?_;refine And.intro (beqF (by omega)) ?_;refine hK _ _ ?_;clear hK K;refine dw_cond (t:=false) rfl ?_;rw[if_neg (by simp)];refine dw_skip ?_;refine dw_seq ?_;refine dwk [(131,.v (.int .i64 (↑(a+b)))),(134,.v (.int .i64 (↑mid)))] TSO_ok hnt fun K hK=>?_;refine And.intro auI ?_;refine And.intro (dintE (by rw[hmid];exact half_i _ (by omega))) ?_;refine hK _ _ ?_;clear hK K
  refine dw_seq ?_;refine dwk [(137,.v (.int .i64 (↑(mid+m))))] TSO_ok hnt fun K hK=>?_;refine And.intro auI ?_;refine hK _ _ ?_;clear hK K;refine dw_seq ?_;refine dwk [] TSO_ok hnt fun _ z9=>z9 _ _ ?_
  refine dw_cut (τ:=[(.t 0,.ps 0 n),(.t 1,.v (.int .i64 ↑a)),(.t 2,.v (.int .i64 ↑m)),(.t 3,.v (.int .i64 ↑b)),(.t 4,.fn 113 []),(.t 18,.v (.int .i64 ↑mid)),(.t 19,.v (.int .i64 ↑(mid+m))),(.t 20,.v (.int .i64 ↑lo)),(.t 21,.v (.int .i64 ↑hi)),(.r 0,.rp 79 5 (ePairs L))]) (N1:=1) ?_ ?_
  ·rcases hlo with⟨g1,g2,g3⟩ | ⟨g1,g2,g3⟩
   ·rw[g3]
    refine dw_seq ?_;refine dwk [(140,.v (.bool true))] TSO_ok hnt fun K hK=>?_;refine And.intro auT ?_;refine hK _ _ ?_;clear hK K;refine dw_cond (t:=true) rfl ?_;rw[if_pos rfl];refine dw_seq ?_;refine dwk [(143,.v (.int .i64 (↑lo)))] TSO_ok hnt fun K hK=>?_;refine And.intro auI ?_;refine hK _ _ ?_;clear hK K;refine dwk [] TSO_ok hnt fun _ z9=>z9 _ _ ?_
    exact cut_ok (VS.toK (by omega) (by repeat first | exact trivial | refine And.intro (And.intro (by first | rfl | simp[D.ok,D.oks,D.okss,D.okm,upto,keyOk,argsT]) (by first | exact Or.inl rfl | exact Or.inr ⟨_,rfl,(by repeat first | exact VLe.refl _ | exact VLe.nil _ | exact VLe.untag _ _ _ | refine VLe.ag ?_ | refine VLe.tu ?_ | refine VLeL.cons ?_ ?_ | exact VLeL.nil),trivial⟩ | simp[get,Key.eq,argsT])) ?_))
   ·rw[g2,g3]
    refine dw_seq ?_;refine dwk [(140,.v (.bool false))] TSO_ok hnt fun K hK=>?_;refine And.intro auF ?_;refine hK _ _ ?_;clear hK K;refine dw_cond (t:=false) rfl ?_;rw[if_neg (by simp)];refine dw_seq ?_;refine dwk [] TSO_ok hnt fun _ z9=>z9 _ _ ?_;refine dwk [] TSO_ok hnt fun _ z9=>z9 _ _ ?_
    exact cut_ok (VS.toK (by omega) (by repeat first | exact trivial | refine And.intro (And.intro (by first | rfl | simp[D.ok,D.oks,D.okss,D.okm,upto,keyOk,argsT]) (by first | exact Or.inl rfl | exact Or.inr ⟨_,rfl,(by repeat first | exact VLe.refl _ | exact VLe.nil _ | exact VLe.untag _ _ _ | refine VLe.ag ?_ | refine VLe.tu ?_ | refine VLeL.cons ?_ ?_ | exact VLeL.nil),trivial⟩ | simp[get,Key.eq,argsT])) ?_))
  ·skip
   refine dw_seq ?_;refine dwk [(148,.v (.int .i64 (↑q)))] TSO_ok hnt fun K hK=>?_;refine And.intro auI ?_;refine hK _ _ ?_;clear hK K;refine dw_seq ?_;refine dw_block ?_
   refine dw_loop (ι:={ p:Nat×Nat // lo≤p.1∧p.1≤p.2∧p.2≤hi∧(p.1=lo∨So.ky L (p.1-1)≤So.ky L (mid+m-p.1))∧(p.2=hi∨So.ky L (mid+m-1-p.2)<So.ky L p.2) }) (fun p=>[(.t 0,.ps 0 n),(.t 1,.v (.int .i64 ↑a)),(.t 2,.v (.int .i64 ↑m)),(.t 3,.v (.int .i64 ↑b)),(.t 4,.fn 113 []),(.t 18,.v (.int .i64 ↑mid)),(.t 19,.v (.int .i64 ↑(mid+m))),(.t 20,.v (.int .i64 ↑p.1.1)),(.t 21,.v (.int .i64 ↑p.1.2)),(.t 22,.v (.int .i64 ↑q)),(.r 0,.rp 79 5 (ePairs L))]) 1 (fun p=>p.1.2-p.1.1) (⟨(lo,hi),Nat.le_refl _,by dsimp only;omega,Nat.le_refl _,.inl rfl,.inl rfl⟩) (VS.toA) fun j=>?_
   obtain⟨⟨s,r⟩,k1,k2,k3,k4,k5⟩:=j
   dsimp only at k1 k2 k3 k4 k5 ⊢
   by_cases hsr:s<r
   ·obtain⟨c,hc⟩:∃ c,c=(s+r) / 2:=⟨_,rfl⟩
    have hcm:c<m:=by omega
    obtain⟨d,hd⟩:∃ d,d+c=q:=⟨q-c,by omega⟩
    obtain⟨x,hx⟩:=So.at_ex hn (show c<n by omega)
    obtain⟨y,hy⟩:=So.at_ex hn (show d<n by omega)
    have ex:=So.ky_at hx
    have ey:=So.ky_at hy
    have ho:=sorder_d y x
    rw[ePair_eq,ePair_eq] at ho
    by_cases hlt:y.1<x.1
    ·skip
     refine dw_seq ?_;refine dw_seq ?_;refine dwk [(151,.v (.bool true))] TSO_ok hnt fun K hK=>?_;refine And.intro auT ?_;refine hK _ _ ?_;clear hK K;refine dw_cond (t:=true) rfl ?_;rw[if_pos rfl];refine dw_skip ?_;refine dw_block ?_;refine dw_seq ?_;refine dwk [(154,.v (.int .i64 (↑(s+r)))),(157,.v (.int .i64 (↑c)))] TSO_ok hnt fun K hK=>?_;refine And.intro auI ?_;refine And.intro (dintE (by rw[hc];exact half_i _ (by omega))) ?_
     refine hK _ _ ?_;clear hK K;refine dw_seq ?_;refine dwkD [(162,.v (.int .i64 (↑d))),(163,.pr 0 n 5 (d) 0),(164,.ag [.v (.int .i64 y.1),.sl 2 (eTys y.2.binds) none,.v (.int .i64 y.2.kind),.v (.int .i64 y.2.index),.sl 4 (eTms y.2.args) none]),(167,.pr 0 n 5 (c) 0),(168,.ag [.v (.int .i64 x.1),.sl 2 (eTys x.2.binds) none,.v (.int .i64 x.2.kind),.v (.int .i64 x.2.index),.sl 4 (eTms x.2.args) none]),(170,.v (.bool true))] TSO_ok hnt fun K hK=>?_
     refine And.intro auI ?_;refine And.intro (by constructor <;> omega) ?_;refine And.intro (by first | rfl | exact VLe.of_eq (by simp)) ?_;refine And.intro (pl_ok hn hy) ?_;refine And.intro (pl_eq hy) ?_;refine And.intro (by constructor <;> omega) ?_;refine And.intro (by first | rfl | exact VLe.of_eq (by simp)) ?_;refine And.intro (pl_ok hn hx) ?_;refine And.intro (pl_eq hx) ?_;refine dcl (ho) ?_
     refine And.intro (dtrue (cmpI_lt.2 hlt)) ?_;refine hK _ _ (by kernel_rfl) ?_;clear hK K;refine dw_cond (t:=false) rfl ?_;rw[if_neg (by simp)];refine dwk [] TSO_ok hnt fun _ z9=>z9 _ _ ?_
     refine⟨⟨(s,c),k1,by dsimp only;omega,by dsimp only;omega,k4,.inr (by dsimp only;rw[show mid+m-1-c=d by omega,ex,ey];exact hlt)⟩,by first | omega | (dsimp only;omega),VS.toA⟩
    ·skip
     refine dw_seq ?_;refine dw_seq ?_;refine dwk [(151,.v (.bool true))] TSO_ok hnt fun K hK=>?_;refine And.intro auT ?_;refine hK _ _ ?_;clear hK K;refine dw_cond (t:=true) rfl ?_;rw[if_pos rfl];refine dw_skip ?_;refine dw_block ?_;refine dw_seq ?_;refine dwk [(154,.v (.int .i64 (↑(s+r)))),(157,.v (.int .i64 (↑c)))] TSO_ok hnt fun K hK=>?_;refine And.intro auI ?_;refine And.intro (dintE (by rw[hc];exact half_i _ (by omega))) ?_
     refine hK _ _ ?_;clear hK K;refine dw_seq ?_;refine dwkD [(162,.v (.int .i64 (↑d))),(163,.pr 0 n 5 (d) 0),(164,.ag [.v (.int .i64 y.1),.sl 2 (eTys y.2.binds) none,.v (.int .i64 y.2.kind),.v (.int .i64 y.2.index),.sl 4 (eTms y.2.args) none]),(167,.pr 0 n 5 (c) 0),(168,.ag [.v (.int .i64 x.1),.sl 2 (eTys x.2.binds) none,.v (.int .i64 x.2.kind),.v (.int .i64 x.2.index),.sl 4 (eTms x.2.args) none]),(170,.v (.bool false))] TSO_ok hnt fun K hK=>?_
     refine And.intro auI ?_;refine And.intro (by constructor <;> omega) ?_;refine And.intro (by first | rfl | exact VLe.of_eq (by simp)) ?_;refine And.intro (pl_ok hn hy) ?_;refine And.intro (pl_eq hy) ?_;refine And.intro (by constructor <;> omega) ?_;refine And.intro (by first | rfl | exact VLe.of_eq (by simp)) ?_;refine And.intro (pl_ok hn hx) ?_;refine And.intro (pl_eq hx) ?_;refine dcl (ho) ?_
     refine And.intro (dfalse (fun h=>hlt (cmpI_lt.1 h))) ?_;refine hK _ _ (by kernel_rfl) ?_;clear hK K;refine dw_cond (t:=true) rfl ?_;rw[if_pos rfl];refine dwk [(173,.v (.int .i64 (↑(c+1))))] TSO_ok hnt fun K hK=>?_;refine And.intro auI ?_;refine hK _ _ ?_;clear hK K
     refine⟨⟨(c+1,r),by dsimp only;omega,by dsimp only;omega,k3,.inr (by dsimp only;rw[show c+1-1=c by omega,show mid+m-(c+1)=d by omega,ex,ey];omega),k5⟩,by first | omega | (dsimp only;omega),VS.toA⟩
   ·have hrs:r=s:=by omega
    subst hrs
    obtain⟨X1,X2,Y1,Y2,rfl,rfl,e1,e2,h1,h2⟩:=So.sym_cut (mid:=mid) (s:=r) hX hY hL.symm ha hm hb (by omega) (by omega) (by omega) (by omega) (by
      rcases k4 with k4 | k4
      ·omega
      ·exact .inr (.inr k4)) (by
      rcases k5 with k5 | k5
      ·omega
      ·exact .inr (.inr k5))
    rw[List.length_append] at hm hb hX2 hY2
    rw[List.length_append,List.length_append] at hN
    obtain⟨e,he⟩:∃ e,e+r=mid+m:=⟨mid+m-r,by omega⟩
    have hcut:=So.ss_cut hX hY h1 h2
    have sx:=So.srt_app.1 hX
    have sy:=So.srt_app.1 hY
    have hlen:A.length+X1.length+X2.length+Y1.length+Y2.length+Z.length=n:=by omega
    rw[hcut]
    refine dw_seq ?_;refine dw_seq ?_;refine dwk [(151,.v (.bool false))] TSO_ok hnt fun K hK=>?_;refine And.intro auF ?_;refine hK _ _ ?_;clear hK K;refine dw_cond (t:=false) rfl ?_;rw[if_neg (by simp)];refine dw_exit ?_;refine dw_seq ?_;refine dwk [(177,.v (.int .i64 (↑e)))] TSO_ok hnt fun K hK=>?_;refine And.intro auI ?_;refine hK _ _ ?_;clear hK K
    refine dw_cut (τ:=[(.t 0,.ps 0 n),(.t 1,.v (.int .i64 ↑a)),(.t 3,.v (.int .i64 ↑b)),(.t 4,.fn 113 []),(.t 18,.v (.int .i64 ↑mid)),(.t 20,.v (.int .i64 ↑r)),(.t 24,.v (.int .i64 ↑e)),(.r 0,.rp 79 5 (ePairs (A++X1++Y1++(X2++(Y2++Z)))))]) (N1:=1) ?_ ?_
    ·by_cases c1:r<m
     ·by_cases c2:m<e
      ·have hrot:=rotate_d (A++X1) X2 Y1 (Y2++Z) n r m e (by simp;omega) (by simp;omega) (by omega) (by omega) (by omega) (by omega) hM
       have f1:A++X1++Y1++X2++(Y2++Z)=A++X1++Y1++(X2++(Y2++Z)):=by simp
       have f2:L=A++X1++X2++Y1++(Y2++Z):=by rw[←hL];simp
       rw[f1] at hrot
       rw[f2]
       refine dw_seq ?_;refine dwk [(180,.v (.bool true)),(184,.v (.bool true))] TSO_ok hnt fun K hK=>?_;refine And.intro auT ?_;refine And.intro auT ?_;refine hK _ _ ?_;clear hK K;refine dw_cond (t:=true) rfl ?_;rw[if_pos rfl];refine dwk [] TSO_ok hnt fun K hK=>?_;refine dcn (CallG.n (hrot) _) ?_;refine hK _ _ ?_;clear hK K
       exact cut_ok VS.toA
      ·have:Y1=[]:=List.length_eq_zero_iff.1 (by omega)
       have f2:L=A++X1++Y1++(X2++(Y2++Z)):=by rw[←hL,this];simp
       rw[f2]
       refine dw_seq ?_;refine dwk [(180,.v (.bool true)),(184,.v (.bool false))] TSO_ok hnt fun K hK=>?_;refine And.intro auT ?_;refine And.intro auF ?_;refine hK _ _ ?_;clear hK K;refine dw_cond (t:=false) rfl ?_;rw[if_neg (by simp)];refine dw_skip ?_
       exact cut_ok VS.toA
     ·have:X2=[]:=List.length_eq_zero_iff.1 (by omega)
      have f2:L=A++X1++Y1++(X2++(Y2++Z)):=by rw[←hL,this];simp
      rw[f2]
      refine dw_seq ?_;refine dwk [(180,.v (.bool false))] TSO_ok hnt fun K hK=>?_;refine And.intro auF ?_;refine hK _ _ ?_;clear hK K;refine dw_cond (t:=false) rfl ?_;rw[if_neg (by simp)];refine dw_skip ?_
      exact cut_ok VS.toA
    ·skip
     refine dw_cut (τ:=[(.t 0,.ps 0 n),(.t 3,.v (.int .i64 ↑b)),(.t 4,.fn 113 []),(.t 18,.v (.int .i64 ↑mid)),(.t 24,.v (.int .i64 ↑e)),(.r 0,.rp 79 5 (ePairs (A++So.ss (X1++Y1)++X2++Y2++Z)))]) (N1:=1) ?_ ?_
     ·have f1:A++So.ss (X1++Y1)++(X2++(Y2++Z))=A++So.ss (X1++Y1)++X2++Y2++Z:=by simp
      by_cases c1:a<r
      ·by_cases c2:r<mid
       ·have hs:=ih (X1.length+Y1.length) (by omega) A X1 Y1 (X2++(Y2++Z)) n a r mid (Nat.le_refl _) (by simp;omega) ha e1 e2 (by omega) (by omega) sx.1 sy.1 hM
        rw[f1] at hs
        refine dw_seq ?_;refine dwk [(194,.v (.bool true)),(198,.v (.bool true))] TSO_ok hnt fun K hK=>?_;refine And.intro auT ?_;refine And.intro auT ?_;refine hK _ _ ?_;clear hK K;refine dw_cond (t:=true) rfl ?_;rw[if_pos rfl];refine dwk [] TSO_ok hnt fun K hK=>?_;refine dcn (CallG.n (hs) _) ?_;refine hK _ _ ?_;clear hK K
        exact cut_ok VS.toA
       ·have hy0:Y1=[]:=List.length_eq_zero_iff.1 (by omega)
        have hss:So.ss (X1++Y1)=X1++Y1:=So.ss_self (by rw[hy0,List.append_nil];exact sx.1)
        rw[←f1,hss,←List.append_assoc A X1 Y1]
        refine dw_seq ?_;refine dwk [(194,.v (.bool true)),(198,.v (.bool false))] TSO_ok hnt fun K hK=>?_;refine And.intro auT ?_;refine And.intro auF ?_;refine hK _ _ ?_;clear hK K;refine dw_cond (t:=false) rfl ?_;rw[if_neg (by simp)];refine dw_skip ?_
        exact cut_ok VS.toA
      ·have hx0:X1=[]:=List.length_eq_zero_iff.1 (by omega)
       have hss:So.ss (X1++Y1)=X1++Y1:=So.ss_self (by rw[hx0,List.nil_append];exact sy.1)
       rw[←f1,hss,←List.append_assoc A X1 Y1]
       refine dw_seq ?_;refine dwk [(194,.v (.bool false))] TSO_ok hnt fun K hK=>?_;refine And.intro auF ?_;refine hK _ _ ?_;clear hK K;refine dw_cond (t:=false) rfl ?_;rw[if_neg (by simp)];refine dw_skip ?_
       exact cut_ok VS.toA
     ·have f3:A++(So.ss (X1++Y1)++So.ss (X2++Y2))++Z=A++So.ss (X1++Y1)++So.ss (X2++Y2)++Z:=by simp
      rw[f3]
      by_cases c1:mid<e
      ·by_cases c2:e<b
       ·have hs:=ih (X2.length+Y2.length) (by omega) (A++So.ss (X1++Y1)) X2 Y2 Z n mid e b (Nat.le_refl _) (by simp[So.ss_len];omega) (by simp[So.ss_len];omega) (by omega) (by omega) (by omega) (by omega) sx.2.1 sy.2.1 hM
        refine dw_seq ?_;refine dwk [(208,.v (.bool true)),(212,.v (.bool true))] TSO_ok hnt fun K hK=>?_;refine And.intro auT ?_;refine And.intro auT ?_;refine hK _ _ ?_;clear hK K;refine dw_cond (t:=true) rfl ?_;rw[if_pos rfl];refine dwk [] TSO_ok hnt fun K hK=>?_;refine dcn (CallG.n (hs) _) ?_;refine hK _ _ ?_;clear hK K
        exact reta rfl
       ·have hy0:Y2=[]:=List.length_eq_zero_iff.1 (by omega)
        have hss:So.ss (X2++Y2)=X2++Y2:=So.ss_self (by rw[hy0,List.append_nil];exact sx.2.1)
        rw[hss,←List.append_assoc _ X2 Y2]
        refine dw_seq ?_;refine dwk [(208,.v (.bool true)),(212,.v (.bool false))] TSO_ok hnt fun K hK=>?_;refine And.intro auT ?_;refine And.intro auF ?_;refine hK _ _ ?_;clear hK K;refine dw_cond (t:=false) rfl ?_;rw[if_neg (by simp)];refine dw_skip ?_
        exact reta rfl
      ·have hx0:X2=[]:=List.length_eq_zero_iff.1 (by omega)
       have hss:So.ss (X2++Y2)=X2++Y2:=So.ss_self (by rw[hx0,List.nil_append];exact sy.2.1)
       rw[hss,←List.append_assoc _ X2 Y2]
       refine dw_seq ?_;refine dwk [(208,.v (.bool false))] TSO_ok hnt fun K hK=>?_;refine And.intro auF ?_;refine hK _ _ ?_;clear hK K;refine dw_cond (t:=false) rfl ?_;rw[if_neg (by simp)];refine dw_skip ?_
       exact reta rfl
theorem sym_all (N:Nat):SymC N:=by
 induction N using Nat.strongRecOn with
 | ind N ih=>
  intro A X Y Z n a m b hN hn ha hm hb h1 h2 hX hY hM
  by_cases c1:X.length=1
  ·obtain⟨x,rfl⟩:=List.length_eq_one_iff.1 c1
   exact sym_left A x Y Z n a m b hn ha (by simpa using hm) hb hY hM
  ·by_cases c2:Y.length=1
   ·obtain⟨y,rfl⟩:=List.length_eq_one_iff.1 c2
    exact sym_right A X y Z n a m b hn ha hm (by simpa using hb) hX c1 hM
   ·exact sym_step N ih A X Y Z n a m b hN hn ha hm hb (by omega) (by omega) hX hY hM
theorem symM_d (A X Y Z:List (Int×Tm))(n a m b:Nat)(hn:(A++X++Y++Z).length=n)(ha:A.length=a)(hm:a+X.length=m)(hb:m+Y.length=b)(h1:0<X.length)(h2:0<Y.length)(hX:So.Srt X)(hY:So.Srt Y)(hM:n≤1000000):
  CallG Tryz.prog 179 (symIn n a m b) (symR (A++X++Y++Z)) (symR (A++So.ss (X++Y)++Z)) (.tu []):=sym_all _ A X Y Z n a m b (Nat.le_refl _) hn ha hm hb h1 h2 hX hY hM
def TSP_79:TI:=⟨5,true,[Value.int IntKind.i64 0,Value.slice none 0 0,Value.int IntKind.i64 0,Value.int IntKind.i64 0,Value.slice none 0 0],[(0,1,false),(1,4,true)],none,72,6,none,false⟩
theorem TSP_79_ok:TypOk Tryz.prog 79 TSP_79:=by constructor <;> kernel_rfl
def TSP_51:TI:=⟨1,false,[Value.slice none 0 0],[],some 79,24,5,none,false⟩
theorem TSP_51_ok:TypOk Tryz.prog 51 TSP_51:=by constructor <;> kernel_rfl
def TSP_50:TI:=⟨1,false,[Value.slice none 0 0],[],some 79,24,5,none,false⟩
theorem TSP_50_ok:TypOk Tryz.prog 50 TSP_50:=by constructor <;> kernel_rfl
def TSP_3:TI:=⟨1,false,[Value.int IntKind.i64 0],[],none,8,2,none,false⟩
theorem TSP_3_ok:TypOk Tryz.prog 3 TSP_3:=by constructor <;> kernel_rfl
def TSP_41:TI:=⟨4,true,[Value.slice none 0 0,Value.int IntKind.i64 0,Value.int IntKind.i64 0,Value.slice none 0 0],[(0,1,false),(1,2,true),(3,1,false)],none,64,6,none,false⟩
theorem TSP_41_ok:TypOk Tryz.prog 41 TSP_41:=by constructor <;> kernel_rfl
def TSP_204:TI:=⟨1,false,[Value.nilFunc],[],none,8,8,none,false⟩
theorem TSP_204_ok:TypOk Tryz.prog 204 TSP_204:=by constructor <;> kernel_rfl
def TSP:List (Nat×TI):=[(79,TSP_79),(51,TSP_51),(50,TSP_50),(3,TSP_3),(41,TSP_41),(204,TSP_204)]
theorem TSP_ok:TabOk Tryz.prog TSP:=(((((((TabOk.nil _).cons TSP_204_ok).cons TSP_41_ok).cons TSP_3_ok).cons TSP_50_ok).cons TSP_51_ok).cons TSP_79_ok)
namespace So
theorem Ch.two {α:Type}{s:Nat}{Q:List (Int×α)}(h:Ch s Q)(hl:2 * s≤Q.length)(hs:0<s):∃ c d l,Q=c++d++l∧c.length=s∧d.length=s∧Srt c∧Srt d∧Ch s l:=by
 obtain⟨c,l,rfl,hc,hsc,hch⟩:=h.more (by omega)
 rw[List.length_append] at hl
 by_cases h1:s<l.length
 ·obtain⟨d,l2,rfl,hd,hsd,hch2⟩:=hch.more h1
  exact⟨c,d,l2,by rw[List.append_assoc],hc,hd,hsc,hsd,hch2⟩
 ·exact⟨c,l,[],by simp,hc,by omega,hsc,hch.one (by omega) hs,.last [] (by simp) srt_nil⟩
end So
set_option maxHeartbeats 4000000 in
theorem stableC_d (l:List (Int×Tm))(n:Nat)(hn:l.length=n)(hM:n≤1000000):
  CallG Tryz.prog 149 [.ps 0 n,.v (.int .i64 ↑n),.fn 113 []] (symR l) (symR (So.ss l)) (.tu []):=by
 refine callG_of_dw 1 63 [] TSO_ok (by kernel_rfl) Tryz.func149 rfl Tryz.ntmps149 rfl (by simp) ?dwords ?dbody
 case dwords=>simp[wordsG,rowN,rowsR,gkey,Key.eq,D.ok,D.oks,D.okss,rnames,inN,ckey,ePairs_ok]
 case dbody=>
  intro cx hnt hn0
  refine dw_seq ?_;refine dwk [] TSO_ok hnt fun _ z9=>z9 _ _ ?_;refine dw_seq ?_;refine dwk [] TSO_ok hnt fun _ z9=>z9 _ _ ?_;refine dw_seq ?_;refine dw_block ?_
  refine dw_loop (ι:={ p:List (Int×Tm)×List (Int×Tm) // So.Fu 20 p.1∧So.Same (p.1++p.2) l∧p.1.length+p.2.length=n }) (fun p=>[(.t 0,.ps 0 n),(.t 1,.v (.int .i64 ↑n)),(.t 2,.fn 113 []),(.t 6,.v (.int .i64 20)),(.t 7,.v (.int .i64 ↑p.1.1.length)),(.t 8,.v (.int .i64 ↑(p.1.1.length+20))),(.r 0,.rp 79 5 (ePairs (p.1.1++p.1.2)))]) 1 (fun p=>p.1.2.length) (⟨([],l),.nil,So.Same.refl _,by simpa using hn⟩) ((VS.toK (by omega) (by repeat first | exact trivial | refine And.intro (And.intro (by first | rfl | simp[D.ok,D.oks,D.okss,D.okm,upto,keyOk,argsT]) (by first | exact Or.inl rfl | exact Or.inr ⟨_,rfl,(by repeat first | exact VLe.refl _ | exact VLe.nil _ | exact VLe.untag _ _ _ | refine VLe.ag ?_ | refine VLe.tu ?_ | refine VLeL.cons ?_ ?_ | exact VLeL.nil),trivial⟩ | simp[get,Key.eq,argsT])) ?_))) fun j=>?_
  obtain⟨⟨P,Q⟩,hF,hS,hl⟩:=j
  dsimp only at hF hS hl ⊢
  by_cases hb:P.length+20≤n
  ·obtain⟨Q1,Q2,rfl,h20⟩:∃ Q1 Q2,Q=Q1++Q2∧Q1.length=20:=⟨Q.take 20,Q.drop 20,(List.take_append_drop _ _).symm,by simp;omega⟩
   rw[List.length_append] at hl
   have hins:=insSort_d P Q1 Q2 n P.length (P.length+20) (by simp;omega) rfl (by omega) hM
   rw[←List.append_assoc]
   refine dw_seq ?_;refine dw_seq ?_;refine dwk [(13,.v (.bool true))] TSO_ok hnt fun K hK=>?_;refine And.intro auT ?_;refine hK _ _ ?_;clear hK K;refine dw_cond (t:=true) rfl ?_;rw[if_pos rfl];refine dw_skip ?_;refine dw_block ?_;refine dw_seq ?_;refine dwk [] TSO_ok hnt fun K hK=>?_;refine dcn (CallG.n (hins) _) ?_;refine hK _ _ ?_;clear hK K;refine dw_seq ?_;refine dwk [(7,.v (.int .i64 ↑(P++So.ss Q1).length))] TSO_ok hnt fun K hK=>?_
   refine And.intro (VLe.of_eq (by rw[List.length_append,So.ss_len,h20])) ?_;refine hK _ _ ?_;clear hK K;refine dwk [(22,.v (.int .i64 (↑((P++So.ss Q1).length+20))))] TSO_ok hnt fun K hK=>?_;refine And.intro (dintE (by rw[IntWalk.i64_in _ (by omega)];simp[So.ss_len];omega)) ?_;refine hK _ _ ?_;clear hK K
   refine⟨⟨(P++So.ss Q1,Q2),hF.snoc (by rw[So.ss_len,h20]) (So.ss_srt _),So.Same.trans (by simpa using((So.Same.refl P).app ((So.ss_same Q1).app (So.Same.refl Q2)))) (by simpa using hS),by simp[So.ss_len];omega⟩,by simp;omega,VS.toA⟩
  ·have hins:=insSort_d P Q [] n P.length n (by simp;omega) rfl hl hM
   rw[List.append_nil,List.append_nil] at hins
   refine dw_seq ?_;refine dw_seq ?_;refine dwk [(13,.v (.bool false))] TSO_ok hnt fun K hK=>?_;refine And.intro auF ?_;refine hK _ _ ?_;clear hK K;refine dw_cond (t:=false) rfl ?_;rw[if_neg (by simp)];refine dw_exit ?_;refine dw_seq ?_;refine dwk [] TSO_ok hnt fun K hK=>?_;refine dcn (CallG.n (hins) _) ?_;refine hK _ _ ?_;clear hK K;refine dw_block ?_
   refine dw_loop (ι:={ p:Nat×List (Int×Tm) // 0<p.1∧p.1≤20+2 * n∧So.Ch p.1 p.2∧So.Same p.2 l∧p.2.length=n }) (fun p=>[(.t 0,.ps 0 n),(.t 1,.v (.int .i64 ↑n)),(.t 2,.fn 113 []),(.t 6,.v (.int .i64 ↑p.1.1)),(.r 0,.rp 79 5 (ePairs p.1.2))]) 1 (fun p=>n-p.1.1) (⟨(20,P++So.ss Q),by dsimp only;omega,by dsimp only;omega,hF.ch (.last _ (by rw[So.ss_len];omega) (So.ss_srt _)),((So.Same.refl P).app (So.ss_same Q)).trans hS,by simp[So.ss_len];omega⟩) (VS.toA) fun j=>?_
   clear hins hF hS hl hb P Q
   obtain⟨⟨s,L⟩,h0,hbd,hC,hS,hl⟩:=j
   dsimp only at h0 hbd hC hS hl ⊢
   by_cases hsn:s<n
   ·skip
    refine dw_seq ?_;refine dw_seq ?_;refine dwk [(30,.v (.bool true))] TSO_ok hnt fun K hK=>?_;refine And.intro auT ?_;refine hK _ _ ?_;clear hK K;refine dw_cond (t:=true) rfl ?_;rw[if_pos rfl];refine dw_skip ?_;refine dw_block ?_;refine dw_seq ?_;refine dwk [(32,.v (.int .i64 (↑(2 * s)))),(8,.v (.int .i64 ↑(0+2 * s)))] TSO_ok hnt fun K hK=>?_;refine And.intro auI ?_;refine And.intro (VLe.of_eq (by rw[Nat.zero_add])) ?_
    refine hK _ _ ?_;clear hK K;refine dw_seq ?_;refine dw_block ?_
    refine dw_loop (ι:={ p:List (Int×Tm)×List (Int×Tm) // So.Fu (2 * s) p.1∧So.Ch s p.2∧So.Same (p.1++p.2) l∧p.1.length+p.2.length=n }) (fun p=>[(.t 0,.ps 0 n),(.t 1,.v (.int .i64 ↑n)),(.t 2,.fn 113 []),(.t 6,.v (.int .i64 ↑s)),(.t 7,.v (.int .i64 ↑p.1.1.length)),(.t 8,.v (.int .i64 ↑(p.1.1.length+2 * s))),(.r 0,.rp 79 5 (ePairs (p.1.1++p.1.2)))]) 1 (fun p=>p.1.2.length) (⟨([],L),.nil,hC,hS,by simpa using hl⟩) ((VS.toK (by omega) (by repeat first | exact trivial | refine And.intro (And.intro (by first | rfl | simp[D.ok,D.oks,D.okss,D.okm,upto,keyOk,Nat.zero_add]) (by first | exact Or.inl rfl | exact Or.inr ⟨_,rfl,(by repeat first | exact VLe.refl _ | exact VLe.nil _ | exact VLe.untag _ _ _ | refine VLe.ag ?_ | refine VLe.tu ?_ | refine VLeL.cons ?_ ?_ | exact VLeL.nil),trivial⟩ | simp[get,Key.eq,Nat.zero_add])) ?_))) fun j=>?_
    clear hC hS hl L
    obtain⟨⟨P,Q⟩,hF,hC,hS,hl⟩:=j
    dsimp only at hF hC hS hl ⊢
    by_cases hb:P.length+2 * s≤n
    ·obtain⟨c,d,Q2,rfl,hc,hd,sc,sd,hC2⟩:=hC.two (by omega) h0
     rw[List.length_append,List.length_append] at hl
     have hm:=symM_d P c d Q2 n P.length (P.length+s) (P.length+2 * s) (by simp;omega) rfl (by omega) (by omega) (by omega) (by omega) sc sd hM
     have e1:P++(c++d++Q2)=P++c++d++Q2:=by simp
     rw[e1]
     refine dw_seq ?_;refine dw_seq ?_;refine dwk [(35,.v (.bool true))] TSO_ok hnt fun K hK=>?_;refine And.intro auT ?_;refine hK _ _ ?_;clear hK K;refine dw_cond (t:=true) rfl ?_;rw[if_pos rfl];refine dw_skip ?_;refine dw_block ?_;refine dw_seq ?_;refine dwk [(40,.v (.int .i64 (↑(P.length+s))))] TSO_ok hnt fun K hK=>?_;refine And.intro auI ?_;refine dcn (CallG.n (hm) _) ?_;refine hK _ _ ?_;clear hK K
     refine dw_seq ?_;refine dwk [(7,.v (.int .i64 ↑(P++So.ss (c++d)).length))] TSO_ok hnt fun K hK=>?_;refine And.intro (VLe.of_eq (by rw[List.length_append,So.ss_len,List.length_append,hc,hd,Nat.two_mul])) ?_;refine hK _ _ ?_;clear hK K;refine dwk [(47,.v (.int .i64 (↑(2 * s)))),(48,.v (.int .i64 (↑((P++So.ss (c++d)).length+2 * s))))] TSO_ok hnt fun K hK=>?_;refine And.intro auI ?_
     refine And.intro (dintE (by rw[IntWalk.i64_in _ (by omega)];simp[So.ss_len];omega)) ?_;refine hK _ _ ?_;clear hK K
     refine⟨⟨(P++So.ss (c++d),Q2),hF.snoc (by rw[So.ss_len,List.length_append];omega) (So.ss_srt _),hC2,So.Same.trans (by simpa using((So.Same.refl P).app ((So.ss_same (c++d)).app (So.Same.refl Q2)))) (by simpa using hS),by simp[So.ss_len];omega⟩,by simp;omega,VS.toA⟩
    ·by_cases hq:s<Q.length
     ·obtain⟨c,d,rfl,hc,sc,hC2⟩:=hC.more hq
      rw[List.length_append] at hl hq
      have sd:=hC2.one (by omega) h0
      have hm:=symM_d P c d [] n P.length (P.length+s) n (by simp;omega) rfl (by omega) (by omega) (by omega) (by omega) sc sd hM
      have e1:P++(c++d)=P++c++d:=by simp
      rw[List.append_nil,List.append_nil] at hm
      rw[e1]
      refine dw_seq ?_;refine dw_seq ?_;refine dwk [(35,.v (.bool false))] TSO_ok hnt fun K hK=>?_;refine And.intro auF ?_;refine hK _ _ ?_;clear hK K;refine dw_cond (t:=false) rfl ?_;rw[if_neg (by simp)];refine dw_exit ?_;refine dw_seq ?_;refine dw_seq ?_;refine dwk [(51,.v (.int .i64 (↑(P.length+s))))] TSO_ok hnt fun K hK=>?_;refine And.intro auI ?_;refine hK _ _ ?_;clear hK K
      refine dw_seq ?_;refine dwk [(54,.v (.bool true))] TSO_ok hnt fun K hK=>?_;refine And.intro auT ?_;refine hK _ _ ?_;clear hK K;refine dw_cond (t:=true) rfl ?_;rw[if_pos rfl];refine dwk [] TSO_ok hnt fun K hK=>?_;refine dcn (CallG.n (hm) _) ?_;refine hK _ _ ?_;clear hK K;refine dwk [(62,.v (.int .i64 (↑(2 * s))))] TSO_ok hnt fun K hK=>?_;refine And.intro auI ?_;refine hK _ _ ?_;clear hK K
      refine⟨⟨(2 * s,P++So.ss (c++d)),by dsimp only;omega,by dsimp only;omega,hF.ch (.last _ (by rw[So.ss_len,List.length_append];omega) (So.ss_srt _)),So.Same.trans ((So.Same.refl P).app (So.ss_same (c++d))) hS,by simp[So.ss_len];omega⟩,by first | omega | (dsimp only;omega),VS.toA⟩
     ·have sq:=hC.one (by omega) h0
      refine dw_seq ?_;refine dw_seq ?_;refine dwk [(35,.v (.bool false))] TSO_ok hnt fun K hK=>?_;refine And.intro auF ?_;refine hK _ _ ?_;clear hK K;refine dw_cond (t:=false) rfl ?_;rw[if_neg (by simp)];refine dw_exit ?_;refine dw_seq ?_;refine dw_seq ?_;refine dwk [(51,.v (.int .i64 (↑(P.length+s))))] TSO_ok hnt fun K hK=>?_;refine And.intro auI ?_;refine hK _ _ ?_;clear hK K
      refine dw_seq ?_;refine dwk [(54,.v (.bool false))] TSO_ok hnt fun K hK=>?_;refine And.intro auF ?_;refine hK _ _ ?_;clear hK K;refine dw_cond (t:=false) rfl ?_;rw[if_neg (by simp)];refine dw_skip ?_;refine dwk [(62,.v (.int .i64 (↑(2 * s))))] TSO_ok hnt fun K hK=>?_;refine And.intro auI ?_;refine hK _ _ ?_;clear hK K
      refine⟨⟨(2 * s,P++Q),by dsimp only;omega,by dsimp only;omega,hF.ch (.last _ (by omega) sq),hS,by simp;omega⟩,by first | omega | (dsimp only;omega),VS.toA⟩
   ·have hsrt:=hC.one (by omega) h0
    have hfin:So.ss l=L:=So.ss_eq hsrt hS
    rw[hfin]
    refine dw_seq ?_;refine dw_seq ?_;refine dwk [(30,.v (.bool false))] TSO_ok hnt fun K hK=>?_;refine And.intro auF ?_;refine hK _ _ ?_;clear hK K;refine dw_cond (t:=false) rfl ?_;rw[if_neg (by simp)];refine dw_exit ?_
    exact reta rfl
theorem stable_d (l:List (Int×Tm))(n:Nat)(hn:l.length=n)(hM:n≤1000000):
  CallG Tryz.prog 123 [.ps 0 n,.fn 113 []] (symR l) (symR (So.ss l)) (.tu []):=by
 have hs:=stableC_d l n hn hM
 refine callG_of_dw 1 9 [] TSO_ok (by kernel_rfl) Tryz.func123 rfl Tryz.ntmps123 rfl (by simp) ?dwords ?dbody
 case dwords=>simp[wordsG,rowN,rowsR,gkey,Key.eq,D.ok,D.oks,D.okss,rnames,inN,ckey,ePairs_ok]
 case dbody=>
  intro cx hnt hn0
  refine dwk [] TSO_ok hnt fun K hK=>?_;refine dcn (CallG.n (hs) _) ?_;refine hK _ _ ?_;clear hK K
  exact reta rfl
theorem sortedW_d (l:List (Int×Tm))(hl:l.length≤1000000)(ht:∀ p∈l,p.2.full≤900000∧p.2.Fit)(nm:Nat):CallN Tryz.prog 83 [.sl 5 (ePairs l) none] [] nm [(.r nm,.rw 79 5 l.length)] (.sl 5 (ePairs (So.ss l)) (some nm)):=by
 have hst:=stable_d l l.length rfl hl
 refine callRow_of_dw 25 [ResultVar.tmp 2] TSP_ok (by kernel_rfl) Tryz.func83 rfl Tryz.ntmps83 rfl (by simp) (by simp[D.ok,ePairs_ok]) (by simp[D.okss,ePairs_ok]) ?dbody nm
 case dbody=>
  intro cx hnt hn0
  refine dw_seq ?_;refine dwk [] TSP_ok hnt fun _ z9=>z9 _ _ ?_
  refine dw_cut (τ:=[(.t 0,.sl 5 (ePairs l) none),(.t 3,.v (.slice none 0 0))]) (N1:=0) ?_ ?_
  ·skip
   refine dwk [] TSP_ok hnt fun _ z9=>z9 _ _ ?_
   exact cut_ok (VS.toK (by omega) (by repeat first | exact trivial | refine And.intro (And.intro (by first | rfl | simp[D.ok,D.oks,D.okss,D.okm,upto,keyOk,argsT]) (by first | exact Or.inl rfl | exact Or.inr ⟨_,rfl,(by repeat first | exact VLe.refl _ | exact VLe.nil _ | exact VLe.untag _ _ _ | refine VLe.ag ?_ | refine VLe.tu ?_ | refine VLeL.cons ?_ ?_ | exact VLeL.nil),trivial⟩ | simp[get,Key.eq,argsT])) ?_))
  ·refine DW.vs (VS.rowPT (x:=3) (by rw[hnt];decide) 79 5 rfl) ?_
   refine dw_seq ?_;refine dw_seq ?_;refine dwk [(7,.v (.int .i64 (↑l.length)))] TSP_ok hnt fun K hK=>?_;refine And.intro (dintE (by rw[ePairs_len])) ?_;refine hK _ _ ?_;clear hK K;refine dw_block ?_
   refine dw_loop (ι:={ k:Nat // k≤l.length }) (fun k=>[(.t 3,.ps 0 k.1),(.t 6,.sl 5 (ePairs l) none),(.t 7,.v (.int .i64 ↑l.length)),(.t 8,.v (.int .i64 ↑k.1)),(.r 0,.rp 79 5 (ePairs (l.take k.1)))]) 1 (fun k=>l.length-k.1) (⟨0,Nat.zero_le _⟩) ((VS.toK (by omega) (by repeat first | exact trivial | refine And.intro (And.intro (by first | rfl | simp[D.ok,D.oks,D.okss,D.okm,upto,keyOk,argsT]) (by first | exact Or.inl rfl | exact Or.inr ⟨_,rfl,(by repeat first | exact VLe.refl _ | exact VLe.nil _ | exact VLe.untag _ _ _ | refine VLe.ag ?_ | refine VLe.tu ?_ | refine VLeL.cons ?_ ?_ | exact VLeL.nil),trivial⟩ | simp[get,Key.eq,argsT])) ?_))) fun k=>?_
   obtain⟨k,hk⟩:=k
   dsimp only
   by_cases hlt:k<l.length
   ·have hc:=copyW_d l[k].2 (ht _ (List.getElem_mem hlt)).1 (ht _ (List.getElem_mem hlt)).2
    rw[eTm_eq] at hc
    have htk:ePairs (l.take k)++[[.v (.int .i64 l[k].1),.sl 2 (eTys l[k].2.binds) none,.v (.int .i64 l[k].2.kind),.v (.int .i64 l[k].2.index),.sl 4 (eTms l[k].2.args) none]]=ePairs (l.take (k+1)):=by
     rw[List.take_add_one,List.getElem?_eq_getElem hlt,←ePair_eq]
     show List.map ePair (l.take k)++[ePair l[k]]=List.map ePair (l.take k++[l[k]])
     rw[List.map_append];rfl
    refine dw_seq ?_;refine dwk [(9,.v (.bool true))] TSP_ok hnt fun K hK=>?_;refine And.intro auT ?_;refine hK _ _ ?_;clear hK K;refine dw_seq ?_;refine dw_cond (t:=true) rfl ?_;rw[if_pos rfl];refine dw_skip ?_;refine dw_seq ?_;refine dw_block ?_;refine dw_seq ?_;refine dwk [(10,.q [.v (.int .i64 l[k].1),.sl 2 (eTys l[k].2.binds) none,.v (.int .i64 l[k].2.kind),.v (.int .i64 l[k].2.index),.sl 4 (eTms l[k].2.args) none])] TSP_ok hnt fun K hK=>?_
    refine And.intro (elo (ePairs_len l)) ?_;refine And.intro (elv (ePairs_getD l k) (ePair_eq _)) ?_;refine hK _ _ ?_;clear hK K;refine dwkD [(20,.ps 0 (k+1))] TSP_ok hnt fun K hK=>?_;refine dcl (hc) ?_;refine And.intro (⟨by simp[ePairs_len];omega,by simp[ePairs_len];omega⟩) ?_;refine And.intro (VLe.refl _) ?_;refine hK _ _ (by kernel_rfl) ?_;clear hK K
    rw[htk]
    refine dwk [(21,.v (.int .i64 (↑(k+1))))] TSP_ok hnt fun K hK=>?_;refine And.intro auI ?_;refine hK _ _ ?_;clear hK K
    refine⟨⟨k+1,by omega⟩,by first | omega | (dsimp only;omega),VS.toA⟩
   ·have hke:l.take k=l:=List.take_of_length_le (by omega)
    have hkl:k=l.length:=by omega
    rw[hke,hkl]
    refine dw_seq ?_;refine dwk [(9,.v (.bool false))] TSP_ok hnt fun K hK=>?_;refine And.intro auF ?_;refine hK _ _ ?_;clear hK K;refine dw_seq ?_;refine dw_cond (t:=false) rfl ?_;rw[if_neg (by simp)];refine dw_exit ?_;refine dw_seq ?_;refine dwk [] TSP_ok hnt fun K hK=>?_;refine dcn (CallG.n (hst) _) ?_;refine hK _ _ ?_;clear hK K;refine dw_seq ?_;refine dwk [] TSP_ok hnt fun K hK=>?_
    refine hK _ _ ?_;clear hK K
    refine dw_freeze (x:=2) (g:=0) rfl rfl (ePairs_len _ |>.trans (So.ss_len l)) ?_
    rw[show (ePairs (So.ss l)).length=l.length by rw[ePairs_len,So.ss_len]]
    refine dw_ret ?_
    exact⟨.inr rfl,0,rfl,rfl⟩
theorem sortedN_d (l:List (Int×Tm))(hl:l.length≤1000000)(ht:∀ p∈l,p.2.full≤80000∧p.2.Fit)(nm:Nat):CallN Tryz.prog 83 [.sl 5 (ePairs l) none] [] nm [(.r nm,.rw 79 5 l.length)] (.sl 5 (ePairs (So.ss l)) (some nm)):=
 sortedW_d l hl (fun p hp=>⟨by have:=(ht p hp).1;omega,(ht p hp).2⟩) nm
theorem sOf_d (l:List (Int×Tm))(hl:l.length≤1000000)(ht:∀ p∈l,p.2.full≤80000∧p.2.Fit):PureC Tryz.prog 104 [.sl 5 (ePairs l) none] (.tu [.sl 5 (if Sb.right (So.ss l) then ePairs (So.ss l) else []) none,.v (.int .i64 (if Sb.right (So.ss l) then 0 else 1))]):=by
 have hs:=sortedN_d l hl ht
 have hr:=sright_d (So.ss l) (by rw[So.ss_len];exact hl)
 cases h:Sb.right (So.ss l) with
 | true=>
  rw[h] at hr
  rw[if_pos rfl,if_pos rfl]
  refine calldw 0 11 [ResultVar.tmp 2,ResultVar.tmp 3] TSP_ok Tryz.func104 rfl Tryz.ntmps104 rfl fun cx hnt hn0=>?_
  ·skip
   refine dw_seq ?_;refine dwk [] TSP_ok hnt fun _ z9=>z9 _ _ ?_;refine dw_seq ?_;refine dwk [(6,.sl 5 (ePairs (So.ss l)) none)] TSP_ok hnt fun K hK=>?_;refine dcn (hs _) ?_;refine And.intro (VLe.untag _ _ _) ?_;refine hK _ _ ?_;clear hK K;refine dw_seq ?_;refine dw_seq ?_;refine dwk [] TSP_ok hnt fun K hK=>?_;refine dcl (hr) ?_;refine hK _ _ ?_;clear hK K;refine dw_cond (t:=false) rfl ?_
   rw[if_neg (by simp)];refine dw_skip ?_;refine dw_seq ?_;refine dwk [] TSP_ok hnt fun _ z9=>z9 _ _ ?_;refine dw_ret ?_
   exact reta rfl
 | false=>
  rw[h] at hr
  rw[if_neg (by simp),if_neg (by simp)]
  refine calldw 0 11 [ResultVar.tmp 2,ResultVar.tmp 3] TSP_ok Tryz.func104 rfl Tryz.ntmps104 rfl fun cx hnt hn0=>?_
  ·skip
   refine dw_seq ?_;refine dwk [] TSP_ok hnt fun _ z9=>z9 _ _ ?_;refine dw_seq ?_;refine dwk [(6,.sl 5 (ePairs (So.ss l)) none)] TSP_ok hnt fun K hK=>?_;refine dcn (hs _) ?_;refine And.intro (VLe.untag _ _ _) ?_;refine hK _ _ ?_;clear hK K;refine dw_seq ?_;refine dw_seq ?_;refine dwk [] TSP_ok hnt fun K hK=>?_;refine dcl (hr) ?_;refine hK _ _ ?_;clear hK K;refine dw_cond (t:=true) rfl ?_
   rw[if_pos rfl];refine dw_seq ?_;refine dwk [] TSP_ok hnt fun _ z9=>z9 _ _ ?_;refine dw_ret ?_
   exact reta rfl
namespace So
variable {α:Type} {f:α→Bool} {l:List α} {j:Nat}
end So
def del (m:List Int)(p:Int×Tm):Bool:=m.any fun x=>decide (x=p.1)
def kept (m:List Int)(l:List (Int×Tm)):List (Int×Tm):=l.filter fun p=>!del m p
def TRP_22:TI:=⟨1,false,[Value.slice none 0 0],[],some 103,24,5,none,false⟩
theorem TRP_22_ok:TypOk Tryz.prog 22 TRP_22:=by constructor <;> kernel_rfl
def TRP_103:TI:=⟨2,true,[Value.slice none 0 0,Value.int IntKind.i64 0],[(0,1,false),(1,1,false)],none,32,6,none,false⟩
theorem TRP_103_ok:TypOk Tryz.prog 103 TRP_103:=by constructor <;> kernel_rfl
def TRP:List (Nat×TI):=[(22,TRP_22),(103,TRP_103)]
theorem TRP_ok:TabOk Tryz.prog TRP:=(((TabOk.nil _).cons TRP_103_ok).cons TRP_22_ok)
namespace Pn
mutual
def pth:Tm→List Int→List (List Int)
 | .mk _ _ _ a,p=>p :: pths a p 0
def pths:List Tm→List Int→Nat→List (List Int)
 | [],_,_=>[]
 | t :: l,p,j=>pth t (p++[(j:Int)])++pths l p (j+1)
end
end Pn
def ePaths (l:List (List Int)):List (List D):=l.map fun p=>[.sl 1 (eIs p) none]
@[simp] theorem ePaths_ok (f g:Nat→Bool) (l:List (List Int)):D.okss f g (ePaths l)=true:=D.okss_map _ l fun l _=>by simp[D.oks,D.ok,eIs_ok]
theorem rbehind_d (l r:List Ty)(h:l.length+r.length≤900000):PureC Tryz.prog 48 [.sl 2 (eTys l) none,.sl 2 (eTys r) none] (.sl 2 (eTys (l++r)) none):=by
 rw[eTys_append]
 have e1:=eTys_len l
 have e2:=eTys_len r
 refine call_of_dw 0 12 [ResultVar.tmp 4] TRP_ok (by kernel_rfl) Tryz.func48 rfl Tryz.ntmps48 rfl (by simp) ?dwords ?dbody
 case dwords=>simp[wordsOk,D.ok,D.oks,D.okss,rnames,inN,ckey,eTys_ok,←eTys_append]
 case dbody=>
  intro cx hnt hn0
  refine dw_seq ?_;refine dwk [] TRP_ok hnt fun _ z9=>z9 _ _ ?_;refine dw_seq ?_;refine dwk [] TRP_ok hnt fun _ z9=>z9 _ _ ?_;refine dw_seq ?_;refine dwk [] TRP_ok hnt fun K hK=>?_;refine And.intro (by omega) ?_;refine hK _ _ ?_;clear hK K;refine dw_seq ?_;refine dwk [] TRP_ok hnt fun K hK=>?_;refine And.intro (⟨rfl,by omega⟩) ?_;refine hK _ _ ?_;clear hK K
  refine dw_ret ?_
  exact reta rfl
def TF4_3:TI:=⟨1,false,[Value.int IntKind.i64 0],[],none,8,2,none,false⟩
theorem TF4_3_ok:TypOk Tryz.prog 3 TF4_3:=by constructor <;> kernel_rfl
def TF4_103:TI:=⟨2,true,[Value.slice none 0 0,Value.int IntKind.i64 0],[(0,1,false),(1,1,false)],none,32,6,none,false⟩
theorem TF4_103_ok:TypOk Tryz.prog 103 TF4_103:=by constructor <;> kernel_rfl
def TF4_22:TI:=⟨1,false,[Value.slice none 0 0],[],some 103,24,5,none,false⟩
theorem TF4_22_ok:TypOk Tryz.prog 22 TF4_22:=by constructor <;> kernel_rfl
def TF4:List (Nat×TI):=[(3,TF4_3),(103,TF4_103),(22,TF4_22)]
theorem TF4_ok:TabOk Tryz.prog TF4:=((((TabOk.nil _).cons TF4_22_ok).cons TF4_103_ok).cons TF4_3_ok)
mutual
def fewT (most:Int):Ty→Int→Int
 | .mk a _,d=>if d≤0 then most+1 else fewTs most a (d-1) 1
def fewTs (most:Int):List Ty→Int→Int→Int
 | [],_,n=>n
 | t :: l,d,n=>if n≤most then fewTs most l d (n+fewT most t d) else n
end
theorem fewTs_le {most:Int}(hm:0≤most){B:Int}(hB:0≤B):∀ (l:List Ty) (d n:Int),(∀ t∈l,1≤fewT most t d∧fewT most t d≤B)→1≤n→n≤most+B→1≤fewTs most l d n∧fewTs most l d n≤most+B
 | [],d,n,_,h0,h1=>by rw[fewTs];exact⟨h0,h1⟩
 | t :: l,d,n,h,h0,h1=>by
  rw[fewTs]
  split
  ·have:=h t (by simp)
   exact fewTs_le hm hB l d _ (fun u hu=>h u (by simp[hu])) (by omega) (by omega)
  ·exact⟨h0,h1⟩
theorem fewT_le {most:Int}(hm:1≤most):∀ (k:Nat) (t:Ty) (d:Int),d≤k→1≤fewT most t d∧fewT most t d≤most * k+most+1
 | 0,.mk a b,d,hd=>by
  rw[fewT,if_pos (by omega)]
  have e:most * ((0:Nat):Int)=0:=Int.mul_zero _
  rw[e];omega
 | k+1,.mk a b,d,hd=>by
  rw[fewT]
  have e:most * ((k+1:Nat):Int)=most * (k:Int)+most:=by rw[Int.natCast_add,Int.mul_add];simp
  have h0:0≤most * (k:Int):=Int.mul_nonneg (by omega) (by omega)
  split
  ·rw[e];omega
  ·have:=fewTs_le (most:=most) (by omega) (B:=most * k+most+1) (by omega) a (d-1) 1 (fun t _=>fewT_le hm k t (d-1) (by omega)) (by omega) (by omega)
   rw[e];omega
set_option maxHeartbeats 1000000 in
theorem few4_d (most:Int)(h1:1≤most)(h2:most≤1000):∀ (t:Ty) (d:Int),-1000≤d→d≤1000→PureC Tryz.prog 106 [.ag (eTy t),.v (.int .i64 most),.v (.int .i64 d)] (.v (.int .i64 (fewT most t d))):=by
 intro t
 induction t using Ty.ind with
 | h a b ih=>
 intro d hd1 hd2
 refine call_of_dw 0 37 [ResultVar.tmp 6] TF4_ok (by kernel_rfl) Tryz.func106 rfl Tryz.ntmps106 rfl (by simp) ?dwords ?dbody
 case dwords=>simp[wordsOk,D.ok,D.oks,rnames,eTy_ok]
 case dbody=>
  intro cx hnt hn0
  refine dw_seq ?_;refine dwk [] TF4_ok hnt fun _ z9=>z9 _ _ ?_;refine dw_seq (dw_seq ?_)
  by_cases hd:d≤0
  ·have hf:fewT most (.mk a b) d=most+1:=by rw[fewT,if_pos hd]
   rw[hf]
   refine dwk [(10,.v (.bool true))] TF4_ok hnt fun K hK=>?_;refine And.intro (dtrue hd) ?_;refine hK _ _ ?_;clear hK K;refine dw_cond (t:=true) rfl ?_;rw[if_pos rfl];refine dw_seq ?_;refine dwk [(12,.v (.int .i64 (most+1)))] TF4_ok hnt fun K hK=>?_;refine And.intro (dintE (IntWalk.i64_in _ (by omega))) ?_;refine hK _ _ ?_;clear hK K;refine dw_ret ?_
   exact retv (N:=0) (.inr rfl) rfl (VLe.refl _) trivial
  ·have hf:fewT most (.mk a b) d=fewTs most a (d-1) 1:=by rw[fewT,if_neg hd]
   rw[hf]
   refine dwk [(10,.v (.bool false))] TF4_ok hnt fun K hK=>?_;refine And.intro (dfalse hd) ?_;refine hK _ _ ?_;clear hK K;refine dw_cond (t:=false) rfl ?_;rw[if_neg (by simp)];refine dw_skip ?_;refine dw_seq ?_;refine dwk [] TF4_ok hnt fun _ z9=>z9 _ _ ?_;refine dw_seq (dw_seq ?_);refine dwk [] TF4_ok hnt fun _ z9=>z9 _ _ ?_;refine dw_block ?_
   refine dw_loop (ι:={ p:Nat×Int // fewTs most (a.drop p.1) (d-1) p.2=fewTs most a (d-1) 1∧(p.1:Int)+1≤p.2∧p.2≤2000000∧p.1≤a.length }) (fun p=>[(.t 1,.v (.int .i64 most)),(.t 2,.v (.int .i64 d)),(.t 3,.p 0 0),(.t 7,.v (.int .i64 p.1.2)),(.t 8,.v (.int .i64 (p.1.1:Int))),(.c 0 0,.sl 2 (eTys a) none),(.c 0 1,.v (.int .i64 b))]) 1 (fun p=>a.length-p.1.1) ⟨(0,1),by simp,by simp,by simp,by simp⟩ VS.toA fun p=>?_
   obtain⟨⟨j,n⟩,hj1,hj2,hj3,hj4⟩:=p
   dsimp only at hj1 hj2 hj3 hj4 ⊢
   refine dw_seq (dw_seq ?_)
   by_cases hlt:j<a.length
   ·have hdr:a.drop j=a[j] :: a.drop (j+1):=List.drop_eq_getElem_cons hlt
    rw[hdr,fewTs] at hj1
    by_cases hn:n≤most
    ·rw[if_pos hn] at hj1
     have hih:=ih a[j] (List.getElem_mem hlt) (d-1) (by omega) (by omega)
     rw[eTy_eq] at hih
     have hbd:=fewT_le h1 1000 a[j] (d-1) (by omega)
     have hbd2:most * ((1000:Nat):Int)≤1000000:=by
      have:most * ((1000:Nat):Int)=1000 * most:=by rw[Int.mul_comm];rfl
      omega
     refine dwk [(17,.v (.bool true)),(21,.v (.bool true))] TF4_ok hnt fun K hK=>?_;refine And.intro (dtrue (by rw[eTys_len];omega)) ?_;refine And.intro (dtrue hn) ?_;refine hK _ _ ?_;clear hK K;refine dw_cond (t:=true) rfl ?_;rw[if_pos rfl];refine dw_skip ?_;refine dw_seq (dw_block ?_);refine dwk [(29,.q [.sl 2 (eTys a[j].args) none,.v (.int .i64 a[j].base)]),(33,.v (.int .i64 (d-1))),(35,.v (.int .i64 (n+fewT most a[j] (d-1))))] TF4_ok hnt fun K hK=>?_
     refine And.intro (⟨by omega,by rw[eTys_len];omega⟩) ?_;refine And.intro (VLe.of_eq (by rw[Int.toNat_natCast,eTys_getD a j hlt,eTy_eq])) ?_;refine And.intro (dintE (IntWalk.i64_in _ (by omega))) ?_;refine dcl (hih) ?_;refine And.intro (dintE (IntWalk.i64_in _ (by omega))) ?_;refine hK _ _ ?_;clear hK K;refine dwk [(24,.v (.int .i64 ((j+1:Nat):Int)))] TF4_ok hnt fun K hK=>?_;refine And.intro (dintE (by rw[IntWalk.i64_in _ (by omega)];omega)) ?_
     refine hK _ _ ?_;clear hK K
     exact⟨⟨(j+1,n+fewT most a[j] (d-1)),hj1,by dsimp only;omega,by dsimp only;omega,hlt⟩,by dsimp only;omega,VS.toA⟩
    ·rw[if_neg hn] at hj1
     rw[←hj1]
     refine dwk [(17,.v (.bool true)),(21,.v (.bool false))] TF4_ok hnt fun K hK=>?_;refine And.intro (dtrue (by rw[eTys_len];omega)) ?_;refine And.intro (dfalse hn) ?_;refine hK _ _ ?_;clear hK K;refine dw_cond (t:=false) rfl ?_;rw[if_neg (by simp)];refine dw_exit ?_;refine dw_seq ?_;refine dwk [] TF4_ok hnt fun _ z9=>z9 _ _ ?_;refine dw_ret ?_
     exact retv (N:=0) (.inr rfl) rfl (VLe.refl _) trivial
   ·rw[List.drop_eq_nil_of_le (by omega),fewTs] at hj1
    rw[←hj1]
    refine dwk [(17,.v (.bool false))] TF4_ok hnt fun K hK=>?_;refine And.intro (dfalse (by rw[eTys_len];omega)) ?_;refine hK _ _ ?_;clear hK K;refine dw_cond (t:=false) rfl ?_;rw[if_neg (by simp)];refine dw_exit ?_;refine dw_seq ?_;refine dwk [] TF4_ok hnt fun _ z9=>z9 _ _ ?_;refine dw_ret ?_
    exact retv (N:=0) (.inr rfl) rfl (VLe.refl _) trivial
theorem fewTs_size {most:Int}:∀ (l:List Ty) (d n:Int),(∀ t∈l,fewT most t d≤most→(t.size:Int)=fewT most t d)→(∀ t∈l,1≤fewT most t d)→1≤n→fewTs most l d n≤most→fewTs most l d n=n+Ty.sizes l
 | [],d,n,_,_,_,_=>by rw[fewTs];simp[Ty.sizes]
 | t :: l,d,n,h,h1,hn,hf=>by
  rw[fewTs] at hf ⊢
  split at hf
  ·rename_i hm
   rw[if_pos hm]
   have h2:=h1 t (by simp)
   have h3:=fewTs_size l d _ (fun u hu=>h u (by simp[hu])) (fun u hu=>h1 u (by simp[hu])) (by omega) hf
   have h4:fewT most t d≤most:=by omega
   have h5:=h t (by simp) h4
   rw[h3,Ty.sizes];omega
  ·rename_i hm;omega
theorem fewT_size {most:Int}(hm:1≤most):∀ (k:Nat) (t:Ty) (d:Int),d≤k→fewT most t d≤most→(t.size:Int)=fewT most t d
 | 0,.mk a b,d,hd,h=>by rw[fewT,if_pos (by omega)] at h;omega
 | k+1,.mk a b,d,hd,h=>by
  rw[fewT] at h ⊢
  split at h
  ·omega
  ·rename_i hp
   rw[if_neg hp]
   have:=fewTs_size a (d-1) 1 (fun t _=>fewT_size hm k t (d-1) (by omega)) (fun t _=>(fewT_le hm k t (d-1) (by omega)).1) (by omega) h
   rw[this,Ty.size_eq];omega
theorem Few4_d (most:Int)(h1:1≤most)(h2:most≤1000)(t:Ty)(d:Int)(h3:-1000≤d)(h4:d≤1000):PureC Tryz.prog 49 [.ag (eTy t),.v (.int .i64 most),.v (.int .i64 d)] (.v (.bool (decide (fewT most t d≤most)))):=by
 have h:=few4_d most h1 h2 t d h3 h4
 rw[eTy_eq] at h ⊢
 refine call_of_dw 0 13 [ResultVar.tmp 6] TF4_ok (by kernel_rfl) Tryz.func49 rfl Tryz.ntmps49 rfl (by simp) ?dwords ?dbody
 case dwords=>simp[wordsOk,D.ok,D.oks,rnames,eTys_ok]
 case dbody=>
  intro cx hnt hn0
  refine dw_seq ?_;refine dwk [] TF4_ok hnt fun _ z9=>z9 _ _ ?_;refine dw_seq ?_;refine dwk [] TF4_ok hnt fun K hK=>?_;refine dcl (h) ?_;refine hK _ _ ?_;clear hK K;refine dw_ret ?_
  exact retv (N:=0) (.inr rfl) rfl (VLe.refl _) trivial
set_option maxHeartbeats 1000000 in
theorem Size4_d:∀ (t:Ty) (_:t.size≤1000000),PureC Tryz.prog 105 [.ag (eTy t)] (.v (.int .i64 (t.size:Int))):=by
 intro t
 induction t using Ty.ind with
 | h a b ih=>
 intro hsz
 have hsz2:=Ty.size_eq a b
 refine call_of_dw 0 21 [ResultVar.tmp 2] TF4_ok (by kernel_rfl) Tryz.func105 rfl Tryz.ntmps105 rfl (by simp) ?dwords ?dbody
 case dwords=>simp[wordsOk,D.ok,D.oks,rnames,eTy_ok]
 case dbody=>
  intro cx hnt hn0
  refine dw_seq ?_;refine dwk [] TF4_ok hnt fun _ z9=>z9 _ _ ?_;refine dw_seq ?_;refine dwk [] TF4_ok hnt fun _ z9=>z9 _ _ ?_;refine dw_seq (dw_seq ?_);refine dwk [] TF4_ok hnt fun _ z9=>z9 _ _ ?_;refine dw_block ?_
  refine dw_loop (ι:={ j:Nat // j≤a.length }) (fun j=>[(.t 1,.p 0 0),(.t 3,.v (.int .i64 ((Ty.sizes (a.take j.1):Int)+1))),(.t 4,.v (.int .i64 (j.1:Int))),(.c 0 0,.sl 2 (eTys a) none),(.c 0 1,.v (.int .i64 b))]) 1 (fun j=>a.length-j.1) ⟨0,Nat.zero_le _⟩ VS.toA fun j=>?_
  obtain⟨j,hj⟩:=j
  dsimp only
  have hst:=Ty.sizes_take_le a j
  have hst2:=Ty.sizes_take_le a (j+1)
  have hla:=Ty.le_sizes a
  refine dw_seq (dw_seq ?_)
  by_cases hlt:j<a.length
  ·have hih:=ih a[j] (List.getElem_mem hlt) (by have:=Ty.size_get (b:=b) j hlt;omega)
   rw[eTy_eq] at hih
   have htk:=Ty.sizes_take a j hlt
   refine dwk [(9,.v (.bool true))] TF4_ok hnt fun K hK=>?_;refine And.intro (dtrue (by rw[eTys_len];omega)) ?_;refine hK _ _ ?_;clear hK K;refine dw_cond (t:=true) rfl ?_;rw[if_pos rfl];refine dw_skip ?_;refine dw_seq (dw_block ?_);refine dwk [(16,.q [.sl 2 (eTys a[j].args) none,.v (.int .i64 a[j].base)]),(19,.v (.int .i64 ((Ty.sizes (a.take (j+1)):Int)+1)))] TF4_ok hnt fun K hK=>?_
   refine And.intro (⟨by omega,by rw[eTys_len];omega⟩) ?_;refine And.intro (VLe.of_eq (by rw[Int.toNat_natCast,eTys_getD a j hlt,eTy_eq])) ?_;refine dcl (hih) ?_;refine And.intro (dintE (by rw[IntWalk.i64_in _ (by omega),htk];omega)) ?_;refine hK _ _ ?_;clear hK K;refine dwk [(11,.v (.int .i64 ((j+1:Nat):Int)))] TF4_ok hnt fun K hK=>?_;refine And.intro (dintE (by rw[IntWalk.i64_in _ (by omega)];omega)) ?_
   refine hK _ _ ?_;clear hK K
   exact⟨⟨j+1,hlt⟩,by dsimp only;omega,VS.toA⟩
  ·skip
   refine dwk [(9,.v (.bool false))] TF4_ok hnt fun K hK=>?_;refine And.intro (dfalse (by rw[eTys_len];omega)) ?_;refine hK _ _ ?_;clear hK K;refine dw_cond (t:=false) rfl ?_;rw[if_neg (by simp)];refine dw_exit ?_;refine dw_seq ?_
   have hsz3:((Ty.mk a b).size:Int)=(Ty.sizes (a.take j):Int)+1:=by rw[List.take_of_length_le (by omega),hsz2];omega
   rw[hsz3]
   refine dwk [] TF4_ok hnt fun _ z9=>z9 _ _ ?_;refine dw_ret ?_
   exact retv (N:=0) (.inr rfl) rfl (VLe.refl _) trivial
def TF6_3:TI:=⟨1,false,[Value.int IntKind.i64 0],[],none,8,2,none,false⟩
theorem TF6_3_ok:TypOk Tryz.prog 3 TF6_3:=by constructor <;> kernel_rfl
def TF6_29:TI:=⟨4,true,[Value.slice none 0 0,Value.int IntKind.i64 0,Value.int IntKind.i64 0,Value.slice none 0 0],[(0,1,false),(1,2,true),(3,1,false)],none,64,6,none,false⟩
theorem TF6_29_ok:TypOk Tryz.prog 29 TF6_29:=by constructor <;> kernel_rfl
def TF6_22:TI:=⟨1,false,[Value.slice none 0 0],[],some 103,24,5,none,false⟩
theorem TF6_22_ok:TypOk Tryz.prog 22 TF6_22:=by constructor <;> kernel_rfl
def TF6_27:TI:=⟨1,false,[Value.slice none 0 0],[],some 29,24,5,none,false⟩
theorem TF6_27_ok:TypOk Tryz.prog 27 TF6_27:=by constructor <;> kernel_rfl
def TF6_103:TI:=⟨2,true,[Value.slice none 0 0,Value.int IntKind.i64 0],[(0,1,false),(1,1,false)],none,32,6,none,false⟩
theorem TF6_103_ok:TypOk Tryz.prog 103 TF6_103:=by constructor <;> kernel_rfl
def TF6:List (Nat×TI):=[(3,TF6_3),(29,TF6_29),(22,TF6_22),(27,TF6_27),(103,TF6_103)]
theorem TF6_ok:TabOk Tryz.prog TF6:=((((((TabOk.nil _).cons TF6_103_ok).cons TF6_27_ok).cons TF6_22_ok).cons TF6_29_ok).cons TF6_3_ok)
def fewB1 (most d:Int):List Ty→Int→Option Int
 | [],n=>some n
 | t :: l,n=>if n≤most then (if fewT most t d≤most then fewB1 most d l (n+t.size) else none) else some n
mutual
def fewM (most:Int):Tm→Int→Int
 | .mk bs _ _ a,d=>if d≤0 then most+1 else match fewB1 most d bs 1 with
  | none=>most+1
  | some n=>fewMs most a (d-1) n
def fewMs (most:Int):List Tm→Int→Int→Int
 | [],_,n=>n
 | t :: l,d,n=>if n≤most then fewMs most l d (n+fewM most t d) else n
end
theorem fewB1_le {most d:Int}(hm:1≤most)(hd:d≤1000):∀ (l:List Ty) (n:Int),1≤n→n≤2 * most→∀ r,fewB1 most d l n=some r→1≤r∧r≤2 * most
 | [],n,h0,h1,r,h=>by rw[fewB1] at h;cases h;exact⟨h0,h1⟩
 | t :: l,n,h0,h1,r,h=>by
  rw[fewB1] at h
  split at h
  ·split at h
   ·rename_i h2
    have:=fewT_size hm 1000 t d hd h2
    have:=(fewT_le hm 1000 t d hd).1
    exact fewB1_le hm hd l _ (by omega) (by omega) r h
   ·cases h
  ·cases h;exact⟨h0,h1⟩
theorem fewMs_le {most:Int}(hm:1≤most){B:Int}(hB:most≤B):∀ (l:List Tm) (d n:Int),(∀ t∈l,1≤fewM most t d∧fewM most t d≤B)→1≤n→n≤most+B→1≤fewMs most l d n∧fewMs most l d n≤most+B
 | [],d,n,_,h0,h1=>by rw[fewMs];exact⟨h0,h1⟩
 | t :: l,d,n,h,h0,h1=>by
  rw[fewMs]
  split
  ·have:=h t (by simp)
   exact fewMs_le hm hB l d _ (fun u hu=>h u (by simp[hu])) (by omega) (by omega)
  ·exact⟨h0,h1⟩
theorem fewM_le {most:Int}(hm:1≤most):∀ (k:Nat) (t:Tm) (d:Int),k≤1000→d≤k→1≤fewM most t d∧fewM most t d≤most * k+most+1
 | 0,.mk bs kd i a,d,hk,hd=>by
  rw[fewM,if_pos (by omega)]
  have e:most * ((0:Nat):Int)=0:=Int.mul_zero _
  rw[e];omega
 | k+1,.mk bs kd i a,d,hk,hd=>by
  rw[fewM]
  have e:most * ((k+1:Nat):Int)=most * (k:Int)+most:=by rw[Int.natCast_add,Int.mul_add];simp
  have h0:0≤most * (k:Int):=Int.mul_nonneg (by omega) (by omega)
  rw[e]
  split
  ·omega
  ·cases hb:fewB1 most d bs 1 with
   | none=>dsimp only;omega
   | some n=>
    have hn:=fewB1_le hm (by omega) bs 1 (by omega) (by omega) n hb
    have:=fewMs_le hm (B:=most * k+most+1) (by omega) a (d-1) n (fun t _=>fewM_le hm k t (d-1) (by omega) (by omega)) hn.1 (by omega)
    dsimp only
    omega
set_option maxHeartbeats 4000000 in
theorem few6_d (most:Int)(h1:1≤most)(h2:most≤1000):∀ (t:Tm) (d:Int),-1000≤d→d≤1000→PureC Tryz.prog 47 [.ag (eTm t),.v (.int .i64 most),.v (.int .i64 d)] (.v (.int .i64 (fewM most t d))):=by
 intro t
 induction t using Tm.ind with
 | h bs k i a ih=>
 intro d hd1 hd2
 obtain⟨V,hV⟩:∃ V,fewM most (.mk bs k i a) d=V:=⟨_,rfl⟩
 rw[hV]
 rw[fewM] at hV
 refine call_of_dw 0 69 [ResultVar.tmp 6] TF6_ok (by kernel_rfl) Tryz.func47 rfl Tryz.ntmps47 rfl (by simp) ?dwords ?dbody
 case dwords=>simp[wordsOk,D.ok,D.oks,rnames,eTm_ok]
 case dbody=>
  intro cx hnt hn0
  refine dw_seq ?_;refine dwk [] TF6_ok hnt fun _ z9=>z9 _ _ ?_;refine dw_seq (dw_seq ?_)
  by_cases hd:d≤0
  ·rw[if_pos hd] at hV
   subst hV
   refine dwk [(11,.v (.bool true))] TF6_ok hnt fun K hK=>?_;refine And.intro (dtrue hd) ?_;refine hK _ _ ?_;clear hK K;refine dw_cond (t:=true) rfl ?_;rw[if_pos rfl];refine dw_seq ?_;refine dwk [(13,.v (.int .i64 (most+1)))] TF6_ok hnt fun K hK=>?_;refine And.intro (dintE (IntWalk.i64_in _ (by omega))) ?_;refine hK _ _ ?_;clear hK K;refine dw_ret ?_
   exact retv (N:=0) (.inr rfl) rfl (VLe.refl _) trivial
  ·rw[if_neg hd] at hV;refine dwk [(11,.v (.bool false))] TF6_ok hnt fun K hK=>?_;refine And.intro (dfalse hd) ?_;refine hK _ _ ?_;clear hK K;refine dw_cond (t:=false) rfl ?_;rw[if_neg (by simp)];refine dw_skip ?_;refine dw_seq ?_;refine dwk [] TF6_ok hnt fun _ z9=>z9 _ _ ?_
   refine dw_cutE (ι:={ n:Int // 1≤n∧n≤2 * most∧V=fewMs most a (d-1) n }) (fun n=>[(.t 1,.v (.int .i64 most)),(.t 2,.v (.int .i64 d)),(.t 3,.p 0 0),(.t 7,.v (.int .i64 n.1)),(.c 0 0,.sl 2 (eTys bs) none),(.c 0 1,.v (.int .i64 k)),(.c 0 2,.v (.int .i64 i)),(.c 0 3,.sl 4 (eTms a) none)]) 1 ?_ fun n=>?_
   ·refine dw_seq ?_;refine dwk [] TF6_ok hnt fun _ z9=>z9 _ _ ?_;refine dw_block ?_
    refine dw_loop (ι:={ p:Nat×Int // fewB1 most d (bs.drop p.1) p.2=fewB1 most d bs 1∧(p.1:Int)+1≤p.2∧p.2≤2 * most∧p.1≤bs.length }) (fun p=>[(.t 1,.v (.int .i64 most)),(.t 2,.v (.int .i64 d)),(.t 3,.p 0 0),(.t 7,.v (.int .i64 p.1.2)),(.t 8,.v (.int .i64 (p.1.1:Int))),(.c 0 0,.sl 2 (eTys bs) none),(.c 0 1,.v (.int .i64 k)),(.c 0 2,.v (.int .i64 i)),(.c 0 3,.sl 4 (eTms a) none)]) 1 (fun p=>bs.length-p.1.1) ⟨(0,1),by simp,by simp,by dsimp only;omega,by simp⟩ VS.toA fun p=>?_
    obtain⟨⟨j,n⟩,hj1,hj2,hj3,hj4⟩:=p
    dsimp only at hj1 hj2 hj3 hj4 ⊢
    refine dw_seq (dw_seq ?_)
    by_cases hlt:j<bs.length
    ·have hdr:bs.drop j=bs[j] :: bs.drop (j+1):=List.drop_eq_getElem_cons hlt
     rw[hdr,fewB1] at hj1
     by_cases hn:n≤most
     ·rw[if_pos hn] at hj1
      have hF:=Few4_d most h1 h2 bs[j] d hd1 hd2
      rw[eTy_eq] at hF
      have hq:(eTys bs).getD (j:Int).toNat []=[.sl 2 (eTys bs[j].args) none,.v (.int .i64 bs[j].base)]:=by rw[Int.toNat_natCast,eTys_getD bs j hlt,eTy_eq]
      have hb:(0:Int)≤(j:Int)∧(j:Int)<((eTys bs).length:Int):=⟨by omega,by rw[eTys_len];omega⟩
      refine dwk [(18,.v (.bool true)),(22,.v (.bool true))] TF6_ok hnt fun K hK=>?_;refine And.intro (dtrue (by rw[eTys_len];omega)) ?_;refine And.intro (dtrue hn) ?_;refine hK _ _ ?_;clear hK K;refine dw_cond (t:=true) rfl ?_;rw[if_pos rfl];refine dw_skip ?_;refine dw_seq (dw_block ?_);refine dw_seq (dw_seq ?_)
      by_cases hff:fewT most bs[j] d≤most
      ·rw[if_pos hff] at hj1
       rw[decide_eq_true hff] at hF
       have hs1:=fewT_size h1 1000 bs[j] d (by omega) hff
       have hs2:=(fewT_le h1 1000 bs[j] d (by omega)).1
       have hS:=Size4_d bs[j] (by omega)
       rw[eTy_eq] at hS
       refine dwk [(29,.q [.sl 2 (eTys bs[j].args) none,.v (.int .i64 bs[j].base)])] TF6_ok hnt fun K hK=>?_;refine And.intro (hb) ?_;refine And.intro (VLe.of_eq (by rw[hq])) ?_;refine dcl (hF) ?_;refine hK _ _ ?_;clear hK K;refine dw_cond (t:=false) rfl ?_;rw[if_neg (by simp)];refine dw_skip ?_;refine dwk [(41,.q [.sl 2 (eTys bs[j].args) none,.v (.int .i64 bs[j].base)]),(44,.v (.int .i64 (n+(bs[j].size:Int))))] TF6_ok hnt fun K hK=>?_
       refine And.intro (hb) ?_;refine And.intro (VLe.of_eq (by rw[hq])) ?_;refine dcl (hS) ?_;refine And.intro (dintE (IntWalk.i64_in _ (by omega))) ?_;refine hK _ _ ?_;clear hK K;refine dwk [(25,.v (.int .i64 ((j+1:Nat):Int)))] TF6_ok hnt fun K hK=>?_;refine And.intro (dintE (by rw[IntWalk.i64_in _ (by omega)];omega)) ?_;refine hK _ _ ?_;clear hK K
       exact⟨⟨(j+1,n+(bs[j].size:Int)),hj1,by dsimp only;omega,by dsimp only;omega,hlt⟩,by dsimp only;omega,VS.toA⟩
      ·rw[if_neg hff] at hj1
       rw[decide_eq_false hff] at hF
       rw[←hj1] at hV
       dsimp only at hV
       subst hV
       refine dwk [(29,.q [.sl 2 (eTys bs[j].args) none,.v (.int .i64 bs[j].base)])] TF6_ok hnt fun K hK=>?_;refine And.intro (hb) ?_;refine And.intro (VLe.of_eq (by rw[hq])) ?_;refine dcl (hF) ?_;refine hK _ _ ?_;clear hK K;refine dw_cond (t:=true) rfl ?_;rw[if_pos rfl];refine dw_seq ?_;refine dwk [(36,.v (.int .i64 (most+1)))] TF6_ok hnt fun K hK=>?_;refine And.intro (dintE (IntWalk.i64_in _ (by omega))) ?_
       refine hK _ _ ?_;clear hK K;refine dw_ret ?_
       exact retv (N:=0) (.inr rfl) rfl (VLe.refl _) trivial
     ·rw[if_neg hn] at hj1
      rw[←hj1] at hV
      dsimp only at hV
      refine dwk [(18,.v (.bool true)),(22,.v (.bool false))] TF6_ok hnt fun K hK=>?_;refine And.intro (dtrue (by rw[eTys_len];omega)) ?_;refine And.intro (dfalse hn) ?_;refine hK _ _ ?_;clear hK K;refine dw_cond (t:=false) rfl ?_;rw[if_neg (by simp)];refine dw_exit ?_
      exact cutE_ok (Q:=RetOk TF6 [ResultVar.tmp 6] (.v (.int .i64 V)) []) ⟨n,by omega,hj3,hV.symm⟩ VS.toA
    ·rw[List.drop_eq_nil_of_le (by omega),fewB1] at hj1
     rw[←hj1] at hV
     dsimp only at hV
     refine dwk [(18,.v (.bool false))] TF6_ok hnt fun K hK=>?_;refine And.intro (dfalse (by rw[eTys_len];omega)) ?_;refine hK _ _ ?_;clear hK K;refine dw_cond (t:=false) rfl ?_;rw[if_neg (by simp)];refine dw_exit ?_
     exact cutE_ok (Q:=RetOk TF6 [ResultVar.tmp 6] (.v (.int .i64 V)) []) ⟨n,by omega,hj3,hV.symm⟩ VS.toA
   ·obtain⟨n0,hn1,hn2,hVn⟩:=n
    dsimp only
    rw[hVn]
    refine dw_seq (dw_seq ?_);refine dwk [] TF6_ok hnt fun _ z9=>z9 _ _ ?_;refine dw_block ?_
    refine dw_loop (ι:={ p:Nat×Int // fewMs most (a.drop p.1) (d-1) p.2=fewMs most a (d-1) n0∧(p.1:Int)+1≤p.2∧p.2≤2000000∧p.1≤a.length }) (fun p=>[(.t 1,.v (.int .i64 most)),(.t 2,.v (.int .i64 d)),(.t 3,.p 0 0),(.t 7,.v (.int .i64 p.1.2)),(.t 9,.v (.int .i64 (p.1.1:Int))),(.c 0 0,.sl 2 (eTys bs) none),(.c 0 1,.v (.int .i64 k)),(.c 0 2,.v (.int .i64 i)),(.c 0 3,.sl 4 (eTms a) none)]) 1 (fun p=>a.length-p.1.1) ⟨(0,n0),by simp,by dsimp only;omega,by dsimp only;omega,by simp⟩ VS.toA fun p=>?_
    obtain⟨⟨j,n⟩,hj1,hj2,hj3,hj4⟩:=p
    dsimp only at hj1 hj2 hj3 hj4 ⊢
    refine dw_seq (dw_seq ?_)
    by_cases hlt:j<a.length
    ·have hdr:a.drop j=a[j] :: a.drop (j+1):=List.drop_eq_getElem_cons hlt
     rw[hdr,fewMs] at hj1
     by_cases hn:n≤most
     ·rw[if_pos hn] at hj1
      have hih:=ih a[j] (List.getElem_mem hlt) (d-1) (by omega) (by omega)
      rw[eTm_eq] at hih
      have hbd:=fewM_le h1 1000 a[j] (d-1) (by omega) (by omega)
      have hbd2:most * ((1000:Nat):Int)≤1000000:=by
       have:most * ((1000:Nat):Int)=1000 * most:=by rw[Int.mul_comm];rfl
       omega
      refine dwk [(49,.v (.bool true)),(53,.v (.bool true))] TF6_ok hnt fun K hK=>?_;refine And.intro (dtrue (by rw[eTms_len];omega)) ?_;refine And.intro (dtrue hn) ?_;refine hK _ _ ?_;clear hK K;refine dw_cond (t:=true) rfl ?_;rw[if_pos rfl];refine dw_skip ?_;refine dw_seq (dw_block ?_);refine dwk [(61,.q [.sl 2 (eTys a[j].binds) none,.v (.int .i64 a[j].kind),.v (.int .i64 a[j].index),.sl 4 (eTms a[j].args) none]),(65,.v (.int .i64 (d-1))),(67,.v (.int .i64 (n+fewM most a[j] (d-1))))] TF6_ok hnt fun K hK=>?_
      refine And.intro (⟨by omega,by rw[eTms_len];omega⟩) ?_;refine And.intro (VLe.of_eq (by rw[Int.toNat_natCast,eTms_getD a j hlt,eTm_eq])) ?_;refine And.intro (dintE (IntWalk.i64_in _ (by omega))) ?_;refine dcl (hih) ?_;refine And.intro (dintE (IntWalk.i64_in _ (by omega))) ?_;refine hK _ _ ?_;clear hK K;refine dwk [(56,.v (.int .i64 ((j+1:Nat):Int)))] TF6_ok hnt fun K hK=>?_;refine And.intro (dintE (by rw[IntWalk.i64_in _ (by omega)];omega)) ?_
      refine hK _ _ ?_;clear hK K
      exact⟨⟨(j+1,n+fewM most a[j] (d-1)),hj1,by dsimp only;omega,by dsimp only;omega,hlt⟩,by dsimp only;omega,VS.toA⟩
     ·rw[if_neg hn] at hj1
      rw[←hj1]
      refine dwk [(49,.v (.bool true)),(53,.v (.bool false))] TF6_ok hnt fun K hK=>?_;refine And.intro (dtrue (by rw[eTms_len];omega)) ?_;refine And.intro (dfalse hn) ?_;refine hK _ _ ?_;clear hK K;refine dw_cond (t:=false) rfl ?_;rw[if_neg (by simp)];refine dw_exit ?_;refine dw_seq ?_;refine dwk [] TF6_ok hnt fun _ z9=>z9 _ _ ?_;refine dw_ret ?_
      exact retv (N:=0) (.inr rfl) rfl (VLe.refl _) trivial
    ·rw[List.drop_eq_nil_of_le (by omega),fewMs] at hj1
     rw[←hj1]
     refine dwk [(49,.v (.bool false))] TF6_ok hnt fun K hK=>?_;refine And.intro (dfalse (by rw[eTms_len];omega)) ?_;refine hK _ _ ?_;clear hK K;refine dw_cond (t:=false) rfl ?_;rw[if_neg (by simp)];refine dw_exit ?_;refine dw_seq ?_;refine dwk [] TF6_ok hnt fun _ z9=>z9 _ _ ?_;refine dw_ret ?_
     exact retv (N:=0) (.inr rfl) rfl (VLe.refl _) trivial
theorem Few6_d (most:Int)(h1:1≤most)(h2:most≤1000)(t:Tm)(d:Int)(h3:-1000≤d)(h4:d≤1000):PureC Tryz.prog 8 [.ag (eTm t),.v (.int .i64 most),.v (.int .i64 d)] (.v (.bool (decide (fewM most t d≤most)))):=by
 have h:=few6_d most h1 h2 t d h3 h4
 rw[eTm_eq] at h ⊢
 refine call_of_dw 0 13 [ResultVar.tmp 6] TF6_ok (by kernel_rfl) Tryz.func8 rfl Tryz.ntmps8 rfl (by simp) ?dwords ?dbody
 case dwords=>simp[wordsOk,D.ok,D.oks,rnames,eTys_ok,eTms_ok]
 case dbody=>
  intro cx hnt hn0
  refine dw_seq ?_;refine dwk [] TF6_ok hnt fun _ z9=>z9 _ _ ?_;refine dw_seq ?_;refine dwk [] TF6_ok hnt fun K hK=>?_;refine dcl (h) ?_;refine hK _ _ ?_;clear hK K;refine dw_ret ?_
  exact retv (N:=0) (.inr rfl) rfl (VLe.refl _) trivial
def fewB (t:Tm):Bool:=decide (fewM 150 t 70≤150)
set_option maxHeartbeats 1000000 in
theorem lawFew_d (l:List Tm)(hl:l.length≤1000000):PureC Tryz.prog 77 [.sl 4 (eTms l) none] (.v (.bool (l.all fewB))):=by
 refine call_of_dw 0 16 [ResultVar.tmp 2] TF6_ok (by kernel_rfl) Tryz.func77 rfl Tryz.ntmps77 rfl (by simp) ?dwords ?dbody
 case dwords=>simp[wordsOk,D.ok,D.oks,rnames,eTms_ok]
 case dbody=>
  intro cx hnt hn0
  refine dw_seq ?_;refine dwk [] TF6_ok hnt fun _ z9=>z9 _ _ ?_;refine dw_seq (dw_seq ?_);refine dwk [] TF6_ok hnt fun _ z9=>z9 _ _ ?_;refine dw_block ?_
  refine dw_loop (ι:={ j:Nat // ∀ i (h:i<l.length),i<j→fewB l[i]=true }) (fun j=>[(.t 0,.sl 4 (eTms l) none),(.t 3,.v (.int .i64 (j.1:Int)))]) 1 (fun j=>l.length-j.1) ⟨0,fun i h1 h2=>by omega⟩ VS.toA fun j=>?_
  obtain⟨j,hj⟩:=j
  dsimp only
  refine dw_seq (dw_seq ?_)
  by_cases hlt:j<l.length
  ·have hi:=Few6_d 150 (by decide) (by decide) l[j] 70 (by decide) (by decide)
   rw[eTm_eq] at hi
   have hq:(eTms l).getD (j:Int).toNat []=[.sl 2 (eTys l[j].binds) none,.v (.int .i64 l[j].kind),.v (.int .i64 l[j].index),.sl 4 (eTms l[j].args) none]:=by rw[Int.toNat_natCast,eTms_getD l j hlt,eTm_eq]
   have hb:(0:Int)≤(j:Int)∧(j:Int)<((eTms l).length:Int):=⟨by omega,by rw[eTms_len];omega⟩
   refine dwk [(7,.v (.bool true))] TF6_ok hnt fun K hK=>?_;refine And.intro (dtrue (by rw[eTms_len];omega)) ?_;refine hK _ _ ?_;clear hK K;refine dw_cond (t:=true) rfl ?_;rw[if_pos rfl];refine dw_skip ?_;refine dw_seq (dw_block (dw_seq ?_))
   cases hf:fewB l[j] with
   | true=>
    have hf2:=hf
    unfold fewB at hf2
    rw[hf2] at hi
    refine dwk [(12,.q [.sl 2 (eTys l[j].binds) none,.v (.int .i64 l[j].kind),.v (.int .i64 l[j].index),.sl 4 (eTms l[j].args) none])] TF6_ok hnt fun K hK=>?_;refine And.intro (hb) ?_;refine And.intro (VLe.of_eq (by rw[hq])) ?_;refine dcl (hi) ?_;refine hK _ _ ?_;clear hK K;refine dw_cond (t:=false) rfl ?_;rw[if_neg (by simp)];refine dw_skip ?_;refine dwk [(9,.v (.int .i64 ((j+1:Nat):Int)))] TF6_ok hnt fun K hK=>?_
    refine And.intro (dintE (by rw[IntWalk.i64_in _ (by omega)];omega)) ?_;refine hK _ _ ?_;clear hK K
    refine⟨⟨j+1,fun i h1 h2=>?_⟩,by dsimp only;omega,VS.toA⟩
    by_cases he:i=j
    ·subst he;exact hf
    ·exact hj i h1 (by omega)
   | false=>
    have hf2:=hf
    unfold fewB at hf2
    rw[hf2] at hi
    have ha:l.all fewB=false:=by rw[List.all_eq_false];exact⟨l[j],List.getElem_mem hlt,by rw[hf];simp⟩
    rw[ha]
    refine dwk [(12,.q [.sl 2 (eTys l[j].binds) none,.v (.int .i64 l[j].kind),.v (.int .i64 l[j].index),.sl 4 (eTms l[j].args) none])] TF6_ok hnt fun K hK=>?_;refine And.intro (hb) ?_;refine And.intro (VLe.of_eq (by rw[hq])) ?_;refine dcl (hi) ?_;refine hK _ _ ?_;clear hK K;refine dw_cond (t:=true) rfl ?_;rw[if_pos rfl];refine dw_seq ?_;refine dwk [] TF6_ok hnt fun _ z9=>z9 _ _ ?_
    refine dw_ret ?_
    exact retv (N:=0) (.inr rfl) rfl (VLe.refl _) trivial
  ·have ha:l.all fewB=true:=by
    rw[List.all_eq_true]
    intro t ht
    obtain⟨i,hi,rfl⟩:=List.getElem_of_mem ht
    exact hj i hi (by omega)
   rw[ha]
   refine dwk [(7,.v (.bool false))] TF6_ok hnt fun K hK=>?_;refine And.intro (dfalse (by rw[eTms_len];omega)) ?_;refine hK _ _ ?_;clear hK K;refine dw_cond (t:=false) rfl ?_;rw[if_neg (by simp)];refine dw_exit ?_;refine dw_seq ?_;refine dwk [] TF6_ok hnt fun _ z9=>z9 _ _ ?_;refine dw_ret ?_
   exact retv (N:=0) (.inr rfl) rfl (VLe.refl _) trivial
theorem fewB1_full {most d:Int}(hm:1≤most)(hd:d≤1000):∀ (l:List Ty) (n r:Int),fewB1 most d l n=some r→r≤most→r=n+Ty.sizes l
 | [],n,r,h,_=>by rw[fewB1] at h;cases h;simp[Ty.sizes]
 | t :: l,n,r,h,hr=>by
  rw[fewB1] at h
  split at h
  ·split at h
   ·have:=fewB1_full hm hd l _ r h hr
    rw[this,Ty.sizes];omega
   ·cases h
  ·cases h;omega
theorem fewMs_full {most:Int}:∀ (l:List Tm) (d n:Int),(∀ t∈l,fewM most t d≤most→(t.full:Int)=fewM most t d∧(t.depth:Int)≤d)→(∀ t∈l,1≤fewM most t d)→1≤n→fewMs most l d n≤most→fewMs most l d n=n+Tm.fulls l∧(∀ t∈l,(t.depth:Int)≤d)∧n≤most
 | [],d,n,_,_,_,h=>by rw[fewMs] at h ⊢;exact⟨by simp[Tm.fulls],nofun,h⟩
 | t :: l,d,n,h,h1,hn,hf=>by
  rw[fewMs] at hf ⊢
  split at hf
  ·rename_i hm
   rw[if_pos hm]
   have h2:=h1 t (by simp)
   obtain⟨h3,h4,h5⟩:=fewMs_full l d _ (fun u hu=>h u (by simp[hu])) (fun u hu=>h1 u (by simp[hu])) (by omega) hf
   obtain⟨h6,h7⟩:=h t (by simp) (by omega)
   refine⟨by rw[h3,Tm.fulls];omega,fun u hu=>?_,hm⟩
   rcases List.mem_cons.1 hu with rfl | hu
   ·exact h7
   ·exact h4 u hu
  ·rename_i hm;omega
theorem depths_max {d:Int}(hd:0≤d):∀ (l:List Tm),(∀ t∈l,(t.depth:Int)≤d)→(Tm.depths l:Int)≤d
 | [],_=>by simp[Tm.depths];exact hd
 | t :: l,h=>by
  have h1:=h t (by simp)
  have h2:=depths_max hd l fun u hu=>h u (by simp[hu])
  simp only[Tm.depths];omega
theorem fewM_full {most:Int}(hm:1≤most):∀ (k:Nat) (t:Tm) (d:Int),k≤1000→d≤k→fewM most t d≤most→(t.full:Int)=fewM most t d∧(t.depth:Int)≤d
 | 0,.mk bs kd i a,d,hk,hd,h=>by rw[fewM,if_pos (by omega)] at h;omega
 | k+1,.mk bs kd i a,d,hk,hd,h=>by
  rw[fewM] at h ⊢
  split at h
  ·omega
  ·rename_i hp
   rw[if_neg hp]
   cases hb:fewB1 most d bs 1 with
   | none=>rw[hb] at h;dsimp only at h;omega
   | some n=>
    rw[hb] at h
    dsimp only at h ⊢
    have hn:=fewB1_le hm (by omega) bs 1 (by omega) (by omega) n hb
    obtain⟨h3,h4,h5⟩:=fewMs_full a (d-1) n (fun t _=>fewM_full hm k t (d-1) (by omega) (by omega)) (fun t _=>(fewM_le hm k t (d-1) (by omega) (by omega)).1) hn.1 h
    have h6:=fewB1_full hm (by omega) bs 1 n hb h5
    have h7:=depths_max (by omega) a h4
    rw[Tm.full_eq,Tm.depth_eq]
    constructor
    ·omega
    ·omega
theorem fewB_full {t:Tm}(h:fewB t=true):t.full≤150∧t.depth≤70:=by
 unfold fewB at h
 rw[decide_eq_true_eq] at h
 obtain⟨h1,h2⟩:=fewM_full (by decide) 1000 t 70 (by decide) (by decide) h
 omega
def TS9_22:TI:=⟨1,false,[Value.slice none 0 0],[],some 103,24,5,none,false⟩
theorem TS9_22_ok:TypOk Tryz.prog 22 TS9_22:=by constructor <;> kernel_rfl
def TS9_3:TI:=⟨1,false,[Value.int IntKind.i64 0],[],none,8,2,none,false⟩
theorem TS9_3_ok:TypOk Tryz.prog 3 TS9_3:=by constructor <;> kernel_rfl
def TS9_24:TI:=⟨3,true,[Value.int IntKind.i64 0,Value.slice none 0 0,Value.slice none 0 0],[(0,1,false),(1,1,false),(2,1,false)],none,56,6,none,false⟩
theorem TS9_24_ok:TypOk Tryz.prog 24 TS9_24:=by constructor <;> kernel_rfl
def TS9_103:TI:=⟨2,true,[Value.slice none 0 0,Value.int IntKind.i64 0],[(0,1,false),(1,1,false)],none,32,6,none,false⟩
theorem TS9_103_ok:TypOk Tryz.prog 103 TS9_103:=by constructor <;> kernel_rfl
def TS9:List (Nat×TI):=[(22,TS9_22),(3,TS9_3),(24,TS9_24),(103,TS9_103)]
theorem TS9_ok:TabOk Tryz.prog TS9:=(((((TabOk.nil _).cons TS9_103_ok).cons TS9_24_ok).cons TS9_3_ok).cons TS9_22_ok)
def few4B (t:Ty):Bool:=decide (fewT 60 t 60≤60)
theorem fewT60 {t:Ty}(h:few4B t=true):t.size≤60:=by
 unfold few4B at h
 rw[decide_eq_true_eq] at h
 have:=fewT_size (by decide) 1000 t 60 (by decide) h
 omega
set_option maxHeartbeats 1000000 in
theorem small_d (b:Int)(C M X:List Ty)(h1:C.length≤20)(h2:M.length≤20)(h3:X.length≤20):PureC Tryz.prog 9 [.ag [.v (.int .i64 b),.sl 2 (eTys C) none,.sl 2 (eTys M) none],.sl 2 (eTys X) none] (.v (.bool (((C++M)++X).all few4B))):=by
 have hB:=rbehind_d C M (by omega)
 have hB2:=rbehind_d (C++M) X (by simp;omega)
 obtain⟨l,hl⟩:∃ l,(C++M)++X=l:=⟨_,rfl⟩
 rw[hl] at hB2 ⊢
 have hll:l.length≤60:=by rw[←hl];simp;omega
 refine call_of_dw 0 41 [ResultVar.tmp 4] TS9_ok (by kernel_rfl) Tryz.func9 rfl Tryz.ntmps9 rfl (by simp) ?dwords ?dbody
 case dwords=>simp[wordsOk,D.ok,D.oks,rnames,eTys_ok]
 case dbody=>
  intro cx hnt hn0
  refine dw_seq ?_;refine dwk [] TS9_ok hnt fun _ z9=>z9 _ _ ?_;refine dw_seq (dw_seq ?_);refine dwk [(10,.v (.bool false)),(15,.v (.bool false)),(20,.v (.bool false))] TS9_ok hnt fun K hK=>?_;refine And.intro (dfalse (by rw[eTys_len];omega)) ?_;refine And.intro (dfalse (by rw[eTys_len];omega)) ?_;refine And.intro (dfalse (by rw[eTys_len];omega)) ?_;refine hK _ _ ?_;clear hK K
  refine dw_cond (t:=false) rfl ?_;rw[if_neg (by simp)];refine dw_skip ?_;refine dw_seq ?_;refine dwk [] TS9_ok hnt fun K hK=>?_;refine dcl (hB) ?_;refine dcl (hB2) ?_;refine hK _ _ ?_;clear hK K;refine dw_seq (dw_seq ?_);refine dwk [] TS9_ok hnt fun _ z9=>z9 _ _ ?_;refine dw_block ?_
  refine dw_loop (ι:={ j:Nat // ∀ i (h:i<l.length),i<j→few4B l[i]=true }) (fun j=>[(.t 5,.sl 2 (eTys l) none),(.t 6,.v (.int .i64 (j.1:Int)))]) 1 (fun j=>l.length-j.1) ⟨0,fun i h1 h2=>by omega⟩ VS.toA fun j=>?_
  obtain⟨j,hj⟩:=j
  dsimp only
  refine dw_seq (dw_seq ?_)
  by_cases hlt:j<l.length
  ·have hi:=Few4_d 60 (by decide) (by decide) l[j] 60 (by decide) (by decide)
   rw[eTy_eq] at hi
   have hq:(eTys l).getD (j:Int).toNat []=[.sl 2 (eTys l[j].args) none,.v (.int .i64 l[j].base)]:=by rw[Int.toNat_natCast,eTys_getD l j hlt,eTy_eq]
   have hb:(0:Int)≤(j:Int)∧(j:Int)<((eTys l).length:Int):=⟨by omega,by rw[eTys_len];omega⟩
   refine dwk [(32,.v (.bool true))] TS9_ok hnt fun K hK=>?_;refine And.intro (dtrue (by rw[eTys_len];omega)) ?_;refine hK _ _ ?_;clear hK K;refine dw_cond (t:=true) rfl ?_;rw[if_pos rfl];refine dw_skip ?_;refine dw_seq (dw_block (dw_seq ?_))
   cases hf:few4B l[j] with
   | true=>
    have hf2:=hf
    unfold few4B at hf2
    rw[hf2] at hi
    refine dwk [(37,.q [.sl 2 (eTys l[j].args) none,.v (.int .i64 l[j].base)])] TS9_ok hnt fun K hK=>?_;refine And.intro (hb) ?_;refine And.intro (VLe.of_eq (by rw[hq])) ?_;refine dcl (hi) ?_;refine hK _ _ ?_;clear hK K;refine dw_cond (t:=false) rfl ?_;rw[if_neg (by simp)];refine dw_skip ?_;refine dwk [(34,.v (.int .i64 ((j+1:Nat):Int)))] TS9_ok hnt fun K hK=>?_;refine And.intro (dintE (by rw[IntWalk.i64_in _ (by omega)];omega)) ?_
    refine hK _ _ ?_;clear hK K
    refine⟨⟨j+1,fun i h1 h2=>?_⟩,by dsimp only;omega,VS.toA⟩
    by_cases he:i=j
    ·subst he;exact hf
    ·exact hj i h1 (by omega)
   | false=>
    have hf2:=hf
    unfold few4B at hf2
    rw[hf2] at hi
    have ha:l.all few4B=false:=by rw[List.all_eq_false];exact⟨l[j],List.getElem_mem hlt,by rw[hf];simp⟩
    rw[ha]
    refine dwk [(37,.q [.sl 2 (eTys l[j].args) none,.v (.int .i64 l[j].base)])] TS9_ok hnt fun K hK=>?_;refine And.intro (hb) ?_;refine And.intro (VLe.of_eq (by rw[hq])) ?_;refine dcl (hi) ?_;refine hK _ _ ?_;clear hK K;refine dw_cond (t:=true) rfl ?_;rw[if_pos rfl];refine dw_seq ?_;refine dwk [] TS9_ok hnt fun _ z9=>z9 _ _ ?_;refine dw_ret ?_
    exact retv (N:=0) (.inr rfl) rfl (VLe.refl _) trivial
  ·have ha:l.all few4B=true:=by
    rw[List.all_eq_true]
    intro t ht
    obtain⟨i,hi,rfl⟩:=List.getElem_of_mem ht
    exact hj i hi (by omega)
   rw[ha]
   refine dwk [(32,.v (.bool false))] TS9_ok hnt fun K hK=>?_;refine And.intro (dfalse (by rw[eTys_len];omega)) ?_;refine hK _ _ ?_;clear hK K;refine dw_cond (t:=false) rfl ?_;rw[if_neg (by simp)];refine dw_exit ?_;refine dw_seq ?_;refine dwk [] TS9_ok hnt fun _ z9=>z9 _ _ ?_;refine dw_ret ?_
   exact retv (N:=0) (.inr rfl) rfl (VLe.refl _) trivial
set_option maxHeartbeats 1000000 in
theorem small_no (b:Int)(C M X:List Ty)(h:¬ (C.length≤20∧M.length≤20∧X.length≤20)):PureC Tryz.prog 9 [.ag [.v (.int .i64 b),.sl 2 (eTys C) none,.sl 2 (eTys M) none],.sl 2 (eTys X) none] (.v (.bool false)):=by
 refine call_of_dw 0 41 [ResultVar.tmp 4] TS9_ok (by kernel_rfl) Tryz.func9 rfl Tryz.ntmps9 rfl (by simp) ?dwords ?dbody
 case dwords=>simp[wordsOk,D.ok,D.oks,rnames,eTys_ok]
 case dbody=>
  intro cx hnt hn0
  refine dw_seq ?_;refine dwk [] TS9_ok hnt fun _ z9=>z9 _ _ ?_;refine dw_seq (dw_seq ?_)
  by_cases h1:C.length≤20
  ·by_cases h2:M.length≤20
   ·skip
    refine dwk [(10,.v (.bool false)),(15,.v (.bool false)),(20,.v (.bool true))] TS9_ok hnt fun K hK=>?_;refine And.intro (dfalse (by rw[eTys_len];omega)) ?_;refine And.intro (dfalse (by rw[eTys_len];omega)) ?_;refine And.intro (dtrue (by rw[eTys_len];omega)) ?_;refine hK _ _ ?_;clear hK K;refine dw_cond (t:=true) rfl ?_;rw[if_pos rfl];refine dw_seq ?_;refine dwk [] TS9_ok hnt fun K hK=>?_
    refine hK _ _ ?_;clear hK K;refine dw_ret ?_
    exact retv (N:=0) (.inr rfl) rfl (VLe.refl _) trivial
   ·skip
    refine dwk [(10,.v (.bool false)),(15,.v (.bool true))] TS9_ok hnt fun K hK=>?_;refine And.intro (dfalse (by rw[eTys_len];omega)) ?_;refine And.intro (dtrue (by rw[eTys_len];omega)) ?_;refine hK _ _ ?_;clear hK K;refine dw_cond (t:=true) rfl ?_;rw[if_pos rfl];refine dw_seq ?_;refine dwk [] TS9_ok hnt fun _ z9=>z9 _ _ ?_;refine dw_ret ?_
    exact retv (N:=0) (.inr rfl) rfl (VLe.refl _) trivial
  ·skip
   refine dwk [(10,.v (.bool true))] TS9_ok hnt fun K hK=>?_;refine And.intro (dtrue (by rw[eTys_len];omega)) ?_;refine hK _ _ ?_;clear hK K;refine dw_cond (t:=true) rfl ?_;rw[if_pos rfl];refine dw_seq ?_;refine dwk [] TS9_ok hnt fun _ z9=>z9 _ _ ?_;refine dw_ret ?_
   exact retv (N:=0) (.inr rfl) rfl (VLe.refl _) trivial
def TTO_44:TI:=⟨2,true,[Value.slice none 0 0,Value.int IntKind.i64 0],[(0,1,false),(1,1,false)],none,32,6,none,false⟩
theorem TTO_44_ok:TypOk Tryz.prog 44 TTO_44:=by constructor <;> kernel_rfl
def TTO_3:TI:=⟨1,false,[Value.int IntKind.i64 0],[],none,8,2,none,false⟩
theorem TTO_3_ok:TypOk Tryz.prog 3 TTO_3:=by constructor <;> kernel_rfl
def TTO_41:TI:=⟨4,true,[Value.slice none 0 0,Value.int IntKind.i64 0,Value.int IntKind.i64 0,Value.slice none 0 0],[(0,1,false),(1,2,true),(3,1,false)],none,64,6,none,false⟩
theorem TTO_41_ok:TypOk Tryz.prog 41 TTO_41:=by constructor <;> kernel_rfl
def TTO_103:TI:=⟨2,true,[Value.slice none 0 0,Value.int IntKind.i64 0],[(0,1,false),(1,1,false)],none,32,6,none,false⟩
theorem TTO_103_ok:TypOk Tryz.prog 103 TTO_103:=by constructor <;> kernel_rfl
def TTO_22:TI:=⟨1,false,[Value.slice none 0 0],[],some 103,24,5,none,false⟩
theorem TTO_22_ok:TypOk Tryz.prog 22 TTO_22:=by constructor <;> kernel_rfl
def TTO_33:TI:=⟨1,false,[Value.slice none 0 0],[],some 44,24,5,none,false⟩
theorem TTO_33_ok:TypOk Tryz.prog 33 TTO_33:=by constructor <;> kernel_rfl
def TTO_29:TI:=⟨4,true,[Value.slice none 0 0,Value.int IntKind.i64 0,Value.int IntKind.i64 0,Value.slice none 0 0],[(0,1,false),(1,2,true),(3,1,false)],none,64,6,none,false⟩
theorem TTO_29_ok:TypOk Tryz.prog 29 TTO_29:=by constructor <;> kernel_rfl
def TTO_39:TI:=⟨1,false,[Value.slice none 0 0],[],some 41,24,5,none,false⟩
theorem TTO_39_ok:TypOk Tryz.prog 39 TTO_39:=by constructor <;> kernel_rfl
def TTO_27:TI:=⟨1,false,[Value.slice none 0 0],[],some 29,24,5,none,false⟩
theorem TTO_27_ok:TypOk Tryz.prog 27 TTO_27:=by constructor <;> kernel_rfl
def TTO_26:TI:=⟨2,true,[Value.int IntKind.i64 0,Value.int IntKind.i64 0],[(0,1,false),(1,1,false)],none,16,6,none,true⟩
theorem TTO_26_ok:TypOk Tryz.prog 26 TTO_26:=by constructor <;> kernel_rfl
def TTO_38:TI:=⟨2,true,[Value.int IntKind.i64 0,Value.int IntKind.i64 0],[(0,1,false),(1,1,false)],none,16,6,none,true⟩
theorem TTO_38_ok:TypOk Tryz.prog 38 TTO_38:=by constructor <;> kernel_rfl
def TTO:List (Nat×TI):=[(44,TTO_44),(3,TTO_3),(41,TTO_41),(103,TTO_103),(22,TTO_22),(33,TTO_33),(29,TTO_29),(39,TTO_39),(27,TTO_27),(26,TTO_26),(38,TTO_38)]
theorem TTO_ok:TabOk Tryz.prog TTO:=((((((((((((TabOk.nil _).cons TTO_38_ok).cons TTO_26_ok).cons TTO_27_ok).cons TTO_39_ok).cons TTO_29_ok).cons TTO_33_ok).cons TTO_22_ok).cons TTO_103_ok).cons TTO_41_ok).cons TTO_3_ok).cons TTO_44_ok)
theorem eTys_tlen (l:List Ty)(j:Nat)(h:j≤l.length):(eTys (l.take j)).length=j:=by rw[eTys_len,List.length_take];omega
theorem eTms_tlen (l:List Tm)(j:Nat)(h:j≤l.length):(eTms (l.take j)).length=j:=by rw[eTms_len,List.length_take];omega
theorem to4D_d:∀ t:Ty,t.size≤900000→PureC Tryz.prog 53 [.ag (eTy t)] (.ag (eTy t)):=by
 intro t
 induction t using Ty.ind with
 | h ar base ih=>
  intro hz
  rw[Ty.size_eq] at hz
  have hal:=Ty.le_sizes ar
  rw[eTy_eq]
  dsimp only[Ty.args,Ty.base]
  refine calldw 0 27 [ResultVar.cell 2 44] TTO_ok Tryz.func53 rfl Tryz.ntmps53 rfl fun cx hnt hn0=>?_
  ·skip
   refine dw_seq ?_;refine dwk [] TTO_ok hnt fun _ z9=>z9 _ _ ?_;refine dw_seq ?_;refine dwk [] TTO_ok hnt fun _ z9=>z9 _ _ ?_
   refine DW.vs (VS.row (k:=5) (off:=0) 44 2 rfl) ?_
   refine dw_seq ?_;refine dw_seq ?_;refine dwk [] TTO_ok hnt fun _ z9=>z9 _ _ ?_;refine dw_block ?_
   refine dw_loop (ι:={ j:Nat // j≤ar.length }) (fun j=>[(.t 1,.p 0 0),(.t 2,.p 1 0),(.t 3,.p 5 0),(.t 4,.v (.int .i64 ↑j.1)),(.c 0 0,.sl 2 (eTys ar) none),(.c 0 1,.v (.int .i64 base)),(.c 1 0,.v (.slice none 0 0)),(.c 1 1,.v (.int .i64 0)),(.c 5 0,.sl 2 (eTys (ar.take j.1)) (some 7)),(.c 5 1,.v (.int .i64 base)),(.r 7,.rw 44 2 j.1)]) 8 (fun j=>ar.length-j.1) (⟨0,Nat.zero_le _⟩) ((VS.toK (by omega) (by repeat first | exact trivial | refine And.intro (And.intro (by first | rfl | simp[D.ok,D.oks,D.okss,D.okm,upto,keyOk,argsT]) (by first | exact Or.inl rfl | exact Or.inr ⟨_,rfl,(by repeat first | exact VLe.refl _ | exact VLe.nil _ | exact VLe.untag _ _ _ | refine VLe.ag ?_ | refine VLe.tu ?_ | refine VLeL.cons ?_ ?_ | exact VLeL.nil),trivial⟩ | simp[get,Key.eq,argsT])) ?_))) fun j=>?_
   obtain⟨j,hj⟩:=j
   dsimp only
   by_cases hlt:j<ar.length
   ·have hmem:=List.getElem_mem hlt
    have hsz:=Ty.size_mem hmem
    have hc:=ih _ hmem (by omega)
    rw[eTy_eq] at hc
    have hl1:=eTys_tlen ar j hj
    have hl2:=eTys_tlen ar (j+1) hlt
    refine dw_seq ?_;refine dw_seq ?_;refine dwk [(11,.v (.int .i64 (↑ar.length))),(12,.v (.bool true))] TTO_ok hnt fun K hK=>?_;refine And.intro (dintE (by rw[eTys_len])) ?_;refine And.intro auT ?_;refine hK _ _ ?_;clear hK K;refine dw_cond (t:=true) rfl ?_;rw[if_pos rfl];refine dw_skip ?_;refine dw_seq ?_;refine dw_block ?_;refine dwkD [(20,.q [.sl 2 (eTys ar[j].args) none,.v (.int .i64 ar[j].base)])] TTO_ok hnt fun K hK=>?_
    refine And.intro (elo (eTys_len ar)) ?_;refine And.intro (elv (eTys_getD ar j) (eTy_eq _)) ?_;refine dcl (hc) ?_;refine And.intro (⟨by omega,by rw[hl1];simp;omega⟩) ?_;refine hK _ _ (by kernel_rfl) ?_;clear hK K
    rw[eTys_snoc ar j hlt,hl2]
    refine dwk [(14,.v (.int .i64 (↑(j+1))))] TTO_ok hnt fun K hK=>?_;refine And.intro auI ?_;refine hK _ _ ?_;clear hK K
    refine⟨⟨j+1,hlt⟩,by first | omega | (dsimp only;omega),VS.toA⟩
   ·rw[List.take_of_length_le (by omega)]
    refine dw_seq ?_;refine dw_seq ?_;refine dwk [(11,.v (.int .i64 (↑ar.length))),(12,.v (.bool false))] TTO_ok hnt fun K hK=>?_;refine And.intro (dintE (by rw[eTys_len])) ?_;refine And.intro auF ?_;refine hK _ _ ?_;clear hK K;refine dw_cond (t:=false) rfl ?_;rw[if_neg (by simp)];refine dw_exit ?_;refine dw_seq ?_;refine dwk [] TTO_ok hnt fun _ z9=>z9 _ _ ?_
    refine dw_ret ?_
    exact reta rfl
theorem toTys_d (l:List Ty)(hz:Ty.sizes l≤900000):PureC Tryz.prog 12 [.sl 2 (eTys l) none] (.sl 2 (eTys l) none):=by
 have hal:=Ty.le_sizes l
 refine calldw 0 20 [ResultVar.tmp 2] TTO_ok Tryz.func12 rfl Tryz.ntmps12 rfl fun cx hnt hn0=>?_
 ·skip
  refine dw_seq ?_;refine dwk [] TTO_ok hnt fun _ z9=>z9 _ _ ?_
  refine dw_cut (τ:=[(.t 0,.sl 2 (eTys l) none),(.t 3,.v (.slice none 0 0))]) (N1:=0) ?_ ?_
  ·skip
   refine dwk [] TTO_ok hnt fun _ z9=>z9 _ _ ?_
   exact cut_ok (VS.toK (by omega) (by repeat first | exact trivial | refine And.intro (And.intro (by first | rfl | simp[D.ok,D.oks,D.okss,D.okm,upto,keyOk,argsT]) (by first | exact Or.inl rfl | exact Or.inr ⟨_,rfl,(by repeat first | exact VLe.refl _ | exact VLe.nil _ | exact VLe.untag _ _ _ | refine VLe.ag ?_ | refine VLe.tu ?_ | refine VLeL.cons ?_ ?_ | exact VLeL.nil),trivial⟩ | simp[get,Key.eq,argsT])) ?_))
  ·refine DW.vs (VS.rowT (x:=3) (by rw[hnt];decide) 44 2 rfl) ?_
   refine dw_seq ?_;refine dw_seq ?_;refine dwk [] TTO_ok hnt fun _ z9=>z9 _ _ ?_;refine dw_block ?_
   refine dw_loop (ι:={ j:Nat // j≤l.length }) (fun j=>[(.t 0,.sl 2 (eTys l) none),(.t 3,.sl 2 (eTys (l.take j.1)) (some 0)),(.t 4,.v (.int .i64 ↑j.1)),(.r 0,.rw 44 2 j.1)]) 1 (fun j=>l.length-j.1) (⟨0,Nat.zero_le _⟩) ((VS.toK (by omega) (by repeat first | exact trivial | refine And.intro (And.intro (by first | rfl | simp[D.ok,D.oks,D.okss,D.okm,upto,keyOk,argsT]) (by first | exact Or.inl rfl | exact Or.inr ⟨_,rfl,(by repeat first | exact VLe.refl _ | exact VLe.nil _ | exact VLe.untag _ _ _ | refine VLe.ag ?_ | refine VLe.tu ?_ | refine VLeL.cons ?_ ?_ | exact VLeL.nil),trivial⟩ | simp[get,Key.eq,argsT])) ?_))) fun j=>?_
   obtain⟨j,hj⟩:=j
   dsimp only
   by_cases hlt:j<l.length
   ·have hsz:=Ty.size_mem (List.getElem_mem hlt)
    have hc:=to4D_d l[j] (by omega)
    rw[eTy_eq] at hc
    have hl1:=eTys_tlen l j hj
    have hl2:=eTys_tlen l (j+1) hlt
    refine dw_seq ?_;refine dw_seq ?_;refine dwk [(7,.v (.int .i64 (↑l.length))),(8,.v (.bool true))] TTO_ok hnt fun K hK=>?_;refine And.intro (dintE (by rw[eTys_len])) ?_;refine And.intro auT ?_;refine hK _ _ ?_;clear hK K;refine dw_cond (t:=true) rfl ?_;rw[if_pos rfl];refine dw_skip ?_;refine dw_seq ?_;refine dw_block ?_;refine dwk [(14,.q [.sl 2 (eTys l[j].args) none,.v (.int .i64 l[j].base)])] TTO_ok hnt fun K hK=>?_
    refine And.intro (elo (eTys_len l)) ?_;refine And.intro (elv (eTys_getD l j) (eTy_eq _)) ?_;refine dcl (hc) ?_;refine And.intro (⟨by omega,by rw[hl1];simp;omega⟩) ?_;refine hK _ _ ?_;clear hK K
    rw[eTys_snoc l j hlt,hl2]
    refine dwk [(10,.v (.int .i64 (↑(j+1))))] TTO_ok hnt fun K hK=>?_;refine And.intro auI ?_;refine hK _ _ ?_;clear hK K
    refine⟨⟨j+1,hlt⟩,by first | omega | (dsimp only;omega),VS.toA⟩
   ·rw[List.take_of_length_le (by omega)]
    refine dw_seq ?_;refine dw_seq ?_;refine dwk [(7,.v (.int .i64 (↑l.length))),(8,.v (.bool false))] TTO_ok hnt fun K hK=>?_;refine And.intro (dintE (by rw[eTys_len])) ?_;refine And.intro auF ?_;refine hK _ _ ?_;clear hK K;refine dw_cond (t:=false) rfl ?_;rw[if_neg (by simp)];refine dw_exit ?_;refine dw_seq ?_;refine dwk [] TTO_ok hnt fun _ z9=>z9 _ _ ?_;refine dw_ret ?_
    exact reta rfl
theorem to6D_d : ∀ t : Tm, t.full ≤ 900000 → PureC Tryz.prog 13 [.ag (eTm t)] (.ag (eTm t)) := by
  intro t
  induction t using Tm.ind with
  | h bs k i ar ih =>
    intro hz
    rw [Tm.full_eq] at hz
    have hbs := toTys_d bs (by omega)
    have hal : ar.length ≤ Tm.fulls ar := by
      clear ih hz
      induction ar with
      | nil => simp
      | cons u l ih => have : 1 ≤ u.full := by obtain ⟨b, k, i, a⟩ := u; rw [Tm.full_eq]; omega
                       simp only [List.length_cons, Tm.fulls]; omega
    rw [eTm_eq]
    dsimp only [Tm.binds, Tm.kind, Tm.index, Tm.args]
    refine calldw 0 35 [ResultVar.cell 2 41] TTO_ok Tryz.func13 rfl Tryz.ntmps13 rfl fun cx hnt hn0 => ?_
    · skip
      refine dw_seq ?_
      refine dwk [] TTO_ok hnt fun K hK => ?_
      refine hK _ _ ?_; clear hK K
      refine dw_seq ?_
      refine dwkD [] TTO_ok hnt fun K hK => ?_
      refine dcl (hbs) ?_
      refine hK _ _ (by kernel_rfl) ?_; clear hK K
      refine DW.vs (VS.row (k := 13) (off := 3) 41 4 rfl) ?_
      refine dw_seq ?_
      refine dw_seq ?_
      refine dwk [] TTO_ok hnt fun K hK => ?_
      refine hK _ _ ?_; clear hK K
      refine dw_block ?_
      refine dw_loop (ι := { j : Nat // j ≤ ar.length }) (fun j => [(.t 1, .p 0 0), (.t 2, .p 1 0), (.t 3, .p 13 0), (.t 4, .v (.int .i64 ↑j.1)), (.c 0 0, .sl 2 (eTys bs) none), (.c 0 1, .v (.int .i64 k)), (.c 0 2, .v (.int .i64 i)), (.c 0 3, .sl 4 (eTms ar) none), (.c 1 0, .v (.slice none 0 0)), (.c 1 1, .v (.int .i64 0)), (.c 1 2, .v (.int .i64 0)), (.c 1 3, .v (.slice none 0 0)), (.c 13 0, .sl 2 (eTys bs) none), (.c 13 1, .v (.int .i64 k)), (.c 13 2, .v (.int .i64 i)), (.c 13 3, .sl 4 (eTms (ar.take j.1)) (some 15)), (.r 15, .rw 41 4 j.1)]) 16 (fun j => ar.length - j.1) (⟨0, Nat.zero_le _⟩) ((VS.toK (by omega) (by repeat first | exact trivial | refine And.intro (And.intro (by first | rfl | simp [D.ok, D.oks, D.okss, D.okm, upto, keyOk, argsT]) (by first | exact Or.inl rfl | exact Or.inr ⟨_, rfl, (by repeat first | exact VLe.refl _ | exact VLe.nil _ | exact VLe.untag _ _ _ | refine VLe.ag ?_ | refine VLe.tu ?_ | refine VLeL.cons ?_ ?_ | exact VLeL.nil), trivial⟩ | simp [get, Key.eq, argsT])) ?_))) fun j => ?_
      obtain ⟨j, hj⟩ := j
      dsimp only
      by_cases hlt : j < ar.length
      · have hmem := List.getElem_mem hlt
        have hsz := Tm.full_mem hmem
        have hc := ih _ hmem (by omega)
        rw [eTm_eq] at hc
        have hl1 := eTms_tlen ar j hj
        have hl2 := eTms_tlen ar (j + 1) hlt
        refine dw_seq ?_
        refine dw_seq ?_
        refine dwk [(19, .v (.int .i64 (↑ar.length))), (20, .v (.bool true))] TTO_ok hnt fun K hK => ?_
        refine And.intro (dintE (by rw [eTms_len])) ?_
        refine And.intro auT ?_
        refine hK _ _ ?_; clear hK K
        refine dw_cond (t := true) rfl ?_
        rw [if_pos rfl]
        refine dw_skip ?_
        refine dw_seq ?_
        refine dw_block ?_
        refine dwkD [(28, .q [.sl 2 (eTys ar[j].binds) none, .v (.int .i64 ar[j].kind), .v (.int .i64 ar[j].index), .sl 4 (eTms ar[j].args) none])] TTO_ok hnt fun K hK => ?_
        refine And.intro (elo (eTms_len ar)) ?_
        refine And.intro (elv (eTms_getD ar j) (eTm_eq _)) ?_
        refine dcl (hc) ?_
        refine And.intro (⟨by omega, by rw [hl1]; simp; omega⟩) ?_
        refine hK _ _ (by kernel_rfl) ?_; clear hK K
        rw [eTms_snoc ar j hlt, hl2]
        refine dwk [(22, .v (.int .i64 (↑(j + 1))))] TTO_ok hnt fun K hK => ?_
        refine And.intro auI ?_
        refine hK _ _ ?_; clear hK K
        refine ⟨⟨j + 1, hlt⟩, by first | omega | (dsimp only; omega), VS.toA⟩
      · rw [List.take_of_length_le (by omega)]
        refine dw_seq ?_
        refine dw_seq ?_
        refine dwk [(19, .v (.int .i64 (↑ar.length))), (20, .v (.bool false))] TTO_ok hnt fun K hK => ?_
        refine And.intro (dintE (by rw [eTms_len])) ?_
        refine And.intro auF ?_
        refine hK _ _ ?_; clear hK K
        refine dw_cond (t := false) rfl ?_
        rw [if_neg (by simp)]
        refine dw_exit ?_
        refine dw_seq ?_
        refine dwk [] TTO_ok hnt fun K hK => ?_
        refine hK _ _ ?_; clear hK K
        refine dw_ret ?_
        exact reta rfl
def TPR_82:TI:=⟨9,true,[Value.slice none 0 0,Value.int IntKind.i64 0,Value.int IntKind.i64 0,Value.slice none 0 0,Value.slice none 0 0,Value.int IntKind.i64 0,Value.int IntKind.i64 0,Value.slice none 0 0,Value.slice none 0 0],[(0,4,true),(4,4,true),(8,1,false)],none,152,6,none,false⟩
theorem TPR_82_ok:TypOk Tryz.prog 82 TPR_82:=by constructor <;> kernel_rfl
def TPR_29:TI:=⟨4,true,[Value.slice none 0 0,Value.int IntKind.i64 0,Value.int IntKind.i64 0,Value.slice none 0 0],[(0,1,false),(1,2,true),(3,1,false)],none,64,6,none,false⟩
theorem TPR_29_ok:TypOk Tryz.prog 29 TPR_29:=by constructor <;> kernel_rfl
def TPR_176:TI:=⟨1,false,[Value.slice none 0 0],[],some 82,24,5,none,false⟩
theorem TPR_176_ok:TypOk Tryz.prog 176 TPR_176:=by constructor <;> kernel_rfl
def TPR_86:TI:=⟨9,true,[Value.slice none 0 0,Value.int IntKind.i64 0,Value.int IntKind.i64 0,Value.slice none 0 0,Value.slice none 0 0,Value.int IntKind.i64 0,Value.int IntKind.i64 0,Value.slice none 0 0,Value.slice none 0 0],[(0,4,true),(4,4,true),(8,1,false)],none,152,6,none,false⟩
theorem TPR_86_ok:TypOk Tryz.prog 86 TPR_86:=by constructor <;> kernel_rfl
def TPR_22:TI:=⟨1,false,[Value.slice none 0 0],[],some 103,24,5,none,false⟩
theorem TPR_22_ok:TypOk Tryz.prog 22 TPR_22:=by constructor <;> kernel_rfl
def TPR_27:TI:=⟨1,false,[Value.slice none 0 0],[],some 29,24,5,none,false⟩
theorem TPR_27_ok:TypOk Tryz.prog 27 TPR_27:=by constructor <;> kernel_rfl
def TPR_24:TI:=⟨3,true,[Value.int IntKind.i64 0,Value.slice none 0 0,Value.slice none 0 0],[(0,1,false),(1,1,false),(2,1,false)],none,56,6,none,false⟩
theorem TPR_24_ok:TypOk Tryz.prog 24 TPR_24:=by constructor <;> kernel_rfl
def TPR_3:TI:=⟨1,false,[Value.int IntKind.i64 0],[],none,8,2,none,false⟩
theorem TPR_3_ok:TypOk Tryz.prog 3 TPR_3:=by constructor <;> kernel_rfl
def TPR_103:TI:=⟨2,true,[Value.slice none 0 0,Value.int IntKind.i64 0],[(0,1,false),(1,1,false)],none,32,6,none,false⟩
theorem TPR_103_ok:TypOk Tryz.prog 103 TPR_103:=by constructor <;> kernel_rfl
def TPR:List (Nat×TI):=[(82,TPR_82),(29,TPR_29),(176,TPR_176),(86,TPR_86),(22,TPR_22),(27,TPR_27),(24,TPR_24),(3,TPR_3),(103,TPR_103)]
theorem TPR_ok:TabOk Tryz.prog TPR:=((((((((((TabOk.nil _).cons TPR_103_ok).cons TPR_3_ok).cons TPR_24_ok).cons TPR_27_ok).cons TPR_22_ok).cons TPR_86_ok).cons TPR_176_ok).cons TPR_29_ok).cons TPR_82_ok)
namespace Li
structure Pr where
 l:Tm
 r:Tm
 m:List Ty
instance:DecidableEq Pr:=fun p q=>decidable_of_iff (p.l=q.l∧p.r=q.r∧p.m=q.m) (by cases p;cases q;simp)
def Pr.z:Pr:=⟨Tm.zero,Tm.zero,[]⟩
end Li
def ePr (p:Li.Pr):List D:=[.sl 2 (eTys p.l.binds) none,.v (.int .i64 p.l.kind),.v (.int .i64 p.l.index),.sl 4 (eTms p.l.args) none,.sl 2 (eTys p.r.binds) none,.v (.int .i64 p.r.kind),.v (.int .i64 p.r.index),.sl 4 (eTms p.r.args) none,.sl 2 (eTys p.m) none]
theorem ePr_eq (L R:Tm)(M:List Ty):ePr ⟨L,R,M⟩=[.sl 2 (eTys L.binds) none,.v (.int .i64 L.kind),.v (.int .i64 L.index),.sl 4 (eTms L.args) none,.sl 2 (eTys R.binds) none,.v (.int .i64 R.kind),.v (.int .i64 R.index),.sl 4 (eTms R.args) none,.sl 2 (eTys M) none]:=rfl
theorem ePr_at (p:Li.Pr):ePr p=[.sl 2 (eTys p.l.binds) none,.v (.int .i64 p.l.kind),.v (.int .i64 p.l.index),.sl 4 (eTms p.l.args) none,.sl 2 (eTys p.r.binds) none,.v (.int .i64 p.r.kind),.v (.int .i64 p.r.index),.sl 4 (eTms p.r.args) none,.sl 2 (eTys p.m) none]:=rfl
theorem ePr_z:ePr .z=[.sl 2 [] none,.v (.int .i64 0),.v (.int .i64 0),.sl 4 [] none,.sl 2 [] none,.v (.int .i64 0),.v (.int .i64 0),.sl 4 [] none,.sl 2 [] none]:=rfl
@[simp] theorem ePr_ok (f g:Nat→Bool) (p:Li.Pr):D.oks f g (ePr p)=true:=by simp[ePr,D.oks,D.ok]
def ePrs (l:List Li.Pr):List (List D):=l.map ePr
theorem ePrs_len (l:List Li.Pr):(ePrs l).length=l.length:=List.length_map ..
theorem ePrs_getD (l:List Li.Pr)(i:Nat)(h:i<l.length):(ePrs l).getD i []=ePr l[i]:=by
 rw[ePrs,List.getD_eq_getElem?_getD,List.getElem?_map,List.getElem?_eq_getElem h];rfl
@[simp] theorem ePrs_ok (f g:Nat→Bool) (l:List Li.Pr):D.okss f g (ePrs l)=true:=D.okss_map _ l fun l _=>ePr_ok f g l
theorem to17_d (p:Li.Pr)(h1:p.l.full≤900000)(h2:p.r.full≤900000)(h3:Ty.sizes p.m≤900000):PureC Tryz.prog 37 [.ag (ePr p)] (.ag (ePr p)):=by
 obtain⟨L,R,M⟩:=p
 have c1:=to6D_d L h1
 have c2:=to6D_d R h2
 have c3:=toTys_d M h3
 rw[eTm_eq] at c1 c2
 rw[ePr_eq]
 refine calldw 0 13 [ResultVar.cell 2 86] TPR_ok Tryz.func37 rfl Tryz.ntmps37 rfl fun cx hnt hn0=>?_
 ·skip
  refine dw_seq ?_;refine dwk [] TPR_ok hnt fun _ z9=>z9 _ _ ?_;refine dw_seq ?_;refine dwkD [] TPR_ok hnt fun K hK=>?_;refine dcl (c1) ?_;refine dcl (c2) ?_;refine dcl (c3) ?_;refine hK _ _ (by kernel_rfl) ?_;clear hK K;refine dw_ret ?_
  exact reta rfl
/-! Few -/
def fewP (p:Li.Pr):Bool:=(([p.l,p.r].all fewB)&&(decide (p.m.length≤20)&&p.m.all few4B))&&lowsB [p.l,p.r]
theorem smallP_d (X:List Ty):PureC Tryz.prog 9 [.ag [.v (.int .i64 0),.sl 2 (eTys []) none,.sl 2 (eTys []) none],.sl 2 (eTys X) none] (.v (.bool (decide (X.length≤20)&&X.all few4B))):=by
 by_cases h:X.length≤20
 ·have:=small_d 0 [] [] X (by simp) (by simp) h
  rw[List.append_nil,List.nil_append] at this
  rw[decide_eq_true h,Bool.true_and];exact this
 ·rw[decide_eq_false h,Bool.false_and]
  exact small_no 0 [] [] X (fun h2=>h h2.2.2)
theorem fewP_ok {p:Li.Pr}(h:fewP p=true):(p.l.full≤150∧p.r.full≤150)∧p.m.length≤20∧(∀ t∈p.m,t.size≤60):=by
 unfold fewP at h
 simp only[Bool.and_eq_true,List.all_cons,List.all_nil,and_true,decide_eq_true_eq] at h
 exact⟨⟨(fewB_full h.1.1.1).1,(fewB_full h.1.1.2).1⟩,h.1.2.1,fun t ht=>fewT60 (List.all_eq_true.1 h.1.2.2 t ht)⟩
set_option maxHeartbeats 2000000 in
theorem few17_d (l:List Li.Pr)(hl:l.length≤1000000):PureC Tryz.prog 34 [.sl 9 (ePrs l) none] (.v (.bool (l.all fewP))):=by
 refine calldw 0 48 [ResultVar.tmp 2] TPR_ok Tryz.func34 rfl Tryz.ntmps34 rfl fun cx hnt hn0=>?_
 ·skip
  refine dw_seq ?_;refine dwk [] TPR_ok hnt fun _ z9=>z9 _ _ ?_;refine dw_seq ?_;refine dw_seq ?_;refine dwk [] TPR_ok hnt fun _ z9=>z9 _ _ ?_;refine dw_block ?_
  refine dw_loop (ι:={ j:Nat // ∀ i (h:i<l.length),i<j→fewP l[i]=true }) (fun j=>[(.t 0,.sl 9 (ePrs l) none),(.t 3,.v (.int .i64 ↑j.1))]) 1 (fun j=>l.length-j.1) (⟨0,fun i h1 h2=>by omega⟩) (VS.toA) fun j=>?_
  obtain⟨j,hj⟩:=j
  dsimp only
  by_cases hlt:j<l.length
  ·obtain⟨p,hp⟩:∃ p,l[j]=p:=⟨_,rfl⟩
   have hgd:(ePrs l).getD j []=[.sl 2 (eTys p.l.binds) none,.v (.int .i64 p.l.kind),.v (.int .i64 p.l.index),.sl 4 (eTms p.l.args) none,.sl 2 (eTys p.r.binds) none,.v (.int .i64 p.r.kind),.v (.int .i64 p.r.index),.sl 4 (eTms p.r.args) none,.sl 2 (eTys p.m) none]:=by rw[ePrs_getD l j hlt,hp,ePr_at]
   have hF:=lawFew_d [p.l,p.r] (by simp)
   have hS:=smallP_d p.m
   have hbad:fewP p=false→l.all fewP=false:=fun h=>by rw[List.all_eq_false];exact⟨l[j],List.getElem_mem hlt,by rw[hp,h];simp⟩
   have e2:eTms [p.l,p.r]=[[.sl 2 (eTys p.l.binds) none,.v (.int .i64 p.l.kind),.v (.int .i64 p.l.index),.sl 4 (eTms p.l.args) none],[.sl 2 (eTys p.r.binds) none,.v (.int .i64 p.r.kind),.v (.int .i64 p.r.index),.sl 4 (eTms p.r.args) none]]:=by rw[←eTm_eq,←eTm_eq];rfl
   cases h1:[p.l,p.r].all fewB with
   | false=>
    rw[h1] at hF
    rw[hbad (by rw[fewP,h1];rfl)]
    refine dw_seq ?_;refine dw_seq ?_;refine dwk [(6,.v (.int .i64 (↑l.length))),(7,.v (.bool true))] TPR_ok hnt fun K hK=>?_;refine And.intro (dintE (by rw[ePrs_len])) ?_;refine And.intro auT ?_;refine hK _ _ ?_;clear hK K;refine dw_cond (t:=true) rfl ?_;rw[if_pos rfl];refine dw_skip ?_;refine dw_seq ?_;refine dw_block ?_;refine dw_seq ?_;refine dwkD [(12,.q [.sl 2 (eTys p.l.binds) none,.v (.int .i64 p.l.kind),.v (.int .i64 p.l.index),.sl 4 (eTms p.l.args) none,.sl 2 (eTys p.r.binds) none,.v (.int .i64 p.r.kind),.v (.int .i64 p.r.index),.sl 4 (eTms p.r.args) none,.sl 2 (eTys p.m) none]),(17,.q [.sl 2 (eTys p.l.binds) none,.v (.int .i64 p.l.kind),.v (.int .i64 p.l.index),.sl 4 (eTms p.l.args) none,.sl 2 (eTys p.r.binds) none,.v (.int .i64 p.r.kind),.v (.int .i64 p.r.index),.sl 4 (eTms p.r.args) none,.sl 2 (eTys p.m) none]),(20,.sl 4 (eTms [p.l,p.r]) none)] TPR_ok hnt fun K hK=>?_
    refine And.intro (⟨by omega,by rw[ePrs_len];omega⟩) ?_;refine And.intro (VLe.of_eq (by rw[Int.toNat_natCast,hgd])) ?_;refine And.intro (⟨by omega,by rw[ePrs_len];omega⟩) ?_;refine And.intro (VLe.of_eq (by rw[Int.toNat_natCast,hgd])) ?_;refine And.intro ((by rw[e2];exact VLe.untag _ _ _)) ?_;refine dcl (hF) ?_;refine hK _ _ (by kernel_rfl) ?_;clear hK K;refine dw_cond (t:=true) rfl ?_
    rw[if_pos rfl];refine dw_seq ?_;refine dwk [] TPR_ok hnt fun _ z9=>z9 _ _ ?_;refine dw_ret ?_
    exact reta rfl
   | true=>
    rw[h1] at hF
    cases h2:(decide (p.m.length≤20)&&p.m.all few4B) with
    | false=>
     rw[h2] at hS
     rw[hbad (by rw[fewP,h1,h2];rfl)]
     refine dw_seq ?_;refine dw_seq ?_;refine dwk [(6,.v (.int .i64 (↑l.length))),(7,.v (.bool true))] TPR_ok hnt fun K hK=>?_;refine And.intro (dintE (by rw[ePrs_len])) ?_;refine And.intro auT ?_;refine hK _ _ ?_;clear hK K;refine dw_cond (t:=true) rfl ?_;rw[if_pos rfl];refine dw_skip ?_;refine dw_seq ?_;refine dw_block ?_;refine dw_seq ?_;refine dwkD [(12,.q [.sl 2 (eTys p.l.binds) none,.v (.int .i64 p.l.kind),.v (.int .i64 p.l.index),.sl 4 (eTms p.l.args) none,.sl 2 (eTys p.r.binds) none,.v (.int .i64 p.r.kind),.v (.int .i64 p.r.index),.sl 4 (eTms p.r.args) none,.sl 2 (eTys p.m) none]),(17,.q [.sl 2 (eTys p.l.binds) none,.v (.int .i64 p.l.kind),.v (.int .i64 p.l.index),.sl 4 (eTms p.l.args) none,.sl 2 (eTys p.r.binds) none,.v (.int .i64 p.r.kind),.v (.int .i64 p.r.index),.sl 4 (eTms p.r.args) none,.sl 2 (eTys p.m) none]),(20,.sl 4 (eTms [p.l,p.r]) none),(24,.ag [.v (.int .i64 0),.sl 2 (eTys []) none,.sl 2 (eTys []) none]),(27,.q [.sl 2 (eTys p.l.binds) none,.v (.int .i64 p.l.kind),.v (.int .i64 p.l.index),.sl 4 (eTms p.l.args) none,.sl 2 (eTys p.r.binds) none,.v (.int .i64 p.r.kind),.v (.int .i64 p.r.index),.sl 4 (eTms p.r.args) none,.sl 2 (eTys p.m) none])] TPR_ok hnt fun K hK=>?_
     refine And.intro (⟨by omega,by rw[ePrs_len];omega⟩) ?_;refine And.intro (VLe.of_eq (by rw[Int.toNat_natCast,hgd])) ?_;refine And.intro (⟨by omega,by rw[ePrs_len];omega⟩) ?_;refine And.intro (VLe.of_eq (by rw[Int.toNat_natCast,hgd])) ?_;refine And.intro ((by rw[e2];exact VLe.untag _ _ _)) ?_;refine dcl (hF) ?_;refine And.intro (auV) ?_;refine And.intro (⟨by omega,by rw[ePrs_len];omega⟩) ?_
     refine And.intro (VLe.of_eq (by rw[Int.toNat_natCast,hgd])) ?_;refine dcl (hS) ?_;refine hK _ _ (by kernel_rfl) ?_;clear hK K;refine dw_cond (t:=true) rfl ?_;rw[if_pos rfl];refine dw_seq ?_;refine dwk [] TPR_ok hnt fun _ z9=>z9 _ _ ?_;refine dw_ret ?_
     exact reta rfl
    | true=>
     rw[h2] at hS
     have h1':=h1
     simp only[List.all_cons,List.all_nil,Bool.and_true,Bool.and_eq_true] at h1'
     have hL:=low_d [p.l,p.r] (by simp) (fun t ht=>by
      rcases List.mem_cons.1 ht with rfl | ht
      ·exact wide_full _ (by have:=(fewB_full h1'.1).1;omega)
      ·rw[List.mem_singleton] at ht;subst ht;exact wide_full _ (by have:=(fewB_full h1'.2).1;omega))
     cases h3:lowsB [p.l,p.r] with
     | false=>
      rw[h3] at hL
      rw[hbad (by rw[fewP,h1,h2,h3];rfl)]
      refine dw_seq ?_;refine dw_seq ?_;refine dwk [(6,.v (.int .i64 (↑l.length))),(7,.v (.bool true))] TPR_ok hnt fun K hK=>?_;refine And.intro (dintE (by rw[ePrs_len])) ?_;refine And.intro auT ?_;refine hK _ _ ?_;clear hK K;refine dw_cond (t:=true) rfl ?_;rw[if_pos rfl];refine dw_skip ?_;refine dw_seq ?_;refine dw_block ?_;refine dw_seq ?_;refine dwkD [(12,.q [.sl 2 (eTys p.l.binds) none,.v (.int .i64 p.l.kind),.v (.int .i64 p.l.index),.sl 4 (eTms p.l.args) none,.sl 2 (eTys p.r.binds) none,.v (.int .i64 p.r.kind),.v (.int .i64 p.r.index),.sl 4 (eTms p.r.args) none,.sl 2 (eTys p.m) none]),(17,.q [.sl 2 (eTys p.l.binds) none,.v (.int .i64 p.l.kind),.v (.int .i64 p.l.index),.sl 4 (eTms p.l.args) none,.sl 2 (eTys p.r.binds) none,.v (.int .i64 p.r.kind),.v (.int .i64 p.r.index),.sl 4 (eTms p.r.args) none,.sl 2 (eTys p.m) none]),(20,.sl 4 (eTms [p.l,p.r]) none),(24,.ag [.v (.int .i64 0),.sl 2 (eTys []) none,.sl 2 (eTys []) none]),(27,.q [.sl 2 (eTys p.l.binds) none,.v (.int .i64 p.l.kind),.v (.int .i64 p.l.index),.sl 4 (eTms p.l.args) none,.sl 2 (eTys p.r.binds) none,.v (.int .i64 p.r.kind),.v (.int .i64 p.r.index),.sl 4 (eTms p.r.args) none,.sl 2 (eTys p.m) none]),(36,.q [.sl 2 (eTys p.l.binds) none,.v (.int .i64 p.l.kind),.v (.int .i64 p.l.index),.sl 4 (eTms p.l.args) none,.sl 2 (eTys p.r.binds) none,.v (.int .i64 p.r.kind),.v (.int .i64 p.r.index),.sl 4 (eTms p.r.args) none,.sl 2 (eTys p.m) none]),(41,.q [.sl 2 (eTys p.l.binds) none,.v (.int .i64 p.l.kind),.v (.int .i64 p.l.index),.sl 4 (eTms p.l.args) none,.sl 2 (eTys p.r.binds) none,.v (.int .i64 p.r.kind),.v (.int .i64 p.r.index),.sl 4 (eTms p.r.args) none,.sl 2 (eTys p.m) none]),(44,.sl 4 (eTms [p.l,p.r]) none)] TPR_ok hnt fun K hK=>?_
      refine And.intro (⟨by omega,by rw[ePrs_len];omega⟩) ?_;refine And.intro (VLe.of_eq (by rw[Int.toNat_natCast,hgd])) ?_;refine And.intro (⟨by omega,by rw[ePrs_len];omega⟩) ?_;refine And.intro (VLe.of_eq (by rw[Int.toNat_natCast,hgd])) ?_;refine And.intro ((by rw[e2];exact VLe.untag _ _ _)) ?_;refine dcl (hF) ?_;refine And.intro (auV) ?_;refine And.intro (⟨by omega,by rw[ePrs_len];omega⟩) ?_
      refine And.intro (VLe.of_eq (by rw[Int.toNat_natCast,hgd])) ?_;refine dcl (hS) ?_;refine And.intro (⟨by omega,by rw[ePrs_len];omega⟩) ?_;refine And.intro (VLe.of_eq (by rw[Int.toNat_natCast,hgd])) ?_;refine And.intro (⟨by omega,by rw[ePrs_len];omega⟩) ?_;refine And.intro (VLe.of_eq (by rw[Int.toNat_natCast,hgd])) ?_;refine And.intro ((by rw[e2];exact VLe.untag _ _ _)) ?_;refine dcl (hL) ?_
      refine hK _ _ (by kernel_rfl) ?_;clear hK K;refine dw_cond (t:=true) rfl ?_;rw[if_pos rfl];refine dw_seq ?_;refine dwk [] TPR_ok hnt fun _ z9=>z9 _ _ ?_;refine dw_ret ?_
      exact reta rfl
     | true=>
      rw[h3] at hL
      refine dw_seq ?_;refine dw_seq ?_;refine dwk [(6,.v (.int .i64 (↑l.length))),(7,.v (.bool true))] TPR_ok hnt fun K hK=>?_;refine And.intro (dintE (by rw[ePrs_len])) ?_;refine And.intro auT ?_;refine hK _ _ ?_;clear hK K;refine dw_cond (t:=true) rfl ?_;rw[if_pos rfl];refine dw_skip ?_;refine dw_seq ?_;refine dw_block ?_;refine dw_seq ?_;refine dwkD [(12,.q [.sl 2 (eTys p.l.binds) none,.v (.int .i64 p.l.kind),.v (.int .i64 p.l.index),.sl 4 (eTms p.l.args) none,.sl 2 (eTys p.r.binds) none,.v (.int .i64 p.r.kind),.v (.int .i64 p.r.index),.sl 4 (eTms p.r.args) none,.sl 2 (eTys p.m) none]),(17,.q [.sl 2 (eTys p.l.binds) none,.v (.int .i64 p.l.kind),.v (.int .i64 p.l.index),.sl 4 (eTms p.l.args) none,.sl 2 (eTys p.r.binds) none,.v (.int .i64 p.r.kind),.v (.int .i64 p.r.index),.sl 4 (eTms p.r.args) none,.sl 2 (eTys p.m) none]),(20,.sl 4 (eTms [p.l,p.r]) none),(24,.ag [.v (.int .i64 0),.sl 2 (eTys []) none,.sl 2 (eTys []) none]),(27,.q [.sl 2 (eTys p.l.binds) none,.v (.int .i64 p.l.kind),.v (.int .i64 p.l.index),.sl 4 (eTms p.l.args) none,.sl 2 (eTys p.r.binds) none,.v (.int .i64 p.r.kind),.v (.int .i64 p.r.index),.sl 4 (eTms p.r.args) none,.sl 2 (eTys p.m) none]),(36,.q [.sl 2 (eTys p.l.binds) none,.v (.int .i64 p.l.kind),.v (.int .i64 p.l.index),.sl 4 (eTms p.l.args) none,.sl 2 (eTys p.r.binds) none,.v (.int .i64 p.r.kind),.v (.int .i64 p.r.index),.sl 4 (eTms p.r.args) none,.sl 2 (eTys p.m) none]),(41,.q [.sl 2 (eTys p.l.binds) none,.v (.int .i64 p.l.kind),.v (.int .i64 p.l.index),.sl 4 (eTms p.l.args) none,.sl 2 (eTys p.r.binds) none,.v (.int .i64 p.r.kind),.v (.int .i64 p.r.index),.sl 4 (eTms p.r.args) none,.sl 2 (eTys p.m) none]),(44,.sl 4 (eTms [p.l,p.r]) none)] TPR_ok hnt fun K hK=>?_
      refine And.intro (⟨by omega,by rw[ePrs_len];omega⟩) ?_;refine And.intro (VLe.of_eq (by rw[Int.toNat_natCast,hgd])) ?_;refine And.intro (⟨by omega,by rw[ePrs_len];omega⟩) ?_;refine And.intro (VLe.of_eq (by rw[Int.toNat_natCast,hgd])) ?_;refine And.intro ((by rw[e2];exact VLe.untag _ _ _)) ?_;refine dcl (hF) ?_;refine And.intro (auV) ?_;refine And.intro (⟨by omega,by rw[ePrs_len];omega⟩) ?_
      refine And.intro (VLe.of_eq (by rw[Int.toNat_natCast,hgd])) ?_;refine dcl (hS) ?_;refine And.intro (⟨by omega,by rw[ePrs_len];omega⟩) ?_;refine And.intro (VLe.of_eq (by rw[Int.toNat_natCast,hgd])) ?_;refine And.intro (⟨by omega,by rw[ePrs_len];omega⟩) ?_;refine And.intro (VLe.of_eq (by rw[Int.toNat_natCast,hgd])) ?_;refine And.intro ((by rw[e2];exact VLe.untag _ _ _)) ?_;refine dcl (hL) ?_
      refine hK _ _ (by kernel_rfl) ?_;clear hK K;refine dw_cond (t:=false) rfl ?_;rw[if_neg (by simp)];refine dw_skip ?_;refine dwk [(9,.v (.int .i64 (↑(j+1))))] TPR_ok hnt fun K hK=>?_;refine And.intro auI ?_;refine hK _ _ ?_;clear hK K
      refine⟨⟨j+1,fun i h1' h2'=>if e:i=j then by subst e;rw[hp,fewP,h1,h2,h3];rfl else hj i h1' (by omega)⟩,by first | omega | (dsimp only;omega),VS.toA⟩
  ·have ha:l.all fewP=true:=by
    rw[List.all_eq_true]
    intro t ht
    obtain⟨i,hi,rfl⟩:=List.getElem_of_mem ht
    exact hj i hi (by omega)
   rw[ha]
   refine dw_seq ?_;refine dw_seq ?_;refine dwk [(6,.v (.int .i64 (↑l.length))),(7,.v (.bool false))] TPR_ok hnt fun K hK=>?_;refine And.intro (dintE (by rw[ePrs_len])) ?_;refine And.intro auF ?_;refine hK _ _ ?_;clear hK K;refine dw_cond (t:=false) rfl ?_;rw[if_neg (by simp)];refine dw_exit ?_;refine dw_seq ?_;refine dwk [] TPR_ok hnt fun _ z9=>z9 _ _ ?_;refine dw_ret ?_
   exact reta rfl
end Go.Proofs.YtflbnonbfmmchaaGreat
namespace Go.Proofs.YtflbnonbfmmchaaGreat
open Go.RowKit Go.ChangeShapes Go.WideShapes Go.ChangeAt
theorem cellsP17:Tryz.prog.cellsOf 82=9:=by kernel_rfl
theorem nine_of {α:Type}{cs:List α}(h:cs.length=9):∃ a b c d e f g i j,cs=[a,b,c,d,e,f,g,i,j]:=by
 match cs,h with
 | [a,b,c,d,e,f,g,i,j],_=>exact⟨a,b,c,d,e,f,g,i,j,rfl⟩
structure IsP17 (F:Nat→Prop) (w:World) (v1 v2 v3 v4 v5 v6 v7 v8 v9:Value) (p:Li.Pr):Prop where
 l:IsTm F w v1 v2 v3 v4 p.l
 r:IsTm F w v5 v6 v7 v8 p.r
 m:IsSl rpTy F w v9 p.m
set_option maxRecDepth 100000 in
theorem openP17 {H:Type}{enc:TypeId×Value→H}{W:World}{base:Nat}{sp:Nat→Bool}{hd:Bool}{r:Reach}{b0:Nat}{v:Value}{d:DataW H}{p:List MemPlace} 
  (hval:Value.okWide Tryz.prog W r b0 82 v) (h:DataW.Trod enc Tryz.prog W base sp hd 82 v d p) :
  ∃ v1 v2 v3 v4 v5 v6 v7 v8 v9 q,v=.agg #[v1,v2,v3,v4,v5,v6,v7,v8,v9]∧IsP17 (fun _=>True) W v1 v2 v3 v4 v5 v6 v7 v8 v9 q∧(q.l.Fit∧q.r.Fit):=by
 obtain⟨n,h⟩:=h
 obtain⟨xs,m,_,_,hl,hlen,hf⟩:=DataW.trod_struct Tryz.underlying82 h
 rw[cellsP17] at hl
 obtain⟨v0,v1,v2,v3,v4,v5,v6,v7,v8,hv⟩:=nine_of hl
 rw[hv] at hf
 have h0:DataW.trod enc Tryz.prog W base sp hd m 29 ([v0,v1,v2,v3,v4,v5,v6,v7,v8].take (Tryz.prog.cellsOf 29))=xs[0]?:=hf 0 _ rfl
 have h1:DataW.trod enc Tryz.prog W base sp hd m 29 ([v4,v5,v6,v7,v8].take (Tryz.prog.cellsOf 29))=xs[1]?:=hf 1 _ rfl
 have h2:DataW.trod enc Tryz.prog W base sp hd m 22 ([v8].take (Tryz.prog.cellsOf 22))=xs[2]?:=hf 2 _ rfl
 rw[cellsTerm] at h0 h1
 rw[cellsSR] at h2
 have hlen:xs.length=3:=hlen
 rw[List.getElem?_eq_getElem (by omega)] at h0 h1 h2
 obtain⟨t,⟨b,k,j,a,hx,ht⟩,hfit⟩:=rdM enc W base sp hd m _ _ h0
 obtain⟨t',⟨b',k',j',a',hx',ht'⟩,hfit'⟩:=rdM enc W base sp hd m _ _ h1
 obtain⟨ma,mn,mc,M,hmv,_,hM,_⟩:=sl_of_trod Tryz.underlying22 cellsR (by decide) (fun j hj=>rdR enc W base sp hd j) h2
 have e0:[v0,v1,v2,v3]=[b,k,j,a]:=hx
 have e1:[v4,v5,v6,v7]=[b',k',j',a']:=hx'
 have e2:[v8]=[.slice ma mn mc]:=hmv
 simp only[List.cons.injEq,and_true] at e0 e1 e2
 obtain⟨rfl,rfl,rfl,rfl⟩:=e0
 obtain⟨rfl,rfl,rfl,rfl⟩:=e1
 subst e2
 obtain⟨cs,rfl,_⟩:=okWide_struct Tryz.underlying82 hval
 refine⟨_,_,_,_,_,_,_,_,_,⟨t,t',M⟩,?_,⟨ht,ht',hM⟩,hfit,hfit'⟩
 have:cs.toList=[v0,v1,v2,v3,v4,v5,v6,v7,.slice ma mn mc]:=hv
 rw[←Array.toList_inj.1 (show cs.toList=(#[v0,v1,v2,v3,v4,v5,v6,v7,.slice ma mn mc]:Array Value).toList from this)]
theorem relP17 {m:Mp}{w:World}{F:Nat→Prop}{v1 v2 v3 v4 v5 v6 v7 v8 v9:Value}{p:Li.Pr}(h:IsP17 F w v1 v2 v3 v4 v5 v6 v7 v8 v9 p):Rel m (cellI F w) w (.agg #[v1,v2,v3,v4,v5,v6,v7,v8,v9]) (.ag (ePr p)):=by
 have e:ePr p=eTm p.l++(eTm p.r++[.sl 2 (eTys p.m) none]):=by rw[eTm_eq,eTm_eq];rfl
 rw[e]
 exact rel_ag.2 ⟨[v1,v2,v3,v4,v5,v6,v7,v8,v9],rfl,(rel_of_tm cellI_of p.l h.l).append ((rel_of_tm cellI_of p.r h.r).append ⟨relTys h.m,trivial⟩)⟩
end Go.Proofs.YtflbnonbfmmchaaGreat
namespace Go.Proofs.YtflbnonbfmmchaaGreat
open Go.RowKit
def TS2_41:TI:=⟨4,true,[Value.slice none 0 0,Value.int IntKind.i64 0,Value.int IntKind.i64 0,Value.slice none 0 0],[(0,1,false),(1,2,true),(3,1,false)],none,64,6,none,false⟩
theorem TS2_41_ok:TypOk Tryz.prog 41 TS2_41:=by constructor <;> kernel_rfl
def TS2_123:TI:=⟨3,true,[Value.pointer none,Value.slice none 0 0,Value.int IntKind.i64 0],[(0,1,false),(1,1,false),(2,1,false)],none,40,6,none,false⟩
theorem TS2_123_ok:TypOk Tryz.prog 123 TS2_123:=by constructor <;> kernel_rfl
def TS2_45:TI:=⟨1,false,[Value.int IntKind.i64 0],[],none,8,2,none,false⟩
theorem TS2_45_ok:TypOk Tryz.prog 45 TS2_45:=by constructor <;> kernel_rfl
def TS2_3:TI:=⟨1,false,[Value.int IntKind.i64 0],[],none,8,2,none,false⟩
theorem TS2_3_ok:TypOk Tryz.prog 3 TS2_3:=by constructor <;> kernel_rfl
def TS2_39:TI:=⟨1,false,[Value.slice none 0 0],[],some 41,24,5,none,false⟩
theorem TS2_39_ok:TypOk Tryz.prog 39 TS2_39:=by constructor <;> kernel_rfl
def TS2_33:TI:=⟨1,false,[Value.slice none 0 0],[],some 44,24,5,none,false⟩
theorem TS2_33_ok:TypOk Tryz.prog 33 TS2_33:=by constructor <;> kernel_rfl
def TS2_56:TI:=⟨1,false,[Value.pointer none],[],none,8,4,none,false⟩
theorem TS2_56_ok:TypOk Tryz.prog 56 TS2_56:=by constructor <;> kernel_rfl
def TS2_38:TI:=⟨2,true,[Value.int IntKind.i64 0,Value.int IntKind.i64 0],[(0,1,false),(1,1,false)],none,16,6,none,true⟩
theorem TS2_38_ok:TypOk Tryz.prog 38 TS2_38:=by constructor <;> kernel_rfl
def TS2_51:TI:=⟨1,false,[Value.slice none 0 0],[],some 79,24,5,none,false⟩
theorem TS2_51_ok:TypOk Tryz.prog 51 TS2_51:=by constructor <;> kernel_rfl
def TS2_121:TI:=⟨1,false,[Value.pointer none],[],none,8,4,none,false⟩
theorem TS2_121_ok:TypOk Tryz.prog 121 TS2_121:=by constructor <;> kernel_rfl
def TS2_79:TI:=⟨5,true,[Value.int IntKind.i64 0,Value.slice none 0 0,Value.int IntKind.i64 0,Value.int IntKind.i64 0,Value.slice none 0 0],[(0,1,false),(1,4,true)],none,72,6,none,false⟩
theorem TS2_79_ok:TypOk Tryz.prog 79 TS2_79:=by constructor <;> kernel_rfl
def TS2_174:TI:=⟨1,false,[Value.pointer none],[],none,8,4,none,false⟩
theorem TS2_174_ok:TypOk Tryz.prog 174 TS2_174:=by constructor <;> kernel_rfl
def TS2_44:TI:=⟨2,true,[Value.slice none 0 0,Value.int IntKind.i64 0],[(0,1,false),(1,1,false)],none,32,6,none,false⟩
theorem TS2_44_ok:TypOk Tryz.prog 44 TS2_44:=by constructor <;> kernel_rfl
def TS2:List (Nat×TI):=[(41,TS2_41),(123,TS2_123),(45,TS2_45),(3,TS2_3),(39,TS2_39),(33,TS2_33),(56,TS2_56),(38,TS2_38),(51,TS2_51),(121,TS2_121),(79,TS2_79),(174,TS2_174),(44,TS2_44)]
theorem TS2_ok:TabOk Tryz.prog TS2:=((((((((((((((TabOk.nil _).cons TS2_44_ok).cons TS2_174_ok).cons TS2_79_ok).cons TS2_121_ok).cons TS2_51_ok).cons TS2_38_ok).cons TS2_56_ok).cons TS2_33_ok).cons TS2_39_ok).cons TS2_3_ok).cons TS2_45_ok).cons TS2_123_ok).cons TS2_41_ok)
def swE (l:List (Int×Tm))(s:Nm.St):List (Key×D):=[(.c 0 0,.o 1),(.c 0 1,.sl 5 (ePairs l) none),(.c 0 2,.v (.int .i64 s.e)),(.o 1,.ob (BudJ s.left s.dry))]
theorem replaced_d (l:List (Int×Tm))(t u:Tm)(s:Nm.St)(h0:0≤s.left)(h1:s.left≤1000000000)(hu:Wide u)(ha:∀ a∈t.args,Wide a) 
  (ho:u.binds.length=t.args.length→(Nm.put 100001 u t.args ⟨s.left,s.dry,0,0⟩).2.e=0→DoneOk (Nm.put 100001 u t.args ⟨s.left,s.dry,0,0⟩).1) (he:s.e=0) :
  CallC Tryz.prog 115 [.p 0 0,.ag (eTm t),.ag (eTm u)] (swE l s) (swE l (Sb.replaced t u s).2) (.ag (eTm (Sb.replaced t u s).1)):=by
 have hP:=Put_d u t.args s.left s.dry h0 h1 hu ha
 obtain⟨left,dry,count,er⟩:=s
 dsimp only at he h0 h1 ho hP
 subst he
 obtain⟨bs,k,i,a⟩:=t
 dsimp only[Tm.args] at ho hP ha
 obtain⟨p,hp⟩:∃ p,Sb.replaced (.mk bs k i a) u ⟨left,dry,count,0⟩=p:=⟨_,rfl⟩
 rw[hp]
 have hpd:=hp.symm
 clear hp
 have hp1:u.binds.length≠a.length→p=(Nm.tz,⟨left,dry,count,1⟩):=fun h=>hpd.trans (if_pos h)
 have hp2:u.binds.length=a.length→p=if (Nm.Put u a left dry).2.e≠0 then (Nm.tz,⟨(Nm.Put u a left dry).2.left,(Nm.Put u a left dry).2.dry,count,(Nm.Put u a left dry).2.e⟩) else (.mk bs (Nm.Put u a left dry).1.kind (Nm.Put u a left dry).1.index (Nm.Put u a left dry).1.args,⟨(Nm.Put u a left dry).2.left,(Nm.Put u a left dry).2.dry,count,0⟩):=fun h=>hpd.trans (if_neg (fun h'=>h' h))
 clear hpd
 obtain⟨ub,uk,ui,ua⟩:=u
 rw[eTm_eq,eTm_eq (.mk ub uk ui ua)]
 dsimp only[Tm.binds] at hp1 hp2 ho
 refine call_of_dw 2 42 [ResultVar.cell 6 41] TS2_ok (by kernel_rfl) Tryz.func115 rfl Tryz.ntmps115 rfl (by simp) ?dwords ?dbody
 case dwords=>simp[wordsOk,swE,D.ok,D.oks,rnames,inN,ckey,eTm_ok,eTms_ok,eTys_ok,ePairs_ok]
 case dbody=>
  intro cx hnt hn0
  dsimp only[Tm.binds,Tm.kind,Tm.index,Tm.args]
  refine dw_seq ?_;refine dwk [] TS2_ok hnt fun _ z9=>z9 _ _ ?_;refine dw_seq (dw_seq ?_)
  by_cases hl:ub.length=a.length
  ·have hpd:=hp2 hl
   have hP:=hP (ho hl)
   obtain⟨r,hr⟩:∃ r,Nm.Put (.mk ub uk ui ua) a left dry=r:=⟨_,rfl⟩
   rw[hr] at hP hpd
   clear hr
   obtain⟨rt,rs⟩:=r
   dsimp only at hP hpd
   rw[eTm_eq,eTm_eq rt] at hP
   refine dwk [(15,.v (.bool false))] TS2_ok hnt fun K hK=>?_;refine And.intro (VLe.of_eq (by simp[eTys_len,eTms_len,hl])) ?_;refine hK _ _ ?_;clear hK K;refine dw_cond (t:=false) rfl ?_;rw[if_neg (by simp)];refine dw_skip ?_;refine dw_seq ?_;refine dwkD [] TS2_ok hnt fun K hK=>?_;refine dcl (hP) ?_;refine hK _ _ (by kernel_rfl) ?_;clear hK K;refine dw_seq (dw_seq ?_)
   by_cases hre:rs.e=0
   ·rw[if_neg (by simp[hre])] at hpd
    subst hpd
    refine dwk [(32,.v (.bool false))] TS2_ok hnt fun K hK=>?_;refine And.intro (VLe.of_eq (by simp[hre])) ?_;refine hK _ _ ?_;clear hK K;refine dw_cond (t:=false) rfl ?_;rw[if_neg (by simp)];refine dw_skip ?_;refine dw_seq ?_;refine dwk [] TS2_ok hnt fun _ z9=>z9 _ _ ?_;refine dw_seq ?_;refine dwk [] TS2_ok hnt fun _ z9=>z9 _ _ ?_;refine dw_ret ?_
    rw[eTm_eq]
    exact retv (N:=0) (.inr rfl) rfl (by repeat first | exact VLe.refl _ | exact VLe.nil _ | exact VLe.untag _ _ _ | refine VLe.ag ?_ | refine VLe.tu ?_ | refine VLeL.cons ?_ ?_ | exact VLeL.nil) (by repeat first | exact trivial | refine And.intro rfl ?_)
   ·rw[if_pos hre] at hpd
    subst hpd
    refine dwk [(32,.v (.bool true))] TS2_ok hnt fun K hK=>?_;refine And.intro (VLe.of_eq (by simp[hre])) ?_;refine hK _ _ ?_;clear hK K;refine dw_cond (t:=true) rfl ?_;rw[if_pos rfl];refine dw_seq ?_;refine dwk [] TS2_ok hnt fun _ z9=>z9 _ _ ?_;refine dw_seq ?_;refine dwk [] TS2_ok hnt fun _ z9=>z9 _ _ ?_;refine dw_ret ?_
    rw[tz_eq]
    exact retv (N:=0) (.inr rfl) rfl (by repeat first | exact VLe.refl _ | exact VLe.nil _ | exact VLe.untag _ _ _ | refine VLe.ag ?_ | refine VLe.tu ?_ | refine VLeL.cons ?_ ?_ | exact VLeL.nil) (by repeat first | exact trivial | refine And.intro rfl ?_)
  ·have hpd:=hp1 hl
   subst hpd
   refine dwk [(15,.v (.bool true))] TS2_ok hnt fun K hK=>?_;refine And.intro (VLe.of_eq (by simp[eTys_len,eTms_len];omega)) ?_;refine hK _ _ ?_;clear hK K;refine dw_cond (t:=true) rfl ?_;rw[if_pos rfl];refine dw_seq ?_;refine dwk [] TS2_ok hnt fun _ z9=>z9 _ _ ?_;refine dw_seq ?_;refine dwk [] TS2_ok hnt fun _ z9=>z9 _ _ ?_;refine dw_ret ?_
   rw[tz_eq]
   exact retv (N:=0) (.inr rfl) rfl (by repeat first | exact VLe.refl _ | exact VLe.nil _ | exact VLe.untag _ _ _ | refine VLe.ag ?_ | refine VLe.tu ?_ | refine VLeL.cons ?_ ?_ | exact VLeL.nil) (by repeat first | exact trivial | refine And.intro rfl ?_)
def repOk (l:List (Int×Tm))(k i ins:Int)(q:List Tm×Nm.St):Prop:=k=2→q.2.e=0→∀ u,Sb.find l i=some u →
 Wide u∧Wide (Nm.lift ins u 0)∧(∀ a∈q.1,Wide a)∧((Nm.lift ins u 0).binds.length=q.1.length→(Nm.put 100001 (Nm.lift ins u 0) q.1 ⟨q.2.left,q.2.dry,0,0⟩).2.e=0→DoneOk (Nm.put 100001 (Nm.lift ins u 0) q.1 ⟨q.2.left,q.2.dry,0,0⟩).1)
mutual
def thOk (l:List (Int×Tm)):Tm→Int→Nm.St→Prop
 | .mk b k i a,ins,s=>s.e=0→(Nm.spend s).1=true→thOks l a (Nm.wr (ins+b.length)) (Nm.spend s).2∧repOk l k i (Nm.wr (ins+b.length)) (Sb.throughs l a (Nm.wr (ins+b.length)) (Nm.spend s).2)
def thOks (l:List (Int×Tm)):List Tm→Int→Nm.St→Prop
 | [],_,_=>True
 | t :: r,ins,s=>thOk l t ins s∧thOks l r ins (Sb.through l t ins s).2
end
def InR (s:Nm.St):Prop:=0≤s.left∧s.left≤1000000000
theorem spend_in {s:Nm.St}(h:InR s):InR (Nm.spend s).2:=by
 unfold InR at *
 unfold Nm.spend
 split
 ·exact⟨Int.le_refl _,by show (0:Int)≤1000000000;decide⟩
 ·rename_i hc;dsimp only;omega
theorem done_in {p:Tm×Nm.St}(h:InR p.2):InR (Nm.done p).2:=by
 unfold Nm.done
 dsimp only
 have:InR (if p.2.e=0∧¬ (p.1.size≤5000∧p.1.depth≤60) then Nm.fail p.2 2 else p.2):=by
  split
  ·unfold Nm.fail;split <;> exact h
  ·exact h
 generalize (if p.2.e=0∧¬ (p.1.size≤5000∧p.1.depth≤60) then Nm.fail p.2 2 else p.2)=s at this ⊢
 split <;> exact this
theorem Put_in {t:Tm}{xs:List Tm}{left:Int}{dry:Bool}(h:0≤left∧left≤1000000000):InR (Nm.Put t xs left dry).2:=
 done_in (putW_wk (through_wk 100001) t xs ⟨left,dry,0,0⟩ ⟨h,⟨Int.le_refl 0,(by decide:(0:Int)≤100001)⟩,fun _=>(by decide:(0:Int)≤100000)⟩).left
theorem replaced_in {t u:Tm}{s:Nm.St}(h:InR s):InR (Sb.replaced t u s).2:=by
 unfold Sb.replaced
 dsimp only
 split
 ·exact h
 ·have:=Put_in (t:=u) (xs:=t.args) (dry:=s.dry) h
  split <;> exact this
theorem seqM_in {g:Tm→Nm.St→Tm×Nm.St}:∀ (l:List Tm) (hg:∀ t∈l,∀ s,InR s→InR (g t s).2) (s:Nm.St),InR s→InR (Nm.seqM g l s).2
 | [],_,_,h=>h
 | t :: l,hg,s,h=>seqM_in l (fun u hu=>hg u (by simp[hu])) _ (hg t (by simp) s h)
theorem through_in (l:List (Int×Tm)):∀ (t:Tm) (ins:Int) (s:Nm.St),InR s→InR (Sb.through l t ins s).2:=by
 intro t
 induction t using Tm.ind with
 | h bs k i a ih=>
  intro ins s h
  rw[Sb.through]
  dsimp only
  rw[Sb.throughs_seq]
  have hq:=seqM_in (g:=fun t s=>Sb.through l t (Nm.wr (ins+bs.length)) s) a (fun t ht s hs=>ih t ht _ s hs) _ (spend_in h)
  split
  ·exact h
  ·split
   ·exact spend_in h
   ·split
    ·exact hq
    ·split
     ·exact hq
     ·exact replaced_in hq
theorem thOks_at (l:List (Int×Tm))(ins:Int):∀ (a:List Tm) (s:Nm.St),thOks l a ins s→∀ j (h:j<a.length),thOk l a[j] ins (Nm.seqM (fun t s=>Sb.through l t ins s) (a.take j) s).2
 | t :: a,s,h,0,_=>by rw[thOks] at h;exact h.1
 | t :: a,s,h,j+1,hj=>by
  rw[thOks] at h
  exact thOks_at l ins a _ h.2 j (by simpa using hj)
theorem Sb_find_idx (l:List (Int×Tm))(m:Int):Sb.find l m=((idxOf m l).bind fun i=>l[i]?).map (·.2):=by
 rw[find_idx]
 cases idxOf m l <;> rfl
def sthE (l:List (Int×Tm))(s:Nm.St)(bs:List Ty)(k i:Int)(a:List Tm)(ins:Int):List (Key×D):=
  [(.t 0,.p 0 0),(.t 2,.v (.int .i64 ins)),(.t 4,.p 2 0),(.t 6,.p 3 0),(.t 7,.p 26 0),(.c 2 0,.sl 2 (eTys bs) none),(.c 2 1,.v (.int .i64 k)),(.c 2 2,.v (.int .i64 i)),(.c 2 3,.sl 4 (eTms a) none),
   (.c 3 0,.v (.slice none 0 0)),(.c 3 1,.v (.int .i64 0)),(.c 3 2,.v (.int .i64 0)),(.c 3 3,.v (.slice none 0 0)),(.c 26 0,.sl 2 (eTys bs) none),(.c 26 1,.v (.int .i64 k)),(.c 26 2,.v (.int .i64 i)),
   (.c 0 0,.o 1),(.c 0 1,.sl 5 (ePairs l) none),(.c 0 2,.v (.int .i64 s.e)),(.o 1,.ob (BudJ s.left s.dry))]
set_option maxHeartbeats 4000000 in
theorem sthr_d (l:List (Int×Tm))(hl:l.length≤1000000):∀ (t:Tm) (_:Wide t) (ins:Int) (s:Nm.St),InR s→thOk l t ins s →
  CallC Tryz.prog 65 [.p 0 0,.ag (eTm t),.v (.int .i64 ins)] (swE l s) (swE l (Sb.through l t ins s).2) (.ag (eTm (Sb.through l t ins s).1)):=by
 intro t
 induction t using Tm.ind with
 | h bs k i a ih=>
 intro ht ins s hs hok
 obtain⟨w1,w2,w3⟩:=ht.inv
 obtain⟨p,hp⟩:∃ p,Sb.through l (.mk bs k i a) ins s=p:=⟨_,rfl⟩
 rw[Sb.through,Sb.throughs_seq] at hp
 rw[thOk,Sb.throughs_seq] at hok
 obtain⟨m,hm⟩:∃ m,Nm.wr (ins+(bs.length:Int))=m:=⟨_,rfl⟩
 rw[hm] at hp hok
 have hp':Sb.through l (.mk bs k i a) ins s=p:=by rw[←hp,Sb.through,Sb.throughs_seq,hm]
 rw[hp',eTm_eq]
 have hpd:=hp.symm
 dsimp only at hpd
 clear hp hp'
 have hsp:=spend_d 1 s hs.1 hs.2
 have hsi:=spend_in hs
 have hse:=(Nm.spend_keeps s).2
 obtain⟨g,hg⟩:∃ g:Tm→Nm.St→Tm×Nm.St,(fun t s=>Sb.through l t m s)=g:=⟨_,rfl⟩
 have hat:=thOks_at l m a (Nm.spend s).2
 rw[hg] at hpd hok hat
 obtain⟨left,dry,count,er⟩:=s
 dsimp only at hsp hsi hse hpd hok hat
 refine call_of_dw 2 86 [ResultVar.cell 6 41] TS2_ok (by kernel_rfl) Tryz.func65 rfl Tryz.ntmps65 rfl (by simp) ?dwords ?dbody
 case dwords=>simp[wordsOk,swE,D.ok,D.oks,rnames,inN,ckey,eTm_ok,eTms_ok,eTys_ok,ePairs_ok]
 case dbody=>
  intro cx hnt hn0
  dsimp only[Tm.binds,Tm.kind,Tm.index,Tm.args]
  refine dw_seq ?_;refine dwk [] TS2_ok hnt fun _ z9=>z9 _ _ ?_;refine dw_seq (dw_seq ?_)
  by_cases he:er=0
  ·subst he
   refine dwk [(15,.v (.bool false))] TS2_ok hnt fun K hK=>?_;refine And.intro (VLe.refl _) ?_;refine hK _ _ ?_;clear hK K;refine dw_cond (t:=false) rfl ?_;rw[if_neg (by simp)];refine dw_skip ?_;rw[if_neg (by simp)] at hpd;refine dw_seq (dw_seq ?_)
   obtain⟨sp,hspq⟩:∃ sp,Nm.spend ⟨left,dry,count,0⟩=sp:=⟨_,rfl⟩
   rw[hspq] at hsp hsi hse hpd hok hat
   clear hspq
   obtain⟨b,s1⟩:=sp
   dsimp only at hsp hsi hse hpd hok hat
   cases b with
   | false=>
    rw[if_pos rfl] at hpd
    subst hpd
    refine dwk [] TS2_ok hnt fun K hK=>?_;refine dcl (hsp) ?_;refine hK _ _ ?_;clear hK K;refine dw_cond (t:=true) rfl ?_;rw[if_pos rfl];refine dw_seq ?_;refine dwk [] TS2_ok hnt fun _ z9=>z9 _ _ ?_;refine dw_seq ?_;refine dwk [] TS2_ok hnt fun _ z9=>z9 _ _ ?_;refine dw_ret ?_
    rw[tz_eq]
    exact retv (N:=0) (.inr rfl) rfl (by repeat first | exact VLe.refl _ | exact VLe.nil _ | exact VLe.untag _ _ _ | refine VLe.ag ?_ | refine VLe.tu ?_ | refine VLeL.cons ?_ ?_ | exact VLeL.nil) (by repeat first | exact trivial | refine And.intro rfl ?_)
   | true=>
    rw[if_neg (by simp)] at hpd
    obtain⟨hok1,hok2⟩:=hok rfl rfl
    have hat:=hat hok1
    clear hok hok1
    refine dwk [] TS2_ok hnt fun K hK=>?_;refine dcl (hsp) ?_;refine hK _ _ ?_;clear hK K;refine dw_cond (t:=false) rfl ?_;rw[if_neg (by simp)];refine dw_skip ?_;refine dw_seq ?_;refine dwk [(31,.v (.int .i64 m))] TS2_ok hnt fun K hK=>?_;refine And.intro (VLe.of_eq (by rw[eTys_len,←wr_wrap,hm])) ?_;refine hK _ _ ?_;clear hK K
    refine dw_cut (τ:=(.c 26 3,.v (.slice none 0 0)) :: sthE l ⟨s1.left,s1.dry,s1.count,0⟩ bs k i a m) (N1:=27) ?_ ?_
    ·skip
     refine dwk [] TS2_ok hnt fun _ z9=>z9 _ _ ?_
     exact cut_ok VS.toA
    ·have hs1:(⟨s1.left,s1.dry,s1.count,0⟩:Nm.St)=s1:=by rw[←hse]
     rw[hs1]
     dsimp only[sthE]
     refine dw_seq ?_;refine dw_seq ?_;refine dwk [(39,.v (.int .i64 a.length))] TS2_ok hnt fun K hK=>?_;refine And.intro (dintE (by rw[eTms_len])) ?_;refine hK _ _ ?_;clear hK K;refine dw_block ?_
     refine dw_loop (ι:=Nat) (fun j=>(.t 38,.sl 4 (eTms a) none) :: (.t 39,.v (.int .i64 a.length)) :: (.t 40,.v (.int .i64 j)) :: (.c 26 3,.sl 4 (eTms (Nm.seqM g (a.take j) s1).1) (some 31)) :: (.r 31,.rw 41 4 j) :: sthE l (Nm.seqM g (a.take j) s1).2 bs k i a m) 32 (fun j=>a.length-j) 0 (VS.trans (VS.row (k:=26) (off:=3) 41 4 rfl) VS.toA) fun j=>?_
     dsimp only[sthE]
     have hst:InR (Nm.seqM g (a.take j) s1).2:=seqM_in _ (fun t _ s h=>by rw[←hg];exact through_in l t m s h) _ hsi
     have hll:(Nm.seqM g (a.take j) s1).1.length=(a.take j).length:=Nm.seqM_length ..
     refine dw_seq ?_
     by_cases hlt:j<a.length
     ·have hcon:=ih a[j] (List.getElem_mem hlt) (w3 _ (List.getElem_mem hlt)) m (Nm.seqM g (a.take j) s1).2 hst (hat j hlt)
      have hg2:Sb.through l a[j] m (Nm.seqM g (a.take j) s1).2=g a[j] (Nm.seqM g (a.take j) s1).2:=by rw[←hg]
      rw[hg2] at hcon
      have hsq:=Nm.seqM_take g a j hlt s1
      rw[eTm_eq,eTm_eq] at hcon
      refine dwk [(41,.v (.bool true))] TS2_ok hnt fun K hK=>?_;refine And.intro (dtrue (by omega)) ?_;refine hK _ _ ?_;clear hK K;refine dw_seq (dw_cond (t:=true) rfl ?_);rw[if_pos rfl];refine dw_skip (dw_seq (dw_block (dw_seq ?_)));refine dwk [(42,.q [.sl 2 (eTys a[j].binds) none,.v (.int .i64 a[j].kind),.v (.int .i64 a[j].index),.sl 4 (eTms a[j].args) none])] TS2_ok hnt fun K hK=>?_
      refine And.intro (⟨by omega,by rw[eTms_len];omega⟩) ?_;refine And.intro (VLe.of_eq (by rw[Int.toNat_natCast,eTms_getD a j hlt,eTm_eq])) ?_;refine hK _ _ ?_;clear hK K;refine dwkD [(51,.sl 4 (eTms (Nm.seqM g (a.take (j+1)) s1).1) (some 31))] TS2_ok hnt fun K hK=>?_;refine dcl (hcon) ?_;refine And.intro (⟨by rw[eTms_len,hll,List.length_take];omega,by rw[eTms_len,hll,List.length_take];simp;omega⟩) ?_
      refine And.intro (VLe.of_eq (by rw[hsq,eTms_append,eTms,eTms,eTm_eq (g a[j] _).1])) ?_;refine hK _ _ (by kernel_rfl) ?_;clear hK K;refine dwk [(53,.v (.int .i64 ((j+1:Nat):Int)))] TS2_ok hnt fun K hK=>?_;refine And.intro (dintE (by rw[IntWalk.i64_in _ (by omega)];omega)) ?_;refine hK _ _ ?_;clear hK K
      refine⟨j+1,by omega,?_⟩
      have hl2:(eTms (Nm.seqM g (a.take j) s1).1).length=j:=by rw[eTms_len,hll,List.length_take];omega
      rw[hsq]
      exact(by try simp only[List.length_append,List.length_take,List.length_cons,List.length_nil,Nat.zero_add,hl2];exact VS.toA)
     ·rw[List.take_of_length_le (by omega)] at hst hll ⊢
      obtain⟨q,hq⟩:∃ q,Nm.seqM g a s1=q:=⟨_,rfl⟩
      rw[hq] at hst hll hpd hok2 ⊢
      clear hq
      obtain⟨as',s2⟩:=q
      dsimp only at hst hll hpd hok2 ⊢
      have hen:=eTms_len as'
      obtain⟨left,dry,count,er⟩:=s2
      dsimp only at hst hpd hok2 ⊢
      refine dwk [(41,.v (.bool false))] TS2_ok hnt fun K hK=>?_;refine And.intro (dfalse (by omega)) ?_;refine hK _ _ ?_;clear hK K;refine dw_seq (dw_cond (t:=false) rfl ?_);rw[if_neg (by simp)];refine dw_exit ?_;refine dw_seq ?_;refine dw_seq ?_
      by_cases hk:k≠2
      ·rw[if_pos (.inl hk)] at hpd
       subst hpd
       refine dwk [(57,.v (.bool true))] TS2_ok hnt fun K hK=>?_;refine And.intro (VLe.of_eq (by simp[hk])) ?_;refine hK _ _ ?_;clear hK K;refine dw_cond (t:=true) rfl ?_;rw[if_pos rfl];refine dw_seq ?_;refine dwk [] TS2_ok hnt fun _ z9=>z9 _ _ ?_;refine dw_ret ?_
       rw[eTm_eq]
       exact retv (N:=0) (.inr rfl) rfl (by repeat first | exact VLe.refl _ | exact VLe.nil _ | exact VLe.untag _ _ _ | refine VLe.ag ?_ | refine VLe.tu ?_ | refine VLeL.cons ?_ ?_ | exact VLeL.nil) (by repeat first | exact trivial | refine And.intro rfl ?_)
      ·have hk:k=2:=by simpa using hk
       by_cases her:er≠0
       ·rw[if_pos (.inr her)] at hpd
        subst hpd
        refine dwk [(57,.v (.bool false)),(63,.v (.bool true))] TS2_ok hnt fun K hK=>?_;refine And.intro (VLe.of_eq (by simp[hk])) ?_;refine And.intro (VLe.of_eq (by simp[her])) ?_;refine hK _ _ ?_;clear hK K;refine dw_cond (t:=true) rfl ?_;rw[if_pos rfl];refine dw_seq ?_;refine dwk [] TS2_ok hnt fun _ z9=>z9 _ _ ?_;refine dw_ret ?_
        rw[eTm_eq]
        exact retv (N:=0) (.inr rfl) rfl (by repeat first | exact VLe.refl _ | exact VLe.nil _ | exact VLe.untag _ _ _ | refine VLe.ag ?_ | refine VLe.tu ?_ | refine VLeL.cons ?_ ?_ | exact VLeL.nil) (by repeat first | exact trivial | refine And.intro rfl ?_)
       ·have her:er=0:=by simpa using her
        rw[if_neg (fun h=>h.elim (fun h=>h hk) fun h=>h her)] at hpd
        subst her
        have hok2:=hok2 hk rfl
        have hfind:=sfind_d l hl i
        rw[Sb_find_idx] at hpd hok2
        refine dwk [(57,.v (.bool false)),(63,.v (.bool false))] TS2_ok hnt fun K hK=>?_;refine And.intro (VLe.of_eq (by simp[hk])) ?_;refine And.intro (VLe.refl _) ?_;refine hK _ _ ?_;clear hK K;refine dw_cond (t:=false) rfl ?_;rw[if_neg (by simp)];refine dw_skip ?_;refine dw_seq ?_
        cases hx:(idxOf i l).bind fun i=>l[i]? with
        | none=>
         rw[hx] at hfind hpd
         dsimp only at hfind
         simp only[Option.map_none] at hpd
         subst hpd
         refine dwkD [] TS2_ok hnt fun K hK=>?_;refine dcl (hfind) ?_;refine hK _ _ (by kernel_rfl) ?_;clear hK K;refine dw_seq (dw_seq ?_);refine dwk [] TS2_ok hnt fun _ z9=>z9 _ _ ?_;refine dw_cond (t:=true) rfl ?_;rw[if_pos rfl];refine dw_seq ?_;refine dwk [] TS2_ok hnt fun _ z9=>z9 _ _ ?_;refine dw_ret ?_
         rw[eTm_eq]
         exact retv (N:=0) (.inr rfl) rfl (by repeat first | exact VLe.refl _ | exact VLe.nil _ | exact VLe.untag _ _ _ | refine VLe.ag ?_ | refine VLe.tu ?_ | refine VLeL.cons ?_ ?_ | exact VLeL.nil) (by repeat first | exact trivial | refine And.intro rfl ?_)
        | some pr=>
         rw[hx] at hfind hpd hok2
         simp only[Option.map_some] at hpd hok2
         obtain⟨o1,o2,o3,o4⟩:=hok2 pr.2 rfl
         have hgr:=grown_d pr.2 o1 m 0
         obtain⟨v,hv⟩:∃ v,Nm.lift m pr.2 0=v:=⟨_,rfl⟩
         rw[hv] at hpd hgr o2 o4
         have hrep:=replaced_d l (.mk bs k i as') v ⟨left,dry,count,0⟩ hst.1 hst.2 o2 o3 o4 rfl
         rw[←hpd] at hrep
         dsimp only at hfind
         rw[ePair_eq] at hfind
         rw[eTm_eq,eTm_eq] at hgr
         rw[eTm_eq,eTm_eq,eTm_eq] at hrep
         refine dwkD [] TS2_ok hnt fun K hK=>?_;refine dcl (hfind) ?_;refine hK _ _ (by kernel_rfl) ?_;clear hK K;refine dw_seq (dw_seq ?_);refine dwk [] TS2_ok hnt fun _ z9=>z9 _ _ ?_;refine dw_cond (t:=false) rfl ?_;rw[if_neg (by simp)];refine dw_skip ?_;refine dw_seq ?_;refine dwkD [(78,.ag [.sl 2 (eTys bs) none,.v (.int .i64 k),.v (.int .i64 i),.sl 4 (eTms as') none])] TS2_ok hnt fun K hK=>?_
         refine And.intro (auV) ?_;refine dcl (hgr) ?_;refine dcl (hrep) ?_;refine hK _ _ (by kernel_rfl) ?_;clear hK K;refine dw_ret ?_
         rw[eTm_eq]
         exact retv (N:=0) (.inr rfl) rfl (by repeat first | exact VLe.refl _ | exact VLe.nil _ | exact VLe.untag _ _ _ | refine VLe.ag ?_ | refine VLe.tu ?_ | refine VLeL.cons ?_ ?_ | exact VLeL.nil) (by repeat first | exact trivial | refine And.intro rfl ?_)
  ·rw[if_pos he] at hpd
   subst hpd
   refine dwk [(15,.v (.bool true))] TS2_ok hnt fun K hK=>?_;refine And.intro (VLe.of_eq (by simp[he])) ?_;refine hK _ _ ?_;clear hK K;refine dw_cond (t:=true) rfl ?_;rw[if_pos rfl];refine dw_seq ?_;refine dwk [] TS2_ok hnt fun _ z9=>z9 _ _ ?_;refine dw_ret ?_
   rw[tz_eq]
   exact retv (N:=0) (.inr rfl) rfl (by repeat first | exact VLe.refl _ | exact VLe.nil _ | exact VLe.untag _ _ _ | refine VLe.ag ?_ | refine VLe.tu ?_ | refine VLeL.cons ?_ ?_ | exact VLeL.nil) (by repeat first | exact trivial | refine And.intro rfl ?_)
inductive Bnd (B:Nat):Tm→Prop where
 | mk (b:List Ty) (k i:Int) (a:List Tm):Ty.sizes b≤B→-9223372036854775808≤i∧i≤9223372036854775807→(∀ u∈a,Bnd B u)→Bnd B (.mk b k i a)
namespace Bnd
variable {B:Nat}
theorem inv {b:List Ty}{k i:Int}{a:List Tm}(h:Bnd B (.mk b k i a)):Ty.sizes b≤B∧(-9223372036854775808≤i∧i≤9223372036854775807)∧∀ u∈a,Bnd B u:=by
 cases h with
 | mk _ _ _ _ h1 h2 h3=>exact⟨h1,h2,h3⟩
theorem parts {t:Tm}(h:Bnd B t):Ty.sizes t.binds≤B∧(-9223372036854775808≤t.index∧t.index≤9223372036854775807)∧∀ u∈t.args,Bnd B u:=by
 obtain⟨b,k,i,a⟩:=t;exact h.inv
theorem fit (t:Tm):Bnd B t→t.Fit:=by
 induction t using Tm.ind with
 | h b k i a ih=>
  intro h
  obtain⟨_,h2,h3⟩:=h.inv
  exact Tm.fit_iff.2 ⟨h2.1,h2.2,fun u hu=>ih u hu (h3 u hu)⟩
theorem fulls_of {l:List Tm}(h:∀ t∈l,t.full≤t.size * (B+1)):Tm.fulls l≤Tm.sizes l * (B+1):=by
 induction l with
 | nil=>simp[Tm.fulls,Tm.sizes]
 | cons t l ih=>
  have h1:=h t (by simp)
  have h2:=ih fun u hu=>h u (by simp[hu])
  simp only[Tm.fulls,Tm.sizes]
  rw[Nat.add_mul];omega
theorem full (t:Tm):Bnd B t→t.full≤t.size * (B+1):=by
 induction t using Tm.ind with
 | h b k i a ih=>
  intro h
  obtain⟨h1,_,h3⟩:=h.inv
  have:=fulls_of fun u hu=>ih u hu (h3 u hu)
  rw[Tm.full_eq,Tm.size_eq,Nat.add_mul];omega
theorem of_full (t:Tm):t.full≤B→t.Fit→Bnd B t:=by
 induction t using Tm.ind with
 | h b k i a ih=>
  intro h hf
  rw[Tm.full_eq] at h
  obtain⟨f1,f2,f3⟩:=Tm.fit_iff.1 hf
  exact .mk _ _ _ _ (by omega) ⟨f1,f2⟩ fun u hu=>ih u hu (by have:=Tm.full_mem hu;omega) (f3 u hu)
theorem wr_in (x:Int):-9223372036854775808≤Nm.wr x∧Nm.wr x≤9223372036854775807:=wf_i64 (wrap64_wf x)
theorem lift (t:Tm)(y ins:Int):Bnd B t→Bnd B (Nm.lift y t ins):=by
 induction t using Tm.ind generalizing ins with
 | h b k i a ih=>
  intro h
  obtain⟨h1,h2,h3⟩:=h.inv
  rw[Nm.lift_eq,Nm.lifts_map]
  refine .mk _ _ _ _ h1 (by split;exact wr_in _;exact h2) fun u hu=>?_
  obtain⟨v,hv,rfl⟩:=List.mem_map.1 hu
  exact ih v hv _ (h3 v hv)
theorem grown {t:Tm}(h:Bnd B t)(y:Int):Bnd B (Nm.grown t y):=by
 unfold Nm.grown;split
 ·exact h
 ·exact lift t y 0 h
theorem tz:Bnd B Nm.tz:=.mk _ _ _ _ (by simp[Ty.sizes]) (by decide) fun u h=>by cases h
theorem body {t:Tm}(h:Bnd B t):Bnd B (.mk [] t.kind t.index t.args):=.mk _ _ _ _ (by simp[Ty.sizes]) h.parts.2.1 h.parts.2.2
theorem drop_sizes (l:List Ty)(n:Nat):Ty.sizes (l.drop n)≤Ty.sizes l:=by
 have:=Ty.sizes_append (l.take n) (l.drop n)
 rw[List.take_append_drop] at this;omega
theorem getD {xs:List Tm}(h:∀ x∈xs,Bnd B x)(j:Nat):Bnd B (xs.getD j Nm.tz):=by
 rw[List.getD_eq_getElem?_getD]
 by_cases hj:j<xs.length
 ·rw[List.getElem?_eq_getElem hj];exact h _ (List.getElem_mem hj)
 ·rw[List.getElem?_eq_none (by omega)];exact tz
theorem wide (t:Tm):Bnd B t→t.size≤100000→B≤100000→Wide t:=by
 induction t using Tm.ind with
 | h b k i a ih=>
  intro h hs hB
  obtain⟨h1,_,h3⟩:=h.inv
  rw[Tm.size_eq] at hs
  refine .mk _ _ _ _ (by have:=Ty.le_sizes b;omega) (by have:=Tm.len_sizes a;omega) fun u hu=>ih u hu (h3 u hu) (by have:=Tm.size_mem hu;omega) hB
end Bnd
namespace Nm
theorem unit_left {s:St}(h:(unit s).1=true):(unit s).2.left=s.left-1:=by
 unfold unit at h ⊢
 split
 ·rename_i he;rw[if_pos he] at h;cases h
 ·rename_i he
  rw[if_neg he] at h
  split
  ·rename_i hc;rw[if_pos hc] at h;cases h
  ·rename_i hc
   rw[if_neg hc] at h
   have hsp:∀ p,spend s=p→p.1=true→p.2.left=s.left-1:=fun p hp h1=>by
    unfold spend at hp
    split at hp
    ·subst hp;cases h1
    ·subst hp;rfl
   generalize hp:spend s=p at h ⊢
   obtain⟨ok,s'⟩:=p
   cases ok
   ·cases h
   ·exact hsp (true,s') hp rfl
def Gr (B f:Nat)(t:Tm)(s:St)(p:Tm×St):Prop:=p.2.e=0→s.e=0∧(p.1.size:Int)+p.2.left≤s.left∧Bnd B p.1
def Fu (f:Nat)(s:St):Prop:=s.e=0→100001-s.count≤f
theorem seqM_grow {B f:Nat}{g:Tm→St→Tm×St}:∀ (l:List Tm) (hg:∀ t∈l,∀ s,WkOk s→Fu f s→Gr B f t s (g t s)) (hw:∀ t s,WkOk s→WkOk (g t s).2) (hc:∀ t s,s.count≤(g t s).2.count) (s:St),WkOk s→Fu f s →
  (seqM g l s).2.e=0→s.e=0∧(Tm.sizes (seqM g l s).1:Int)+(seqM g l s).2.left≤s.left∧∀ u∈(seqM g l s).1,Bnd B u
 | [],_,_,_,s,_,_,h=>⟨h,by simp[seqM,Tm.sizes],fun u hu=>by cases hu⟩
 | t :: l,hg,hw,hc,s,hs,hf,h=>by
  have h1:=hg t (by simp) s hs hf
  have h2:=seqM_grow l (fun u hu=>hg u (by simp[hu])) hw hc (g t s).2 (hw t s hs) (fun e=>by
   have:=hf (h1 e).1
   have:=hc t s
   omega) h
  have h3:=h1 h2.1
  refine⟨h3.1,?_,fun u hu=>?_⟩
  ·simp only[seqM,Tm.sizes]
   have:=h2.2.1
   have:=h3.2.1
   omega
  ·rcases List.mem_cons.1 hu with rfl | hu
   ·exact h3.2.2
   ·exact h2.2.2 u hu
theorem fail_ne (s:St):(fail s 1).e≠0:=by
 unfold fail;split
 ·show (1:Int)≠0;decide
 ·assumption
def GrThr (B f:Nat)(thr:Thr):Prop:=∀ xs n t ins s,WkOk s→Fu f s→(∀ x∈xs,Bnd B x)→Bnd B t→Gr B f t s (thr xs n t ins s)
theorem putW_grow {B f:Nat}{thr:Thr}(h:GrThr B f thr){t:Tm}{xs:List Tm}{s:St}(hs:WkOk s)(hf:Fu f s)(ht:Bnd B t)(hx:∀ x∈xs,Bnd B x):Gr B f t s (putW thr t xs s):=by
 unfold putW
 split
 ·intro e;exact absurd e (fail_ne s)
 ·intro e
  have h1:=h xs t.binds.length (.mk [] t.kind t.index t.args) 0 s hs hf hx ht.body e
  refine⟨h1.1,?_,?_⟩
  ·have hsz:(Tm.mk (t.binds.drop xs.length) (thr xs t.binds.length (.mk [] t.kind t.index t.args) 0 s).1.kind (thr xs t.binds.length (.mk [] t.kind t.index t.args) 0 s).1.index (thr xs t.binds.length (.mk [] t.kind t.index t.args) 0 s).1.args).size=(thr xs t.binds.length (.mk [] t.kind t.index t.args) 0 s).1.size:=by
    generalize (thr xs t.binds.length (.mk [] t.kind t.index t.args) 0 s).1=r
    obtain⟨b,k,i,a⟩:=r
    rw[Tm.size_eq,Tm.size_eq];rfl
   dsimp only
   rw[hsz];exact h1.2.1
  ·have hr:=h1.2.2.parts
   exact .mk _ _ _ _ (Nat.le_trans (Bnd.drop_sizes _ _) ht.parts.1) hr.2.1 hr.2.2
theorem hit_grow {B f:Nat}{thr:Thr}(h:GrThr B f thr){xs:List Tm}{n:Nat}{t:Tm}{ins:Int}{args:List Tm}{s:St}(hs:WkOk s)(hf:Fu f s)(ht:Bnd B t)(hx:∀ x∈xs,Bnd B x)(ha:∀ a∈args,Bnd B a):
  (hit thr xs n t ins args s).2.e=0→s.e=0∧((hit thr xs n t ins args s).1.size:Int)+(hit thr xs n t ins args s).2.left≤s.left+Tm.sizes args+1∧Bnd B (hit thr xs n t ins args s).1:=by
 obtain⟨t1,t2,t3⟩:=ht.parts
 unfold hit
 split
 ·intro e;exact⟨e,by dsimp only;rw[Tm.size_eq];omega,.mk _ _ _ _ t1 t2 ha⟩
 ·dsimp only
  split
  ·intro e;exact⟨e,by dsimp only;rw[Tm.size_eq];omega,.mk _ _ _ _ t1 t2 ha⟩
  ·split
   ·intro e;exact⟨e,by dsimp only;rw[Tm.size_eq];omega,.mk _ _ _ _ t1 (Bnd.wr_in _) ha⟩
   ·split
    ·intro e;exact absurd e (fail_ne s)
    ·intro e
     have hu:Bnd B (grown (xs.getD ((n:Int)-1-wr (t.index-ins)).toNat tz) (wr (wr (ins+n)-xs.length))):=(Bnd.getD hx _).grown _
     have h1:=putW_grow h hs hf hu ha e
     refine⟨h1.1,?_,?_⟩
     ·have h2:=h1.2.1
      generalize (putW thr (grown (xs.getD ((n:Int)-1-wr (t.index-ins)).toNat tz) (wr (wr (ins+n)-xs.length))) args s)=r at h2 ⊢
      obtain⟨⟨b,k,i,a⟩,s'⟩:=r
      dsimp only at h2 ⊢
      rw[Tm.size_eq] at h2 ⊢
      show ((Tm.sizes a+1:Nat):Int)+s'.left≤_
      omega
     ·have h2:=h1.2.2.parts
      exact .mk _ _ _ _ t1 h2.2.1 h2.2.2
theorem through_grow (B:Nat):∀ f,GrThr B f (through f)
 | 0=>fun xs n t ins s hs hf _ _ e=>by
  have e':s.e=0:=e
  have h1:=hf e'
  have h2:=hs.e0 e'
  omega
 | f+1=>fun xs n t ins s hs hf hx ht=>by
  have ih:=through_grow B f
  intro e
  unfold through at e ⊢
  dsimp only at e ⊢
  by_cases hu:(unit s).1=true
  ·rw[if_pos hu] at e ⊢
   obtain⟨u1,u2,u3⟩:=(unit_count s).2 hu
   have ul:=unit_left hu
   have hw:=unit_wk hs
   have hf1:Fu f (unit s).2:=fun _=>by have:=hf u2;omega
   have hq:=seqM_grow (B:=B) (f:=f) (g:=fun a s=>through f xs n a (wr (ins+t.binds.length)) s) t.args (fun u hu s hs hf=>ih xs n u _ s hs hf hx (ht.parts.2.2 u hu)) (fun u s h=>through_wk f _ _ _ _ _ h) (fun u s=>through_count f _ _ _ _ _) (unit s).2 hw hf1
   have hqw:=seqM_wk (g:=fun a s=>through f xs n a (wr (ins+t.binds.length)) s) (fun u s h=>through_wk f _ _ _ _ _ h) t.args _ hw
   have hqc:=seqM_count (g:=fun a s=>through f xs n a (wr (ins+t.binds.length)) s) (fun u s=>through_count f _ _ _ _ _) t.args (unit s).2
   generalize seqM (fun a s=>through f xs n a (wr (ins+t.binds.length)) s) t.args (unit s).2=q at e hq hqw hqc ⊢
   by_cases hqe:q.2.e=0
   ·have hq:=hq hqe
    have h1:=hit_grow ih (xs:=xs) (n:=n) (t:=t) (ins:=wr (ins+t.binds.length)) (args:=q.1) (s:=q.2) hqw (fun _=>by have:=hf1 u3;omega) ht hx hq.2.2 e
    exact⟨u2,by have:=h1.2.1;have:=hq.2.1;omega,h1.2.2⟩
   ·exfalso
    have hx2:∀ p,hit (through f) xs n t (wr (ins+t.binds.length)) q.1 q.2=p→p.2.e=0→q.2.e=0:=fun p hp hpe=>by
     unfold hit at hp
     split at hp
     ·subst hp;exact hpe
     ·dsimp only at hp
      split at hp
      ·subst hp;exact hpe
      ·split at hp
       ·subst hp;exact hpe
       ·split at hp
        ·subst hp;exact absurd hpe (fail_ne _)
        ·subst hp
         unfold putW at hpe
         rw[if_pos (.inl hqe)] at hpe
         exact absurd hpe (fail_ne _)
    exact hqe (hx2 _ rfl e)
  ·rw[if_neg hu] at e
   exfalso
   have:(unit s).1=false:=by simpa using hu
   have h2:∀ p,unit s=p→p.1=false→p.2.e≠0:=fun p hp h1=>by
    unfold unit at hp
    split at hp
    ·subst hp;assumption
    ·split at hp
     ·subst hp;show (2:Int)≠0;decide
     ·generalize spend s=r at hp
      obtain⟨ok,s'⟩:=r
      cases ok
      ·subst hp;show (11:Int)≠0;decide
      ·subst hp;cases h1
   exact h2 _ rfl this e
end Nm
namespace Sb
variable {B:Nat}
theorem find_mem {l:List (Int×Tm)}{i:Int}{u:Tm}(h:find l i=some u):∃ p∈l,p.2=u:=by
 unfold find at h
 cases hf:l.find? (fun p=>p.1==i) with
 | none=>rw[hf] at h;cases h
 | some p=>rw[hf] at h;cases h;exact⟨p,List.mem_of_find?_eq_some hf,rfl⟩
theorem Put_grow {u:Tm}{xs:List Tm}{left:Int}{dry:Bool}(h0:0≤left∧left≤1000000000)(hu:Bnd B u)(hx:∀ x∈xs,Bnd B x):
  (Nm.Put u xs left dry).2.e=0→((Nm.Put u xs left dry).1.size:Int)+(Nm.Put u xs left dry).2.left≤left∧Bnd B (Nm.Put u xs left dry).1:=by
 have h1:=Nm.putW_grow (Nm.through_grow B 100001) (t:=u) (xs:=xs) (s:=⟨left,dry,0,0⟩) ⟨h0,⟨Int.le_refl 0,(by decide:(0:Int)≤100001)⟩,fun _=>(by decide:(0:Int)≤100000)⟩ (fun _=>by show (100001:Int)-0≤((100001:Nat):Int);decide) hu hx
 unfold Nm.Put Nm.done
 dsimp only
 show _
 have h2:Nm.put 100001 u xs ⟨left,dry,0,0⟩=Nm.putW (Nm.through 100001) u xs ⟨left,dry,0,0⟩:=rfl
 rw[h2]
 generalize Nm.putW (Nm.through 100001) u xs ⟨left,dry,0,0⟩=p at h1
 intro e
 have key:p.2.e=0∧(p.1.size≤5000∧p.1.depth≤60):=by
  by_cases hc:p.2.e=0∧¬ (p.1.size≤5000∧p.1.depth≤60)
  ·exfalso
   rw[if_pos hc] at e
   have hf:(Nm.fail p.2 2).e=2:=by unfold Nm.fail;rw[if_pos hc.1]
   rw[if_pos (by rw[hf];decide)] at e
   rw[hf] at e;cases e
  ·rw[if_neg hc] at e
   by_cases hp:p.2.e=0
   ·exact⟨hp,by
     by_cases h5:p.1.size≤5000∧p.1.depth≤60
     ·exact h5
     ·exact absurd ⟨hp,h5⟩ hc⟩
   ·rw[if_pos hp] at e;exact absurd e hp
 have hc:¬ (p.2.e=0∧¬ (p.1.size≤5000∧p.1.depth≤60)):=fun h=>h.2 key.2
 rw[if_neg hc,if_neg (fun h=>h key.1)]
 have h3:=h1 key.1
 exact⟨h3.2.1,h3.2.2⟩
theorem seq_grow {g:Tm→Nm.St→Tm×Nm.St}:∀ (a:List Tm) (hg:∀ t∈a,∀ s,InR s→(g t s).2.e=0→s.e=0∧((g t s).1.size:Int)+(g t s).2.left≤s.left∧Bnd B (g t s).1) (hi:∀ t∈a,∀ s,InR s→InR (g t s).2) (s:Nm.St),InR s →
  (Nm.seqM g a s).2.e=0→s.e=0∧(Tm.sizes (Nm.seqM g a s).1:Int)+(Nm.seqM g a s).2.left≤s.left∧∀ u∈(Nm.seqM g a s).1,Bnd B u
 | [],_,_,s,_,h=>⟨h,by simp[Nm.seqM,Tm.sizes],fun u hu=>by cases hu⟩
 | t :: a,hg,hi,s,hs,h=>by
  have h2:=seq_grow a (fun u hu=>hg u (by simp[hu])) (fun u hu=>hi u (by simp[hu])) (g t s).2 (hi t (by simp) s hs) h
  have h3:=hg t (by simp) s hs h2.1
  refine⟨h3.1,?_,fun u hu=>?_⟩
  ·simp only[Nm.seqM,Tm.sizes]
   have:=h2.2.1
   have:=h3.2.1
   omega
  ·rcases List.mem_cons.1 hu with rfl | hu
   ·exact h3.2.2
   ·exact h2.2.2 u hu
theorem spend_ok {s:Nm.St}(h:(Nm.spend s).1=true):(Nm.spend s).2.left=s.left-1∧(Nm.spend s).2.e=s.e:=by
 unfold Nm.spend at h ⊢
 split
 ·rename_i hc;rw[if_pos hc] at h;cases h
 ·exact⟨rfl,rfl⟩
theorem grow (l:List (Int×Tm))(hl:∀ p∈l,Bnd B p.2):∀ t:Tm,Bnd B t→∀ (ins:Int) (s:Nm.St),InR s→(through l t ins s).2.e=0→s.e=0∧((through l t ins s).1.size:Int)+(through l t ins s).2.left≤s.left∧Bnd B (through l t ins s).1:=by
 intro t
 induction t using Tm.ind with
 | h b k i a ih=>
  intro ht ins s hs
  obtain⟨t1,t2,t3⟩:=ht.inv
  rw[through]
  dsimp only
  split
  ·intro e;exact absurd e (by assumption)
  ·rename_i he
   have he0:s.e=0:=by omega
   split
   ·intro e;cases e
   ·rename_i hsp
    have hsp:(Nm.spend s).1=true:=by simpa using hsp
    obtain⟨s1,s2⟩:=spend_ok hsp
    rw[throughs_seq]
    have hin:=spend_in hs
    have hq:=seq_grow (B:=B) (g:=fun t s=>through l t (Nm.wr (ins+b.length)) s) a (fun u hu s hs=>ih u hu (t3 u hu) _ s hs) (fun u hu s hs=>through_in l u _ s hs) (Nm.spend s).2 hin
    have hqi:=seqM_in (g:=fun t s=>through l t (Nm.wr (ins+b.length)) s) a (fun u hu s hs=>through_in l u _ s hs) _ hin
    generalize Nm.seqM (fun t s=>through l t (Nm.wr (ins+b.length)) s) a (Nm.spend s).2=q at hq hqi ⊢
    have plain:q.2.e=0→s.e=0∧((Tm.mk b k i q.1).size:Int)+q.2.left≤s.left∧Bnd B (.mk b k i q.1):=fun e=>by
     have h1:=hq e
     refine⟨he0,?_,.mk _ _ _ _ t1 t2 h1.2.2⟩
     rw[Tm.size_eq]
     have:=h1.2.1
     omega
    split
    ·exact plain
    ·rename_i hk
     have hqe:q.2.e=0:=by
      by_cases h:q.2.e=0
      ·exact h
      ·exact absurd (.inr h) hk
     have h1:=hq hqe
     split
     ·exact plain
     ·rename_i u hu
      obtain⟨p,hp,rfl⟩:=find_mem hu
      unfold replaced
      split
      ·intro e;cases e
      ·dsimp only
       have hP:=Put_grow (B:=B) (u:=Nm.lift (Nm.wr (ins+b.length)) p.2 0) (xs:=q.1) (left:=q.2.left) (dry:=q.2.dry) hqi (Bnd.lift _ _ _ (hl p hp)) h1.2.2
       have harg:(Tm.mk b k i q.1).args=q.1:=rfl
       rw[harg]
       generalize Nm.Put (Nm.lift (Nm.wr (ins+b.length)) p.2 0) q.1 q.2.left q.2.dry=r at hP
       split
       ·rename_i hr;intro e;exact absurd e hr
       ·rename_i hr
        have hr0:r.2.e=0:=by omega
        obtain⟨h2,h3⟩:=hP hr0
        intro _
        obtain⟨⟨rb,rk,ri,rg⟩,rs⟩:=r
        dsimp only at h2 h3 ⊢
        have hp3:=h3.inv
        rw[Tm.size_eq] at h2
        have h4:=h1.2.1
        refine⟨he0,?_,.mk _ _ _ _ t1 hp3.2.1 hp3.2.2⟩
        show (((Tm.sizes rg+1:Nat)):Int)+rs.left≤s.left
        omega
theorem put_grow {u:Tm}{xs:List Tm}{left:Int}{dry:Bool}(h0:0≤left∧left≤1000000000)(hu:Bnd B u)(hx:∀ x∈xs,Bnd B x):
  (Nm.put 100001 u xs ⟨left,dry,0,0⟩).2.e=0→((Nm.put 100001 u xs ⟨left,dry,0,0⟩).1.size:Int)≤left∧Bnd B (Nm.put 100001 u xs ⟨left,dry,0,0⟩).1:=fun e=>by
 have hw:WkOk ⟨left,dry,0,0⟩:=⟨h0,⟨Int.le_refl 0,(by decide:(0:Int)≤100001)⟩,fun _=>(by decide:(0:Int)≤100000)⟩
 have h1:=Nm.putW_grow (Nm.through_grow B 100001) (t:=u) (xs:=xs) hw (fun _=>by show (100001:Int)-0≤((100001:Nat):Int);decide) hu hx e
 have h2:=(putW_wk (through_wk 100001) u xs _ hw).left.1
 have h3:=h1.2.1
 have h4:Nm.put 100001 u xs ⟨left,dry,0,0⟩=Nm.putW (Nm.through 100001) u xs ⟨left,dry,0,0⟩:=rfl
 rw[h4]
 exact⟨by dsimp only at h3;omega,h1.2.2⟩
theorem done_ok {L:Nat}(hLB:L * (B+1)≤4400000)(hB:B≤170){t:Tm}(h:Bnd B t)(hs:t.size≤L):DoneOk t:=by
 have h1:=Bnd.full t h
 have h2:t.size * (B+1)≤L * (B+1):=Nat.mul_le_mul_right _ hs
 refine⟨by omega,fun h3=>⟨?_,Bnd.fit t h⟩⟩
 have h4:t.size * (B+1)≤5000 * 171:=Nat.mul_le_mul h3.1 (by omega)
 omega
theorem size_mem' {t:Tm}{l:List Tm}(h:t∈l):t.size≤Tm.sizes l:=Tm.size_mem h
theorem th_ok (L:Nat)(hLB:L * (B+1)≤4400000)(hB:B≤170)(hL:L≤100000)(l:List (Int×Tm))(hl:∀ p∈l,Bnd B p.2∧Wide p.2):∀ t:Tm,Bnd B t→∀ (ins:Int) (s:Nm.St),InR s→(s.e=0→s.left≤L)→thOk l t ins s:=by
 have hl1:∀ p∈l,Bnd B p.2:=fun p hp=>(hl p hp).1
 intro t
 induction t using Tm.ind with
 | h b k i a ih=>
  intro ht ins s hs hle
  obtain⟨t1,t2,t3⟩:=ht.inv
  rw[thOk]
  intro he hsp
  obtain⟨s1,s2⟩:=spend_ok hsp
  have hin:=spend_in hs
  have hle0:=hle he
  constructor
  ·have key:∀ (a:List Tm),(∀ u∈a,Bnd B u)→(∀ u∈a,∀ ins s,InR s→(s.e=0→s.left≤L)→thOk l u ins s)→∀ (ins:Int) (s:Nm.St),InR s→(s.e=0→s.left≤L)→thOks l a ins s:=by
    intro a
    induction a with
    | nil=>intro _ _ ins s _ _;rw[thOks];trivial
    | cons u a ih2=>
     intro hb h ins s hs hle
     rw[thOks]
     refine⟨h u (by simp) ins s hs hle,ih2 (fun v hv=>hb v (by simp[hv])) (fun v hv=>h v (by simp[hv])) ins _ (through_in l u ins s hs) fun e=>?_⟩
     have h1:=grow l hl1 u (hb u (by simp)) ins s hs e
     have:=hle h1.1
     have:=h1.2.1
     omega
   exact key a t3 (fun u hu ins s=>ih u hu (t3 u hu) ins s) _ _ hin (fun _=>by omega)
  ·intro hk hqe u hu
   obtain⟨p,hp,rfl⟩:=find_mem hu
   rw[throughs_seq] at hqe ⊢
   have hq:=seq_grow (B:=B) (g:=fun t s=>through l t (Nm.wr (ins+b.length)) s) a (fun u hu s hs=>grow l hl1 u (t3 u hu) _ s hs) (fun u hu s hs=>through_in l u _ s hs) (Nm.spend s).2 hin
   have hqi:=seqM_in (g:=fun t s=>through l t (Nm.wr (ins+b.length)) s) a (fun u hu s hs=>through_in l u _ s hs) _ hin
   generalize Nm.seqM (fun t s=>through l t (Nm.wr (ins+b.length)) s) a (Nm.spend s).2=q at hqe hq hqi ⊢
   have h1:=hq hqe
   have hsz:=h1.2.1
   have hl0:=hqi.1
   refine⟨(hl p hp).2,(hl p hp).2.lift _ _,fun x hx=>Bnd.wide x (h1.2.2 x hx) (by have:=size_mem' hx;omega) (by omega),fun _ hpe=>?_⟩
   have h2:=put_grow (B:=B) (dry:=q.2.dry) hqi (Bnd.lift _ (Nm.wr (ins+b.length)) 0 (hl p hp).1) h1.2.2 hpe
   exact done_ok hLB hB h2.2 (by have:=h2.1;omega)
theorem apply_ok (L:Nat)(hLB:L * (B+1)≤4400000)(hB:B≤170)(hL:L≤100000)(l:List (Int×Tm))(hl:∀ p∈l,Bnd B p.2∧Wide p.2)(t:Tm)(ht:Bnd B t)(left:Int)(h0:0≤left∧left≤L)(dry:Bool):
  thOk l t 0 ⟨left,dry,0,0⟩∧((through l t 0 ⟨left,dry,0,0⟩).2.e=0→DoneOk (through l t 0 ⟨left,dry,0,0⟩).1):=by
 have hin:InR ⟨left,dry,0,0⟩:=⟨h0.1,by show left≤1000000000;omega⟩
 refine⟨th_ok L hLB hB hL l hl t ht 0 _ hin (fun _=>h0.2),fun e=>?_⟩
 have h1:=grow l (fun p hp=>(hl p hp).1) t ht 0 _ hin e
 have h2:=(through_in l t 0 _ hin).1
 have h3:=h1.2.1
 exact done_ok hLB hB h1.2.2 (by dsimp only at h3;omega)
end Sb
def headTy (C M X:List Ty)(k i:Int):Option Ty:=
 if i<0 then none else if k=0 then X.reverse[i.toNat]? else if k=1 then C[i.toNat]? else if k=2 then M[i.toNat]? else none
theorem headTy_neg {C M X:List Ty}{k i:Int}(h:i<0):headTy C M X k i=none:=by rw[headTy,if_pos h]
theorem headTy_0 {C M X:List Ty}(i:Nat):headTy C M X 0 i=X.reverse[i]?:=by rw[headTy,if_neg (by omega),if_pos rfl];rfl
theorem headTy_1 {C M X:List Ty}(i:Nat):headTy C M X 1 i=C[i]?:=by rw[headTy,if_neg (by omega),if_neg (by decide),if_pos rfl];rfl
theorem headTy_2 {C M X:List Ty}(i:Nat):headTy C M X 2 i=M[i]?:=by rw[headTy,if_neg (by omega),if_neg (by decide),if_neg (by decide),if_pos rfl];rfl
theorem headTy_o {C M X:List Ty}{k i:Int}(h0:k≠0)(h1:k≠1)(h2:k≠2):headTy C M X k i=none:=by
 rw[headTy,if_neg h0,if_neg h1,if_neg h2];split <;> rfl
def tyZ:Ty:=.mk [] 0
theorem sl_at {G F:Nat→Prop}{w:World}{a:Option Addr}{n c:Nat}{l:List Ty}(h:IsSl2 rpTy G F w (.slice a n c) l)(j:Nat)(hj:j<l.length):∃ bl off A N C B,a=some ⟨bl,off,none⟩∧G bl ∧
  w.cell? ⟨bl,off+j * 2,none⟩=some (.slice A N C)∧w.cell? ⟨bl,off+j * 2+1,none⟩=some (.int .i64 B)∧IsTy F w (.slice A N C) (.int .i64 B) l[j]:=by
 obtain⟨a',c',bl,off,X,hv,_,ha,h1,h2⟩:=h
 cases hv
 obtain⟨ha,hG⟩:=ha (by omega)
 obtain⟨s,b,hx,ht⟩:=h2 j hj
 obtain⟨sa,sc,rfl,rfl⟩:=ht.shape
 exact⟨bl,off,_,_,_,_,ha,hG,h1 j 0 _ hj (by rw[hx];rfl),h1 j 1 _ hj (by rw[hx];rfl),ht⟩
mutual
def IsOf (C M:List Ty):Tm→List Ty→Ty→Prop
 | .mk b k i a,X,u=>b=u.args∧∃ h,headTy C M (X++b) k i=some h∧h.base=u.base∧IsOfs C M a (X++b) h.args
def IsOfs (C M:List Ty):List Tm→List Ty→List Ty→Prop
 | [],_,[]=>True
 | [],_,_ :: _=>False
 | _ :: _,_,[]=>False
 | t :: l,X,u :: l'=>IsOf C M t X u∧IsOfs C M l X l'
end
theorem isOf_mk {C M:List Ty}{b:List Ty}{k i:Int}{a:List Tm}{X:List Ty}{u:Ty}:IsOf C M (.mk b k i a) X u↔b=u.args∧∃ h,headTy C M (X++b) k i=some h∧h.base=u.base∧IsOfs C M a (X++b) h.args:=by rw[IsOf]
theorem isOfs_iff {C M:List Ty}{X:List Ty}:∀ {l:List Tm} {l':List Ty},IsOfs C M l X l'↔l'.length=l.length∧∀ i (h:i<l.length) (h':i<l'.length),IsOf C M l[i] X l'[i]
 | [],[]=>by simp[IsOfs]
 | [],_ :: _=>by simp[IsOfs]
 | _ :: _,[]=>by simp[IsOfs]
 | t :: l,u :: l'=>by
  rw[IsOfs,isOfs_iff]
  constructor
  ·rintro⟨h1,h2,h3⟩
   refine⟨by simp[h2],fun i h h'=>?_⟩
   cases i with
   | zero=>exact h1
   | succ i=>exact h3 i (by simpa using h) (by simpa using h')
  ·rintro⟨h1,h2⟩
   exact⟨h2 0 (by simp) (by simp),by simpa using h1,fun i h h'=>h2 (i+1) (by simpa using h) (by simpa using h')⟩
end Go.Proofs.YtflbnonbfmmchaaGreat
