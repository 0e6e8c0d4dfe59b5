/-
  Package slices' stable sort of pairs, walked in the deep way: the merge of many. Package slices' stable sort of pairs, walked in the deep way: the whole; subst.sorted, subst.Of. Package subst's lists, walked in the deep way: Without, Set, Domain, Get. The document's places and uses, walked in the deep way: All, At, Has, Vars, Uses; loose indexes. The document's uses, and what is taken out, walked in the deep way. The document's Take, walked in the deep way; what is wrong with a pattern. Terms that are the same, as deep contracts. Package match, walked in the deep way: put. Package match, walked in the deep way: walk, may. What matching takes out of a term, put back, is the term; plain. A flexible head's term, put back, is the term; plain. Terms put for metavariables keep types; plain. What a matching binds, put into the pattern, is the term; plain. What a matching binds, put into the pattern, is the term: by the pattern; plain. What a matching binds is typed; plain. Deep values: regions with steps through a map.
-/
import Derived.Test.YtflbnonbfmmchaaGreatRowMatchSoundp7
import Derived.Test.YtflbnonbfmmchaaGreatRowMatchSoundp5
import Derived.Test.YtflbnonbfmmchaaGreatRowMatchSoundp6
import Derived.Test.YtflbnonbfmmchaaGreatRowMatchSoundp4
import Derived.Maps.RangeRun
set_option maxRecDepth 100000
set_option maxHeartbeats 1000000
set_option linter.unusedVariables false
set_option linter.unusedSimpArgs false
namespace Go.Proofs.YtflbnonbfmmchaaGreat
open Go.RowKit

def SymC (N:Nat):Prop:=∀ (A X Y Z:List (Int×Tm)) (n a m b:Nat),X.length + Y.length≤N→(A ++ X ++ Y ++ Z).length=n→A.length=a→a + X.length=m→m + Y.length=b→0 < X.length→0 < Y.length→So.Srt X→So.Srt Y→n≤1000000 →
 CallG Tryz.prog 179 (symIn n a m b) (symR (A ++ X ++ Y ++ Z)) (symR (A ++ So.ss (X ++ Y) ++ Z)) (.tu [])
set_option maxHeartbeats 4000000 in
theorem sym_step (N:Nat)(ih:∀ k,k < N→SymC k)(A X Y Z:List (Int×Tm))(n a m b:Nat)(hN:X.length + Y.length≤N)(hn:(A ++ X ++ Y ++ Z).length=n)(ha:A.length=a)(hm:a + X.length=m)(hb:m + Y.length=b)(hX2:2≤X.length)(hY2:2≤Y.length)(hX:So.Srt X)(hY:So.Srt Y)(hM:n≤1000000):
  CallG Tryz.prog 179 (symIn n a m b) (symR (A ++ X ++ Y ++ Z)) (symR (A ++ So.ss (X ++ Y) ++ Z)) (.tu []):=by
 have hbn:b + Z.length=n:=by simp at hn;omega
 obtain⟨L,hL⟩:∃ L,A ++ X ++ Y ++ Z=L:=⟨_,rfl⟩
 rw[hL] at hn ⊢
 obtain⟨mid,hmid⟩:∃ mid,mid=(a + b) / 2:=⟨_,rfl⟩
 obtain⟨lo,hi,hlo⟩:∃ lo hi,(mid < m∧lo + b=mid + m∧hi=mid)∨(m≤mid∧lo=a∧hi=m):=by
  by_cases h:mid < m
  ·exact⟨mid + m - b,mid,.inl ⟨h,by omega,rfl⟩⟩
  ·exact⟨a,m,.inr ⟨by omega,rfl,rfl⟩⟩
 obtain⟨q,hq⟩:∃ q,q + 1=mid + m:=⟨mid + m - 1,by omega⟩
 refine callG_of_dw 1 220 [] TSO_ok (by kernel_rfl) Tryz.func179 rfl Tryz.ntmps179 rfl (by simp) ?dwords ?dbody
 case dwords=>simp[wordsG,rowN,rowsR,gkey,Key.eq,D.ok,D.oks,D.okss,rnames,inN,ckey,ePairs_ok]
 case dbody=>
  intro cx hnt hn0
  refine dw_seq ?_;refine dw_seq ?_;refine dwk [(27,.v (.int .i64 (↑X.length))),(28,.v (.bool false))] TSO_ok hnt fun K hK=>?_;refine And.intro auI ?_;refine And.intro (beqF (by omega)) ?_;refine hK _ _ ?_;clear hK K;refine dw_cond (t:=false) rfl ?_;rw[if_neg (by simp)];refine dw_skip ?_;refine dw_seq ?_;refine dw_seq ?_;refine dwk [(79,.v (.int .i64 (↑Y.length))),(80,.v (.bool false))] TSO_ok hnt fun K hK=>?_
  refine And.intro auI ?_;refine And.intro (beqF (by omega)) ?_;refine hK _ _ ?_;clear hK K;refine dw_cond (t:=false) rfl ?_;rw[if_neg (by simp)];refine dw_skip ?_;refine dw_seq ?_;refine dwk [(131,.v (.int .i64 (↑(a + b)))),(134,.v (.int .i64 (↑mid)))] TSO_ok hnt fun K hK=>?_;refine And.intro auI ?_;refine And.intro (dintE (by rw[hmid];exact half_i _ (by omega))) ?_;refine hK _ _ ?_;clear hK K
  refine dw_seq ?_;refine dwk [(137,.v (.int .i64 (↑(mid + m))))] TSO_ok hnt fun K hK=>?_;refine And.intro auI ?_;refine hK _ _ ?_;clear hK K;refine dw_seq ?_;refine dwk [] TSO_ok hnt fun K hK=>hK _ _ ?_;clear hK K
  refine dw_cut (τ:=[(.t 0,.ps 0 n),(.t 1,.v (.int .i64 ↑a)),(.t 2,.v (.int .i64 ↑m)),(.t 3,.v (.int .i64 ↑b)),(.t 4,.fn 113 []),(.t 18,.v (.int .i64 ↑mid)),(.t 19,.v (.int .i64 ↑(mid + m))),(.t 20,.v (.int .i64 ↑lo)),(.t 21,.v (.int .i64 ↑hi)),(.r 0,.rp 79 5 (ePairs L))]) (N1:=1) ?_ ?_
  ·rcases hlo with⟨g1,g2,g3⟩ | ⟨g1,g2,g3⟩
   ·rw[g3]
    refine dw_seq ?_;refine dwk [(140,.v (.bool true))] TSO_ok hnt fun K hK=>?_;refine And.intro auT ?_;refine hK _ _ ?_;clear hK K;refine dw_cond (t:=true) rfl ?_;rw[if_pos rfl];refine dw_seq ?_;refine dwk [(143,.v (.int .i64 (↑lo)))] TSO_ok hnt fun K hK=>?_;refine And.intro auI ?_;refine hK _ _ ?_;clear hK K;refine dwk [] TSO_ok hnt fun K hK=>hK _ _ ?_;clear hK K
    exact cut_ok (VS.toK (by omega) (by repeat first | exact trivial | refine And.intro (And.intro (by first | rfl | simp[D.ok,D.oks,D.okss,D.okm,upto,keyOk,argsT]) (by first | exact Or.inl rfl | exact Or.inr ⟨_,rfl,(by repeat first | exact VLe.refl _ | exact VLe.nil _ | exact VLe.untag _ _ _ | refine VLe.ag ?_ | refine VLe.tu ?_ | refine VLeL.cons ?_ ?_ | exact VLeL.nil),trivial⟩ | simp[get,Key.eq,argsT])) ?_))
   ·rw[g2,g3]
    refine dw_seq ?_;refine dwk [(140,.v (.bool false))] TSO_ok hnt fun K hK=>?_;refine And.intro auF ?_;refine hK _ _ ?_;clear hK K;refine dw_cond (t:=false) rfl ?_;rw[if_neg (by simp)];refine dw_seq ?_;refine dwk [] TSO_ok hnt fun K hK=>hK _ _ ?_;clear hK K;refine dwk [] TSO_ok hnt fun K hK=>hK _ _ ?_;clear hK K
    exact cut_ok (VS.toK (by omega) (by repeat first | exact trivial | refine And.intro (And.intro (by first | rfl | simp[D.ok,D.oks,D.okss,D.okm,upto,keyOk,argsT]) (by first | exact Or.inl rfl | exact Or.inr ⟨_,rfl,(by repeat first | exact VLe.refl _ | exact VLe.nil _ | exact VLe.untag _ _ _ | refine VLe.ag ?_ | refine VLe.tu ?_ | refine VLeL.cons ?_ ?_ | exact VLeL.nil),trivial⟩ | simp[get,Key.eq,argsT])) ?_))
  ·skip
   refine dw_seq ?_;refine dwk [(148,.v (.int .i64 (↑q)))] TSO_ok hnt fun K hK=>?_;refine And.intro auI ?_;refine hK _ _ ?_;clear hK K;refine dw_seq ?_;refine dw_block ?_
   refine dw_loop (ι:={ p:Nat×Nat // lo≤p.1∧p.1≤p.2∧p.2≤hi∧(p.1=lo∨So.ky L (p.1 - 1)≤So.ky L (mid + m - p.1))∧(p.2=hi∨So.ky L (mid + m - 1 - p.2) < So.ky L p.2) }) (fun p=>[(.t 0,.ps 0 n),(.t 1,.v (.int .i64 ↑a)),(.t 2,.v (.int .i64 ↑m)),(.t 3,.v (.int .i64 ↑b)),(.t 4,.fn 113 []),(.t 18,.v (.int .i64 ↑mid)),(.t 19,.v (.int .i64 ↑(mid + m))),(.t 20,.v (.int .i64 ↑p.1.1)),(.t 21,.v (.int .i64 ↑p.1.2)),(.t 22,.v (.int .i64 ↑q)),(.r 0,.rp 79 5 (ePairs L))]) 1 (fun p=>p.1.2 - p.1.1) (⟨(lo,hi),Nat.le_refl _,by dsimp only;omega,Nat.le_refl _,.inl rfl,.inl rfl⟩) (VS.toA) fun j=>?_
   obtain⟨⟨s,r⟩,k1,k2,k3,k4,k5⟩:=j
   dsimp only at k1 k2 k3 k4 k5 ⊢
   by_cases hsr:s < r
   ·obtain⟨c,hc⟩:∃ c,c=(s + r) / 2:=⟨_,rfl⟩
    have hcm:c < m:=by omega
    obtain⟨d,hd⟩:∃ d,d + c=q:=⟨q - c,by omega⟩
    obtain⟨x,hx⟩:=So.at_ex hn (show c < n by omega)
    obtain⟨y,hy⟩:=So.at_ex hn (show d < n by omega)
    have ex:=So.ky_at hx
    have ey:=So.ky_at hy
    have ho:=sorder_d y x
    rw[ePair_eq,ePair_eq] at ho
    by_cases hlt:y.1 < x.1
    ·skip
     refine dw_seq ?_;refine dw_seq ?_;refine dwk [(151,.v (.bool true))] TSO_ok hnt fun K hK=>?_;refine And.intro auT ?_;refine hK _ _ ?_;clear hK K;refine dw_cond (t:=true) rfl ?_;rw[if_pos rfl];refine dw_skip ?_;refine dw_block ?_;refine dw_seq ?_;refine dwk [(154,.v (.int .i64 (↑(s + r)))),(157,.v (.int .i64 (↑c)))] TSO_ok hnt fun K hK=>?_;refine And.intro auI ?_;refine And.intro (dintE (by rw[hc];exact half_i _ (by omega))) ?_
     refine hK _ _ ?_;clear hK K;refine dw_seq ?_;refine dwkD [(162,.v (.int .i64 (↑d))),(163,.pr 0 n 5 (d) 0),(164,.ag [.v (.int .i64 y.1),.sl 2 (eTys y.2.binds) none,.v (.int .i64 y.2.kind),.v (.int .i64 y.2.index),.sl 4 (eTms y.2.args) none]),(167,.pr 0 n 5 (c) 0),(168,.ag [.v (.int .i64 x.1),.sl 2 (eTys x.2.binds) none,.v (.int .i64 x.2.kind),.v (.int .i64 x.2.index),.sl 4 (eTms x.2.args) none]),(170,.v (.bool true))] TSO_ok hnt fun K hK=>?_
     refine And.intro auI ?_;refine And.intro (by constructor <;> omega) ?_;refine And.intro (by first | rfl | exact VLe.of_eq (by simp)) ?_;refine And.intro (pl_ok hn hy) ?_;refine And.intro (pl_eq hy) ?_;refine And.intro (by constructor <;> omega) ?_;refine And.intro (by first | rfl | exact VLe.of_eq (by simp)) ?_;refine And.intro (pl_ok hn hx) ?_;refine And.intro (pl_eq hx) ?_;refine dcl (ho) ?_
     refine And.intro (dtrue (cmpI_lt.2 hlt)) ?_;refine hK _ _ (by kernel_rfl) ?_;clear hK K;refine dw_cond (t:=false) rfl ?_;rw[if_neg (by simp)];refine dwk [] TSO_ok hnt fun K hK=>hK _ _ ?_;clear hK K
     refine⟨⟨(s,c),k1,by dsimp only;omega,by dsimp only;omega,k4,.inr (by dsimp only;rw[show mid + m - 1 - c=d by omega,ex,ey];exact hlt)⟩,by first | omega | (dsimp only;omega),VS.toA⟩
    ·skip
     refine dw_seq ?_;refine dw_seq ?_;refine dwk [(151,.v (.bool true))] TSO_ok hnt fun K hK=>?_;refine And.intro auT ?_;refine hK _ _ ?_;clear hK K;refine dw_cond (t:=true) rfl ?_;rw[if_pos rfl];refine dw_skip ?_;refine dw_block ?_;refine dw_seq ?_;refine dwk [(154,.v (.int .i64 (↑(s + r)))),(157,.v (.int .i64 (↑c)))] TSO_ok hnt fun K hK=>?_;refine And.intro auI ?_;refine And.intro (dintE (by rw[hc];exact half_i _ (by omega))) ?_
     refine hK _ _ ?_;clear hK K;refine dw_seq ?_;refine dwkD [(162,.v (.int .i64 (↑d))),(163,.pr 0 n 5 (d) 0),(164,.ag [.v (.int .i64 y.1),.sl 2 (eTys y.2.binds) none,.v (.int .i64 y.2.kind),.v (.int .i64 y.2.index),.sl 4 (eTms y.2.args) none]),(167,.pr 0 n 5 (c) 0),(168,.ag [.v (.int .i64 x.1),.sl 2 (eTys x.2.binds) none,.v (.int .i64 x.2.kind),.v (.int .i64 x.2.index),.sl 4 (eTms x.2.args) none]),(170,.v (.bool false))] TSO_ok hnt fun K hK=>?_
     refine And.intro auI ?_;refine And.intro (by constructor <;> omega) ?_;refine And.intro (by first | rfl | exact VLe.of_eq (by simp)) ?_;refine And.intro (pl_ok hn hy) ?_;refine And.intro (pl_eq hy) ?_;refine And.intro (by constructor <;> omega) ?_;refine And.intro (by first | rfl | exact VLe.of_eq (by simp)) ?_;refine And.intro (pl_ok hn hx) ?_;refine And.intro (pl_eq hx) ?_;refine dcl (ho) ?_
     refine And.intro (dfalse (fun h=>hlt (cmpI_lt.1 h))) ?_;refine hK _ _ (by kernel_rfl) ?_;clear hK K;refine dw_cond (t:=true) rfl ?_;rw[if_pos rfl];refine dwk [(173,.v (.int .i64 (↑(c + 1))))] TSO_ok hnt fun K hK=>?_;refine And.intro auI ?_;refine hK _ _ ?_;clear hK K
     refine⟨⟨(c + 1,r),by dsimp only;omega,by dsimp only;omega,k3,.inr (by dsimp only;rw[show c + 1 - 1=c by omega,show mid + m - (c + 1)=d by omega,ex,ey];omega),k5⟩,by first | omega | (dsimp only;omega),VS.toA⟩
   ·have hrs:r=s:=by omega
    subst hrs
    obtain⟨X1,X2,Y1,Y2,rfl,rfl,e1,e2,h1,h2⟩:=So.sym_cut (mid:=mid) (s:=r) hX hY hL.symm ha hm hb (by omega) (by omega) (by omega) (by omega) (by
      rcases k4 with k4 | k4
      ·omega
      ·exact .inr (.inr k4)) (by
      rcases k5 with k5 | k5
      ·omega
      ·exact .inr (.inr k5))
    rw[List.length_append] at hm hb hX2 hY2
    rw[List.length_append,List.length_append] at hN
    obtain⟨e,he⟩:∃ e,e + r=mid + m:=⟨mid + m - r,by omega⟩
    have hcut:=So.ss_cut hX hY h1 h2
    have sx:=So.srt_app.1 hX
    have sy:=So.srt_app.1 hY
    have hlen:A.length + X1.length + X2.length + Y1.length + Y2.length + Z.length=n:=by omega
    rw[hcut]
    refine dw_seq ?_;refine dw_seq ?_;refine dwk [(151,.v (.bool false))] TSO_ok hnt fun K hK=>?_;refine And.intro auF ?_;refine hK _ _ ?_;clear hK K;refine dw_cond (t:=false) rfl ?_;rw[if_neg (by simp)];refine dw_exit ?_;refine dw_seq ?_;refine dwk [(177,.v (.int .i64 (↑e)))] TSO_ok hnt fun K hK=>?_;refine And.intro auI ?_;refine hK _ _ ?_;clear hK K
    refine dw_cut (τ:=[(.t 0,.ps 0 n),(.t 1,.v (.int .i64 ↑a)),(.t 3,.v (.int .i64 ↑b)),(.t 4,.fn 113 []),(.t 18,.v (.int .i64 ↑mid)),(.t 20,.v (.int .i64 ↑r)),(.t 24,.v (.int .i64 ↑e)),(.r 0,.rp 79 5 (ePairs (A ++ X1 ++ Y1 ++ (X2 ++ (Y2 ++ Z)))))]) (N1:=1) ?_ ?_
    ·by_cases c1:r < m
     ·by_cases c2:m < e
      ·have hrot:=rotate_d (A ++ X1) X2 Y1 (Y2 ++ Z) n r m e (by simp;omega) (by simp;omega) (by omega) (by omega) (by omega) (by omega) hM
       have f1:A ++ X1 ++ Y1 ++ X2 ++ (Y2 ++ Z)=A ++ X1 ++ Y1 ++ (X2 ++ (Y2 ++ Z)):=by simp
       have f2:L=A ++ X1 ++ X2 ++ Y1 ++ (Y2 ++ Z):=by rw[←hL];simp
       rw[f1] at hrot
       rw[f2]
       refine dw_seq ?_;refine dwk [(180,.v (.bool true)),(184,.v (.bool true))] TSO_ok hnt fun K hK=>?_;refine And.intro auT ?_;refine And.intro auT ?_;refine hK _ _ ?_;clear hK K;refine dw_cond (t:=true) rfl ?_;rw[if_pos rfl];refine dwk [] TSO_ok hnt fun K hK=>?_;refine dcn (CallG.n (hrot) _) ?_;refine hK _ _ ?_;clear hK K
       exact cut_ok VS.toA
      ·have:Y1=[]:=List.length_eq_zero_iff.1 (by omega)
       have f2:L=A ++ X1 ++ Y1 ++ (X2 ++ (Y2 ++ Z)):=by rw[←hL,this];simp
       rw[f2]
       refine dw_seq ?_;refine dwk [(180,.v (.bool true)),(184,.v (.bool false))] TSO_ok hnt fun K hK=>?_;refine And.intro auT ?_;refine And.intro auF ?_;refine hK _ _ ?_;clear hK K;refine dw_cond (t:=false) rfl ?_;rw[if_neg (by simp)];refine dw_skip ?_
       exact cut_ok VS.toA
     ·have:X2=[]:=List.length_eq_zero_iff.1 (by omega)
      have f2:L=A ++ X1 ++ Y1 ++ (X2 ++ (Y2 ++ Z)):=by rw[←hL,this];simp
      rw[f2]
      refine dw_seq ?_;refine dwk [(180,.v (.bool false))] TSO_ok hnt fun K hK=>?_;refine And.intro auF ?_;refine hK _ _ ?_;clear hK K;refine dw_cond (t:=false) rfl ?_;rw[if_neg (by simp)];refine dw_skip ?_
      exact cut_ok VS.toA
    ·skip
     refine dw_cut (τ:=[(.t 0,.ps 0 n),(.t 3,.v (.int .i64 ↑b)),(.t 4,.fn 113 []),(.t 18,.v (.int .i64 ↑mid)),(.t 24,.v (.int .i64 ↑e)),(.r 0,.rp 79 5 (ePairs (A ++ So.ss (X1 ++ Y1) ++ X2 ++ Y2 ++ Z)))]) (N1:=1) ?_ ?_
     ·have f1:A ++ So.ss (X1 ++ Y1) ++ (X2 ++ (Y2 ++ Z))=A ++ So.ss (X1 ++ Y1) ++ X2 ++ Y2 ++ Z:=by simp
      by_cases c1:a < r
      ·by_cases c2:r < mid
       ·have hs:=ih (X1.length + Y1.length) (by omega) A X1 Y1 (X2 ++ (Y2 ++ Z)) n a r mid (Nat.le_refl _) (by simp;omega) ha e1 e2 (by omega) (by omega) sx.1 sy.1 hM
        rw[f1] at hs
        refine dw_seq ?_;refine dwk [(194,.v (.bool true)),(198,.v (.bool true))] TSO_ok hnt fun K hK=>?_;refine And.intro auT ?_;refine And.intro auT ?_;refine hK _ _ ?_;clear hK K;refine dw_cond (t:=true) rfl ?_;rw[if_pos rfl];refine dwk [] TSO_ok hnt fun K hK=>?_;refine dcn (CallG.n (hs) _) ?_;refine hK _ _ ?_;clear hK K
        exact cut_ok VS.toA
       ·have hy0:Y1=[]:=List.length_eq_zero_iff.1 (by omega)
        have hss:So.ss (X1 ++ Y1)=X1 ++ Y1:=So.ss_self (by rw[hy0,List.append_nil];exact sx.1)
        rw[←f1,hss,←List.append_assoc A X1 Y1]
        refine dw_seq ?_;refine dwk [(194,.v (.bool true)),(198,.v (.bool false))] TSO_ok hnt fun K hK=>?_;refine And.intro auT ?_;refine And.intro auF ?_;refine hK _ _ ?_;clear hK K;refine dw_cond (t:=false) rfl ?_;rw[if_neg (by simp)];refine dw_skip ?_
        exact cut_ok VS.toA
      ·have hx0:X1=[]:=List.length_eq_zero_iff.1 (by omega)
       have hss:So.ss (X1 ++ Y1)=X1 ++ Y1:=So.ss_self (by rw[hx0,List.nil_append];exact sy.1)
       rw[←f1,hss,←List.append_assoc A X1 Y1]
       refine dw_seq ?_;refine dwk [(194,.v (.bool false))] TSO_ok hnt fun K hK=>?_;refine And.intro auF ?_;refine hK _ _ ?_;clear hK K;refine dw_cond (t:=false) rfl ?_;rw[if_neg (by simp)];refine dw_skip ?_
       exact cut_ok VS.toA
     ·have f3:A ++ (So.ss (X1 ++ Y1) ++ So.ss (X2 ++ Y2)) ++ Z=A ++ So.ss (X1 ++ Y1) ++ So.ss (X2 ++ Y2) ++ Z:=by simp
      rw[f3]
      by_cases c1:mid < e
      ·by_cases c2:e < b
       ·have hs:=ih (X2.length + Y2.length) (by omega) (A ++ So.ss (X1 ++ Y1)) X2 Y2 Z n mid e b (Nat.le_refl _) (by simp[So.ss_len];omega) (by simp[So.ss_len];omega) (by omega) (by omega) (by omega) (by omega) sx.2.1 sy.2.1 hM
        refine dw_seq ?_;refine dwk [(208,.v (.bool true)),(212,.v (.bool true))] TSO_ok hnt fun K hK=>?_;refine And.intro auT ?_;refine And.intro auT ?_;refine hK _ _ ?_;clear hK K;refine dw_cond (t:=true) rfl ?_;rw[if_pos rfl];refine dwk [] TSO_ok hnt fun K hK=>?_;refine dcn (CallG.n (hs) _) ?_;refine hK _ _ ?_;clear hK K
        exact reta rfl
       ·have hy0:Y2=[]:=List.length_eq_zero_iff.1 (by omega)
        have hss:So.ss (X2 ++ Y2)=X2 ++ Y2:=So.ss_self (by rw[hy0,List.append_nil];exact sx.2.1)
        rw[hss,←List.append_assoc _ X2 Y2]
        refine dw_seq ?_;refine dwk [(208,.v (.bool true)),(212,.v (.bool false))] TSO_ok hnt fun K hK=>?_;refine And.intro auT ?_;refine And.intro auF ?_;refine hK _ _ ?_;clear hK K;refine dw_cond (t:=false) rfl ?_;rw[if_neg (by simp)];refine dw_skip ?_
        exact reta rfl
      ·have hx0:X2=[]:=List.length_eq_zero_iff.1 (by omega)
       have hss:So.ss (X2 ++ Y2)=X2 ++ Y2:=So.ss_self (by rw[hx0,List.nil_append];exact sy.2.1)
       rw[hss,←List.append_assoc _ X2 Y2]
       refine dw_seq ?_;refine dwk [(208,.v (.bool false))] TSO_ok hnt fun K hK=>?_;refine And.intro auF ?_;refine hK _ _ ?_;clear hK K;refine dw_cond (t:=false) rfl ?_;rw[if_neg (by simp)];refine dw_skip ?_
       exact reta rfl
theorem sym_all (N:Nat):SymC N:=by
 induction N using Nat.strongRecOn with
 | ind N ih=>
  intro A X Y Z n a m b hN hn ha hm hb h1 h2 hX hY hM
  by_cases c1:X.length=1
  ·obtain⟨x,rfl⟩:=List.length_eq_one_iff.1 c1
   exact sym_left A x Y Z n a m b hn ha (by simpa using hm) hb hY hM
  ·by_cases c2:Y.length=1
   ·obtain⟨y,rfl⟩:=List.length_eq_one_iff.1 c2
    exact sym_right A X y Z n a m b hn ha hm (by simpa using hb) hX c1 hM
   ·exact sym_step N ih A X Y Z n a m b hN hn ha hm hb (by omega) (by omega) hX hY hM
theorem symM_d (A X Y Z:List (Int×Tm))(n a m b:Nat)(hn:(A ++ X ++ Y ++ Z).length=n)(ha:A.length=a)(hm:a + X.length=m)(hb:m + Y.length=b)(h1:0 < X.length)(h2:0 < Y.length)(hX:So.Srt X)(hY:So.Srt Y)(hM:n≤1000000):
  CallG Tryz.prog 179 (symIn n a m b) (symR (A ++ X ++ Y ++ Z)) (symR (A ++ So.ss (X ++ Y) ++ Z)) (.tu []):=sym_all _ A X Y Z n a m b (Nat.le_refl _) hn ha hm hb h1 h2 hX hY hM
def TSP_79:TI:=⟨5,true,[Value.int IntKind.i64 0,Value.slice none 0 0,Value.int IntKind.i64 0,Value.int IntKind.i64 0,Value.slice none 0 0],[(0,1,false),(1,4,true)],none,72,6,none,false⟩
theorem TSP_79_ok:TypOk Tryz.prog 79 TSP_79:=by constructor <;> kernel_rfl
def TSP_51:TI:=⟨1,false,[Value.slice none 0 0],[],some 79,24,5,none,false⟩
theorem TSP_51_ok:TypOk Tryz.prog 51 TSP_51:=by constructor <;> kernel_rfl
def TSP_50:TI:=⟨1,false,[Value.slice none 0 0],[],some 79,24,5,none,false⟩
theorem TSP_50_ok:TypOk Tryz.prog 50 TSP_50:=by constructor <;> kernel_rfl
def TSP_3:TI:=⟨1,false,[Value.int IntKind.i64 0],[],none,8,2,none,false⟩
theorem TSP_3_ok:TypOk Tryz.prog 3 TSP_3:=by constructor <;> kernel_rfl
def TSP_41:TI:=⟨4,true,[Value.slice none 0 0,Value.int IntKind.i64 0,Value.int IntKind.i64 0,Value.slice none 0 0],[(0,1,false),(1,2,true),(3,1,false)],none,64,6,none,false⟩
theorem TSP_41_ok:TypOk Tryz.prog 41 TSP_41:=by constructor <;> kernel_rfl
def TSP_204:TI:=⟨1,false,[Value.nilFunc],[],none,8,8,none,false⟩
theorem TSP_204_ok:TypOk Tryz.prog 204 TSP_204:=by constructor <;> kernel_rfl
def TSP:List (Nat×TI):=[(79,TSP_79),(51,TSP_51),(50,TSP_50),(3,TSP_3),(41,TSP_41),(204,TSP_204)]
theorem TSP_ok:TabOk Tryz.prog TSP:=(((((((TabOk.nil _).cons TSP_204_ok).cons TSP_41_ok).cons TSP_3_ok).cons TSP_50_ok).cons TSP_51_ok).cons TSP_79_ok)

namespace So
theorem Ch.two {α:Type}{s:Nat}{Q:List (Int×α)}(h:Ch s Q)(hl:2 * s≤Q.length)(hs:0 < s):∃ c d l,Q=c ++ d ++ l∧c.length=s∧d.length=s∧Srt c∧Srt d∧Ch s l:=by
 obtain⟨c,l,rfl,hc,hsc,hch⟩:=h.more (by omega)
 rw[List.length_append] at hl
 by_cases h1:s < l.length
 ·obtain⟨d,l2,rfl,hd,hsd,hch2⟩:=hch.more h1
  exact⟨c,d,l2,by rw[List.append_assoc],hc,hd,hsc,hsd,hch2⟩
 ·exact⟨c,l,[],by simp,hc,by omega,hsc,hch.one (by omega) hs,.last [] (by simp) srt_nil⟩
end So
set_option maxHeartbeats 4000000 in
theorem stableC_d (l:List (Int×Tm))(n:Nat)(hn:l.length=n)(hM:n≤1000000):
  CallG Tryz.prog 149 [.ps 0 n,.v (.int .i64 ↑n),.fn 113 []] (symR l) (symR (So.ss l)) (.tu []):=by
 refine callG_of_dw 1 63 [] TSO_ok (by kernel_rfl) Tryz.func149 rfl Tryz.ntmps149 rfl (by simp) ?dwords ?dbody
 case dwords=>simp[wordsG,rowN,rowsR,gkey,Key.eq,D.ok,D.oks,D.okss,rnames,inN,ckey,ePairs_ok]
 case dbody=>
  intro cx hnt hn0
  refine dw_seq ?_;refine dwk [] TSO_ok hnt fun K hK=>hK _ _ ?_;clear hK K;refine dw_seq ?_;refine dwk [] TSO_ok hnt fun K hK=>hK _ _ ?_;clear hK K;refine dw_seq ?_;refine dw_block ?_
  refine dw_loop (ι:={ p:List (Int×Tm)×List (Int×Tm) // So.Fu 20 p.1∧So.Same (p.1 ++ p.2) l∧p.1.length + p.2.length=n }) (fun p=>[(.t 0,.ps 0 n),(.t 1,.v (.int .i64 ↑n)),(.t 2,.fn 113 []),(.t 6,.v (.int .i64 20)),(.t 7,.v (.int .i64 ↑p.1.1.length)),(.t 8,.v (.int .i64 ↑(p.1.1.length + 20))),(.r 0,.rp 79 5 (ePairs (p.1.1 ++ p.1.2)))]) 1 (fun p=>p.1.2.length) (⟨([],l),.nil,So.Same.refl _,by simpa using hn⟩) ((VS.toK (by omega) (by repeat first | exact trivial | refine And.intro (And.intro (by first | rfl | simp[D.ok,D.oks,D.okss,D.okm,upto,keyOk,argsT]) (by first | exact Or.inl rfl | exact Or.inr ⟨_,rfl,(by repeat first | exact VLe.refl _ | exact VLe.nil _ | exact VLe.untag _ _ _ | refine VLe.ag ?_ | refine VLe.tu ?_ | refine VLeL.cons ?_ ?_ | exact VLeL.nil),trivial⟩ | simp[get,Key.eq,argsT])) ?_))) fun j=>?_
  obtain⟨⟨P,Q⟩,hF,hS,hl⟩:=j
  dsimp only at hF hS hl ⊢
  by_cases hb:P.length + 20≤n
  ·obtain⟨Q1,Q2,rfl,h20⟩:∃ Q1 Q2,Q=Q1 ++ Q2∧Q1.length=20:=⟨Q.take 20,Q.drop 20,(List.take_append_drop _ _).symm,by simp;omega⟩
   rw[List.length_append] at hl
   have hins:=insSort_d P Q1 Q2 n P.length (P.length + 20) (by simp;omega) rfl (by omega) hM
   rw[←List.append_assoc]
   refine dw_seq ?_;refine dw_seq ?_;refine dwk [(13,.v (.bool true))] TSO_ok hnt fun K hK=>?_;refine And.intro auT ?_;refine hK _ _ ?_;clear hK K;refine dw_cond (t:=true) rfl ?_;rw[if_pos rfl];refine dw_skip ?_;refine dw_block ?_;refine dw_seq ?_;refine dwk [] TSO_ok hnt fun K hK=>?_;refine dcn (CallG.n (hins) _) ?_;refine hK _ _ ?_;clear hK K;refine dw_seq ?_;refine dwk [(7,.v (.int .i64 ↑(P ++ So.ss Q1).length))] TSO_ok hnt fun K hK=>?_
   refine And.intro (VLe.of_eq (by rw[List.length_append,So.ss_len,h20])) ?_;refine hK _ _ ?_;clear hK K;refine dwk [(22,.v (.int .i64 (↑((P ++ So.ss Q1).length + 20))))] TSO_ok hnt fun K hK=>?_;refine And.intro (dintE (by rw[IntWalk.i64_in _ (by omega)];simp[So.ss_len];omega)) ?_;refine hK _ _ ?_;clear hK K
   refine⟨⟨(P ++ So.ss Q1,Q2),hF.snoc (by rw[So.ss_len,h20]) (So.ss_srt _),So.Same.trans (by simpa using((So.Same.refl P).app ((So.ss_same Q1).app (So.Same.refl Q2)))) (by simpa using hS),by simp[So.ss_len];omega⟩,by simp;omega,VS.toA⟩
  ·have hins:=insSort_d P Q [] n P.length n (by simp;omega) rfl hl hM
   rw[List.append_nil,List.append_nil] at hins
   refine dw_seq ?_;refine dw_seq ?_;refine dwk [(13,.v (.bool false))] TSO_ok hnt fun K hK=>?_;refine And.intro auF ?_;refine hK _ _ ?_;clear hK K;refine dw_cond (t:=false) rfl ?_;rw[if_neg (by simp)];refine dw_exit ?_;refine dw_seq ?_;refine dwk [] TSO_ok hnt fun K hK=>?_;refine dcn (CallG.n (hins) _) ?_;refine hK _ _ ?_;clear hK K;refine dw_block ?_
   refine dw_loop (ι:={ p:Nat×List (Int×Tm) // 0 < p.1∧p.1≤20 + 2 * n∧So.Ch p.1 p.2∧So.Same p.2 l∧p.2.length=n }) (fun p=>[(.t 0,.ps 0 n),(.t 1,.v (.int .i64 ↑n)),(.t 2,.fn 113 []),(.t 6,.v (.int .i64 ↑p.1.1)),(.r 0,.rp 79 5 (ePairs p.1.2))]) 1 (fun p=>n - p.1.1) (⟨(20,P ++ So.ss Q),by dsimp only;omega,by dsimp only;omega,hF.ch (.last _ (by rw[So.ss_len];omega) (So.ss_srt _)),((So.Same.refl P).app (So.ss_same Q)).trans hS,by simp[So.ss_len];omega⟩) (VS.toA) fun j=>?_
   clear hins hF hS hl hb P Q
   obtain⟨⟨s,L⟩,h0,hbd,hC,hS,hl⟩:=j
   dsimp only at h0 hbd hC hS hl ⊢
   by_cases hsn:s < n
   ·skip
    refine dw_seq ?_;refine dw_seq ?_;refine dwk [(30,.v (.bool true))] TSO_ok hnt fun K hK=>?_;refine And.intro auT ?_;refine hK _ _ ?_;clear hK K;refine dw_cond (t:=true) rfl ?_;rw[if_pos rfl];refine dw_skip ?_;refine dw_block ?_;refine dw_seq ?_;refine dwk [(32,.v (.int .i64 (↑(2 * s)))),(8,.v (.int .i64 ↑(0 + 2 * s)))] TSO_ok hnt fun K hK=>?_;refine And.intro auI ?_;refine And.intro (VLe.of_eq (by rw[Nat.zero_add])) ?_
    refine hK _ _ ?_;clear hK K;refine dw_seq ?_;refine dw_block ?_
    refine dw_loop (ι:={ p:List (Int×Tm)×List (Int×Tm) // So.Fu (2 * s) p.1∧So.Ch s p.2∧So.Same (p.1 ++ p.2) l∧p.1.length + p.2.length=n }) (fun p=>[(.t 0,.ps 0 n),(.t 1,.v (.int .i64 ↑n)),(.t 2,.fn 113 []),(.t 6,.v (.int .i64 ↑s)),(.t 7,.v (.int .i64 ↑p.1.1.length)),(.t 8,.v (.int .i64 ↑(p.1.1.length + 2 * s))),(.r 0,.rp 79 5 (ePairs (p.1.1 ++ p.1.2)))]) 1 (fun p=>p.1.2.length) (⟨([],L),.nil,hC,hS,by simpa using hl⟩) ((VS.toK (by omega) (by repeat first | exact trivial | refine And.intro (And.intro (by first | rfl | simp[D.ok,D.oks,D.okss,D.okm,upto,keyOk,Nat.zero_add]) (by first | exact Or.inl rfl | exact Or.inr ⟨_,rfl,(by repeat first | exact VLe.refl _ | exact VLe.nil _ | exact VLe.untag _ _ _ | refine VLe.ag ?_ | refine VLe.tu ?_ | refine VLeL.cons ?_ ?_ | exact VLeL.nil),trivial⟩ | simp[get,Key.eq,Nat.zero_add])) ?_))) fun j=>?_
    clear hC hS hl L
    obtain⟨⟨P,Q⟩,hF,hC,hS,hl⟩:=j
    dsimp only at hF hC hS hl ⊢
    by_cases hb:P.length + 2 * s≤n
    ·obtain⟨c,d,Q2,rfl,hc,hd,sc,sd,hC2⟩:=hC.two (by omega) h0
     rw[List.length_append,List.length_append] at hl
     have hm:=symM_d P c d Q2 n P.length (P.length + s) (P.length + 2 * s) (by simp;omega) rfl (by omega) (by omega) (by omega) (by omega) sc sd hM
     have e1:P ++ (c ++ d ++ Q2)=P ++ c ++ d ++ Q2:=by simp
     rw[e1]
     refine dw_seq ?_;refine dw_seq ?_;refine dwk [(35,.v (.bool true))] TSO_ok hnt fun K hK=>?_;refine And.intro auT ?_;refine hK _ _ ?_;clear hK K;refine dw_cond (t:=true) rfl ?_;rw[if_pos rfl];refine dw_skip ?_;refine dw_block ?_;refine dw_seq ?_;refine dwk [(40,.v (.int .i64 (↑(P.length + s))))] TSO_ok hnt fun K hK=>?_;refine And.intro auI ?_;refine dcn (CallG.n (hm) _) ?_;refine hK _ _ ?_;clear hK K
     refine dw_seq ?_;refine dwk [(7,.v (.int .i64 ↑(P ++ So.ss (c ++ d)).length))] TSO_ok hnt fun K hK=>?_;refine And.intro (VLe.of_eq (by rw[List.length_append,So.ss_len,List.length_append,hc,hd,Nat.two_mul])) ?_;refine hK _ _ ?_;clear hK K;refine dwk [(47,.v (.int .i64 (↑(2 * s)))),(48,.v (.int .i64 (↑((P ++ So.ss (c ++ d)).length + 2 * s))))] TSO_ok hnt fun K hK=>?_;refine And.intro auI ?_
     refine And.intro (dintE (by rw[IntWalk.i64_in _ (by omega)];simp[So.ss_len];omega)) ?_;refine hK _ _ ?_;clear hK K
     refine⟨⟨(P ++ So.ss (c ++ d),Q2),hF.snoc (by rw[So.ss_len,List.length_append];omega) (So.ss_srt _),hC2,So.Same.trans (by simpa using((So.Same.refl P).app ((So.ss_same (c ++ d)).app (So.Same.refl Q2)))) (by simpa using hS),by simp[So.ss_len];omega⟩,by simp;omega,VS.toA⟩
    ·by_cases hq:s < Q.length
     ·obtain⟨c,d,rfl,hc,sc,hC2⟩:=hC.more hq
      rw[List.length_append] at hl hq
      have sd:=hC2.one (by omega) h0
      have hm:=symM_d P c d [] n P.length (P.length + s) n (by simp;omega) rfl (by omega) (by omega) (by omega) (by omega) sc sd hM
      have e1:P ++ (c ++ d)=P ++ c ++ d:=by simp
      rw[List.append_nil,List.append_nil] at hm
      rw[e1]
      refine dw_seq ?_;refine dw_seq ?_;refine dwk [(35,.v (.bool false))] TSO_ok hnt fun K hK=>?_;refine And.intro auF ?_;refine hK _ _ ?_;clear hK K;refine dw_cond (t:=false) rfl ?_;rw[if_neg (by simp)];refine dw_exit ?_;refine dw_seq ?_;refine dw_seq ?_;refine dwk [(51,.v (.int .i64 (↑(P.length + s))))] TSO_ok hnt fun K hK=>?_;refine And.intro auI ?_;refine hK _ _ ?_;clear hK K
      refine dw_seq ?_;refine dwk [(54,.v (.bool true))] TSO_ok hnt fun K hK=>?_;refine And.intro auT ?_;refine hK _ _ ?_;clear hK K;refine dw_cond (t:=true) rfl ?_;rw[if_pos rfl];refine dwk [] TSO_ok hnt fun K hK=>?_;refine dcn (CallG.n (hm) _) ?_;refine hK _ _ ?_;clear hK K;refine dwk [(62,.v (.int .i64 (↑(2 * s))))] TSO_ok hnt fun K hK=>?_;refine And.intro auI ?_;refine hK _ _ ?_;clear hK K
      refine⟨⟨(2 * s,P ++ So.ss (c ++ d)),by dsimp only;omega,by dsimp only;omega,hF.ch (.last _ (by rw[So.ss_len,List.length_append];omega) (So.ss_srt _)),So.Same.trans ((So.Same.refl P).app (So.ss_same (c ++ d))) hS,by simp[So.ss_len];omega⟩,by first | omega | (dsimp only;omega),VS.toA⟩
     ·have sq:=hC.one (by omega) h0
      refine dw_seq ?_;refine dw_seq ?_;refine dwk [(35,.v (.bool false))] TSO_ok hnt fun K hK=>?_;refine And.intro auF ?_;refine hK _ _ ?_;clear hK K;refine dw_cond (t:=false) rfl ?_;rw[if_neg (by simp)];refine dw_exit ?_;refine dw_seq ?_;refine dw_seq ?_;refine dwk [(51,.v (.int .i64 (↑(P.length + s))))] TSO_ok hnt fun K hK=>?_;refine And.intro auI ?_;refine hK _ _ ?_;clear hK K
      refine dw_seq ?_;refine dwk [(54,.v (.bool false))] TSO_ok hnt fun K hK=>?_;refine And.intro auF ?_;refine hK _ _ ?_;clear hK K;refine dw_cond (t:=false) rfl ?_;rw[if_neg (by simp)];refine dw_skip ?_;refine dwk [(62,.v (.int .i64 (↑(2 * s))))] TSO_ok hnt fun K hK=>?_;refine And.intro auI ?_;refine hK _ _ ?_;clear hK K
      refine⟨⟨(2 * s,P ++ Q),by dsimp only;omega,by dsimp only;omega,hF.ch (.last _ (by omega) sq),hS,by simp;omega⟩,by first | omega | (dsimp only;omega),VS.toA⟩
   ·have hsrt:=hC.one (by omega) h0
    have hfin:So.ss l=L:=So.ss_eq hsrt hS
    rw[hfin]
    refine dw_seq ?_;refine dw_seq ?_;refine dwk [(30,.v (.bool false))] TSO_ok hnt fun K hK=>?_;refine And.intro auF ?_;refine hK _ _ ?_;clear hK K;refine dw_cond (t:=false) rfl ?_;rw[if_neg (by simp)];refine dw_exit ?_
    exact reta rfl
theorem stable_d (l:List (Int×Tm))(n:Nat)(hn:l.length=n)(hM:n≤1000000):
  CallG Tryz.prog 123 [.ps 0 n,.fn 113 []] (symR l) (symR (So.ss l)) (.tu []):=by
 have hs:=stableC_d l n hn hM
 refine callG_of_dw 1 9 [] TSO_ok (by kernel_rfl) Tryz.func123 rfl Tryz.ntmps123 rfl (by simp) ?dwords ?dbody
 case dwords=>simp[wordsG,rowN,rowsR,gkey,Key.eq,D.ok,D.oks,D.okss,rnames,inN,ckey,ePairs_ok]
 case dbody=>
  intro cx hnt hn0
  refine dwk [] TSO_ok hnt fun K hK=>?_;refine dcn (CallG.n (hs) _) ?_;refine hK _ _ ?_;clear hK K
  exact reta rfl
theorem sortedN_d (l:List (Int×Tm))(hl:l.length≤1000000)(ht:∀ p∈l,p.2.full≤80000∧p.2.Fit)(nm:Nat):CallN Tryz.prog 83 [.sl 5 (ePairs l) none] [] nm [(.r nm,.rw 79 5 l.length)] (.sl 5 (ePairs (So.ss l)) (some nm)):=by
 have hst:=stable_d l l.length rfl hl
 refine callRow_of_dw 25 [ResultVar.tmp 2] TSP_ok (by kernel_rfl) Tryz.func83 rfl Tryz.ntmps83 rfl (by simp) (by simp[D.ok,ePairs_ok]) (by simp[D.okss,ePairs_ok]) ?dbody nm
 case dbody=>
  intro cx hnt hn0
  refine dw_seq ?_;refine dwk [] TSP_ok hnt fun K hK=>hK _ _ ?_;clear hK K
  refine dw_cut (τ:=[(.t 0,.sl 5 (ePairs l) none),(.t 3,.v (.slice none 0 0))]) (N1:=0) ?_ ?_
  ·skip
   refine dwk [] TSP_ok hnt fun K hK=>hK _ _ ?_;clear hK K
   exact cut_ok (VS.toK (by omega) (by repeat first | exact trivial | refine And.intro (And.intro (by first | rfl | simp[D.ok,D.oks,D.okss,D.okm,upto,keyOk,argsT]) (by first | exact Or.inl rfl | exact Or.inr ⟨_,rfl,(by repeat first | exact VLe.refl _ | exact VLe.nil _ | exact VLe.untag _ _ _ | refine VLe.ag ?_ | refine VLe.tu ?_ | refine VLeL.cons ?_ ?_ | exact VLeL.nil),trivial⟩ | simp[get,Key.eq,argsT])) ?_))
  ·refine DW.vs (VS.rowPT (x:=3) (by rw[hnt];decide) 79 5 rfl) ?_
   refine dw_seq ?_;refine dw_seq ?_;refine dwk [(7,.v (.int .i64 (↑l.length)))] TSP_ok hnt fun K hK=>?_;refine And.intro (dintE (by rw[ePairs_len])) ?_;refine hK _ _ ?_;clear hK K;refine dw_block ?_
   refine dw_loop (ι:={ k:Nat // k≤l.length }) (fun k=>[(.t 3,.ps 0 k.1),(.t 6,.sl 5 (ePairs l) none),(.t 7,.v (.int .i64 ↑l.length)),(.t 8,.v (.int .i64 ↑k.1)),(.r 0,.rp 79 5 (ePairs (l.take k.1)))]) 1 (fun k=>l.length - k.1) (⟨0,Nat.zero_le _⟩) ((VS.toK (by omega) (by repeat first | exact trivial | refine And.intro (And.intro (by first | rfl | simp[D.ok,D.oks,D.okss,D.okm,upto,keyOk,argsT]) (by first | exact Or.inl rfl | exact Or.inr ⟨_,rfl,(by repeat first | exact VLe.refl _ | exact VLe.nil _ | exact VLe.untag _ _ _ | refine VLe.ag ?_ | refine VLe.tu ?_ | refine VLeL.cons ?_ ?_ | exact VLeL.nil),trivial⟩ | simp[get,Key.eq,argsT])) ?_))) fun k=>?_
   obtain⟨k,hk⟩:=k
   dsimp only
   by_cases hlt:k < l.length
   ·have hc:=copy_d l[k].2 (ht _ (List.getElem_mem hlt)).1 (ht _ (List.getElem_mem hlt)).2
    rw[eTm_eq] at hc
    have htk:ePairs (l.take k) ++ [[.v (.int .i64 l[k].1),.sl 2 (eTys l[k].2.binds) none,.v (.int .i64 l[k].2.kind),.v (.int .i64 l[k].2.index),.sl 4 (eTms l[k].2.args) none]]=ePairs (l.take (k + 1)):=by
     rw[List.take_add_one,List.getElem?_eq_getElem hlt,←ePair_eq]
     show List.map ePair (l.take k) ++ [ePair l[k]]=List.map ePair (l.take k ++ [l[k]])
     rw[List.map_append];rfl
    refine dw_seq ?_;refine dwk [(9,.v (.bool true))] TSP_ok hnt fun K hK=>?_;refine And.intro auT ?_;refine hK _ _ ?_;clear hK K;refine dw_seq ?_;refine dw_cond (t:=true) rfl ?_;rw[if_pos rfl];refine dw_skip ?_;refine dw_seq ?_;refine dw_block ?_;refine dw_seq ?_;refine dwk [(10,.q [.v (.int .i64 l[k].1),.sl 2 (eTys l[k].2.binds) none,.v (.int .i64 l[k].2.kind),.v (.int .i64 l[k].2.index),.sl 4 (eTms l[k].2.args) none])] TSP_ok hnt fun K hK=>?_
    refine And.intro (elo (ePairs_len l)) ?_;refine And.intro (elv (ePairs_getD l k) (ePair_eq _)) ?_;refine hK _ _ ?_;clear hK K;refine dwkD [(20,.ps 0 (k + 1))] TSP_ok hnt fun K hK=>?_;refine dcl (hc) ?_;refine And.intro (⟨by simp[ePairs_len];omega,by simp[ePairs_len];omega⟩) ?_;refine And.intro (VLe.refl _) ?_;refine hK _ _ (by kernel_rfl) ?_;clear hK K
    rw[htk]
    refine dwk [(21,.v (.int .i64 (↑(k + 1))))] TSP_ok hnt fun K hK=>?_;refine And.intro auI ?_;refine hK _ _ ?_;clear hK K
    refine⟨⟨k + 1,by omega⟩,by first | omega | (dsimp only;omega),VS.toA⟩
   ·have hke:l.take k=l:=List.take_of_length_le (by omega)
    have hkl:k=l.length:=by omega
    rw[hke,hkl]
    refine dw_seq ?_;refine dwk [(9,.v (.bool false))] TSP_ok hnt fun K hK=>?_;refine And.intro auF ?_;refine hK _ _ ?_;clear hK K;refine dw_seq ?_;refine dw_cond (t:=false) rfl ?_;rw[if_neg (by simp)];refine dw_exit ?_;refine dw_seq ?_;refine dwk [] TSP_ok hnt fun K hK=>?_;refine dcn (CallG.n (hst) _) ?_;refine hK _ _ ?_;clear hK K;refine dw_seq ?_;refine dwk [] TSP_ok hnt fun K hK=>?_
    refine hK _ _ ?_;clear hK K
    refine dw_freeze (x:=2) (g:=0) rfl rfl (ePairs_len _ |>.trans (So.ss_len l)) ?_
    rw[show (ePairs (So.ss l)).length=l.length by rw[ePairs_len,So.ss_len]]
    refine dw_ret ?_
    exact⟨.inr rfl,0,rfl,rfl⟩
theorem sOf_d (l:List (Int×Tm))(hl:l.length≤1000000)(ht:∀ p∈l,p.2.full≤80000∧p.2.Fit):PureC Tryz.prog 104 [.sl 5 (ePairs l) none] (.tu [.sl 5 (if Sb.right (So.ss l) then ePairs (So.ss l) else []) none,.v (.int .i64 (if Sb.right (So.ss l) then 0 else 1))]):=by
 have hs:=sortedN_d l hl ht
 have hr:=sright_d (So.ss l) (by rw[So.ss_len];exact hl)
 cases h:Sb.right (So.ss l) with
 | true=>
  rw[h] at hr
  rw[if_pos rfl,if_pos rfl]
  refine calldw 0 11 [ResultVar.tmp 2,ResultVar.tmp 3] TSP_ok Tryz.func104 rfl Tryz.ntmps104 rfl fun cx hnt hn0=>?_
  ·skip
   refine dw_seq ?_;refine dwk [] TSP_ok hnt fun K hK=>hK _ _ ?_;clear hK K;refine dw_seq ?_;refine dwk [(6,.sl 5 (ePairs (So.ss l)) none)] TSP_ok hnt fun K hK=>?_;refine dcn (hs _) ?_;refine And.intro (VLe.untag _ _ _) ?_;refine hK _ _ ?_;clear hK K;refine dw_seq ?_;refine dw_seq ?_;refine dwk [] TSP_ok hnt fun K hK=>?_;refine dcl (hr) ?_;refine hK _ _ ?_;clear hK K;refine dw_cond (t:=false) rfl ?_
   rw[if_neg (by simp)];refine dw_skip ?_;refine dw_seq ?_;refine dwk [] TSP_ok hnt fun K hK=>hK _ _ ?_;clear hK K;refine dw_ret ?_
   exact reta rfl
 | false=>
  rw[h] at hr
  rw[if_neg (by simp),if_neg (by simp)]
  refine calldw 0 11 [ResultVar.tmp 2,ResultVar.tmp 3] TSP_ok Tryz.func104 rfl Tryz.ntmps104 rfl fun cx hnt hn0=>?_
  ·skip
   refine dw_seq ?_;refine dwk [] TSP_ok hnt fun K hK=>hK _ _ ?_;clear hK K;refine dw_seq ?_;refine dwk [(6,.sl 5 (ePairs (So.ss l)) none)] TSP_ok hnt fun K hK=>?_;refine dcn (hs _) ?_;refine And.intro (VLe.untag _ _ _) ?_;refine hK _ _ ?_;clear hK K;refine dw_seq ?_;refine dw_seq ?_;refine dwk [] TSP_ok hnt fun K hK=>?_;refine dcl (hr) ?_;refine hK _ _ ?_;clear hK K;refine dw_cond (t:=true) rfl ?_
   rw[if_pos rfl];refine dw_seq ?_;refine dwk [] TSP_ok hnt fun K hK=>hK _ _ ?_;clear hK K;refine dw_ret ?_
   exact reta rfl
namespace So
variable {α:Type} {f:α→Bool} {l:List α} {j:Nat}
end So
def del (m:List Int)(p:Int×Tm):Bool:=m.any fun x=>decide (x=p.1)
def kept (m:List Int)(l:List (Int×Tm)):List (Int×Tm):=l.filter fun p=>!del m p
def TRP_22:TI:=⟨1,false,[Value.slice none 0 0],[],some 103,24,5,none,false⟩
theorem TRP_22_ok:TypOk Tryz.prog 22 TRP_22:=by constructor <;> kernel_rfl
def TRP_103:TI:=⟨2,true,[Value.slice none 0 0,Value.int IntKind.i64 0],[(0,1,false),(1,1,false)],none,32,6,none,false⟩
theorem TRP_103_ok:TypOk Tryz.prog 103 TRP_103:=by constructor <;> kernel_rfl
def TRP:List (Nat×TI):=[(22,TRP_22),(103,TRP_103)]
theorem TRP_ok:TabOk Tryz.prog TRP:=(((TabOk.nil _).cons TRP_103_ok).cons TRP_22_ok)

namespace Pn
mutual
def pth:Tm→List Int→List (List Int)
 | .mk _ _ _ a,p=>p :: pths a p 0
def pths:List Tm→List Int→Nat→List (List Int)
 | [],_,_=>[]
 | t :: l,p,j=>pth t (p ++ [(j:Int)]) ++ pths l p (j + 1)
end
end Pn
def ePaths (l:List (List Int)):List (List D):=l.map fun p=>[.sl 1 (eIs p) none]
@[simp] theorem ePaths_ok (f g:Nat→Bool) (l:List (List Int)):D.okss f g (ePaths l)=true:=D.okss_map _ l fun l _=>by simp[D.oks,D.ok,eIs_ok]
theorem rbehind_d (l r:List Ty)(h:l.length + r.length≤900000):PureC Tryz.prog 48 [.sl 2 (eTys l) none,.sl 2 (eTys r) none] (.sl 2 (eTys (l ++ r)) none):=by
 rw[eTys_append]
 have e1:=eTys_len l
 have e2:=eTys_len r
 refine call_of_dw 0 12 [ResultVar.tmp 4] TRP_ok (by kernel_rfl) Tryz.func48 rfl Tryz.ntmps48 rfl (by simp) ?dwords ?dbody
 case dwords=>simp[wordsOk,D.ok,D.oks,D.okss,rnames,inN,ckey,eTys_ok,←eTys_append]
 case dbody=>
  intro cx hnt hn0
  refine dw_seq ?_;refine dwk [] TRP_ok hnt fun K hK=>hK _ _ ?_;clear hK K;refine dw_seq ?_;refine dwk [] TRP_ok hnt fun K hK=>hK _ _ ?_;clear hK K;refine dw_seq ?_;refine dwk [] TRP_ok hnt fun K hK=>?_;refine And.intro (by omega) ?_;refine hK _ _ ?_;clear hK K;refine dw_seq ?_;refine dwk [] TRP_ok hnt fun K hK=>?_;refine And.intro (⟨rfl,by omega⟩) ?_;refine hK _ _ ?_;clear hK K
  refine dw_ret ?_
  exact reta rfl
theorem atP_sizes:∀ (p:List Int) (t:Tm) (r:Tm×List Ty),Pn.atP p t=some r→r.2.length + r.1.full≤t.full + r.1.binds.length∧r.1.full≤t.full∧r.2.length≤t.full∧Ty.sizes r.2≤t.full
 | [],t,r,h=>by
  rw[Pn.atP] at h;cases h
  have:=full_args t
  have h2:=Ty.le_sizes t.binds
  dsimp only;omega
 | j :: p,t,r,h=>by
  rw[Pn.atP] at h
  split at h
  ·rename_i hj
   cases h2:Pn.atP p (t.args.getD j.toNat Tm.zero) with
   | none=>rw[h2] at h;cases h
   | some r'=>
    rw[h2] at h;cases h
    have hlt:j.toNat < t.args.length:=by omega
    have e:t.args.getD j.toNat Tm.zero=t.args[j.toNat]:=by rw[List.getD_eq_getElem?_getD,List.getElem?_eq_getElem hlt];rfl
    rw[e] at h2
    have ih:=atP_sizes p _ r' h2
    have hm:=full_mem (List.getElem_mem hlt)
    have:=full_args t
    have h3:=Ty.le_sizes t.binds
    dsimp only
    rw[List.length_append,Ty.sizes_append]
    omega
  ·cases h
namespace Pn
end Pn
theorem subs_part (t:Tm):∀ (ar:List Ty) (p:List Int),t.Fit→∀ s∈Pn.subs t ar p,s.1.full≤t.full∧s.1.Fit:=by
 induction t using Tm.ind with
 | h bs k i a ih=>
  intro ar p hf s hs
  rw[Pn.subs_eq] at hs
  rcases List.mem_cons.1 hs with rfl | hs
  ·exact⟨Nat.le_refl _,hf⟩
  ·obtain⟨j,hj,hs⟩:=Pn.subss_mem _ _ _ _ hs
   have hfm:=full_mem (List.getElem_mem hj)
   have:=ih a[j] (List.getElem_mem hj) _ _ (fit_args hf _ (List.getElem_mem hj)) s hs
   rw[Tm.full_eq]
   exact⟨by omega,this.2⟩
namespace Pn
theorem ix_get {x:Int}:∀ {l:List Int} {k:Nat},ix x l=some k→l[k]?=some x
 | v :: l,k,h=>by
  rw[ix] at h
  split at h
  ·rename_i e;cases h;simp[e]
  ·cases hx:ix x l with
   | none=>rw[hx] at h;cases h
   | some j=>rw[hx] at h;cases h;simpa using ix_get hx
end Pn
def TP4_41:TI:=⟨4,true,[Value.slice none 0 0,Value.int IntKind.i64 0,Value.int IntKind.i64 0,Value.slice none 0 0],[(0,1,false),(1,2,true),(3,1,false)],none,64,6,none,false⟩
theorem TP4_41_ok:TypOk Tryz.prog 41 TP4_41:=by constructor <;> kernel_rfl
def TP4_39:TI:=⟨1,false,[Value.slice none 0 0],[],some 41,24,5,none,false⟩
theorem TP4_39_ok:TypOk Tryz.prog 39 TP4_39:=by constructor <;> kernel_rfl
def TP4_33:TI:=⟨1,false,[Value.slice none 0 0],[],some 44,24,5,none,false⟩
theorem TP4_33_ok:TypOk Tryz.prog 33 TP4_33:=by constructor <;> kernel_rfl
def TP4_201:TI:=⟨1,true,[Value.map none],[(0,1,false)],none,8,6,none,false⟩
theorem TP4_201_ok:TypOk Tryz.prog 201 TP4_201:=by constructor <;> kernel_rfl
def TP4_3:TI:=⟨1,false,[Value.int IntKind.i64 0],[],none,8,2,none,false⟩
theorem TP4_3_ok:TypOk Tryz.prog 3 TP4_3:=by constructor <;> kernel_rfl
def TP4_38:TI:=⟨2,true,[Value.int IntKind.i64 0,Value.int IntKind.i64 0],[(0,1,false),(1,1,false)],none,16,6,none,true⟩
theorem TP4_38_ok:TypOk Tryz.prog 38 TP4_38:=by constructor <;> kernel_rfl
def TP4_199:TI:=⟨1,false,[Value.map none],[],none,8,7,some 41,false⟩
theorem TP4_199_ok:TypOk Tryz.prog 199 TP4_199:=by constructor <;> kernel_rfl
def TP4_45:TI:=⟨1,false,[Value.int IntKind.i64 0],[],none,8,2,none,false⟩
theorem TP4_45_ok:TypOk Tryz.prog 45 TP4_45:=by constructor <;> kernel_rfl
def TP4_192:TI:=⟨1,false,[Value.slice none 0 0],[],some 33,24,5,none,false⟩
theorem TP4_192_ok:TypOk Tryz.prog 192 TP4_192:=by constructor <;> kernel_rfl
def TP4_59:TI:=⟨1,false,[Value.slice none 0 0],[],some 3,24,5,none,false⟩
theorem TP4_59_ok:TypOk Tryz.prog 59 TP4_59:=by constructor <;> kernel_rfl
def TP4_144:TI:=⟨1,false,[Value.nilFunc],[],none,8,8,none,false⟩
theorem TP4_144_ok:TypOk Tryz.prog 144 TP4_144:=by constructor <;> kernel_rfl
def TP4_44:TI:=⟨2,true,[Value.slice none 0 0,Value.int IntKind.i64 0],[(0,1,false),(1,1,false)],none,32,6,none,false⟩
theorem TP4_44_ok:TypOk Tryz.prog 44 TP4_44:=by constructor <;> kernel_rfl
def TP4:List (Nat×TI):=[(41,TP4_41),(39,TP4_39),(33,TP4_33),(201,TP4_201),(3,TP4_3),(38,TP4_38),(199,TP4_199),(45,TP4_45),(192,TP4_192),(59,TP4_59),(144,TP4_144),(44,TP4_44)]
theorem TP4_ok:TabOk Tryz.prog TP4:=(((((((((((((TabOk.nil _).cons TP4_44_ok).cons TP4_144_ok).cons TP4_59_ok).cons TP4_192_ok).cons TP4_45_ok).cons TP4_199_ok).cons TP4_38_ok).cons TP4_3_ok).cons TP4_201_ok).cons TP4_33_ok).cons TP4_39_ok).cons TP4_41_ok)

def eBd (b:Pn.Bd):List (Int×D):=b.map fun p=>(p.1,.ag (eTm p.2))
@[simp] theorem eBd_ok (f g:Nat→Bool) (b:Pn.Bd):D.okm f g (eBd b)=true:=okm_map _ b fun p _=>by simp[D.ok,eTm_ok]
theorem eBd_find (b:Pn.Bd)(m:Int):mfind (eBd b) m=(Pn.bfind b m).map fun t=>.ag (eTm t):=by
 induction b with
 | nil=>rfl
 | cons p b ih=>
  show (if m=p.1 then _ else mfind (eBd b) m)=_
  unfold Pn.bfind at ih ⊢
  rw[List.find?_cons]
  by_cases h:p.1=m
  ·simp[h]
  ·have h2:(p.1 == m)=false:=by simp[h]
   rw[if_neg fun e=>h e.symm,h2,ih]
theorem eBd_put (b:Pn.Bd)(m:Int)(t:Tm)(h:Pn.bfind b m=none):mput (eBd b) m (.ag (eTm t))=eBd (b ++ [(m,t)]):=by
 induction b with
 | nil=>rfl
 | cons p b ih=>
  show (if m=p.1 then _ else _ :: mput (eBd b) m _)=_
  unfold Pn.bfind at ih h
  rw[List.find?_cons] at h
  by_cases hp:p.1=m
  ·simp[hp] at h
  ·have h2:(p.1 == m)=false:=by simp[hp]
   rw[h2] at h
   rw[if_neg fun e=>hp e.symm,ih h];rfl
theorem mput_d (b:Pn.Bd)(m:Int)(t:Tm):CallC Tryz.prog 168 [.mo 0,.v (.int .i64 m),.ag (eTm t)] [(.o 0,.mp (eBd b))] [(.o 0,.mp (eBd (Pn.bput b m t).2))] (.v (.bool (Pn.bput b m t).1)):=by
 have hfi:=eBd_find b m
 cases h:Pn.bfind b m with
 | some u=>
  have he:=equal2_d t u
  have hb:Pn.bput b m t=(decide (t=u),b):=by unfold Pn.bput;rw[h]
  rw[h] at hfi
  rw[hb]
  rw[eTm_eq,eTm_eq] at he
  rw[eTm_eq]
  dsimp only
  refine calldw 1 22 [ResultVar.tmp 6] TP4_ok Tryz.func168 rfl Tryz.ntmps168 rfl fun cx hnt hn0=>?_
  ·skip
   refine dw_seq ?_;refine dwk [] TP4_ok hnt fun K hK=>hK _ _ ?_;clear hK K;refine dw_seq ?_;refine dw_seq ?_;refine dwk [(12,.tu [.ag [.sl 2 (eTys u.binds) none,.v (.int .i64 u.kind),.v (.int .i64 u.index),.sl 4 (eTms u.args) none],.v (.bool true)])] TP4_ok hnt fun K hK=>?_;refine And.intro (VLe.of_eq (by unfold lookD;rw[hfi,←eTm_eq];rfl)) ?_;refine hK _ _ ?_;clear hK K
   refine dw_seq ?_;refine dwk [] TP4_ok hnt fun K hK=>hK _ _ ?_;clear hK K;refine dw_cond (t:=true) rfl ?_;rw[if_pos rfl];refine dw_seq ?_;refine dwk [] TP4_ok hnt fun K hK=>?_;refine dcl (he) ?_;refine hK _ _ ?_;clear hK K;refine dw_ret ?_
   exact reta rfl
 | none=>
  have hb:Pn.bput b m t=(true,b ++ [(m,t)]):=by unfold Pn.bput;rw[h]
  have hp:=eBd_put b m t h
  rw[h] at hfi
  rw[hb]
  rw[eTm_eq] at hp ⊢
  dsimp only
  refine calldw 1 22 [ResultVar.tmp 6] TP4_ok Tryz.func168 rfl Tryz.ntmps168 rfl fun cx hnt hn0=>?_
  ·skip
   refine dw_seq ?_;refine dwk [] TP4_ok hnt fun K hK=>hK _ _ ?_;clear hK K;refine dw_seq ?_;refine dw_seq ?_;refine dwk [(12,.tu [.ag [.v (.slice none 0 0),.v (.int .i64 0),.v (.int .i64 0),.v (.slice none 0 0)],.v (.bool false)])] TP4_ok hnt fun K hK=>?_;refine And.intro (VLe.of_eq (by unfold lookD;rw[hfi];rfl)) ?_;refine hK _ _ ?_;clear hK K;refine dw_seq ?_;refine dwk [] TP4_ok hnt fun K hK=>?_
   refine hK _ _ ?_;clear hK K;refine dw_cond (t:=false) rfl ?_;rw[if_neg (by simp)];refine dw_skip ?_;refine dw_seq ?_;refine dwk [] TP4_ok hnt fun K hK=>hK _ _ ?_;clear hK K
   rw[hp]
   refine dw_seq ?_;refine dwk [] TP4_ok hnt fun K hK=>hK _ _ ?_;clear hK K;refine dw_ret ?_
   exact reta rfl
theorem mflex_d (b:Pn.Bd)(p t:Tm)(ar:List Ty)(hk:p.kind=2)(hzp:p.full≤10000)(hfp:p.Fit)(har:ar.length≤10000)(ht:∀ v,Pn.varsL (ar.length:Nat) p.args []=some v→Ty.sizes (Pn.types ar v) + (Tm.mk [] t.kind t.index t.args).full≤80000)(hlow:lowB (.mk [] t.kind t.index t.args)=true)(hft:(Tm.mk [] t.kind t.index t.args).Fit):
  CallC Tryz.prog 140 [.ag [.mo 0],.ag (eTm p),.ag (eTm t),.sl 2 (eTys ar) none] [(.o 0,.mp (eBd b))] [(.o 0,.mp (eBd (Pn.flex b p t ar).2))] (.v (.bool (Pn.flex b p t ar).1)):=by
 have hva:=pvars_d p (ar.length:Nat) (by omega) hfp
 have hvv:Pn.vars p (ar.length:Nat)=match Pn.varsL (ar.length:Nat) p.args [] with | some l=>(l,0) | none=>([],6):=by unfold Pn.vars;exact if_neg (by simp[hk])
 rw[hvv] at hva
 have hpl:=full_args p
 have hpa:=fulls_len p.args
 unfold Pn.flex
 cases hv:Pn.varsL (ar.length:Nat) p.args [] with
 | none=>
  rw[hv] at hva
  rw[eTm_eq] at hva
  rw[eTm_eq,eTm_eq]
  dsimp only at hva ⊢
  refine calldw 1 43 [ResultVar.tmp 8] TP4_ok Tryz.func140 rfl Tryz.ntmps140 rfl fun cx hnt hn0=>?_
  ·skip
   refine dw_seq ?_;refine dwk [] TP4_ok hnt fun K hK=>hK _ _ ?_;clear hK K;refine dw_seq ?_;refine dwk [(15,.v (.int .i64 (↑ar.length)))] TP4_ok hnt fun K hK=>?_;refine And.intro (dintE (by rw[eTys_len])) ?_;refine dcl (hva) ?_;refine hK _ _ ?_;clear hK K;refine dw_seq ?_;refine dw_seq ?_;refine dwk [(20,.v (.bool true))] TP4_ok hnt fun K hK=>?_;refine And.intro (VLe.refl _) ?_
   refine hK _ _ ?_;clear hK K;refine dw_cond (t:=true) rfl ?_;rw[if_pos rfl];refine dw_seq ?_;refine dwk [] TP4_ok hnt fun K hK=>hK _ _ ?_;clear hK K;refine dw_ret ?_
   exact reta rfl
 | some v=>
  have hvl:=Pn.varsL_len _ _ _ _ hv
  have htk:=ptake_d (.mk [] t.kind t.index t.args) ar v har (by simp at hvl;omega) (ht v hv) hlow hft
  rw[hv] at hva
  rw[eTm_eq] at hva
  obtain⟨⟨x,e⟩,hx⟩:∃ x,Pn.take (.mk [] t.kind t.index t.args) ar v=x:=⟨_,rfl⟩
  have hpu:=mput_d b p.index x
  dsimp only
  rw[hx] at htk ⊢
  rw[eTm_eq,eTm_eq] at htk
  rw[eTm_eq] at hpu
  rw[eTm_eq,eTm_eq]
  dsimp only[Tm.binds,Tm.kind,Tm.index,Tm.args,eTys] at hva htk hpu ⊢
  by_cases he:e=0
  ·rw[if_pos he]
   refine calldw 1 43 [ResultVar.tmp 8] TP4_ok Tryz.func140 rfl Tryz.ntmps140 rfl fun cx hnt hn0=>?_
   ·skip
    refine dw_seq ?_;refine dwk [] TP4_ok hnt fun K hK=>hK _ _ ?_;clear hK K;refine dw_seq ?_;refine dwk [(15,.v (.int .i64 (↑ar.length)))] TP4_ok hnt fun K hK=>?_;refine And.intro (dintE (by rw[eTys_len])) ?_;refine dcl (hva) ?_;refine hK _ _ ?_;clear hK K;refine dw_seq ?_;refine dw_seq ?_;refine dwk [(20,.v (.bool false))] TP4_ok hnt fun K hK=>?_;refine And.intro (VLe.refl _) ?_
    refine hK _ _ ?_;clear hK K;refine dw_cond (t:=false) rfl ?_;rw[if_neg (by simp)];refine dw_skip ?_;refine dw_seq ?_;refine dwk [(26,.ag [.sl 2 [] none,.v (.int .i64 t.kind),.v (.int .i64 t.index),.sl 4 (eTms t.args) none])] TP4_ok hnt fun K hK=>?_;refine And.intro (auV) ?_;refine dcl (htk) ?_;refine hK _ _ ?_;clear hK K;refine dw_seq ?_;refine dwk [(33,.v (.bool true))] TP4_ok hnt fun K hK=>?_
    refine And.intro (VLe.of_eq (by simp[he])) ?_;refine dcl (hpu) ?_;refine hK _ _ ?_;clear hK K;refine dw_ret ?_
    exact reta rfl
  ·rw[if_neg he]
   refine calldw 1 43 [ResultVar.tmp 8] TP4_ok Tryz.func140 rfl Tryz.ntmps140 rfl fun cx hnt hn0=>?_
   ·skip
    refine dw_seq ?_;refine dwk [] TP4_ok hnt fun K hK=>hK _ _ ?_;clear hK K;refine dw_seq ?_;refine dwk [(15,.v (.int .i64 (↑ar.length)))] TP4_ok hnt fun K hK=>?_;refine And.intro (dintE (by rw[eTys_len])) ?_;refine dcl (hva) ?_;refine hK _ _ ?_;clear hK K;refine dw_seq ?_;refine dw_seq ?_;refine dwk [(20,.v (.bool false))] TP4_ok hnt fun K hK=>?_;refine And.intro (VLe.refl _) ?_
    refine hK _ _ ?_;clear hK K;refine dw_cond (t:=false) rfl ?_;rw[if_neg (by simp)];refine dw_skip ?_;refine dw_seq ?_;refine dwk [(26,.ag [.sl 2 [] none,.v (.int .i64 t.kind),.v (.int .i64 t.index),.sl 4 (eTms t.args) none])] TP4_ok hnt fun K hK=>?_;refine And.intro (auV) ?_;refine dcl (htk) ?_;refine hK _ _ ?_;clear hK K;refine dw_seq ?_;refine dwk [(33,.v (.bool false))] TP4_ok hnt fun K hK=>?_
    refine And.intro (VLe.of_eq (by simp[he])) ?_;refine hK _ _ ?_;clear hK K;refine dw_ret ?_
    exact reta rfl

namespace Pn
theorem walks_app (ar:List Ty):∀ (l r ts:List Tm) (b:Bd),walks (l ++ r) ts ar b=if (walks l ts ar b).1 then walks r (ts.drop l.length) ar (walks l ts ar b).2 else walks l ts ar b
 | [],r,ts,b=>by simp[walks]
 | p :: l,r,ts,b=>by
  rw[List.cons_append,walks,walks]
  by_cases h:(walk p (ts.headD Tm.zero) ar b).1=true
  ·rw[if_pos h,if_pos h,walks_app ar l r]
   have:ts.tail.drop l.length=ts.drop (p :: l).length:=by cases ts <;> simp
   rw[this]
  ·rw[if_neg h,if_neg h,if_neg h]
theorem walks_take (ar:List Ty)(a ts:List Tm)(b b':Bd)(j:Nat)(hj:j < a.length)(ht:j < ts.length)(h:walks (a.take j) ts ar b=(true,b')):walks (a.take (j + 1)) ts ar b=walk a[j] ts[j] ar b':=by
 rw[List.take_add_one,List.getElem?_eq_getElem hj]
 show walks (a.take j ++ [a[j]]) ts ar b=_
 rw[walks_app,h,if_pos rfl,List.length_take,Nat.min_eq_left (by omega),walks]
 have:(ts.drop j).headD Tm.zero=ts[j]:=by rw[List.drop_eq_getElem_cons ht];rfl
 rw[this]
 dsimp only
 split
 ·rename_i h;rw[walks,←h]
 ·rfl
theorem walks_stop (ar:List Ty)(a ts:List Tm)(b b':Bd)(j:Nat)(h:walks (a.take j) ts ar b=(false,b')):walks a ts ar b=(false,b'):=by
 have h1:walks a ts ar b=walks (a.take j ++ a.drop j) ts ar b:=by rw[List.take_append_drop]
 rw[h1,walks_app,h,if_neg (by simp)]
theorem types_size (ar:List Ty):∀ v:List Int,Ty.sizes (types ar v)≤v.length * (Ty.sizes ar + 1)
 | []=>by simp[types,Ty.sizes]
 | i :: v=>by
  have h:=types_size ar v
  have h1:(ar.getD ((ar.length:Int) - 1 - i).toNat (.mk [] 0)).size≤Ty.sizes ar + 1:=by
   rw[List.getD_eq_getElem?_getD]
   cases hx:ar[((ar.length:Int) - 1 - i).toNat]? with
   | none=>simp[Ty.size,Ty.sizes]
   | some x=>
    have hm:=List.mem_of_getElem? hx
    have:x.size≤Ty.sizes ar:=by
     clear hx h
     induction ar with
     | nil=>cases hm
     | cons y ar ih=>
      simp only[Ty.sizes]
      rcases List.mem_cons.1 hm with rfl | hm
      ·omega
      ·have:=ih hm;omega
    simp;omega
  have h2:Ty.sizes (types ar (i :: v))=(ar.getD ((ar.length:Int) - 1 - i).toNat (.mk [] 0)).size + Ty.sizes (types ar v):=by
   show Ty.sizes (_ :: types ar v)=_
   rw[Ty.sizes]
  rw[h2,List.length_cons,Nat.succ_mul]
  omega
structure BdOk (b:Bd):Prop where
 keys:(b.map (·.1)).Nodup
 full:∀ p∈b,p.2.full≤80000
 fit:∀ p∈b,p.2.Fit
theorem bdOk_nil:BdOk []:=⟨List.nodup_nil,nofun,nofun⟩
theorem bfind_none {b:Bd}{m:Int}(h:bfind b m=none):m∉b.map (·.1):=by
 unfold bfind at h
 rw[Option.map_eq_none_iff,List.find?_eq_none] at h
 intro hm
 obtain⟨p,hp,rfl⟩:=List.mem_map.1 hm
 exact h p hp (by simp)
theorem bput_ok {b:Bd}(h:BdOk b){m:Int}{t:Tm}(h1:t.full≤80000)(h2:t.Fit):BdOk (bput b m t).2:=by
 unfold bput
 split
 ·exact h
 ·rename_i hf
  refine⟨?_,fun p hp=>?_,fun p hp=>?_⟩
  ·rw[List.map_append]
   refine List.nodup_append.2 ⟨h.keys,by simp,?_⟩
   intro x hx y hy e
   rw[List.map_cons,List.map_nil,List.mem_singleton] at hy
   subst hy;subst e
   exact bfind_none hf hx
  ·rcases List.mem_append.1 hp with hp | hp
   ·exact h.full p hp
   ·rw[List.mem_singleton] at hp;subst hp;exact h1
  ·rcases List.mem_append.1 hp with hp | hp
   ·exact h.fit p hp
   ·rw[List.mem_singleton] at hp;subst hp;exact h2
abbrev nb (t:Tm):Tm:=.mk [] t.kind t.index t.args
theorem nb_full (t:Tm):(nb t).full≤t.full:=by have:=full_args t;rw[Tm.full_eq];simp[Ty.sizes];omega
theorem nb_low {t:Tm}(h:lowB t=true):lowB (nb t)=true:=by obtain⟨b,k,i,a⟩:=t;rw[lowB_eq] at h ⊢;exact h
theorem nb_fit {t:Tm}(h:t.Fit):(nb t).Fit:=by obtain⟨b,k,i,a⟩:=t;exact Tm.fit_iff.2 (Tm.fit_iff.1 h)
theorem take_full (t:Tm)(ar:List Ty)(v:List Int)(h:(take t ar v).2=0):(take t ar v).1.full=Ty.sizes (types ar v) + t.full:=by
 unfold take at h ⊢
 split at h
 ·rename_i h1
  split at h
  ·rename_i h2
   rw[if_pos h1,if_pos h2]
   rw[Tm.full_eq,Ty.sizes_append]
   have h3:=tk_full ar.length v t 0
   have h4:=full_args (tk ar.length v t 0)
   have h5:(tk ar.length v t 0).binds=t.binds:=by obtain⟨b,k,i,a⟩:=t;rw[tk_eq];rfl
   rw[h5] at h4
   omega
  ·cases h
 ·cases h
theorem take_fit (t:Tm)(ar:List Ty)(v:List Int)(har:ar.length≤10000)(hv:v.length≤10000)(hz:t.full≤90000)(hlow:lowB t=true)(hfit:t.Fit):(take t ar v).1.Fit:=by
 unfold take
 split
 ·split
  ·have:=tk_fit ar.length v ⟨by omega,by omega⟩ hv t 0 (by omega) (by omega) hlow hfit
   generalize tk ar.length v t 0=u at this ⊢
   obtain⟨b,k,i,a⟩:=u
   exact Tm.fit_iff.2 (Tm.fit_iff.1 this)
  ·exact Tm.fit_iff.2 ⟨by decide,by decide,nofun⟩
 ·exact Tm.fit_iff.2 ⟨by decide,by decide,nofun⟩
theorem flex_ok {b:Bd}(h:BdOk b)(p t:Tm)(ar:List Ty)(hp:p.full≤250)(har:Ty.sizes ar≤250)(ht:t.full≤10000)(hlow:lowB t=true)(hfit:t.Fit):BdOk (flex b p t ar).2:=by
 unfold flex
 split
 ·exact h
 ·rename_i v hv
  have hvl:=varsL_len _ _ _ _ hv
  have hal:=full_args p
  have hpl:=fulls_len p.args
  have hsz:=types_size ar v
  have hle:=Ty.le_sizes ar
  have hnf:(Tm.mk [] t.kind t.index t.args).full≤t.full:=nb_full t
  split
  ·rename_i h0
   refine bput_ok h ?_ (take_fit _ ar v (by omega) (by simp at hvl;omega) (by omega) (nb_low hlow) (nb_fit hfit))
   rw[take_full _ ar v h0]
   simp at hvl
   have:v.length * (Ty.sizes ar + 1)≤250 * 251:=Nat.mul_le_mul (by omega) (by omega)
   omega
  ·exact h
theorem low_mem {a:List Tm}(h:lowsB a=true):∀ t∈a,lowB t=true:=by rw[lowsB_all,List.all_eq_true] at h;exact h
theorem walk_bd (p:Tm):∀ (t:Tm) (ar:List Ty) (b:Bd),BdOk b→Ty.sizes ar + p.full≤250→t.full≤10000→lowB t=true→t.Fit→BdOk (walk p t ar b).2:=by
 induction p using Tm.ind with
 | h bs k i a ih=>
  intro t ar b hb hz ht hlow hfit
  rw[Tm.full_eq] at hz
  have hfa:=full_args t
  rw[walk]
  split
  ·exact hb
  ·split
   ·exact flex_ok hb _ t _ (by rw[Tm.full_eq];omega) (by rw[Ty.sizes_append];omega) ht hlow hfit
   ·split
    ·exact hb
    ·have hla:∀ u∈t.args,lowB u=true:=by obtain⟨b',k',i',a'⟩:=t;rw[lowB_eq] at hlow;simp only[Bool.and_eq_true] at hlow;exact low_mem hlow.2
     have key:∀ (m ts:List Tm) (b:Bd),(∀ x∈m,x∈a)→(∀ x∈ts,x∈t.args)→BdOk b→BdOk (walks m ts (ar ++ bs) b).2:=by
      intro m
      induction m with
      | nil=>intro ts b _ _ hb;rw[walks];exact hb
      | cons x m ihm=>
       intro ts b hm hts hb
       have hxm:=full_mem (hm x (by simp))
       have hy:(ts.headD Tm.zero).full≤10000∧lowB (ts.headD Tm.zero)=true∧(ts.headD Tm.zero).Fit:=by
        cases ts with
        | nil=>exact⟨by decide,by decide,Tm.fit_iff.2 ⟨by decide,by decide,nofun⟩⟩
        | cons y ts=>
         have h1:=hts y (by simp)
         have:=full_mem h1
         exact⟨by show y.full≤_;omega,hla y h1,fit_args hfit y h1⟩
       have h1:=ih x (hm x (by simp)) (ts.headD Tm.zero) (ar ++ bs) b hb (by rw[Ty.sizes_append];omega) hy.1 hy.2.1 hy.2.2
       rw[walks]
       split
       ·exact ihm ts.tail _ (fun y hy=>hm y (by simp[hy])) (fun y hy=>hts y (List.mem_of_mem_tail hy)) h1
       ·exact h1
     exact key a t.args b (fun _ h=>h) (fun _ h=>h) hb
end Pn

theorem mwalk_flex (b:Pn.Bd)(p t:Tm)(ar:List Ty)(hk:p.kind=2)(hz:Ty.sizes ar≤250)(hzp:p.full≤250)(hfp:p.Fit)(ht:t.full≤10000)(hlow:lowB t=true)(hft:t.Fit):
  CallC Tryz.prog 140 [.ag [.mo 0],.ag (eTm p),.ag (eTm t),.sl 2 (eTys ar) none] [(.o 0,.mp (eBd b))] [(.o 0,.mp (eBd (Pn.flex b p t ar).2))] (.v (.bool (Pn.flex b p t ar).1)):=by
 have hle:=Ty.le_sizes ar
 have hnf:(Tm.mk [] t.kind t.index t.args).full≤t.full:=Pn.nb_full t
 refine mflex_d b p t ar hk (by omega) hfp (by omega) (fun v hv=>?_) (Pn.nb_low hlow) (Pn.nb_fit hft)
 have hvl:=Pn.varsL_len _ _ _ _ hv
 have hal:=full_args p
 have hpl:=fulls_len p.args
 have hsz:=Pn.types_size ar v
 simp at hvl
 have:v.length * (Ty.sizes ar + 1)≤250 * 251:=Nat.mul_le_mul (by omega) (by omega)
 omega
set_option maxHeartbeats 4000000 in
theorem mwalk_d:∀ (p t:Tm) (ar:List Ty) (b:Pn.Bd),Ty.sizes ar + p.full≤250→p.Fit→t.full≤10000→lowB t=true→t.Fit →
  CallC Tryz.prog 111 [.ag [.mo 0],.ag (eTm p),.ag (eTm t),.sl 2 (eTys ar) none] [(.o 0,.mp (eBd b))] [(.o 0,.mp (eBd (Pn.walk p t ar b).2))] (.v (.bool (Pn.walk p t ar b).1)):=by
 intro p
 induction p using Tm.ind with
 | h bs k i a ih=>
 intro t ar b hz hfp hzt hlow hft
 rw[Tm.full_eq] at hz
 have hft2:=fit_args hfp
 dsimp only[Tm.args] at hft2
 have hfa:=full_args t
 have hal:=fulls_len a
 have htl:=fulls_len t.args
 have hla:∀ u∈t.args,lowB u=true:=by obtain⟨b',k',i',a'⟩:=t;rw[lowB_eq] at hlow;simp only[Bool.and_eq_true] at hlow;exact Pn.low_mem hlow.2
 have heq:=eqTys_d bs t.binds 69 rfl
 have hcat:=concat_d [ar,bs] (by simp[lens];have:=Ty.le_sizes ar;have:=Ty.le_sizes bs;omega) (by simp)
 simp only[List.flatten_cons,List.flatten_nil,List.append_nil] at hcat
 have hfl:PureC Tryz.prog 134 [.ag (eTm (.mk bs k i a))] (.v (.bool (decide (k=2)))):=pflex_d (.mk bs k i a)
 have hcl:=mwalk_flex b (.mk bs k i a) t (ar ++ bs)
 rw[Pn.walk]
 rw[eTm_eq,eTm_eq]
 rw[eTm_eq] at hfl
 rw[eTm_eq,eTm_eq] at hcl
 simp only[binds_mk',kind_mk',index_mk',args_mkT] at hfl hcl ⊢
 by_cases hb:bs=t.binds
 ·rw[if_neg (by simpa using hb)]
  rw[decide_eq_true hb] at heq
  by_cases hk:k=2
  ·rw[if_pos hk]
   rw[decide_eq_true hk] at hfl
   have hcl:=hcl hk (by rw[Ty.sizes_append];omega) (by rw[Tm.full_eq];omega) hfp hzt hlow hft
   refine calldw 1 62 [ResultVar.tmp 8] TP4_ok Tryz.func111 rfl Tryz.ntmps111 rfl fun cx hnt hn0=>?_
   ·skip
    refine dw_seq ?_;refine dwk [] TP4_ok hnt fun K hK=>hK _ _ ?_;clear hK K;refine dw_seq ?_;refine dw_seq ?_;refine dwk [] TP4_ok hnt fun K hK=>?_;refine dcl (heq) ?_;refine hK _ _ ?_;clear hK K;refine dw_cond (t:=false) rfl ?_;rw[if_neg (by simp)];refine dw_skip ?_;refine dw_seq ?_;refine dwk [(20,.sl 1 (eTyss [ar,bs]) none)] TP4_ok hnt fun K hK=>?_;refine And.intro (VLe.untag _ _ _) ?_
    refine dcl (hcat) ?_;refine hK _ _ ?_;clear hK K;refine dw_seq ?_;refine dw_seq ?_;refine dwk [] TP4_ok hnt fun K hK=>?_;refine dcl (hfl) ?_;refine hK _ _ ?_;clear hK K;refine dw_cond (t:=true) rfl ?_;rw[if_pos rfl];refine dw_seq ?_;refine dwk [] TP4_ok hnt fun K hK=>?_;refine dcl (hcl) ?_;refine hK _ _ ?_;clear hK K;refine dw_ret ?_
    exact reta rfl
  ·rw[if_neg hk]
   rw[decide_eq_false hk] at hfl
   by_cases hc:(k≠t.kind∨i≠t.index)∨a.length≠t.args.length
   ·rw[if_pos hc]
    by_cases hc1:k≠t.kind∨i≠t.index
    ·skip
     refine calldw 1 62 [ResultVar.tmp 8] TP4_ok Tryz.func111 rfl Tryz.ntmps111 rfl fun cx hnt hn0=>?_
     ·skip
      refine dw_seq ?_;refine dwk [] TP4_ok hnt fun K hK=>hK _ _ ?_;clear hK K;refine dw_seq ?_;refine dw_seq ?_;refine dwk [] TP4_ok hnt fun K hK=>?_;refine dcl (heq) ?_;refine hK _ _ ?_;clear hK K;refine dw_cond (t:=false) rfl ?_;rw[if_neg (by simp)];refine dw_skip ?_;refine dw_seq ?_;refine dwk [(20,.sl 1 (eTyss [ar,bs]) none)] TP4_ok hnt fun K hK=>?_;refine And.intro (VLe.untag _ _ _) ?_
      refine dcl (hcat) ?_;refine hK _ _ ?_;clear hK K;refine dw_seq ?_;refine dw_seq ?_;refine dwk [] TP4_ok hnt fun K hK=>?_;refine dcl (hfl) ?_;refine hK _ _ ?_;clear hK K;refine dw_cond (t:=false) rfl ?_;rw[if_neg (by simp)];refine dw_skip ?_;refine dw_seq ?_;refine dw_seq ?_;refine dwk [(33,.v (.bool true))] TP4_ok hnt fun K hK=>?_;refine And.intro (VLe.of_eq (by congr 2;rcases hc1 with h | h <;> simp[h])) ?_
      refine hK _ _ ?_;clear hK K;refine dw_cond (t:=true) rfl ?_;rw[if_pos rfl];refine dw_seq ?_;refine dwk [] TP4_ok hnt fun K hK=>hK _ _ ?_;clear hK K;refine dw_ret ?_
      exact reta rfl
    ·have hc2:a.length≠t.args.length:=by rcases hc with h | h;exact absurd h hc1;exact h
     refine calldw 1 62 [ResultVar.tmp 8] TP4_ok Tryz.func111 rfl Tryz.ntmps111 rfl fun cx hnt hn0=>?_
     ·skip
      refine dw_seq ?_;refine dwk [] TP4_ok hnt fun K hK=>hK _ _ ?_;clear hK K;refine dw_seq ?_;refine dw_seq ?_;refine dwk [] TP4_ok hnt fun K hK=>?_;refine dcl (heq) ?_;refine hK _ _ ?_;clear hK K;refine dw_cond (t:=false) rfl ?_;rw[if_neg (by simp)];refine dw_skip ?_;refine dw_seq ?_;refine dwk [(20,.sl 1 (eTyss [ar,bs]) none)] TP4_ok hnt fun K hK=>?_;refine And.intro (VLe.untag _ _ _) ?_
      refine dcl (hcat) ?_;refine hK _ _ ?_;clear hK K;refine dw_seq ?_;refine dw_seq ?_;refine dwk [] TP4_ok hnt fun K hK=>?_;refine dcl (hfl) ?_;refine hK _ _ ?_;clear hK K;refine dw_cond (t:=false) rfl ?_;rw[if_neg (by simp)];refine dw_skip ?_;refine dw_seq ?_;refine dw_seq ?_;refine dwk [(33,.v (.bool false)),(37,.v (.int .i64 (↑a.length))),(40,.v (.int .i64 (↑t.args.length))),(41,.v (.bool true))] TP4_ok hnt fun K hK=>?_
      refine And.intro (VLe.of_eq (by congr 2;simp at hc1;simp[hc1])) ?_;refine And.intro (dintE (by rw[eTms_len])) ?_;refine And.intro (dintE (by rw[eTms_len])) ?_;refine And.intro (VLe.of_eq (by congr 2;simp;omega)) ?_;refine hK _ _ ?_;clear hK K;refine dw_cond (t:=true) rfl ?_;rw[if_pos rfl];refine dw_seq ?_;refine dwk [] TP4_ok hnt fun K hK=>hK _ _ ?_;clear hK K;refine dw_ret ?_
      exact reta rfl
   ·rw[if_neg hc]
    have hc1:¬ (k≠t.kind∨i≠t.index):=fun h=>hc (.inl h)
    have hc2:a.length=t.args.length:=by by_cases h:a.length=t.args.length;exact h;exact absurd (.inr h) hc
    refine calldw 1 62 [ResultVar.tmp 8] TP4_ok Tryz.func111 rfl Tryz.ntmps111 rfl fun cx hnt hn0=>?_
    ·skip
     refine dw_seq ?_;refine dwk [] TP4_ok hnt fun K hK=>hK _ _ ?_;clear hK K;refine dw_seq ?_;refine dw_seq ?_;refine dwk [] TP4_ok hnt fun K hK=>?_;refine dcl (heq) ?_;refine hK _ _ ?_;clear hK K;refine dw_cond (t:=false) rfl ?_;rw[if_neg (by simp)];refine dw_skip ?_;refine dw_seq ?_;refine dwk [(20,.sl 1 (eTyss [ar,bs]) none)] TP4_ok hnt fun K hK=>?_;refine And.intro (VLe.untag _ _ _) ?_
     refine dcl (hcat) ?_;refine hK _ _ ?_;clear hK K;refine dw_seq ?_;refine dw_seq ?_;refine dwk [] TP4_ok hnt fun K hK=>?_;refine dcl (hfl) ?_;refine hK _ _ ?_;clear hK K;refine dw_cond (t:=false) rfl ?_;rw[if_neg (by simp)];refine dw_skip ?_;refine dw_seq ?_;refine dw_seq ?_;refine dwk [(33,.v (.bool false)),(37,.v (.int .i64 (↑a.length))),(40,.v (.int .i64 (↑t.args.length))),(41,.v (.bool false))] TP4_ok hnt fun K hK=>?_
     refine And.intro (VLe.of_eq (by congr 2;simp at hc1;simp[hc1])) ?_;refine And.intro (dintE (by rw[eTms_len])) ?_;refine And.intro (dintE (by rw[eTms_len])) ?_;refine And.intro (VLe.of_eq (by congr 2;simp;omega)) ?_;refine hK _ _ ?_;clear hK K;refine dw_cond (t:=false) rfl ?_;rw[if_neg (by simp)];refine dw_skip ?_;refine dw_seq ?_;refine dw_seq ?_;refine dwk [(45,.v (.int .i64 (↑a.length)))] TP4_ok hnt fun K hK=>?_
     refine And.intro (dintE (by rw[eTms_len])) ?_;refine hK _ _ ?_;clear hK K;refine dw_block ?_
     refine dw_loop (ι:={ q:Nat×Pn.Bd // Pn.walks (a.take q.1) t.args (ar ++ bs) b=(true,q.2) }) (fun q=>[(.t 3,.sl 2 (eTys (ar ++ bs)) none),(.t 4,.p 1 0),(.t 6,.p 3 0),(.t 44,.sl 4 (eTms a) none),(.t 45,.v (.int .i64 ↑a.length)),(.t 46,.v (.int .i64 ↑q.1.1)),(.c 1 0,.mo 0),(.c 3 0,.sl 2 (eTys t.binds) none),(.c 3 1,.v (.int .i64 t.kind)),(.c 3 2,.v (.int .i64 t.index)),(.c 3 3,.sl 4 (eTms t.args) none),(.o 0,.mp (eBd q.1.2))]) 4 (fun q=>a.length - q.1.1) (⟨(0,b),by rw[List.take_zero,Pn.walks]⟩) (VS.toA) fun q=>?_
     obtain⟨⟨j,bj⟩,hq⟩:=q
     dsimp only at hq ⊢
     by_cases hlt:j < a.length
     ·have hjt:j < t.args.length:=by omega
      have hst:=Pn.walks_take (ar ++ bs) a t.args b bj j hlt hjt hq
      have hmem:=List.getElem_mem hlt
      have hmet:=List.getElem_mem hjt
      have hm1:=full_mem hmem
      have hm2:=full_mem hmet
      have hih:=ih a[j] hmem t.args[j] (ar ++ bs) bj (by rw[Ty.sizes_append];omega) (hft2 _ hmem) (by omega) (hla _ hmet) (fit_args hft _ hmet)
      obtain⟨⟨wb,wl⟩,hw⟩:∃ r,Pn.walk a[j] t.args[j] (ar ++ bs) bj=r:=⟨_,rfl⟩
      rw[hw] at hih hst
      rw[eTm_eq,eTm_eq] at hih
      dsimp only at hih
      refine dw_seq ?_;refine dwk [(47,.v (.bool true))] TP4_ok hnt fun K hK=>?_;refine And.intro auT ?_;refine hK _ _ ?_;clear hK K;refine dw_seq ?_;refine dw_cond (t:=true) rfl ?_;rw[if_pos rfl];refine dw_skip ?_;refine dw_seq ?_;refine dw_block ?_;refine dw_seq ?_;refine dwk [(49,.q [.sl 2 (eTys a[j].binds) none,.v (.int .i64 a[j].kind),.v (.int .i64 a[j].index),.sl 4 (eTms a[j].args) none])] TP4_ok hnt fun K hK=>?_
      refine And.intro (elo (eTms_len a)) ?_;refine And.intro (elv (eTms_getD a j) (eTm_eq _)) ?_;refine hK _ _ ?_;clear hK K
      cases wb with
      | true=>
       refine dw_seq ?_;refine dwkD [(56,.q [.sl 2 (eTys t.args[j].binds) none,.v (.int .i64 t.args[j].kind),.v (.int .i64 t.args[j].index),.sl 4 (eTms t.args[j].args) none])] TP4_ok hnt fun K hK=>?_;refine And.intro (elo (eTms_len t.args)) ?_;refine And.intro (elv (eTms_getD t.args j) (eTm_eq _)) ?_;refine dcl (hih) ?_;refine hK _ _ (by kernel_rfl) ?_;clear hK K;refine dw_cond (t:=false) rfl ?_
       rw[if_neg (by simp)];refine dw_skip ?_;refine dwk [(61,.v (.int .i64 (↑(j + 1))))] TP4_ok hnt fun K hK=>?_;refine And.intro auI ?_;refine hK _ _ ?_;clear hK K
       refine⟨⟨(j + 1,wl),hst⟩,by first | omega | (dsimp only;omega),VS.toA⟩
      | false=>
       rw[Pn.walks_stop (ar ++ bs) a t.args b wl (j + 1) hst]
       refine dw_seq ?_;refine dwkD [(56,.q [.sl 2 (eTys t.args[j].binds) none,.v (.int .i64 t.args[j].kind),.v (.int .i64 t.args[j].index),.sl 4 (eTms t.args[j].args) none])] TP4_ok hnt fun K hK=>?_;refine And.intro (elo (eTms_len t.args)) ?_;refine And.intro (elv (eTms_getD t.args j) (eTm_eq _)) ?_;refine dcl (hih) ?_;refine hK _ _ (by kernel_rfl) ?_;clear hK K;refine dw_cond (t:=true) rfl ?_
       rw[if_pos rfl];refine dw_seq ?_;refine dwk [] TP4_ok hnt fun K hK=>hK _ _ ?_;clear hK K;refine dw_ret ?_
       exact reta rfl
     ·rw[List.take_of_length_le (by omega)] at hq
      rw[hq]
      refine dw_seq ?_;refine dwk [(47,.v (.bool false))] TP4_ok hnt fun K hK=>?_;refine And.intro auF ?_;refine hK _ _ ?_;clear hK K;refine dw_seq ?_;refine dw_cond (t:=false) rfl ?_;rw[if_neg (by simp)];refine dw_exit ?_;refine dw_seq ?_;refine dwk [] TP4_ok hnt fun K hK=>hK _ _ ?_;clear hK K;refine dw_ret ?_
      exact reta rfl
 ·rw[if_pos (by simpa using hb)]
  rw[decide_eq_false hb] at heq
  refine calldw 1 62 [ResultVar.tmp 8] TP4_ok Tryz.func111 rfl Tryz.ntmps111 rfl fun cx hnt hn0=>?_
  ·skip
   refine dw_seq ?_;refine dwk [] TP4_ok hnt fun K hK=>hK _ _ ?_;clear hK K;refine dw_seq ?_;refine dw_seq ?_;refine dwk [] TP4_ok hnt fun K hK=>?_;refine dcl (heq) ?_;refine hK _ _ ?_;clear hK K;refine dw_cond (t:=true) rfl ?_;rw[if_pos rfl];refine dw_seq ?_;refine dwk [] TP4_ok hnt fun K hK=>hK _ _ ?_;clear hK K;refine dw_ret ?_
   exact reta rfl

theorem looses_pos (t:Tm):∀ n:Int,∀ x∈t.looses n,0≤x:=by
 induction t using Tm.ind with
 | h b k i a ih=>
  intro n x hx
  rw[Tm.looses_eq _ _ _ _ _ _ rfl] at hx
  rcases List.mem_append.1 hx with hx | hx
  ·split at hx
   ·rename_i h;rw[List.mem_singleton] at hx;subst hx;omega
   ·cases hx
  ·have key:∀ (l:List Tm),(∀ t∈l,t∈a)→∀ n,∀ x∈Tm.loosess l n,0≤x:=by
    intro l
    induction l with
    | nil=>intro _ n x hx;simp[Tm.loosess] at hx
    | cons t l ihl=>
     intro hl n x hx
     rw[Tm.loosess] at hx
     rcases List.mem_append.1 hx with hx | hx
     ·exact ih t (hl t (by simp)) n x hx
     ·exact ihl (fun u hu=>hl u (by simp[hu])) n x hx
   exact key a (fun _ h=>h) _ x hx
theorem mmay_d (p:Tm)(h1:p.full≤10000)(hf:p.Fit):PureC Tryz.prog 71 [.ag (eTm p)] (.v (.int .i64 (Pn.may p))):=by
 have hl:=loose_d p (by omega) hf
 have hi:=is_d p (by omega) hf
 have hp:=looseL_pos (looses_pos p 0)
 unfold Pn.may
 obtain⟨n,hn⟩:∃ n,(p.looses 0).foldl looseL 0=n:=⟨_,rfl⟩
 rw[hn] at hl hp
 rw[eTm_eq] at hl hi ⊢
 by_cases hL:p.looses 0=[]
 ·rw[if_neg (by simp[hL])]
  have hn0:¬ 0 < n:=fun h=>hp.1 h hL
  cases hu:(Pn.uses p [] []).2 with
  | true=>
   rw[hu] at hi
   rw[if_neg (by simp)]
   refine calldw 0 11 [ResultVar.tmp 2] TP4_ok Tryz.func71 rfl Tryz.ntmps71 rfl fun cx hnt hn0=>?_
   ·skip
    refine dw_seq ?_;refine dwk [] TP4_ok hnt fun K hK=>hK _ _ ?_;clear hK K;refine dw_seq ?_;refine dw_block ?_;refine dw_seq ?_;refine dwk [(6,.v (.bool false)),(3,.v (.bool false))] TP4_ok hnt fun K hK=>?_;refine dcl (hl) ?_;refine And.intro auF ?_;refine And.intro auF ?_;refine hK _ _ ?_;clear hK K;refine dw_cond (t:=false) rfl ?_;rw[if_neg (by simp)];refine dw_seq ?_
    refine dwk [] TP4_ok hnt fun K hK=>?_;refine dcl (hi) ?_;refine hK _ _ ?_;clear hK K;refine dw_cond (t:=false) rfl ?_;rw[if_neg (by simp)];refine dw_skip ?_;refine dw_seq ?_;refine dwk [] TP4_ok hnt fun K hK=>hK _ _ ?_;clear hK K;refine dw_ret ?_
    exact reta rfl
  | false=>
   rw[hu] at hi
   rw[if_pos rfl]
   refine calldw 0 11 [ResultVar.tmp 2] TP4_ok Tryz.func71 rfl Tryz.ntmps71 rfl fun cx hnt hn0=>?_
   ·skip
    refine dw_seq ?_;refine dwk [] TP4_ok hnt fun K hK=>hK _ _ ?_;clear hK K;refine dw_seq ?_;refine dw_block ?_;refine dw_seq ?_;refine dwk [(6,.v (.bool false)),(3,.v (.bool false))] TP4_ok hnt fun K hK=>?_;refine dcl (hl) ?_;refine And.intro auF ?_;refine And.intro auF ?_;refine hK _ _ ?_;clear hK K;refine dw_cond (t:=false) rfl ?_;rw[if_neg (by simp)];refine dw_seq ?_
    refine dwk [] TP4_ok hnt fun K hK=>?_;refine dcl (hi) ?_;refine hK _ _ ?_;clear hK K;refine dw_cond (t:=true) rfl ?_;rw[if_pos rfl];refine dw_seq ?_;refine dwk [] TP4_ok hnt fun K hK=>hK _ _ ?_;clear hK K;refine dw_ret ?_
    exact reta rfl
 ·rw[if_pos hL]
  have hn0:0 < n:=hp.2 hL
  refine calldw 0 11 [ResultVar.tmp 2] TP4_ok Tryz.func71 rfl Tryz.ntmps71 rfl fun cx hnt hn0=>?_
  ·skip
   refine dw_seq ?_;refine dwk [] TP4_ok hnt fun K hK=>hK _ _ ?_;clear hK K;refine dw_seq ?_;refine dw_block ?_;refine dw_seq ?_;refine dwk [(6,.v (.bool true)),(3,.v (.bool true))] TP4_ok hnt fun K hK=>?_;refine dcl (hl) ?_;refine And.intro auT ?_;refine And.intro auT ?_;refine hK _ _ ?_;clear hK K;refine dw_cond (t:=true) rfl ?_;rw[if_pos rfl];refine dw_seq ?_;refine dwk [] TP4_ok hnt fun K hK=>?_
   refine hK _ _ ?_;clear hK K;refine dw_ret ?_
   exact reta rfl
namespace Pn
variable {C M:List Ty}
def wv (vs:List Int)(j:Nat):Nat:=(vs.getD j 0).toNat
theorem wv_at {vs:List Int}{j:Nat}{x:Int}(h:vs[j]?=some x):wv vs j=x.toNat:=by
 unfold wv;rw[List.getD_eq_getElem?_getD,h];rfl
theorem tk_back (n:Nat)(vs:List Int)(hv:∀ x∈vs,0≤x)(t:Tm):∀ ins:Nat,tkB n vs t ins=true→Rn (Nm.ph vs.length (wv vs)) (Rn (· + n) (tk n vs t ins) (vs.length + ins)) ins=t:=by
 induction t using Tm.ind with
 | h b k i a ih=>
  intro ins h
  rw[tkB,tkBs_all,Bool.and_eq_true] at h
  obtain⟨h1,h2⟩:=h
  rw[List.all_eq_true] at h2
  rw[tk_eq,tks_map]
  obtain⟨i1,hi1⟩:∃ i1,(if k=0∧((ins:Nat):Int) + (b.length:Nat)≤i then ((ins:Nat):Int) + (b.length:Nat) + go n vs (i - (((ins:Nat):Int) + (b.length:Nat))) else i)=i1:=⟨_,rfl⟩
  rw[hi1,Rn_eq]
  obtain⟨i2,hi2⟩:∃ i2,(if k=0∧((vs.length + ins + b.length:Nat):Int)≤i1 then ((vs.length + ins + b.length + (· + n) (i1 - ((vs.length + ins + b.length:Nat):Int)).toNat:Nat):Int) else i1)=i2:=⟨_,rfl⟩
  rw[hi2,Rn_eq]
  dsimp only at hi2
  congr 1
  ·by_cases hk:k=0
   ·subst hk
    by_cases hlt:((ins:Nat):Int) + (b.length:Nat)≤i
    ·rw[if_pos ⟨rfl,hlt⟩] at hi1
     obtain⟨d,hd⟩:∃ d:Nat,i - (((ins:Nat):Int) + (b.length:Nat))=d:=⟨(i - (((ins:Nat):Int) + (b.length:Nat))).toNat,by omega⟩
     rw[hd] at hi1 h1
     by_cases hdn:(n:Int)≤d
     ·have hg:go n vs d=(d:Int) - n + vs.length:=by unfold go;rw[if_pos hdn]
      rw[hg] at hi1
      rw[if_pos ⟨rfl,by omega⟩] at hi2
      rw[if_pos ⟨rfl,by omega⟩]
      unfold Nm.ph
      rw[if_neg (by omega)];omega
     ·have hx:(ix (d:Int) vs).isNone=false:=by
       cases hx:(ix (d:Int) vs).isNone with
       | false=>rfl
       | true=>
        rw[hx,decide_eq_true (show (d:Int) < n by omega),decide_eq_true hlt] at h1
        simp at h1
      cases hq:ix (d:Int) vs with
      | none=>rw[hq] at hx;cases hx
      | some q=>
       have hql:=ix_lt hq
       have hqv:=ix_get hq
       have hg:go n vs d=(vs.length:Int) - 1 - q:=by unfold go;rw[if_neg hdn,hq]
       rw[hg] at hi1
       rw[if_neg (by rintro⟨_,h⟩;omega)] at hi2
       rw[if_pos ⟨rfl,by omega⟩]
       unfold Nm.ph
       rw[if_pos (by omega),wv_at (x:=(d:Int)) (by rw[←hqv];congr 1;omega)];omega
    ·rw[if_neg (fun h=>hlt h.2)] at hi1
     subst hi1
     rw[if_neg (by rintro⟨_,h⟩;omega)] at hi2
     subst hi2
     rw[if_neg (by rintro⟨_,h⟩;omega)]
   ·rw[if_neg (fun h=>hk h.1)] at hi1
    rw[if_neg (fun h=>hk h.1)] at hi2
    rw[if_neg (fun h=>hk h.1)]
    exact hi2.symm.trans hi1.symm
  ·rw[List.map_map,List.map_map]
   refine Eq.trans (List.map_congr_left (g:=fun t=>t) fun t ht=>?_) (List.map_id' a)
   show Rn (Nm.ph vs.length (wv vs)) (Rn (· + n) (tk n vs t (((ins:Nat):Int) + (b.length:Nat))) (vs.length + ins + b.length)) (ins + b.length)=t
   have:=h2 t ht
   rw[show (((ins:Nat):Int) + (b.length:Nat))=((ins + b.length:Nat):Int) by omega] at this ⊢
   rw[Nat.add_assoc]
   exact ih t ht _ this
theorem tk_isOf (X0 ar:List Ty)(vs:List Int)(hv:∀ x∈vs,0≤x∧x < (ar.length:Int))(t:Tm):∀ (Z:List Ty) (u:Ty),tkB ar.length vs t Z.length=true→IsOf C M t (X0 ++ ar ++ Z) u→IsOf C M (tk ar.length vs t Z.length) (X0 ++ types ar vs ++ Z) u:=by
 induction t using Tm.ind with
 | h b k i a ih=>
  intro Z u hB ht
  rw[tkB,tkBs_all,Bool.and_eq_true] at hB
  obtain⟨hB1,hB2⟩:=hB
  rw[List.all_eq_true] at hB2
  obtain⟨rfl,h,h1,h2,h3⟩:=isOf_mk.1 ht
  have hzl:(Z ++ u.args).length=Z.length + u.args.length:=List.length_append
  rw[List.append_assoc (X0 ++ ar) Z] at h1 h3
  have htl:(types ar vs).length=vs.length:=by unfold types;rw[List.length_map]
  rw[tk_eq,tks_map]
  refine isOf_mk.2 ⟨rfl,h,?_,h2,?_⟩
  ·rw[List.append_assoc (X0 ++ types ar vs) Z]
   by_cases hk:k=0
   ·subst hk
    by_cases hi:i < 0
    ·rw[headTy_neg hi] at h1;cases h1
    ·obtain⟨n,rfl⟩:∃ n:Nat,i=n:=⟨i.toNat,by omega⟩
     rw[headTy_0,rev_app] at h1
     by_cases hn:n < (Z ++ u.args).length
     ·rw[if_neg (by rintro⟨_,h⟩;omega),headTy_0,rev_app,if_pos hn]
      rw[if_pos hn] at h1;exact h1
     ·rw[if_neg hn] at h1
      obtain⟨d,hd⟩:∃ d,n - (Z ++ u.args).length=d:=⟨_,rfl⟩
      rw[hd,rev_app] at h1
      have hd2:((n:Nat):Int) - (((Z.length:Nat):Int) + (u.args.length:Nat))=d:=by omega
      rw[hd2] at hB1 ⊢
      by_cases hdl:d < ar.length
      ·rw[if_pos hdl] at h1
       have hx:(ix (d:Int) vs).isNone=false:=by
        cases hx:(ix (d:Int) vs).isNone with
        | false=>rfl
        | true=>
         rw[hx,decide_eq_true (show (d:Int) < ar.length by omega),decide_eq_true (show ((Z.length:Nat):Int) + (u.args.length:Nat)≤((n:Nat):Int) by omega)] at hB1
         simp at hB1
       cases hq:ix (d:Int) vs with
       | none=>rw[hq] at hx;cases hx
       | some q=>
        have hql:=ix_lt hq
        have hqv:=ix_get hq
        have hg:go ar.length vs d=(vs.length:Int) - 1 - q:=by unfold go;rw[if_neg (by omega),hq]
        rw[hg,if_pos ⟨rfl,by omega⟩,show ((Z.length:Nat):Int) + (u.args.length:Nat) + ((vs.length:Int) - 1 - q)=(((Z ++ u.args).length + (vs.length - 1 - q):Nat):Int) by omega,headTy_0,rev_app,if_neg (by omega),show (Z ++ u.args).length + (vs.length - 1 - q) - (Z ++ u.args).length=vs.length - 1 - q by omega,rev_app,if_pos (by omega),List.getElem?_reverse (by omega),htl,show vs.length - 1 - (vs.length - 1 - q)=q by omega]
        rw[List.getElem?_reverse hdl] at h1
        unfold types
        rw[List.getElem?_map,hqv,Option.map_some,←h1,show ((ar.length:Int) - 1 - d).toNat=ar.length - 1 - d by omega,List.getD_eq_getElem?_getD,List.getElem?_eq_getElem (by omega)];rfl
      ·rw[if_neg hdl] at h1
       have hg:go ar.length vs d=(d:Int) - ar.length + vs.length:=by unfold go;rw[if_pos (by omega)]
       rw[hg,if_pos ⟨rfl,by omega⟩,show ((Z.length:Nat):Int) + (u.args.length:Nat) + ((d:Int) - ar.length + vs.length)=(((Z ++ u.args).length + (vs.length + (d - ar.length)):Nat):Int) by omega,headTy_0,rev_app,if_neg (by omega),show (Z ++ u.args).length + (vs.length + (d - ar.length)) - (Z ++ u.args).length=vs.length + (d - ar.length) by omega,rev_app,if_neg (by omega),←h1]
       congr 1;omega
   ·rw[if_neg (fun h=>hk h.1),headTy_ctx (X':=X0 ++ ar ++ (Z ++ u.args)) hk];exact h1
  ·rw[List.append_assoc (X0 ++ types ar vs) Z,show ((Z.length:Nat):Int) + (u.args.length:Nat)=(((Z ++ u.args).length:Nat):Int) by omega]
   refine isOfs_map h3 fun v hv w hw=>ih v hv (Z ++ u.args) w ?_ hw
   have:=hB2 v hv
   rw[show ((Z.length:Nat):Int) + (u.args.length:Nat)=(((Z ++ u.args).length:Nat):Int) by omega] at this
   exact this
theorem isOf_under (X0:List Ty)(t:Tm):∀ (Z:List Ty) (u:Ty),IsOf C M t Z u→IsOf C M t (X0 ++ Z) u:=by
 induction t using Tm.ind with
 | h b k i a ih=>
  intro Z u ht
  obtain⟨rfl,h,h1,h2,h3⟩:=isOf_mk.1 ht
  refine isOf_mk.2 ⟨rfl,h,?_,h2,?_⟩
  ·rw[List.append_assoc]
   by_cases hk:k=0
   ·subst hk
    by_cases hi:i < 0
    ·rw[headTy_neg hi] at h1;cases h1
    ·obtain⟨n,rfl⟩:∃ n:Nat,i=n:=⟨i.toNat,by omega⟩
     rw[headTy_0] at h1 ⊢
     have:=(List.getElem?_eq_some_iff.1 h1).1
     rw[List.length_reverse] at this
     rw[rev_app,if_pos this];exact h1
   ·rw[headTy_ctx (X':=Z ++ u.args) hk];exact h1
  ·rw[List.append_assoc]
   have h4:=isOfs_map (g:=fun t=>t) (X':=X0 ++ (Z ++ u.args)) h3 fun v hv w hw=>ih v hv (Z ++ u.args) w hw
   rw[List.map_id'] at h4;exact h4
end Pn
variable {C M:List Ty}
theorem isOfs_etas {b us Y:List Ty}(h:IsOfs C M (Ty.etas b) (Y ++ b) us):us=b:=by
 obtain⟨h1,h2⟩:=isOfs_iff.1 h
 rw[Ty.etas_len] at h1
 refine List.ext_getElem h1 fun j hj hj'=>?_
 have h3:=h2 j (by rw[Ty.etas_len];exact hj') hj
 rw[Nm.etas_nth] at h3
 obtain⟨c,e⟩:∃ x,x=b[j]:=⟨_,rfl⟩
 rw[←e] at h3 ⊢
 obtain⟨c,d⟩:=c
 rw[Ty.eta_eq,if_pos rfl] at h3
 obtain⟨e1,h',e2,e3,_⟩:=isOf_mk.1 h3
 rw[show ((b.length - 1 - j:Nat):Int) + (c.length:Nat)=((c.length + (b.length - 1 - j):Nat):Int) by omega,headTy_0,rev_app,if_neg (by omega),show c.length + (b.length - 1 - j) - c.length=b.length - 1 - j by omega,rev_app,if_pos (by omega),List.getElem?_reverse (by omega),show b.length - 1 - (b.length - 1 - j)=j by omega,List.getElem?_eq_getElem hj',←e] at e2
 have e2:=Option.some.inj e2
 subst e2
 obtain⟨ua,ub⟩:∃ x,x=us[j]:=⟨_,rfl⟩
 rw[←ub] at e1 e3 ⊢
 obtain⟨ua,uc⟩:=ua
 have e1:c=ua:=e1
 have e3:d=uc:=e3
 rw[e1,e3]
theorem eta_of {Y:List Ty}{t:Tm}{T:Ty}(ht:IsOf C M t Y T)(hl:longB t=true)(hk:t.kind=0):∃ w:Nat,t.headIx=w∧t=Ty.eta T 0 w∧Y.reverse[w]?=some T:=by
 obtain⟨b,k,i,a⟩:=t
 have hk:k=0:=hk
 subst hk
 rw[longB_iff] at hl
 obtain⟨l1,l2⟩:=hl
 have l1:a=Ty.etas b:=l1
 have l2:=l2 rfl
 have l2:(b.length:Int)≤i:=l2
 subst l1
 obtain⟨rfl,h,h1,h2,h3⟩:=isOf_mk.1 ht
 have h4:=isOfs_etas h3
 have hT:h=T:=by
  obtain⟨c,d⟩:=h
  obtain⟨c',d'⟩:=T
  have h4:c=c':=h4
  have h2:d=d':=h2
  rw[h4,h2]
 subst hT
 obtain⟨w,hw⟩:∃ w:Nat,i=((h.args.length + w:Nat):Int):=⟨(i - h.args.length).toNat,by omega⟩
 subst hw
 rw[headTy_0,rev_app,if_neg (by omega),show h.args.length + w - h.args.length=w by omega] at h1
 refine⟨w,?_,?_,h1⟩
 ·show (if (0:Int)=0 then ((h.args.length + w:Nat):Int) - (h.args.length:Nat) else _)=_
  rw[if_pos rfl];omega
 ·obtain⟨c,d⟩:=h
  rw[Ty.eta_eq,if_pos rfl]
  show Tm.mk c 0 ((c.length + w:Nat):Int) (Ty.etas c)=_
  congr 1;omega
namespace Pn
theorem varsL_map (n:Int):∀ (l:List Tm) (acc r:List Int),varsL n l acc=some r→r=acc ++ l.map Tm.headIx∧∀ t∈l,longB t=true∧t.kind=0∧t.headIx < n
 | [],acc,r,h=>by rw[varsL] at h;cases h;exact⟨by simp,nofun⟩
 | t :: l,acc,r,h=>by
  rw[varsL] at h
  split at h
  ·rename_i hi
   obtain⟨h1,h2⟩:=varsL_map n l _ _ h
   unfold isVar at hi
   simp only[Bool.and_eq_true,decide_eq_true_eq] at hi
   refine⟨by rw[h1];simp,fun u hu=>?_⟩
   rcases List.mem_cons.1 hu with rfl | hu
   ·exact⟨hi.1,hi.2.1,hi.2.2.1⟩
   ·exact h2 u hu
  ·cases h
theorem tk_nar {B:Nat}(n:Int)(vs:List Int)(t:Tm):∀ ins,Nar B t→Nar B (tk n vs t ins):=by
 induction t using Tm.ind with
 | h b k i a ih=>
  intro ins h
  rw[tk_eq,tks_map]
  refine .mk _ _ _ _ h.inv.1 fun u hu=>?_
  obtain⟨v,hv,rfl⟩:=List.mem_map.1 hu
  exact ih v hv _ (h.inv.2 v hv)
theorem take_ok {t:Tm}{ar:List Ty}{vs:List Int}{v:Tm}(h:take t ar vs=(v,0)):tkB ar.length vs t 0=true∧v=.mk (types ar vs ++ t.binds) (tk ar.length vs t 0).kind (tk ar.length vs t 0).index (tk ar.length vs t 0).args:=by
 unfold take at h
 split at h
 ·split at h
  ·rename_i h1 h2
   exact⟨h2,(Prod.mk.inj h).1.symm⟩
  ·cases (Prod.mk.inj h).2
 ·cases (Prod.mk.inj h).2
theorem vars_typed {X0 ar us:List Ty}{xs:List Tm}{vs:List Int}(hx:IsOfs C M xs (X0 ++ ar) us)(hv:varsL ar.length xs []=some vs):
  vs.length=xs.length∧(∀ x∈vs,0≤x∧x < (ar.length:Int))∧types ar vs=us∧∀ j (h:j < xs.length) (h':j < us.length),xs[j]=Ty.eta us[j] 0 (wv vs j:Nat)∧(X0 ++ ar).reverse[wv vs j]?=some us[j]:=by
 obtain⟨h1,h2⟩:=varsL_map _ _ _ _ hv
 rw[List.nil_append] at h1
 have hl:=isOfs_len hx
 have key:∀ j (h:j < xs.length) (h':j < us.length),∃ w:Nat,vs[j]?=some (w:Int)∧xs[j]=Ty.eta us[j] 0 w∧w < ar.length∧ar.reverse[w]?=some us[j]:=fun j h h'=>by
  have h3:=h2 _ (List.getElem_mem h)
  obtain⟨w,w1,w2,w3⟩:=eta_of ((isOfs_iff.1 hx).2 j h h') h3.1 h3.2.1
  have hw:w < ar.length:=by have:=h3.2.2;omega
  rw[rev_app,if_pos hw] at w3
  exact⟨w,by rw[h1,List.getElem?_map,List.getElem?_eq_getElem h,Option.map_some,w1],w2,hw,w3⟩
 have hvl:vs.length=xs.length:=by rw[h1,List.length_map]
 refine⟨hvl,fun x hx=>?_,?_,fun j h h'=>?_⟩
 ·obtain⟨j,hj,rfl⟩:=List.getElem_of_mem hx
  obtain⟨w,w1,w2,w4,w3⟩:=key j (by omega) (by omega)
  rw[List.getElem?_eq_getElem hj] at w1
  have w1:=Option.some.inj w1
  omega
 ·refine List.ext_getElem (by unfold types;rw[List.length_map];omega) fun j hj hj'=>?_
  obtain⟨w,w1,w2,w4,w3⟩:=key j (by omega) hj'
  have hjv:j < vs.length:=by omega
  rw[List.getElem?_eq_getElem hjv] at w1
  have w1:=Option.some.inj w1
  rw[List.getElem?_reverse w4,List.getElem?_eq_getElem (by omega)] at w3
  have w3:=Option.some.inj w3
  apply Option.some.inj
  rw[←List.getElem?_eq_getElem hj]
  unfold types
  rw[List.getElem?_map,List.getElem?_eq_getElem hjv,Option.map_some,w1,show ((ar.length:Int) - 1 - w).toNat=ar.length - 1 - w by omega,List.getD_eq_getElem?_getD,List.getElem?_eq_getElem (by omega),Option.getD_some]
  rw[w3]
 ·obtain⟨w,w1,w2,w4,w3⟩:=key j h h'
  rw[wv_at w1,Int.toNat_natCast]
  exact⟨w2,by rw[rev_app,if_pos w4];exact w3⟩
theorem flex_back {B:Nat}(hB:B≤3000){X0 ar us:List Ty}{xs:List Tm}{vs:List Int}{t0 v:Tm}{base:Int}{s:Nm.St}(hs:WkOk s)(hf:Nm.Fu 100001 s)(hx:IsOfs C M xs (X0 ++ ar) us)(hv:varsL ar.length xs []=some vs)(ht:IsOf C M t0 (X0 ++ ar) (.mk [] base))(hnar:Nar B t0) 
  (hfull:t0.full≤100000000) (h0:X0.length≤10000) (har:ar.length≤10000) (hul:us.length≤10000) (hus:∀ T∈us,T.size≤B) (htk:take t0 ar vs=(v,0))
  (he:(Nm.through 100001 xs xs.length (.mk [] (Nm.lift ar.length v 0).kind (Nm.lift ar.length v 0).index (Nm.lift ar.length v 0).args) 0 s).2.e=0) :
  (Nm.through 100001 xs xs.length (.mk [] (Nm.lift ar.length v 0).kind (Nm.lift ar.length v 0).index (Nm.lift ar.length v 0).args) 0 s).1=t0:=by
 obtain⟨v1,v2,v3,v4⟩:=vars_typed hx hv
 obtain⟨h1,h2⟩:=take_ok htk
 have hl:=isOfs_len hx
 obtain⟨b,k,i,a⟩:=t0
 have hb:b=[]:=(isOf_mk.1 ht).1
 subst hb
 have hti:=tk_isOf (C:=C) (M:=M) X0 ar vs v2 (.mk [] k i a) [] (.mk [] base) h1 (by rw[List.append_nil];exact ht)
 have hbk:=tk_back ar.length vs (fun x hx=>(v2 x hx).1) (.mk [] k i a) 0 h1
 have htf:=tk_full ar.length vs (.mk [] k i a) 0
 have htb:∃ k' i' a',tk ar.length vs (.mk [] k i a) 0=.mk [] k' i' a':=by rw[tk_eq];exact⟨_,_,_,rfl⟩
 have htn:Nar B (tk ar.length vs (.mk [] k i a) 0):=tk_nar _ _ _ _ hnar
 obtain⟨k',i',a',e⟩:=htb
 simp only[List.length_nil] at hti
 have e0:(((0:Nat):Int))=0:=rfl
 rw[e0,e] at hti
 rw[e0,e] at hbk
 rw[e] at htn
 rw[e] at htf h2
 rw[v3,List.append_nil] at hti
 subst h2
 rw[v3]
 have hL:=lift_Rn (C:=C) (M:=M) (.mk [] k' i' a') ar.length X0 us (.mk [] base) (by omega) hti
 have hnb:∀ w:Tm,w=Nm.lift ar.length (.mk (us ++ []) k' i' a') 0→Tm.mk [] w.kind w.index w.args=Nm.lift ar.length (.mk [] k' i' a') us.length:=fun w hw=>by
  rw[hw,List.append_nil,Nm.lift_eq,Nm.lift_eq,show (0:Int) + (us.length:Nat)=((us.length:Nat):Int) + (([]:List Ty).length:Nat) by simp]
  rfl
 have hnb:=hnb _ rfl
 rw[hL] at hnb
 have hti2:=lift_isOf (C:=C) (M:=M) (.mk [] k' i' a') X0 ar us (.mk [] base) (by omega) hti
 rw[hL] at hti2
 show (Nm.through 100001 xs xs.length (.mk [] (Nm.lift ar.length (.mk (us ++ []) k' i' a') 0).kind (Nm.lift ar.length (.mk (us ++ []) k' i' a') 0).index (Nm.lift ar.length (.mk (us ++ []) k' i' a') 0).args) 0 s).1=_
 have he:(Nm.through 100001 xs xs.length (.mk [] (Nm.lift ar.length (.mk (us ++ []) k' i' a') 0).kind (Nm.lift ar.length (.mk (us ++ []) k' i' a') 0).index (Nm.lift ar.length (.mk (us ++ []) k' i' a') 0).args) 0 s).2.e=0:=by rw[←v3];exact he
 rw[hnb] at he ⊢
 have hm:(2 * B + 2) * 100001≤6002 * 100001:=Nat.mul_le_mul_right _ (by omega)
 have hXl:(X0 ++ ar).length=X0.length + ar.length:=List.length_append
 have hr:=(Nm.sx C M (B:=B) (by omega) 100001).a xs us (wv vs) (X0 ++ ar) [] (Rn (· + ar.length) (.mk [] k' i' a') us.length) (.mk [] base) s hs hf (Rn_nar _ _ _ htn) (by rw[Rn_full,htf];omega) (by omega) v4 hus (by simp only[List.length_nil];omega) (by rw[List.append_nil];exact hti2) he
 refine hr.2.trans ?_
 rw[show us.length=vs.length + 0 by omega,←v1]
 exact hbk
end Pn
end Go.Proofs.YtflbnonbfmmchaaGreat
namespace Go.Proofs.YtflbnonbfmmchaaGreat
open Go.RowKit
namespace Sb
variable {C M:List Ty} {B:Nat}
theorem put_keeps {v:Tm}{xs:List Tm}{X:List Ty}{h:Ty}{left:Int}{dry:Bool}(h0:0≤left∧left≤1000000000)(hB:B≤1000)(hv:Bnd B v)(hx:∀ x∈xs,Bnd B x)(hxf:∀ x∈xs,x.full≤8000000000000)(hX:X.length≤500000000) 
  (hvt:IsOf C M v X h) (hxt:IsOfs C M xs X h.args) :
  (Nm.put 100001 v xs ⟨left,dry,0,0⟩).2.e≠1∧((Nm.put 100001 v xs ⟨left,dry,0,0⟩).2.e=0→IsOf C M (.mk [] (Nm.put 100001 v xs ⟨left,dry,0,0⟩).1.kind (Nm.put 100001 v xs ⟨left,dry,0,0⟩).1.index (Nm.put 100001 v xs ⟨left,dry,0,0⟩).1.args) X (.mk [] h.base)):=by
 have hw:WkOk ⟨left,dry,0,0⟩:=⟨h0,⟨Int.le_refl 0,(by decide:(0:Int)≤100001)⟩,fun _=>(by decide:(0:Int)≤100000)⟩
 obtain⟨vb,vk,vi,va⟩:=v
 obtain⟨v1,v2,v3⟩:=hv.inv
 obtain⟨rfl,h',hh,hb,ha⟩:=isOf_mk.1 hvt
 have hl:=isOfs_len hxt
 have hvl:=Ty.le_sizes h.args
 have hm:(2 * B + 2) * 100001≤2002 * 100001:=Nat.mul_le_mul_right _ (by omega)
 have hk:=Nm.through_keeps C M B 100001 xs h.args.length (.mk [] vk vi va) 0 ⟨left,dry,0,0⟩ X h.args [] (.mk [] h.base) hw (fun _=>by show (100001:Int) - 0≤((100001:Nat):Int);decide) hx (.mk _ _ _ _ (by simp[Ty.sizes]) v2 v3) hxf (by omega) (by omega) rfl rfl (by simp only[List.length_nil];omega)
  (by rw[List.take_of_length_le (by omega)];exact hxt) (by rw[List.append_nil];exact isOf_mk.2 ⟨rfl,h',by rw[List.append_nil];exact hh,hb,by rw[List.append_nil];exact ha⟩)
 rw[List.drop_of_length_le (by omega),List.append_nil,List.append_nil] at hk
 unfold Nm.put Nm.putW
 rw[if_neg (by rintro(h9 | h9);exact h9 rfl;exact absurd h9 (by show ¬ xs.length > h.args.length;omega))]
 dsimp only
 show (Nm.through 100001 xs h.args.length (.mk [] vk vi va) 0 ⟨left,dry,0,0⟩).2.e≠1∧_
 refine⟨hk.1 (by show (0:Int)≠1;decide),fun e=>?_⟩
 have h2:=(hk.2 e).2
 show IsOf C M (.mk [] (Nm.through 100001 xs h.args.length (.mk [] vk vi va) 0 ⟨left,dry,0,0⟩).1.kind (Nm.through 100001 xs h.args.length (.mk [] vk vi va) 0 ⟨left,dry,0,0⟩).1.index (Nm.through 100001 xs h.args.length (.mk [] vk vi va) 0 ⟨left,dry,0,0⟩).1.args) X (.mk [] h.base)
 generalize (Nm.through 100001 xs h.args.length (.mk [] vk vi va) 0 ⟨left,dry,0,0⟩).1=r at h2 ⊢
 obtain⟨rb,rk,ri,ra⟩:=r
 obtain⟨e1,hr⟩:=isOf_mk.1 h2
 have e1:rb=[]:=e1
 subst e1
 exact h2
theorem Put_keeps {v:Tm}{xs:List Tm}{X:List Ty}{h:Ty}{left:Int}{dry:Bool}(h0:0≤left∧left≤1000000000)(hB:B≤1000)(hv:Bnd B v)(hx:∀ x∈xs,Bnd B x)(hxf:∀ x∈xs,x.full≤8000000000000)(hX:X.length≤500000000) 
  (hvt:IsOf C M v X h) (hxt:IsOfs C M xs X h.args) :
  (Nm.Put v xs left dry).2.e≠1∧((Nm.Put v xs left dry).2.e=0→IsOf C M (.mk [] (Nm.Put v xs left dry).1.kind (Nm.Put v xs left dry).1.index (Nm.Put v xs left dry).1.args) X (.mk [] h.base)):=by
 have h1:=put_keeps (dry:=dry) h0 hB hv hx hxf hX hvt hxt
 unfold Nm.Put Nm.done
 dsimp only
 generalize Nm.put 100001 v xs ⟨left,dry,0,0⟩=p at h1
 by_cases hc:p.2.e=0∧¬ (p.1.size≤5000∧p.1.depth≤60)
 ·rw[if_pos hc]
  have hf:(Nm.fail p.2 2).e=2:=by unfold Nm.fail;rw[if_pos hc.1]
  rw[if_pos (by rw[hf];decide)]
  refine⟨by rw[hf];decide,fun e=>?_⟩
  rw[hf] at e;cases e
 ·rw[if_neg hc]
  by_cases hp:p.2.e=0
  ·rw[if_neg (fun h=>h hp)]
   exact h1
  ·rw[if_pos hp]
   exact⟨h1.1,fun e=>absurd e hp⟩
theorem find_at {l:List (Int×Tm)}{i:Int}{u:Tm}(h:find l i=some u):∃ p∈l,p.2=u∧p.1=i:=by
 unfold find at h
 cases hf:l.find? (fun p=>p.1 == i) with
 | none=>rw[hf] at h;cases h
 | some p=>
  rw[hf] at h;cases h
  have:=List.find?_some hf
  exact⟨p,List.mem_of_find?_eq_some hf,rfl,by simpa using this⟩
theorem seq_keeps {g:Tm→Nm.St→Tm×Nm.St}{X X':List Ty}:∀ (a:List Tm) (us:List Ty) (hg:∀ t∈a,∀ u s,InR s→IsOf C M t X u→Nm.Kp s (g t s) fun r=>IsOf C M r X' u) (hi:∀ t∈a,∀ s,InR s→InR (g t s).2) (s:Nm.St),InR s →
  IsOfs C M a X us→(s.e≠1→(Nm.seqM g a s).2.e≠1)∧((Nm.seqM g a s).2.e=0→s.e=0∧IsOfs C M (Nm.seqM g a s).1 X' us)
 | [],[],_,_,s,_,_=>⟨fun h=>h,fun h=>⟨h,by rw[Nm.seqM,IsOfs];trivial⟩⟩
 | [],_ :: _,_,_,s,_,h=>by rw[IsOfs] at h;exact h.elim
 | _ :: _,[],_,_,s,_,h=>by rw[IsOfs] at h;exact h.elim
 | t :: a,u :: us,hg,hi,s,hs,h=>by
  rw[IsOfs] at h
  have h1:=hg t (by simp) u s hs h.1
  have h2:=seq_keeps a us (fun v hv=>hg v (by simp[hv])) (fun v hv=>hi v (by simp[hv])) (g t s).2 (hi t (by simp) s hs) h.2
  refine⟨fun e=>h2.1 (h1.1 e),fun e=>?_⟩
  have h3:=h2.2 e
  have h4:=h1.2 h3.1
  exact⟨h4.1,by rw[Nm.seqM,IsOfs];exact⟨h4.2,h3.2⟩⟩
theorem replaced_eq (b:List Ty)(k i:Int)(a:List Tm)(v:Tm)(s:Nm.St):replaced (.mk b k i a) v s=if v.binds.length≠a.length then (Nm.tz,{ s with e:=1 })
  else if (Nm.Put v a s.left s.dry).2.e≠0 then (Nm.tz,{ s with left:=(Nm.Put v a s.left s.dry).2.left,dry:=(Nm.Put v a s.left s.dry).2.dry,e:=(Nm.Put v a s.left s.dry).2.e })
  else (.mk b (Nm.Put v a s.left s.dry).1.kind (Nm.Put v a s.left s.dry).1.index (Nm.Put v a s.left s.dry).1.args,{ s with left:=(Nm.Put v a s.left s.dry).2.left,dry:=(Nm.Put v a s.left s.dry).2.dry }):=rfl
theorem keeps (hB:B≤1000)(l:List (Int×Tm))(X0:List Ty)(hl:∀ p∈l,(∃ h,headTy C M X0 2 p.1=some h∧IsOf C M p.2 X0 h)∧Bnd B p.2∧p.2.full≤1000000):
  ∀ (t:Tm) (Z:List Ty) (u:Ty),IsOf C M t (X0 ++ Z) u→Bnd B t→X0.length + Z.length + t.full≤100000000→∀ s,InR s→Nm.Kp s (through l t (Z.length:Nat) s) fun r=>IsOf C M r (X0 ++ Z) u:=by
 intro t
 induction t using Tm.ind with
 | h b k i a ih=>
  intro Z u ht hbn hz s hs
  obtain⟨hbu,h,hh,hbase,hargs⟩:=isOf_mk.1 ht
  obtain⟨t1,t2,t3⟩:=hbn.inv
  have hbl:=Ty.le_sizes b
  rw[Tm.full_eq] at hz
  have hZb:(Z ++ b).length=Z.length + b.length:=List.length_append
  have hwr:Nm.wr ((Z.length:Nat) + b.length)=(((Z ++ b).length:Nat):Int):=by rw[wr_id (by omega) (by omega),hZb];omega
  rw[through]
  dsimp only
  rw[hwr]
  clear hwr
  by_cases he:s.e=0
  rotate_left
  ·rw[if_pos he];exact⟨fun h=>h,fun e=>absurd e he⟩
  rw[if_neg (fun h=>h he)]
  by_cases hsp:(Nm.spend s).1=true
  rotate_left
  ·rw[if_pos (by simpa using hsp)]
   exact⟨fun _=>by show (11:Int)≠1;decide,fun e=>by cases e⟩
  rw[if_neg (by rw[hsp];simp)]
  obtain⟨s1,s2⟩:=spend_ok hsp
  have hin:=spend_in hs
  rw[throughs_seq]
  rw[List.append_assoc] at hh hargs
  have hq:=seq_keeps (C:=C) (M:=M) (g:=fun t s=>through l t ((Z ++ b).length:Nat) s) (X:=X0 ++ (Z ++ b)) (X':=X0 ++ (Z ++ b)) a h.args
   (fun v hv w s hs hw=>ih v hv (Z ++ b) w hw (t3 v hv) (by have:=Tm.full_mem hv;omega) s hs) (fun v hv s hs=>through_in l v _ s hs) (Nm.spend s).2 hin hargs
  have hgr:=seq_grow (B:=B) (g:=fun t s=>through l t ((Z ++ b).length:Nat) s) a (fun v hv s hs=>grow l (fun p hp=>(hl p hp).2.1) v (t3 v hv) _ s hs) (fun v hv s hs=>through_in l v _ s hs) (Nm.spend s).2 hin
  have hqi:=seqM_in (g:=fun t s=>through l t ((Z ++ b).length:Nat) s) a (fun v hv s hs=>through_in l v _ s hs) _ hin
  have hql:=Nm.seqM_length (fun t s=>through l t ((Z ++ b).length:Nat) s) a (Nm.spend s).2
  generalize Nm.seqM (fun t s=>through l t ((Z ++ b).length:Nat) s) a (Nm.spend s).2=q at hq hgr hqi hql ⊢
  have hq1:q.2.e≠1:=hq.1 (by omega)
  have stays:Nm.Kp s (.mk b k i q.1,q.2) fun r=>IsOf C M r (X0 ++ Z) u:=
   ⟨fun _=>hq1,fun e=>⟨he,isOf_mk.2 ⟨hbu,h,by rw[List.append_assoc];exact hh,hbase,by rw[List.append_assoc];exact(hq.2 e).2⟩⟩⟩
  by_cases hk:k≠2∨q.2.e≠0
  ·rw[if_pos hk];exact stays
  rw[if_neg hk]
  have hk2:k=2:=by
   by_cases h:k=2
   ·exact h
   ·exact absurd (.inl h) hk
  have hqe:q.2.e=0:=by
   by_cases h:q.2.e=0
   ·exact h
   ·exact absurd (.inr h) hk
  subst hk2
  cases hfi:find l i with
  | none=>exact stays
  | some v=>
   obtain⟨p,hp,rfl,rfl⟩:=find_at hfi
   obtain⟨⟨h',hh',hvt⟩,hvb,hvf⟩:=hl p hp
   have hsame:h'=h:=by
    rw[headTy_ctx (X':=X0 ++ (Z ++ b)) (by decide),hh] at hh'
    exact(Option.some.inj hh').symm
   subst hsame
   have hlt:=lift_isOf p.2 X0 (Z ++ b) [] h' (by simp only[List.length_nil];omega) (by rw[List.append_nil];exact hvt)
   rw[List.append_nil] at hlt
   have hlb:Bnd B (Nm.lift ((Z ++ b).length:Nat) p.2 0):=Bnd.lift _ _ _ hvb
   have hqa:=(hq.2 hqe).2
   have hqg:=hgr hqe
   have hfull:∀ x∈q.1,x.full≤8000000000000:=fun x hx=>by
    have h1:=Bnd.full x (hqg.2.2 x hx)
    have h2:x.size≤1000000000:=by
     have:=Tm.size_mem hx
     have:=hqg.2.1
     have:=hin.2
     have:=hqi.1
     omega
    have h3:x.size * (B + 1)≤1000000000 * 1001:=Nat.mul_le_mul h2 (by omega)
    omega
   have hPk:=Put_keeps (dry:=q.2.dry) (left:=q.2.left) hqi hB hlb hqg.2.2 hfull (by rw[List.length_append];omega) hlt hqa
   have hbl2:(Nm.lift ((Z ++ b).length:Nat) p.2 0).binds=h'.args:=by
    generalize Nm.lift ((Z ++ b).length:Nat) p.2 0=v at hlt
    obtain⟨vb,vk,vi,va⟩:=v
    exact(isOf_mk.1 hlt).1
   have hal:=isOfs_len hargs
   show Nm.Kp s (replaced (.mk b 2 p.1 q.1) (Nm.lift ((Z ++ b).length:Nat) p.2 0) q.2) _
   rw[replaced_eq,if_neg (fun hne=>hne (by rw[hbl2,hal,hql]))]
   generalize Nm.Put (Nm.lift ((Z ++ b).length:Nat) p.2 0) q.1 q.2.left q.2.dry=r at hPk ⊢
   by_cases hr:r.2.e=0
   ·rw[if_neg (fun h=>h hr)]
    refine⟨fun _=>hq1,fun _=>⟨he,?_⟩⟩
    obtain⟨_,h2,hrh,hrbase,hrargs⟩:=isOf_mk.1 (hPk.2 hr)
    rw[List.append_nil] at hrh hrargs
    exact isOf_mk.2 ⟨hbu,h2,by rw[List.append_assoc];exact hrh,hrbase.trans hbase,by rw[List.append_assoc];exact hrargs⟩
   ·rw[if_pos hr]
    exact⟨fun _=>hPk.1,fun e=>absurd e hr⟩
theorem apply_keeps (hB:B≤1000)(l:List (Int×Tm))(X0:List Ty)(hr:right l=true)(hl:∀ p∈l,(∃ h,headTy C M X0 2 p.1=some h∧IsOf C M p.2 X0 h)∧Bnd B p.2∧p.2.full≤1000000) 
  (t:Tm) (u:Ty) (ht:IsOf C M t X0 u) (hbn:Bnd B t) (hz:X0.length + t.full≤100000000) (left:Int) (dry:Bool) (h0:0≤left∧left≤1000000000) :
  (apply l t left dry).2.e≠1∧((apply l t left dry).2.e=0→IsOf C M (apply l t left dry).1 X0 u):=by
 have h1:=keeps hB l X0 hl t [] u (by rw[List.append_nil];exact ht) hbn (by simp only[List.length_nil];omega) ⟨left,dry,0,0⟩ h0
 rw[List.append_nil] at h1
 unfold apply
 rw[if_neg (by rw[hr];simp)]
 dsimp only
 have h2:=h1.1 (by show (0:Int)≠1;decide)
 have h3:=h1.2
 simp only[List.length_nil] at h2 h3
 have e0:(((0:Nat):Int))=0:=rfl
 rw[e0] at h2 h3
 generalize through l t 0 ⟨left,dry,0,0⟩=r at h2 h3
 by_cases hc:r.2.e=0∧¬ (r.1.size≤5000∧r.1.depth≤60)
 ·rw[if_pos hc]
  exact⟨by show (if (2:Int)≠0 then _ else _:Tm×Nm.St).2.e≠1;rw[if_pos (by decide)];show (2:Int)≠1;decide,fun e=>by
   have e':(if (2:Int)≠0 then _ else _:Tm×Nm.St).2.e=0:=e
   rw[if_pos (by decide)] at e';cases e'⟩
 ·rw[if_neg hc]
  by_cases hp:r.2.e=0
  ·rw[if_neg (fun h=>h hp)]
   exact⟨h2,fun e=>(h3 e).2⟩
  ·rw[if_pos hp]
   exact⟨h2,fun e=>absurd e hp⟩
end Sb
namespace Sb
theorem seq_to {g:Tm→Nm.St→Tm×Nm.St}(hi:∀ t s,InR s→InR (g t s).2):∀ (l ys:List Tm),ys.length=l.length→(∀ j (h:j < l.length) (h':j < ys.length) s,InR s→(g l[j] s).2.e=0→s.e=0∧(g l[j] s).1=ys[j])→∀ s,InR s→(Nm.seqM g l s).2.e=0→s.e=0∧(Nm.seqM g l s).1=ys
 | [],ys,hl,_,s,_,he=>⟨he,by
   have:ys=[]:=List.length_eq_zero_iff.1 hl
   rw[this,Nm.seqM]⟩
 | _ :: _,[],hl,_,s,_,_=>by simp at hl
 | t :: l,y :: ys,hl,hg,s,hs,he=>by
  have h1:=hg 0 (by simp) (by simp) s hs
  have h2:=seq_to hi l ys (by simpa using hl) (fun j h h' s hs he=>hg (j + 1) (by simp;omega) (by simp;omega) s hs he) (g t s).2 (hi t s hs) he
  have h3:=h1 h2.1
  refine⟨h3.1,?_⟩
  show (g t s).1 :: (Nm.seqM g l (g t s).2).1=_
  rw[h2.2]
  have:(g t s).1=y:=h3.2
  rw[this]
theorem replaced_e {b:List Ty}{k i:Int}{a:List Tm}{v:Tm}{s:Nm.St}(hs:s.e=0)(he:(replaced (.mk b k i a) v s).2.e=0):v.binds.length=a.length∧(Nm.Put v a s.left s.dry).2.e=0∧(replaced (.mk b k i a) v s).1=.mk b (Nm.Put v a s.left s.dry).1.kind (Nm.Put v a s.left s.dry).1.index (Nm.Put v a s.left s.dry).1.args:=by
 rw[replaced_eq] at he ⊢
 by_cases hl:v.binds.length≠a.length
 ·rw[if_pos hl] at he;cases he
 ·rw[if_neg hl] at he ⊢
  by_cases hp:(Nm.Put v a s.left s.dry).2.e≠0
  ·rw[if_pos hp] at he;exact absurd he hp
  ·rw[if_neg hp]
   exact⟨by omega,by omega,rfl⟩
theorem Put_e {v:Tm}{xs:List Tm}{left:Int}{dry:Bool}(hl:v.binds.length=xs.length)(he:(Nm.Put v xs left dry).2.e=0):
  (Nm.through 100001 xs xs.length (.mk [] v.kind v.index v.args) 0 ⟨left,dry,0,0⟩).2.e=0∧(Nm.Put v xs left dry).1.kind=(Nm.through 100001 xs xs.length (.mk [] v.kind v.index v.args) 0 ⟨left,dry,0,0⟩).1.kind ∧
   (Nm.Put v xs left dry).1.index=(Nm.through 100001 xs xs.length (.mk [] v.kind v.index v.args) 0 ⟨left,dry,0,0⟩).1.index∧(Nm.Put v xs left dry).1.args=(Nm.through 100001 xs xs.length (.mk [] v.kind v.index v.args) 0 ⟨left,dry,0,0⟩).1.args:=by
 have hp:Nm.put 100001 v xs ⟨left,dry,0,0⟩=(.mk (v.binds.drop xs.length) (Nm.through 100001 xs xs.length (.mk [] v.kind v.index v.args) 0 ⟨left,dry,0,0⟩).1.kind (Nm.through 100001 xs xs.length (.mk [] v.kind v.index v.args) 0 ⟨left,dry,0,0⟩).1.index (Nm.through 100001 xs xs.length (.mk [] v.kind v.index v.args) 0 ⟨left,dry,0,0⟩).1.args,(Nm.through 100001 xs xs.length (.mk [] v.kind v.index v.args) 0 ⟨left,dry,0,0⟩).2):=by
  unfold Nm.put Nm.putW
  rw[if_neg (by rintro(h | h);exact h rfl;omega),hl]
 unfold Nm.Put Nm.done at he ⊢
 rw[hp] at he ⊢
 generalize Nm.through 100001 xs xs.length (.mk [] v.kind v.index v.args) 0 ⟨left,dry,0,0⟩=r at he ⊢
 dsimp only at he ⊢
 by_cases hc:r.2.e=0∧¬ ((Tm.mk (v.binds.drop xs.length) r.1.kind r.1.index r.1.args).size≤5000∧(Tm.mk (v.binds.drop xs.length) r.1.kind r.1.index r.1.args).depth≤60)
 ·rw[if_pos hc] at he
  have hf:(Nm.fail r.2 2).e=2:=by unfold Nm.fail;rw[if_pos hc.1]
  rw[if_pos (by rw[hf];decide)] at he
  rw[hf] at he;cases he
 ·rw[if_neg hc] at he ⊢
  by_cases hr:r.2.e=0
  ·rw[if_neg (fun h=>h hr)]
   exact⟨hr,rfl,rfl,rfl⟩
  ·rw[if_pos hr] at he;exact absurd he hr
theorem thr_step {l:List (Int×Tm)}{b:List Ty}{k i:Int}{a:List Tm}{ins m:Int}{s:Nm.St}(hs:InR s)(hm:Nm.wr (ins + b.length)=m)(he:(through l (.mk b k i a) ins s).2.e=0):
  s.e=0∧InR (Nm.spend s).2∧(Nm.seqM (fun t s=>through l t m s) a (Nm.spend s).2).2.e=0∧through l (.mk b k i a) ins s=(if k≠2 then (.mk b k i (Nm.seqM (fun t s=>through l t m s) a (Nm.spend s).2).1,(Nm.seqM (fun t s=>through l t m s) a (Nm.spend s).2).2) else match find l i with
    | none=>(.mk b k i (Nm.seqM (fun t s=>through l t m s) a (Nm.spend s).2).1,(Nm.seqM (fun t s=>through l t m s) a (Nm.spend s).2).2)
    | some u=>replaced (.mk b k i (Nm.seqM (fun t s=>through l t m s) a (Nm.spend s).2).1) (Nm.lift m u 0) (Nm.seqM (fun t s=>through l t m s) a (Nm.spend s).2).2):=by
 rw[through] at he ⊢
 rw[hm,throughs_seq] at he ⊢
 by_cases h0:s.e=0
 rotate_left
 ·rw[if_pos h0] at he;exact absurd he h0
 rw[if_neg (fun h=>h h0)] at he ⊢
 by_cases hsp:(Nm.spend s).1=true
 rotate_left
 ·rw[if_pos (by simpa using hsp)] at he;cases he
 rw[if_neg (by rw[hsp];simp)] at he ⊢
 dsimp only at he ⊢
 have hin:=spend_in hs
 generalize Nm.seqM (fun t s=>through l t m s) a (Nm.spend s).2=q at he ⊢
 by_cases hq:q.2.e=0
 ·refine⟨h0,hin,hq,?_⟩
  by_cases hk:k≠2
  ·rw[if_pos hk,if_pos (.inl hk)]
  ·rw[if_neg hk,if_neg (by rintro(h | h);exact hk h;exact h hq)]
   cases find l i <;> rfl
 ·rw[if_pos (.inr hq)] at he;exact absurd he hq
theorem eta_stays (l:List (Int×Tm))(T:Ty):∀ (w z:Nat) (s:Nm.St),InR s→z + T.size≤1000000000→(through l (Ty.eta T 0 w) (z:Nat) s).2.e=0→s.e=0∧(through l (Ty.eta T 0 w) (z:Nat) s).1=Ty.eta T 0 w:=by
 induction T using Ty.ind with
 | h a b ih=>
  intro w z s hs hz he
  have hts:=ty_size a b
  have hal:=Ty.le_sizes a
  rw[Ty.eta_eq,if_pos rfl] at he ⊢
  have hw:Nm.wr (((z:Nat):Int) + a.length)=((z + a.length:Nat):Int):=by rw[wr_id (by omega) (by omega)];omega
  obtain⟨s0,s1,s2,s3⟩:=thr_step hs hw he
  clear hw
  rw[s3,if_pos (by decide)]
  refine⟨s0,?_⟩
  have hq:=(seq_to (g:=fun t s=>through l t ((z + a.length:Nat):Int) s) (fun t s hs=>through_in l t _ s hs) (Ty.etas a) (Ty.etas a) rfl (fun j h _ s hs he=>by
   have hj:j < a.length:=by rw[Ty.etas_len] at h;exact h
   have:=Nm.size_le2 hj
   rw[Nm.etas_nth h] at he ⊢
   exact ih a[j] (List.getElem_mem hj) _ _ s hs (by omega) he) _ s1 s2).2
  show Tm.mk a 0 _ _=_
  rw[hq]
end Sb
namespace Pn
variable {C M:List Ty}
theorem bfind_app {b r:Bd}{m:Int}{v:Tm}(h:bfind b m=some v):bfind (b ++ r) m=some v:=by
 unfold bfind at h ⊢
 rw[List.find?_append]
 cases hf:b.find? (fun p=>p.1 == m) with
 | none=>rw[hf] at h;cases h
 | some p=>rw[hf] at h;exact h
theorem bput_keeps {b:Bd}{m m':Int}{t v:Tm}(h:bfind b m=some v):bfind (bput b m' t).2 m=some v:=by
 unfold bput
 cases bfind b m' with
 | some u=>exact h
 | none=>exact bfind_app h
theorem bput_at {b b':Bd}{m:Int}{t:Tm}(h:bput b m t=(true,b')):bfind b' m=some t:=by
 unfold bput at h
 cases hf:bfind b m with
 | some u=>
  rw[hf] at h
  obtain⟨h1,h2⟩:=Prod.mk.inj h
  rw[decide_eq_true_eq] at h1
  rw[←h2,hf,h1]
 | none=>
  rw[hf] at h
  obtain⟨h1,h2⟩:=Prod.mk.inj h
  rw[←h2]
  unfold bfind at hf ⊢
  rw[List.find?_append]
  rw[Option.map_eq_none_iff] at hf
  rw[hf];simp
theorem flex_keeps {b:Bd}{p t:Tm}{ar:List Ty}{m:Int}{v:Tm}(h:bfind b m=some v):bfind (flex b p t ar).2 m=some v:=by
 unfold flex
 split
 ·exact h
 ·split
  ·exact bput_keeps h
  ·exact h
theorem walk_keeps (p:Tm):∀ (t:Tm) (ar:List Ty) (b:Bd) (m:Int) (v:Tm),bfind b m=some v→bfind (walk p t ar b).2 m=some v:=by
 induction p using Tm.ind with
 | h bs k i a ih=>
  intro t ar b m v h
  rw[walk]
  split
  ·exact h
  ·split
   ·exact flex_keeps h
   ·split
    ·exact h
    ·have key:∀ (l:List Tm),(∀ x∈l,x∈a)→∀ (ts:List Tm) (b:Bd),bfind b m=some v→bfind (walks l ts (ar ++ bs) b).2 m=some v:=by
      intro l
      induction l with
      | nil=>intro _ ts b h;exact h
      | cons x l ihl=>
       intro hl ts b h
       rw[walks]
       have h1:=ih x (hl x (by simp)) (ts.headD Tm.zero) (ar ++ bs) b m v h
       split
       ·exact ihl (fun u hu=>hl u (by simp[hu])) _ _ h1
       ·exact h1
     exact key a (fun x hx=>hx) _ _ h
theorem walks_all (ar:List Ty):∀ (l ts:List Tm) (b b':Bd),walks l ts ar b=(true,b')→∀ j (h:j < l.length) (h':j < ts.length),∃ b1 b2,walk l[j] ts[j] ar b1=(true,b2)∧∀ m v,bfind b2 m=some v→bfind b' m=some v
 | [],_,_,_,_,j,h,_=>by simp at h
 | p :: l,[],b,b',hw,j,h,h'=>by simp at h'
 | p :: l,t :: ts,b,b',hw,j,h,h'=>by
  rw[walks,List.headD_cons,List.tail_cons] at hw
  by_cases hp:(walk p t ar b).1=true
  ·rw[if_pos hp] at hw
   have keep:∀ (l ts:List Tm) (b:Bd) m v,bfind b m=some v→bfind (walks l ts ar b).2 m=some v:=by
    intro l
    induction l with
    | nil=>intro ts b m v h;exact h
    | cons x l ihl=>
     intro ts b m v h
     rw[walks]
     have h1:=walk_keeps x (ts.headD Tm.zero) ar b m v h
     split
     ·exact ihl _ _ _ _ h1
     ·exact h1
   cases j with
   | zero=>
    refine⟨b,(walk p t ar b).2,?_,fun m v hf=>?_⟩
    ·show walk p t ar b=_
     rw[←hp]
    ·have:=keep l ts _ m v hf
     rw[hw] at this;exact this
   | succ j=>
    obtain⟨b1,b2,h1,h2⟩:=walks_all ar l ts _ b' hw j (by simpa using h) (by simpa using h')
    exact⟨b1,b2,h1,h2⟩
  ·rw[if_neg hp] at hw
   rw[hw] at hp;exact absurd rfl hp
set_option maxHeartbeats 4000000 in
theorem walk_sound {B:Nat}(hB:B≤2000)(X0:List Ty)(h0:X0.length≤10000)(l:List (Int×Tm))(p:Tm):∀ (t:Tm) (ar:List Ty) (b b':Bd) (u:Ty) (s:Nm.St),walk p t ar b=(true,b')→(∀ m v,bfind b' m=some v→Sb.find l m=some v)→IsOf C M p (X0 ++ ar) u→IsOf C M t (X0 ++ ar) u→Nar B p→Nar (B + 1) t →
  ar.length + p.full≤5000→t.full≤1000000→InR s→(Sb.through l p (ar.length:Nat) s).2.e=0→s.e=0∧(Sb.through l p (ar.length:Nat) s).1=t:=by
 induction p using Tm.ind with
 | h bs k i a ih=>
  intro t ar b b' u s hw hfind hp ht hnp hnt hz htz hs he
  rw[Tm.full_eq] at hz
  have hbl:=Ty.le_sizes bs
  obtain⟨n1,n2⟩:=hnp.inv
  obtain⟨hbu,h,h1,h2,h3⟩:=isOf_mk.1 hp
  rw[List.append_assoc] at h1 h3
  have hal:=isOfs_len h3
  have hfl:=fulls_len a
  have hab:(ar ++ bs).length=ar.length + bs.length:=List.length_append
  have hwr:Nm.wr (((ar.length:Nat):Int) + bs.length)=(((ar ++ bs).length:Nat):Int):=by rw[wr_id (by omega) (by omega),hab];omega
  obtain⟨s0,s1,s2,s3⟩:=Sb.thr_step hs hwr he
  clear hwr
  refine⟨s0,?_⟩
  obtain⟨tb,tk,ti,ta⟩:=t
  obtain⟨m1,m2⟩:=hnt.inv
  obtain⟨htu,h',g1,g2,g3⟩:=isOf_mk.1 ht
  rw[List.append_assoc] at g1 g3
  rw[walk] at hw
  have hw:(if bs≠tb then (false,b) else if k=2 then flex b (.mk bs k i a) (.mk tb tk ti ta) (ar ++ bs) else if (k≠tk∨i≠ti)∨a.length≠ta.length then (false,b) else walks a ta (ar ++ bs) b)=(true,b'):=hw
  by_cases hb:bs≠tb
  ·rw[if_pos hb] at hw;cases (Prod.mk.inj hw).1
  rw[if_neg hb] at hw
  have hb:bs=tb:=by
   by_cases h:bs=tb
   ·exact h
   ·exact absurd h hb
  subst hb
  by_cases hk:k=2
  ·subst hk
   rw[if_pos rfl] at hw
   rw[if_neg (fun h=>h rfl)] at s3
   unfold flex at hw
   cases hv:varsL ((ar ++ bs).length:Nat) a [] with
   | none=>
    have hw':(match varsL ((ar ++ bs).length:Nat) a [] with | none=>(false,b) | some v=>if (take (.mk [] tk ti ta) (ar ++ bs) v).2=0 then bput b i (take (.mk [] tk ti ta) (ar ++ bs) v).1 else (false,b))=(true,b'):=hw
    rw[hv] at hw';cases (Prod.mk.inj hw').1
   | some vs=>
    have hw':(match varsL ((ar ++ bs).length:Nat) a [] with | none=>(false,b) | some v=>if (take (.mk [] tk ti ta) (ar ++ bs) v).2=0 then bput b i (take (.mk [] tk ti ta) (ar ++ bs) v).1 else (false,b))=(true,b'):=hw
    rw[hv] at hw'
    dsimp only at hw'
    by_cases htk:(take (.mk [] tk ti ta) (ar ++ bs) vs).2=0
    rotate_left
    ·rw[if_neg htk] at hw';cases (Prod.mk.inj hw').1
    rw[if_pos htk] at hw'
    obtain⟨v,hvv⟩:∃ v,(take (.mk [] tk ti ta) (ar ++ bs) vs).1=v:=⟨_,rfl⟩
    rw[hvv] at hw'
    have htk:take (.mk [] tk ti ta) (ar ++ bs) vs=(v,0):=by rw[←hvv,←htk]
    have hfi:=hfind i v (bput_at hw')
    rw[hfi] at s3
    dsimp only at s3
    obtain⟨v1,v2,v3,v4⟩:=vars_typed h3 hv
    have hsz:∀ T∈h.args,T.size≤B + 1:=fun T hT=>by
     obtain⟨j,hj,rfl⟩:=List.getElem_of_mem hT
     have e:=(v4 j (by omega) hj).1
     have hn:=n2 _ (List.getElem_mem (show j < a.length by omega))
     rw[e] at hn
     obtain⟨c,d⟩:∃ x,x=h.args[j]:=⟨_,rfl⟩
     rw[←d] at hn ⊢
     obtain⟨c,d⟩:=c
     rw[Ty.eta_eq] at hn
     have:=hn.inv.1
     rw[ty_size];omega
    have hq:=(Sb.seq_to (g:=fun t s=>Sb.through l t (((ar ++ bs).length:Nat):Int) s) (fun t s hs=>through_in l t _ s hs) a a rfl (fun j hj _ s hs he=>by
     have e:=(v4 j hj (by omega)).1
     rw[e] at he ⊢
     exact Sb.eta_stays l _ _ _ s hs (by have:=hsz _ (List.getElem_mem (show j < h.args.length by omega));omega) he) _ s1 s2).2
    have hqi:=seqM_in (g:=fun t s=>Sb.through l t (((ar ++ bs).length:Nat):Int) s) a (fun v hv s hs=>through_in l v _ s hs) _ s1
    rw[s3] at he ⊢
    generalize Nm.seqM (fun t s=>Sb.through l t (((ar ++ bs).length:Nat):Int) s) a (Nm.spend s).2=q at hq hqi s2 he ⊢
    rw[hq] at he ⊢
    obtain⟨r1,r2,r3⟩:=Sb.replaced_e s2 he
    obtain⟨p1,p2,p3,p4⟩:=Sb.Put_e r1 r2
    have ht0:IsOf C M (.mk [] tk ti ta) (X0 ++ (ar ++ bs)) (.mk [] u.base):=by
     refine isOf_mk.2 ⟨rfl,h',?_,g2,?_⟩
     ·show headTy C M (X0 ++ (ar ++ bs) ++ []) tk ti=some h'
      rw[List.append_nil];exact g1
     ·show IsOfs C M ta (X0 ++ (ar ++ bs) ++ []) h'.args
      rw[List.append_nil];exact g3
    have e0:Ty.sizes []=0:=by simp[Ty.sizes]
    have hf0:(Tm.mk [] tk ti ta).full≤100000000:=by rw[Tm.full_eq] at htz ⊢;rw[e0];omega
    have hn0:Nar (B + 1) (Tm.mk [] tk ti ta):=.mk _ _ _ _ (by rw[e0];omega) m2
    have hw0:WkOk ⟨q.2.left,q.2.dry,0,0⟩:=⟨hqi,⟨Int.le_refl 0,(by decide:(0:Int)≤100001)⟩,fun _=>(by decide:(0:Int)≤100000)⟩
    have hfb:=flex_back (C:=C) (M:=M) (B:=B + 1) (by omega) (base:=u.base) (s:=⟨q.2.left,q.2.dry,0,0⟩) hw0 (fun _=>by show (100001:Int) - 0≤((100001:Nat):Int);decide) h3 hv ht0 hn0 hf0 h0 (by omega) (by omega) hsz htk p1
    rw[r3,p2,p3,p4,hfb];rfl
  ·rw[if_neg hk] at hw
   rw[if_pos hk] at s3
   by_cases hc:(k≠tk∨i≠ti)∨a.length≠ta.length
   ·have hw':(if (k≠tk∨i≠ti)∨a.length≠ta.length then (false,b) else walks a ta (ar ++ bs) b)=(true,b'):=hw
    rw[if_pos hc] at hw';cases (Prod.mk.inj hw').1
   have hw':(if (k≠tk∨i≠ti)∨a.length≠ta.length then (false,b) else walks a ta (ar ++ bs) b)=(true,b'):=hw
   rw[if_neg hc] at hw'
   have e1:k=tk:=Classical.byContradiction fun h=>hc (.inl (.inl h))
   have e2:i=ti:=Classical.byContradiction fun h=>hc (.inl (.inr h))
   have e3:a.length=ta.length:=Classical.byContradiction fun h=>hc (.inr h)
   subst e1;subst e2
   rw[h1] at g1
   have g1:=Option.some.inj g1
   subst g1
   rw[Tm.full_eq] at htz
   have hq:=(Sb.seq_to (g:=fun t s=>Sb.through l t (((ar ++ bs).length:Nat):Int) s) (fun t s hs=>through_in l t _ s hs) a ta e3.symm (fun j hj hj' s hs he=>by
    obtain⟨b1,b2,w1,w2⟩:=walks_all _ _ _ _ _ hw' j hj hj'
    have:=Tm.full_mem (List.getElem_mem hj)
    have:=Tm.full_mem (List.getElem_mem hj')
    exact ih a[j] (List.getElem_mem hj) ta[j] (ar ++ bs) b1 b2 _ s w1 (fun m v h=>hfind m v (w2 m v h)) ((isOfs_iff.1 h3).2 j hj (by omega)) ((isOfs_iff.1 g3).2 j hj' (by omega)) (n2 _ (List.getElem_mem hj)) (m2 _ (List.getElem_mem hj')) (by omega) (by omega) hs he) _ s1 s2).2
   rw[s3]
   show Tm.mk bs k i _=_
   rw[hq]
end Pn
namespace Pn
variable {C M:List Ty}
def BT (C M X0:List Ty)(q:Int×Tm):Prop:=(∃ h,headTy C M [] 2 q.1=some h∧IsOf C M q.2 X0 h)∧q.2.full≤160∧q.2.Fit
theorem bput_mem {b:Bd}{m:Int}{t:Tm}{q:Int×Tm}(h:q∈(bput b m t).2):q∈b∨q=(m,t):=by
 unfold bput at h
 cases hf:bfind b m with
 | some u=>rw[hf] at h;exact .inl h
 | none=>
  rw[hf] at h
  rcases List.mem_append.1 h with h | h
  ·exact .inl h
  ·exact .inr (List.mem_singleton.1 h)
theorem sizes_etas:∀ (us:List Ty) (xs:List Tm),xs.length=us.length→(∀ j (h:j < xs.length) (h':j < us.length),∃ w:Nat,xs[j]=Ty.eta us[j] 0 w)→Ty.sizes us≤Tm.fulls xs
 | [],_,_,_=>by simp[Ty.sizes]
 | u :: us,[],h,_=>by simp at h
 | u :: us,x :: xs,h,hx=>by
  have h1:=sizes_etas us xs (by simpa using h) (fun j h h'=>hx (j + 1) (by simp;omega) (by simp;omega))
  obtain⟨w,h2⟩:=hx 0 (by simp) (by simp)
  have h2:x=Ty.eta u 0 w:=h2
  obtain⟨c,d⟩:=u
  rw[Ty.eta_eq] at h2
  have hx:x.full=Ty.sizes c + Tm.fulls (Ty.etas c) + 1:=by rw[h2,Tm.full_eq]
  simp only[Ty.sizes,Tm.fulls]
  rw[ty_size,hx];omega
theorem flex_typed {X0:List Ty}{b:Bd}{bs ar:List Ty}{i:Int}{a:List Tm}{t:Tm}{h:Ty}(hb:∀ q∈b,BT C M X0 q)(h1:headTy C M (X0 ++ ar) 2 i=some h)(h3:IsOfs C M a (X0 ++ ar) h.args)(ht:IsOf C M (nb t) (X0 ++ ar) (.mk [] h.base))(hz:ar.length≤10000)(haz:Tm.fulls a≤80)(htz:t.full≤80)(hlow:lowB t=true)(hfit:t.Fit):
  ∀ q∈(flex b (.mk bs 2 i a) t ar).2,BT C M X0 q:=by
 have hfl:flex b (.mk bs 2 i a) t ar=(match varsL (ar.length:Nat) a [] with | none=>(false,b) | some v=>if (take (.mk [] t.kind t.index t.args) ar v).2=0 then bput b i (take (.mk [] t.kind t.index t.args) ar v).1 else (false,b)):=rfl
 rw[hfl]
 cases hv:varsL (ar.length:Nat) a [] with
 | none=>exact hb
 | some vs=>
  dsimp only
  by_cases htk:(take (.mk [] t.kind t.index t.args) ar vs).2=0
  rotate_left
  ·rw[if_neg htk];exact hb
  rw[if_pos htk]
  intro q hq
  rcases bput_mem hq with hq | rfl
  ·exact hb q hq
  ·obtain⟨v1,v2,v3,v4⟩:=vars_typed h3 hv
   have hal:=isOfs_len h3
   have hfa:=fulls_len a
   obtain⟨v,hvv⟩:∃ v,(take (.mk [] t.kind t.index t.args) ar vs).1=v:=⟨_,rfl⟩
   have htk2:take (.mk [] t.kind t.index t.args) ar vs=(v,0):=by rw[←hvv,←htk]
   obtain⟨k1,k2⟩:=take_ok htk2
   have hti:=tk_isOf (C:=C) (M:=M) X0 ar vs v2 (nb t) [] (.mk [] h.base) k1 (by rw[List.append_nil];exact ht)
   simp only[List.length_nil] at hti
   have e0:(((0:Nat):Int))=0:=rfl
   rw[e0,v3,List.append_nil] at hti
   have hfull:=take_full _ ar vs htk
   have hnf:(Tm.mk [] t.kind t.index t.args).full≤t.full:=nb_full t
   have hse:=sizes_etas h.args a hal.symm fun j hj hj'=>⟨_,(v4 j hj hj').1⟩
   refine⟨⟨h,?_,?_⟩,?_,?_⟩
   ·rw[headTy_ctx (X':=X0 ++ ar) (by decide)];exact h1
   ·rw[hvv,k2,v3]
    obtain⟨tb,ti⟩:∃ x,x=tk ar.length vs (nb t) 0:=⟨_,rfl⟩
    have e:tk ar.length vs (.mk [] t.kind t.index t.args) 0=tk ar.length vs (nb t) 0:=rfl
    rw[e]
    rw[←ti] at hti ⊢
    obtain⟨b9,k9,i9,a9⟩:=tb
    obtain⟨z1,h',z2,z3,z4⟩:=isOf_mk.1 hti
    have z1:b9=[]:=z1
    subst z1
    rw[List.append_nil] at z2 z4
    refine isOf_mk.2 ⟨List.append_nil _,h',?_,z3,?_⟩
    ·show headTy C M (X0 ++ (h.args ++ [])) k9 i9=_
     rw[List.append_nil];exact z2
    ·show IsOfs C M a9 (X0 ++ (h.args ++ [])) _
     rw[List.append_nil];exact z4
   ·show (take (.mk [] t.kind t.index t.args) ar vs).1.full≤160
    rw[hfull,v3];omega
   ·exact take_fit _ ar vs hz (by omega) (by omega) (nb_low hlow) (nb_fit hfit)
theorem walk_typed (X0:List Ty)(p:Tm):∀ (t:Tm) (ar:List Ty) (b:Bd) (u:Ty),(∀ q∈b,BT C M X0 q)→IsOf C M p (X0 ++ ar) u→IsOf C M t (X0 ++ ar) u→ar.length + p.full≤5000→p.full≤80→t.full≤80→lowB t=true→t.Fit→∀ q∈(walk p t ar b).2,BT C M X0 q:=by
 induction p using Tm.ind with
 | h bs k i a ih=>
  intro t ar b u hb hp ht hz hpz htz hlow hfit
  rw[Tm.full_eq] at hz hpz
  have hbl:=Ty.le_sizes bs
  have hab:(ar ++ bs).length=ar.length + bs.length:=List.length_append
  obtain⟨hbu,h,h1,h2,h3⟩:=isOf_mk.1 hp
  rw[List.append_assoc] at h1 h3
  obtain⟨tb,tk,ti,ta⟩:=t
  obtain⟨htu,h',g1,g2,g3⟩:=isOf_mk.1 ht
  rw[List.append_assoc] at g1 g3
  rw[walk]
  by_cases hbb:bs≠tb
  ·have hbb:bs≠(Tm.mk tb tk ti ta).binds:=hbb
   rw[if_pos hbb];exact hb
  have hbe:bs=tb:=Classical.byContradiction hbb
  have hbb:¬ bs≠(Tm.mk tb tk ti ta).binds:=hbb
  rw[if_neg hbb]
  subst hbe
  by_cases hk:k=2
  ·subst hk
   rw[if_pos rfl]
   refine flex_typed hb h1 h3 ?_ (by omega) (by omega) htz hlow hfit
   refine isOf_mk.2 ⟨rfl,h',?_,g2.trans h2.symm,?_⟩
   ·show headTy C M (X0 ++ (ar ++ bs) ++ []) tk ti=some h'
    rw[List.append_nil];exact g1
   ·show IsOfs C M ta (X0 ++ (ar ++ bs) ++ []) h'.args
    rw[List.append_nil];exact g3
  ·rw[if_neg hk]
   by_cases hc:(k≠tk∨i≠ti)∨a.length≠ta.length
   ·have hc:(k≠(Tm.mk bs tk ti ta).kind∨i≠(Tm.mk bs tk ti ta).index)∨a.length≠(Tm.mk bs tk ti ta).args.length:=hc
    rw[if_pos hc];exact hb
   ·have e1:k=tk:=Classical.byContradiction fun h=>hc (.inl (.inl h))
    have e2:i=ti:=Classical.byContradiction fun h=>hc (.inl (.inr h))
    have hc:¬ ((k≠(Tm.mk bs tk ti ta).kind∨i≠(Tm.mk bs tk ti ta).index)∨a.length≠(Tm.mk bs tk ti ta).args.length):=hc
    rw[if_neg hc]
    subst e1;subst e2
    rw[h1] at g1
    have g1:=Option.some.inj g1
    subst g1
    rw[Tm.full_eq] at htz
    rw[lowB_eq] at hlow
    simp only[Bool.and_eq_true] at hlow
    have hla:=low_mem hlow.2
    have hfa:=(Tm.fit_iff.1 hfit).2.2
    have key:∀ (m ts:List Tm) (us:List Ty) (b:Bd),(∀ x∈m,x∈a)→(∀ x∈ts,x∈ta)→IsOfs C M m (X0 ++ (ar ++ bs)) us→IsOfs C M ts (X0 ++ (ar ++ bs)) us→(∀ q∈b,BT C M X0 q)→∀ q∈(walks m ts (ar ++ bs) b).2,BT C M X0 q:=by
     intro m
     induction m with
     | nil=>intro ts us b _ _ _ _ hb;rw[walks];exact hb
     | cons x m ihm=>
      intro ts us b hm hts hmt htt hb
      cases us with
      | nil=>rw[IsOfs] at hmt;exact hmt.elim
      | cons w us=>
       cases ts with
       | nil=>rw[IsOfs] at htt;exact htt.elim
       | cons y ts=>
        rw[IsOfs] at hmt htt
        have hxm:=full_mem (hm x (by simp))
        have hym:=full_mem (hts y (by simp))
        have h1:=ih x (hm x (by simp)) y (ar ++ bs) b w hb hmt.1 htt.1 (by omega) (by omega) (by omega) (hla y (hts y (by simp))) (hfa y (hts y (by simp)))
        rw[walks,List.headD_cons,List.tail_cons]
        split
        ·exact ihm ts us _ (fun y hy=>hm y (by simp[hy])) (fun y hy=>hts y (by simp[hy])) hmt.2 htt.2 h1
        ·exact h1
    exact key a ta _ b (fun _ h=>h) (fun _ h=>h) h3 g3 hb
end Pn

def kitM (T:List (Nat×TI))(σ:Env)(nm:Nat)(o:Op)(c:D→List (Key×D)→Prop):Prop:=match o with
 | .range t x=>kT T t fun ti=>kev σ x fun d=>(match d,ti.mv with
  | .mo k,some _=>kget σ (.o k) fun d=>(match d with
   | .mp l=>∀ bm es clock,es.size=l.length→c (.o nm) [(.o nm,.it k bm es clock (List.range l.length) none),(.o k,.mq bm es clock l)]
   | _=>False)
  | _,_=>False)
 | .next x false=>kev σ x fun d=>(match d with
  | .o ki=>kget σ (.o ki) fun d=>(match d with
   | .it k bm es clock rem _=>kget σ (.o k) fun d=>(match d with
    | .mq _ es' clock' l=>(es'=es∧clock'=clock)∧((rem=[]∧c (.tu [.v (.bool false)]) [])∨(rem≠[]∧∀ i (_:i∈rem) (hl:i < l.length),c (.tu [.v (.bool true),.v (.int .i64 l[i].1),l[i].2]) [(.o ki,.it k bm es clock (rem.erase i) (some i))]))
    | _=>False)
   | _=>False)
  | _=>False)
 | .entry x=>kev σ x fun d=>(match d with
  | .o ki=>kget σ (.o ki) fun d=>(match d with
   | .it k _ es clock _ (some i)=>kget σ (.o k) fun d=>(match d with
    | .mq _ es' clock' l=>(es'=es∧clock'=clock)∧∃ hl:i < l.length,c (.tu [.v (.int .i64 l[i].1),l[i].2]) []
    | _=>False)
   | _=>False)
  | _=>False)
 | _=>False

section
variable {P:Program} {T:List (Nat×TI)} {cx:Cx} {Fr:Nat→Prop} {m:Mp} {Im:Nat→Nat→Prop} {w w':World} {a:Act} {σ σ':List (Key×D)}
theorem St.drew (h:St cx Fr m Im w a σ):St cx Fr m Im w.drew a σ:=h.below0 (Below.refl _ _).drew
theorem obOk_mq {b bm clock:Nat}{es:Array MapEntry}{l:List (Int×D)}(h:ObOk m Im w b (.mq bm es clock l)):
  b=bm∧w.heap[b]?=some (.map es clock)∧es.size=l.length∧(∀ i (h:i < l.length),(es[i]?).map (·.key)=some (.int .i64 l[i].1))∧(∀ i (h:i < l.length) v,(es[i]?).map (·.val)=some v→Rel m Im w v l[i].2)∧BornOk es clock:=by
 cases h with
 | mq es clock l h1 h2 h3 h4 h5=>exact⟨rfl,h1,h2,h3,h4,h5⟩
theorem obOk_it {b k bm clock:Nat}{es:Array MapEntry}{rem:List Nat}{last:Option Nat}(h:ObOk m Im w b (.it k bm es clock rem last)):
  ∃ seen:Array Nat,m.obj k=some bm∧w.heap[b]?=some (.mapIter (some bm) clock seen clock)∧rem.Nodup∧(∀ i e,es[i]?=some e→(i∈rem↔seen.contains e.born=false))∧(∀ i∈rem,i < es.size)∧(∀ i,last=some i→∃ (e:MapEntry) (s0:Array Nat),es[i]?=some e∧seen=s0.push e.born):=by
 cases h with
 | it k bm es clock rem last seen h1 h2 h3 h4 h5 h6=>exact⟨seen,h1,h2,h3,h4,h5,h6⟩
theorem born_inj {es:Array MapEntry}{clock:Nat}(h:BornOk es clock){i j:Nat}{e f:MapEntry}(hi:es[i]?=some e)(hj:es[j]?=some f)(hb:e.born=f.born):i=j:=by
 have hn:=h.1
 obtain⟨hi1,hi2⟩:=Array.getElem?_eq_some_iff.1 hi
 obtain⟨hj1,hj2⟩:=Array.getElem?_eq_some_iff.1 hj
 have key:∀ (i j:Nat) (e f:MapEntry),es[i]?=some e→es[j]?=some f→e.born=f.born→¬ i < j:=fun i j e f hi hj hb hij=>by
  obtain⟨hi1,hi2⟩:=Array.getElem?_eq_some_iff.1 hi
  obtain⟨hj1,hj2⟩:=Array.getElem?_eq_some_iff.1 hj
  refine(List.pairwise_iff_getElem.1 hn) i j (by simpa using hi1) (by simpa using hj1) hij ?_
  simp only[List.getElem_map,Array.getElem_toList];rw[hi2,hj2];exact hb
 have h1:=key i j e f hi hj hb
 have h2:=key j i f e hj hi hb.symm
 omega
theorem kitM_run (hT : TabOk P T) (h : St cx Fr m Im w a σ) {nm : Nat} (hn : Fr nm) {o : Oper} {c : D → List (Key × D) → Prop} (hk : kitM T σ nm o.op c) :
    ∃ v w' m' V W, (execOp a.eval o).run P w = .ok (.value v) w' ∧ Rel m' Im w' v V ∧ St cx (minus Fr nm) m' Im w' a (puts σ W) ∧ c V W := by
  unfold kitM at hk
  unfold execOp
  split at hk
  · -- range
    rename_i t x ho
    simp only [ho]
    obtain ⟨ti, ht, hk⟩ := kT_some hk
    obtain ⟨d, hx, hk⟩ := kev_some hk
    split at hk
    · rename_i k e hmv
      obtain ⟨d, hg, hk⟩ := kget_some hk
      split at hk
      · rename_i l
        obtain ⟨kt, g1, g2⟩ := (hT t ti ht).map hmv
        obtain ⟨b, h1, h2⟩ := h.ok k _ hg
        obtain ⟨es, clock, h3, h4, h5, h6, hbn⟩ : ∃ (es : Array MapEntry) (clock : Nat), w.heap[b]? = some (.map es clock) ∧ es.size = l.length ∧ (∀ i (h : i < l.length), (es[i]?).map (·.key) = some (.int .i64 l[i].1)) ∧ (∀ i (h : i < l.length) v, (es[i]?).map (·.val) = some v → Rel m Im w v l[i].2) ∧ BornOk es clock := by
          cases h2 with
          | mp es clock l h1 h2 h3 h4 h5 => exact ⟨es, clock, h1, h2, h3, h4, h5⟩
        have hxb : a.eval x = .map (some b) := by
          have hr := h.ev hx
          generalize a.eval x = y at hr
          cases hr with
          | mo k b' hb => rw [h1] at hb; cases hb; rfl
        have hlt := h.mem.olt k b h1
        have hq : ∀ (m' : Mp) (w' : World), m'.obj k = some b → w'.heap[w.heap.size]? = some (.mapIter (some b) clock #[] clock) → ObOk m' Im w' w.heap.size (.it k b es clock (List.range l.length) none) := fun m' w' hm hb =>
          .it k b es clock _ none #[] hm hb List.nodup_range (fun i e he => by
            obtain ⟨hi, _⟩ := Array.getElem?_eq_some_iff.1 he
            rw [h4] at hi
            simp [hi]) (fun i hi => by rw [h4]; simpa using hi) nofun
        have h0 : St cx Fr m Im w a (put1 (.o k) (.mq b es clock l) σ) := h.puto h1 (.mq es clock l h3 h4 h5 h6 hbn)
        have hbl : Below w.heap.size w (w.alloc (.mapIter (some b) clock #[] clock)) := (Below.refl _ _).alloc (Nat.le_refl _) _
        have hne : nm ≠ k := fun e => by
          subst e
          have := (h.mem.fr _ hn).2.2
          rw [this] at h1; cases h1
        have hmk : (m.setO nm w.heap.size).obj k = some b := by simp [Mp.setO, Ne.symm hne, h1]
        obtain ⟨s1, s2⟩ := h0.newObjB (d := .ob fun _ _ => True) hn hbl (Nat.le_refl _) (by simp) fun _ => .ob _ trivial fun _ _ => trivial
        have s3 := s1.puto (k := nm) (b := w.heap.size) (by simp [Mp.setO]) (hq _ _ hmk (heap_alloc_new w _))
        refine ⟨.pointer (some ⟨w.heap.size, 0, none⟩), w.alloc (.mapIter (some b) clock #[] clock), m.setO nm w.heap.size, _, _, ?_, .o nm w.heap.size (by simp [Mp.setO]), ?_, hk b es clock h4⟩
        · simp only [Instr.range, hxb, Sem.run_bind, run_underlying g1, Result.andThen_ok, getObj, Sem.run, h3, newObj]
          rfl
        · simp only [puts]
          refine s3.sub fun k' d hd => ?_
          rw [get_put1, get_put1] at hd
          rw [get_put1, get_put1, get_put1]
          by_cases e1 : Key.eq (.o k) k' = true
          · rw [if_pos e1] at hd
            have := Key.eq_iff.1 e1
            subst this
            rw [if_neg (by rw [Key.eq_iff]; simpa using hne), if_neg (by rw [Key.eq_iff]; simpa using hne), if_pos e1]; exact hd
          · rw [if_neg e1] at hd
            by_cases e2 : Key.eq (.o nm) k' = true
            · rw [if_pos e2] at hd ⊢; exact hd
            · rw [if_neg e2] at hd
              rw [if_neg e2, if_neg e2, if_neg e1]; exact hd
      · exact hk.elim
    · exact hk.elim
  · -- next
    rename_i x ho
    simp only [ho]
    obtain ⟨d, hx, hk⟩ := kev_some hk
    split at hk
    · rename_i ki
      obtain ⟨d, hg, hk⟩ := kget_some hk
      split at hk
      · rename_i k bm es clock rem last
        obtain ⟨d, hg2, hk⟩ := kget_some hk
        split at hk
        · rename_i bm' es' clock' l
          obtain ⟨⟨rfl, rfl⟩, hk⟩ := hk
          obtain ⟨r, i1, i2⟩ := h.ok ki _ hg
          obtain ⟨seen, j1, j2, j3, j4, j5, j6⟩ := obOk_it i2
          obtain ⟨b, m1, m2⟩ := h.ok k _ hg2
          obtain ⟨rfl, q1, q2, q3, q4, q5⟩ := obOk_mq m2
          have : b = bm := by rw [j1] at m1; cases m1; rfl
          subst this
          have hxr : a.eval x = .pointer (some ⟨r, 0, none⟩) := by
            have hr := h.ev hx
            generalize a.eval x = y at hr
            cases hr with
            | o k b' hb => rw [i1] at hb; cases hb; rfl
          have hleft : ∀ e, e ∈ (leftOf es' seen).toList ↔ ∃ i ∈ rem, es'[i]? = some e := fun e => by
            constructor
            · intro he
              obtain ⟨e1, e2⟩ := mem_left he
              obtain ⟨i, hi, hie⟩ := List.getElem_of_mem e1
              have hi' : es'[i]? = some e := by rw [Array.getElem?_eq_getElem (by simpa using hi)]; simpa using hie
              exact ⟨i, (j4 i e hi').2 e2, hi'⟩
            · rintro ⟨i, hi, he⟩
              have := (j4 i e he).1 hi
              unfold leftOf
              obtain ⟨hi1, hi2⟩ := Array.getElem?_eq_some_iff.1 he
              simp only [Array.toList_filter, List.mem_filter]
              exact ⟨hi2 ▸ (by simp), by rw [this]; rfl⟩
          rcases run_next_at (P := P) w o.type r b clock' clock' seen es' clock' j2 q1 q5.2 (Nat.le_refl _) with ⟨hl0, hrun⟩ | ⟨e, he, w1, hw1, hrun⟩
          · have hrem : rem = [] := by
              cases rem with
              | nil => rfl
              | cons i r' =>
                have hi := j5 i (by simp)
                have := (hleft es'[i]).2 ⟨i, by simp, by simp [hi]⟩
                rw [List.eq_nil_of_length_eq_zero (by simpa using hl0 : (leftOf es' seen).toList.length = 0)] at this
                cases this
            rcases hk with ⟨_, hk⟩ | ⟨hne, _⟩
            · refine ⟨.tuple #[.bool false], w, m, .tu [.v (.bool false)], [], ?_, rel_tu.2 ⟨[.bool false], rfl, .v _, trivial⟩, h.less fun x hx => hx.1, hk⟩
              simp only [hxr, Sem.run_bind, hrun]
              rfl
            · exact absurd hrem hne
          · obtain ⟨i, hi, hie⟩ := (hleft e).1 he
            have hil : i < l.length := by have := j5 i hi; omega
            rcases hk with ⟨hrem, _⟩ | ⟨_, hk⟩
            · rw [hrem] at hi; cases hi
            · have hs1 : St cx Fr m Im w1 a σ := by rcases hw1 with rfl | rfl; exact h; exact h.drew
              have s2 := hs1.setObj (k := ki) (o := .mapIter (some b) clock' (seen.push e.born) clock') (d := .it k b es' clock' (rem.erase i) (some i)) i1 fun w' hb hki => by
                refine .it k b es' clock' _ _ (seen.push e.born) j1 hb (j3.erase i) (fun i' e' he' => ?_) (fun i' hi' => j5 i' (List.mem_of_mem_erase hi')) fun i' e' => ?_
                · rw [j3.mem_erase_iff, j4 i' e' he']
                  rw [Array.contains_push]
                  by_cases hii : i' = i
                  · subst hii
                    rw [hie] at he'; cases he'
                    simp
                  · have : e'.born ≠ e.born := fun hb => hii (born_inj q5 he' hie hb)
                    simp [hii, this]
                · cases e'; exact ⟨e, seen, hie, rfl⟩
              have hkey : e.key = .int .i64 l[i].1 := by
                have := q3 i hil
                rw [hie] at this
                simpa using this
              have hval : Rel m Im w e.val l[i].2 := q4 i hil e.val (by rw [hie]; rfl)
              have hki1 : KeepI Im w (ChangeMaps.setBlock w1 r (.mapIter (some b) clock' (seen.push e.born) clock')) := fun c y u hic hu => by
                have hu1 : w1.cell? ⟨c, y, none⟩ = some u := by rcases hw1 with rfl | rfl <;> exact hu
                refine (World.cell?_of_block (w := w1) (a := ⟨c, y, none⟩) ?_).trans hu1
                exact Array.getElem?_setIfInBounds_ne (by rintro rfl; exact h.mem.onim ki _ y i1 hic)
              refine ⟨.tuple #[.bool true, e.key, e.val], ChangeMaps.setBlock w1 r (.mapIter (some b) clock' (seen.push e.born) clock'), m, _, _, ?_, ?_, ?_, hk i hi hil⟩
              · simp only [hxr, Sem.run_bind, hrun]
                rfl
              · refine rel_tu.2 ⟨[.bool true, e.key, e.val], rfl, .v _, ?_, ?_, trivial⟩
                · rw [hkey]; exact .v _
                · exact hval.mono (Mp.le.refl m) hki1 fun _ _ h => h
              · exact s2.less fun x hx => hx.1
        · exact hk.elim
      · exact hk.elim
    · exact hk.elim
  · -- entry
    rename_i x ho
    simp only [ho]
    obtain ⟨d, hx, hk⟩ := kev_some hk
    split at hk
    · rename_i ki
      obtain ⟨d, hg, hk⟩ := kget_some hk
      split at hk
      · rename_i k bm es clock rem i
        obtain ⟨d, hg2, hk⟩ := kget_some hk
        split at hk
        · rename_i bm' es' clock' l
          obtain ⟨⟨rfl, rfl⟩, hil, hk⟩ := hk
          obtain ⟨r, i1, i2⟩ := h.ok ki _ hg
          obtain ⟨seen, j1, j2, j3, j4, j5, j6⟩ := obOk_it i2
          obtain ⟨b, m1, m2⟩ := h.ok k _ hg2
          obtain ⟨rfl, q1, q2, q3, q4, q5⟩ := obOk_mq m2
          have : b = bm := by rw [j1] at m1; cases m1; rfl
          subst this
          obtain ⟨e, s0, he, rfl⟩ := j6 i rfl
          have hxr : a.eval x = .pointer (some ⟨r, 0, none⟩) := by
            have hr := h.ev hx
            generalize a.eval x = y at hr
            cases hr with
            | o k b' hb => rw [i1] at hb; cases hb; rfl
          have hem : e ∈ es'.toList := by
            obtain ⟨hi1, hi2⟩ := Array.getElem?_eq_some_iff.1 he
            exact hi2 ▸ (by simp)
          have hrun := run_entry_at (P := P) w r b clock' s0 es' clock' e j2 q1 hem q5.1
          have hkey : e.key = .int .i64 l[i].1 := by
            have := q3 i hil
            rw [he] at this
            simpa using this
          have hval : Rel m Im w e.val l[i].2 := q4 i hil e.val (by rw [he]; rfl)
          refine ⟨.tuple #[e.key, e.val], w, m, _, _, ?_, ?_, h.less fun x hx => hx.1, hk⟩
          · simp only [hxr, Sem.run_bind, hrun]
            rfl
          · refine rel_tu.2 ⟨[e.key, e.val], rfl, ?_, hval, trivial⟩
            rw [hkey]; exact .v _
        · exact hk.elim
      · exact hk.elim
    · exact hk.elim
  · exact hk.elim
end

def DRq (P:Program)(T:List (Nat×TI))(ops:Array Oper)(nm:Nat)(ov:List (Nat×D)):List Oper→Nat→Env→(Env→Prop)→Prop
 | [],_,σ,K=>K σ
 | o :: r,i,σ,K=>
  match gd ops σ o.guard with
  | none=>False
  | some false=>kdst σ o.dst (.v undef) fun σ'=>DRq P T ops nm ov r (i + 1) σ' K
  | some true=>
   kval T σ o.op (fun V=>kov ov o.dst V fun V=>kdst σ o.dst V fun σ'=>DRq P T ops nm ov r (i + 1) σ' K)
    (knat (nm + i) fun k=>kmop T σ k o.op (fun V W _=>kov ov o.dst V fun V=>kputs σ W fun σ1=>kdst σ1 o.dst V fun σ'=>DRq P T ops nm ov r (i + 1) σ' K)
     (match Oper.op o with
     | .call _=>kcall σ o.op fun f ars=>∃ R W V,CallX P f ars R k W V∧kR σ R∧kov ov o.dst V fun V=>kdropT R σ fun σ0=>kputs σ0 W fun σ1=>kdst σ1 o.dst V fun σ'=>DRq P T ops nm ov r (i + 1) σ' K
     | _=>kitM T σ k o.op fun V W=>kov ov o.dst V fun V=>kputs σ W fun σ1=>kdst σ1 o.dst V fun σ'=>DRq P T ops nm ov r (i + 1) σ' K))
section
variable {P:Program} {T:List (Nat×TI)} {cx:Cx} {m:Mp} {Im:Nat→Nat→Prop} {w:World} {a:Act} {σ:List (Key×D)} {ops:Array Oper} {Q:Exit→Act→World→Prop}
theorem drq_run (hT:TabOk P T){nm:Nat}{ov:List (Nat×D)}(hdst:∀ o∈ops.toList,∀ d,o.dst=some d→d < cx.nt){K:Env→Prop}(hK:∀ m Im w a σ',K σ'→St cx (fun k=>nm + ops.size≤k) m Im w a σ'→Q .normal a w):
  ∀ (os:List Oper) (i:Nat) {m:Mp} {Im:Nat→Nat→Prop} {w:World} {a:Act} {σ:Env},i≤ops.size→ops.toList.drop i=os→DRq P T ops nm ov os i σ K→St cx (fun k=>nm + i≤k) m Im w a σ→wpOps P ops Q (List.range' i os.length) a w
 | [],i,m,Im,w,a,σ,hi,hd,h,hs=>by
  have:ops.size≤i:=by simpa using hd
  exact hK m Im w a σ h (hs.less fun k hk=>by omega)
 | o :: r,i,m,Im,w,a,σ,hi,hd,h,hs=>by
  have hlt:i < ops.size:=by
   rcases Nat.lt_or_ge i ops.size with h' | h'
   ·exact h'
   ·rw[List.drop_eq_nil_of_le (by simpa using h')] at hd;cases hd
  have hoi:ops[i]?=some o:=by
   have:=congrArg (·[0]?) hd
   simpa using this
  have hr:ops.toList.drop (i + 1)=r:=by
   have:=congrArg List.tail hd
   simpa using this
  have hdo:=hdst o (by rw[←Array.getElem?_toList] at hoi;exact List.mem_of_getElem? hoi)
  rw[List.length_cons,List.range'_succ,wpOps_cons]
  refine wpOp_step (o:=o) hoi fun K' hK'=>?_
  have go:∀ {m' Im' w' a' σ'},DRq P T ops nm ov r (i + 1) σ' K→St cx (minus (fun k=>nm + i≤k) (nm + i)) m' Im' w' a' σ'→K' a' w':=fun {m' Im' w' a' σ'} h1 h2=>
   hK' _ _ (drq_run hT hdst hK r (i + 1) (by omega) hr h1 (h2.less fun k hk=>⟨by omega,by omega⟩))
  rw[DRq] at h
  cases hg:gd ops σ o.guard with
  | none=>rw[hg] at h;exact h.elim
  | some b=>
   rw[hg] at h
   cases b with
   | false=>exact opT_skip (P:=P) (Q:=Q) hdo hg _ m Im w a σ (by show nm + i≤nm + i;omega) hs vals_get K' fun m' Im' w' a' h'=>go (kdst_some h) (by simpa[RStep.ap,dropT_nil] using h')
   | true=>
    simp only at h
    rcases kval_some h with⟨V,h1,h⟩ | h
    ·obtain⟨V',hle,h⟩:=kov_some h
     exact opT_pval (Q:=Q) hT hdo hg h1 hle _ m Im w a σ (by show nm + i≤nm + i;omega) hs vals_get K' fun m' Im' w' a' h'=>go (kdst_some h) (by simpa[RStep.ap,dropT_nil] using h')
    ·rcases kmop_some (knat_some h) with⟨V,W,R,h1,h⟩ | h
     ·obtain⟨V',hle,h⟩:=kov_some h
      exact opT_mop (Q:=Q) hT hdo hg h1 hle _ m Im w a σ (by show nm + i≤nm + i;omega) hs vals_get K' fun m' Im' w' a' h'=>go (kdst_some (kputs_some h)) (by simpa[RStep.ap,dropT_nil,puts_append] using h')
     ·split at h
      ·obtain⟨f,ars,h1,h⟩:=kcall_some h
       obtain⟨R,W,V,h2,h3,h⟩:=h
       obtain⟨V',hle,h⟩:=kov_some h
       exact opT_call (Q:=Q) hdo hg h1 h2 hle (kR_all h3) _ m Im w a σ (by show nm + i≤nm + i;omega) hs vals_get K' fun m' Im' w' a' h'=>go (kdst_some (kputs_some (kdropT_some h))) (by simpa[RStep.ap,puts_append] using h')
      ·obtain⟨v,w',m',V,W,r1,r2,r3,h⟩:=kitM_run hT hs (by show nm + i≤nm + i;omega) h
       obtain⟨V',hle,h⟩:=kov_some h
       rw[gd_run hs hg,if_pos rfl]
       unfold Oper.wp
       rw[r1]
       exact go (kdst_some (kputs_some h)) (r3.putO hdo (hle _ _ _ _ r2))
theorem dw_q {cx:Cx}{σ:List (Key×D)}{N nt N1:Nat}{Q:Exit→List (Key×D)→Nat→Prop}(ov:List (Nat×D))(hT:TabOk P T)(hm:P.follows .mixedOrders=true)(hnt:cx.nt=nt){id:Nat}{ops:Array Oper}(hd:dstOk nt ops=true)(hN:N + ops.size=N1)(h:∀ K:Env→Prop,(∀ σ',Q .normal σ' N1→K σ')→DRq P T ops N ov ops.toList 0 σ K):DW P cx (.region id ops false) σ N Q:=fun m Im w a hs=>by
 refine wp_region ?_
 rw[List.range_eq_range',show ops.size=ops.toList.length by simp]
 have hd':∀ o∈ops.toList,∀ d,o.dst=some d→d < cx.nt:=fun o ho d e=>by
  rw[←hnt] at hd
  have:=(Array.all_eq_true'.1 hd) o (by simpa using ho)
  rw[e] at this;simpa using this
 exact drq_run hT (nm:=N) hd' (K:=fun σ'=>Q .normal σ' N1) (fun m Im w a σ' hq hs'=>⟨σ',N1,m,Im,hq,hN ▸ hs'⟩) ops.toList 0 (Nat.zero_le _) rfl (h _ fun _ h=>h) (hs.less fun k hk=>(show N≤k from by simpa using hk))
end
end Go.Proofs.YtflbnonbfmmchaaGreat
