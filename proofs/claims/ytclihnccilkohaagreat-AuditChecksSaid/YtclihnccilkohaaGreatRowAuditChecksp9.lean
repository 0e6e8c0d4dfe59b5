/-
  Parts of the proof.
-/
import Derived.Test.YtclihnccilkohaaGreatRowAuditChecksp8
import Derived.Test.YtclihnccilkohaaGreatRowAuditChecksp6
import Derived.Test.YtclihnccilkohaaGreatRowAuditChecksp7
import Derived.Test.YtclihnccilkohaaGreatRowAuditChecksp1
import Derived.Test.YtclihnccilkohaaGreatRowAuditChecksp5
set_option maxRecDepth 100000
set_option maxHeartbeats 1000000
set_option linter.unusedVariables false
set_option linter.unusedSimpArgs false
namespace Go.Proofs.YtclihnccilkohaaGreat
open Go.RowKit
def TRF:List (Nat×TI):=[(24,TS9_24),(62,TG_62),(43,TRT6_43),(33,TPR_33),(31,TTM_31),(64,TPR_64),(22,TTY_22),(104,TTY_104),(41,TG_41),(106,TG_106),(3,TG_3),(50,TN1_50)]
theorem Zj:Zd Tryz.prog TRF:=(((((((((((((Zd.nil _).cons Y0).cons ZW).cons Yx).cons Ym).cons Yy).cons Yo).cons Yk).cons Yl).cons XX).cons Yb).cons Yu).cons Xy)
namespace Ru
structure Good (b:Int) (C:List Ty) (p:Li.Pr):Prop where
 w:XT b C p.m
 l:Li.rt p.l=true
 r:Li.rt p.r=true
 u:∃ u,Q6 C p.m p.l=some u/\u.args=[]/\Wz C p.m p.l [] u/\Wz C p.m p.r [] u
end Ru
theorem Vg (b:Int)(C M:List Ty)(u:Ty)(t:Tm)(c:Int)(hC:C.length<=1000000)(hM:M.length<=1000000)(hc:Yp C M t [] u c)(hz:t.full<=90000)(hf:t.Fit):
  ZB Tryz.prog 82 [.ag (eTm t),.p 10 0,.p 34 0] [(.c 10 0,.v (.int .i64 b)),(.c 10 1,.sl 2 (eTys C) none),(.c 10 2,.sl 2 (eTys M) none),(.c 34 0,.sl 2 (eTys u.args) none),(.c 34 1,.v (.int .i64 u.base))] [(.c 10 0,.v (.int .i64 b)),(.c 10 1,.sl 2 (eTys C) none),(.c 10 2,.sl 2 (eTys M) none),(.c 34 0,.sl 2 (eTys u.args) none),(.c 34 1,.v (.int .i64 u.base))] (.v (.bool (decide (c=0)))):=by
 have h:=M8 b C M t u c hC hM hc (by omega) hf
 rw[Zu,Zc] at h
 rw[Zu]
 refine Zn 35 10 [ResultVar.tmp 4] Zj Tryz.func82 rfl Tryz.ntmps82 rfl λ cx hnt hn0=>?_
 skip
 refine Zz ?_;refine Zx [] Zj hnt λ _ z9=>z9 _ _ ?_;refine Zz ?_;refine Zx [(9,.v (.bool (decide (c=0))))] Zj hnt λ K hK=>?_;refine Zk (h) ?_;refine And.intro (Zm.of_eq (by by_cases h:c=0 <;> simp[h])) ?_;refine hK _ _ ?_;clear hK K;refine Zv ?_
 exact Zi rfl
theorem Sl (b:Int)(C Mw:List Ty)(p:Li.Pr):Zh Tryz.prog 84 [.ag [.v (.int .i64 b),.sl 2 (eTys C) none,.sl 2 (eTys Mw) none],.ag (WG p)] (.ag [.v (.int .i64 b),.sl 2 (eTys C) none,.sl 2 (eTys p.m) none]):=by
 rw[Ys]
 refine Zn 0 12 [ResultVar.cell 4 24] Zj Tryz.func84 rfl Tryz.ntmps84 rfl λ cx hnt hn0=>?_
 skip
 refine Zz ?_;refine Zx [] Zj hnt λ _ z9=>z9 _ _ ?_;refine Zz ?_;refine Zx [] Zj hnt λ _ z9=>z9 _ _ ?_;refine Zv ?_
 exact Zi rfl
theorem Tj {C M:List Ty}{t:Tm}{u:Ty}(h1:Li.rt t=true)(h2:Wz C M t [] u):Yp C M t [] u 0:=by
 unfold Li.rt at h1;rw[decide_eq_true_eq] at h1
 exact .inr (.inr ⟨h1,h2,rfl⟩)
theorem Nc {C M:List Ty}{t:Tm}{u:Ty}(h1:Li.rt t=true)(h2:¬ Wz C M t [] u):Yp C M t [] u 5:=by
 unfold Li.rt at h1;rw[decide_eq_true_eq] at h1
 exact .inr (.inl ⟨h1,h2,rfl⟩)
set_option maxHeartbeats 2000000 in
theorem Is (b:Int)(C Mw:List Ty)(p:Li.Pr)(hC:C.length<=900000)(hM:p.m.length<=900000)(hg:Ru.Good b C p)(hl:p.l.full<=20000/\p.l.Fit)(hr:p.r.full<=20000/\p.r.Fit)(hs:∀ t∈C++p.m,t.size<=400000):
  Zh Tryz.prog 46 [.ag [.v (.int .i64 b),.sl 2 (eTys C) none,.sl 2 (eTys Mw) none],.ag (WG p)] (.v (.int .i64 0)):=by
 obtain⟨hw,hL,hR,u,ho,hu,hi1,hi2⟩:=hg
 have hW1:=Q7 b C p.m true (by simp[hw]) hs
 have r1:=WK p.l (by omega)
 have r2:=WK p.r (by omega)
 rw[show decide (p.l.size<=5000/\p.l.depth<=60)=Li.rt p.l from rfl,hL] at r1
 rw[show decide (p.r.size<=5000/\p.r.depth<=60)=Li.rt p.r from rfl,hR] at r2
 have t1:=OP b C p.m p.l (by have:=hl.2;generalize p.l=t at this;cases t;exact(Tm.fit_iff.1 this).2.1) (by omega) (by omega) (by omega)
 rw[ho] at t1
 simp only[Option.getD_some,Option.isSome_some,if_true] at t1
 have hu0:u.args.length=0:=by rw[hu];rfl
 have k1:=Vg b C p.m u p.l 0 (by omega) (by omega) (Tj hL hi1) (by omega) hl.2
 have k2:=Vg b C p.m u p.r 0 (by omega) (by omega) (Tj hR hi2) (by omega) hr.2
 rw[decide_eq_true rfl] at k1 k2
 rw[Ys]
 rw[Zu] at r1 r2 t1 k1 k2
 rw[Zc] at t1
 refine Zn 0 59 [ResultVar.tmp 4] Zj Tryz.func46 rfl Tryz.ntmps46 rfl λ cx hnt hn0=>?_
 skip
 refine Zz ?_;refine Zx [] Zj hnt λ _ z9=>z9 _ _ ?_;refine Zz ?_;refine Zx [] Zj hnt λ _ z9=>z9 _ _ ?_;refine Zz ?_;refine Zt ?_;refine Zz ?_;refine Zx [] Zj hnt λ K hK=>?_;refine Zk (hW1) ?_;refine hK _ _ ?_;clear hK K;refine Zy (t:=false) rfl ?_;rw[if_neg (by simp)];refine Zz ?_
 refine Zx [] Zj hnt λ K hK=>?_;refine Zk (r1) ?_;refine Zk (r2) ?_;refine hK _ _ ?_;clear hK K;refine Zy (t:=false) rfl ?_;rw[if_neg (by simp)];refine Zw ?_;refine Zz ?_;refine Zx [] Zj hnt λ K hK=>?_;refine Zk (t1) ?_;refine hK _ _ ?_;clear hK K;refine Zz ?_;refine Zz ?_;refine Zx [(39,.v (.bool false)),(43,.v (.int .i64 (↑u.args.length))),(44,.v (.bool false))] Zj hnt λ K hK=>?_
 refine And.intro (Yq rfl) ?_;refine And.intro (Zr (by rw[Zs])) ?_;refine And.intro X5 ?_;refine hK _ _ ?_;clear hK K;refine Zy (t:=false) rfl ?_;rw[if_neg (by simp)];refine Zw ?_;refine Zz ?_;refine Zx [] Zj hnt λ _ z9=>z9 _ _ ?_;refine Zz ?_;refine Zz ?_;refine Zx [] Zj hnt λ K hK=>?_;refine Zk (k1) ?_;refine Zk (k2) ?_
 refine hK _ _ ?_;clear hK K;refine Zy (t:=false) rfl ?_;rw[if_neg (by simp)];refine Zw ?_;refine Zz ?_;refine Zx [] Zj hnt λ _ z9=>z9 _ _ ?_;refine Zv ?_
 exact Zi rfl
set_option maxHeartbeats 4000000 in
theorem Ub (b:Int)(C Mw:List Ty)(p:Li.Pr)(hl:p.l.full<=20000/\p.l.Fit)(hr:p.r.full<=20000/\p.r.Fit)(hC:C.length<=900000)(hM:p.m.length<=900000)(hs:∀ t∈C++p.m,t.size<=400000):
  ∃ c:Int,(c=0↔Ru.Good b C p)/\Zh Tryz.prog 46 [.ag [.v (.int .i64 b),.sl 2 (eTys C) none,.sl 2 (eTys Mw) none],.ag (WG p)] (.v (.int .i64 c))/\Zh Tryz.prog 48 [.ag [.v (.int .i64 b),.sl 2 (eTys C) none,.sl 2 (eTys Mw) none],.ag (WG p)] (.v (.int .i64 c)):=by
 obtain⟨w,hw⟩:∃ w:Bool,w=true↔XT b C p.m:=by
  by_cases h:XT b C p.m
  ·exact⟨true,by simp[h]⟩
  exact⟨false,by simp[h]⟩
 have hW1:=Q7 b C p.m w hw hs
 have hW2:=NX b C p.m w hw
 have hWd:=Sl b C Mw p
 have r1:=WK p.l (by omega)
 have r2:=WK p.r (by omega)
 rw[show decide (p.l.size<=5000/\p.l.depth<=60)=Li.rt p.l from rfl] at r1
 rw[show decide (p.r.size<=5000/\p.r.depth<=60)=Li.rt p.r from rfl] at r2
 have q1:=Ve p.l (by have:=Tm.size_le_full p.l;omega)
 have q2:=Ve p.r (by have:=Tm.size_le_full p.r;omega)
 have t1:=OP b C p.m p.l (by have:=hl.2;generalize p.l=t at this;cases t;exact(Tm.fit_iff.1 this).2.1) (by omega) (by omega) (by omega)
 have t2:=KN b C p.m p.l (by omega) (by omega) (by omega)
 rw[Ys] at hWd ⊢
 rw[Zu] at r1 r2 q1 q2 t1 t2
 cases w with
 | false=>
  refine⟨1,⟨λ h=>absurd h (by decide),λ h=>absurd (hw.2 h.w) (by simp)⟩,?_,?_⟩
  ·skip
   refine Zn 0 59 [ResultVar.tmp 4] Zj Tryz.func46 rfl Tryz.ntmps46 rfl λ cx hnt hn0=>?_
   skip
   refine Zz ?_;refine Zx [] Zj hnt λ _ z9=>z9 _ _ ?_;refine Zz ?_;refine Zx [] Zj hnt λ _ z9=>z9 _ _ ?_;refine Zz ?_;refine Zt ?_;refine Zz ?_;refine Zx [] Zj hnt λ K hK=>?_;refine Zk (hW1) ?_;refine hK _ _ ?_;clear hK K;refine Zy (t:=true) rfl ?_;rw[if_pos rfl];refine Zz ?_;refine Zx [] Zj hnt λ K hK=>?_
   refine hK _ _ ?_;clear hK K;refine Zv ?_
   exact Zi rfl
  skip
  refine Zn 0 55 [ResultVar.tmp 4] Zj Tryz.func48 rfl Tryz.ntmps48 rfl λ cx hnt hn0=>?_
  skip
  refine Zz ?_;refine Zx [] Zj hnt λ _ z9=>z9 _ _ ?_;refine Zz ?_;refine Zx [] Zj hnt λ K hK=>?_;refine Zk (hWd) ?_;refine hK _ _ ?_;clear hK K;refine Zz ?_;refine Zz ?_;refine Zx [] Zj hnt λ K hK=>?_;refine Zk (hW2) ?_;refine hK _ _ ?_;clear hK K;refine Zy (t:=true) rfl ?_;rw[if_pos rfl];refine Zz ?_;refine Zx [] Zj hnt λ K hK=>?_
  refine hK _ _ ?_;clear hK K;refine Zv ?_
  exact Zi rfl
 | true=>
 cases hL:Li.rt p.l with
 | false=>
  rw[hL] at r1 q1
  refine⟨2,⟨λ h=>absurd h (by decide),λ h=>absurd h.l (by rw[hL];simp)⟩,?_,?_⟩
  ·skip
   refine Zn 0 59 [ResultVar.tmp 4] Zj Tryz.func46 rfl Tryz.ntmps46 rfl λ cx hnt hn0=>?_
   skip
   refine Zz ?_;refine Zx [] Zj hnt λ _ z9=>z9 _ _ ?_;refine Zz ?_;refine Zx [] Zj hnt λ _ z9=>z9 _ _ ?_;refine Zz ?_;refine Zt ?_;refine Zz ?_;refine Zx [] Zj hnt λ K hK=>?_;refine Zk (hW1) ?_;refine hK _ _ ?_;clear hK K;refine Zy (t:=false) rfl ?_;rw[if_neg (by simp)];refine Zz ?_
   refine Zx [] Zj hnt λ K hK=>?_;refine Zk (r1) ?_;refine hK _ _ ?_;clear hK K;refine Zy (t:=true) rfl ?_;rw[if_pos rfl];refine Zz ?_;refine Zx [] Zj hnt λ _ z9=>z9 _ _ ?_;refine Zv ?_
   exact Zi rfl
  skip
  refine Zn 0 55 [ResultVar.tmp 4] Zj Tryz.func48 rfl Tryz.ntmps48 rfl λ cx hnt hn0=>?_
  skip
  refine Zz ?_;refine Zx [] Zj hnt λ _ z9=>z9 _ _ ?_;refine Zz ?_;refine Zx [] Zj hnt λ K hK=>?_;refine Zk (hWd) ?_;refine hK _ _ ?_;clear hK K;refine Zz ?_;refine Zz ?_;refine Zx [] Zj hnt λ K hK=>?_;refine Zk (hW2) ?_;refine hK _ _ ?_;clear hK K;refine Zy (t:=false) rfl ?_;rw[if_neg (by simp)];refine Zw ?_
  refine Zz ?_;refine Zz ?_;refine Zx [] Zj hnt λ K hK=>?_;refine Zk (q1) ?_;refine hK _ _ ?_;clear hK K;refine Zy (t:=true) rfl ?_;rw[if_pos rfl];refine Zz ?_;refine Zx [] Zj hnt λ _ z9=>z9 _ _ ?_;refine Zv ?_
  exact Zi rfl
 | true=>
 rw[hL] at r1 q1
 cases hR:Li.rt p.r with
 | false=>
  rw[hR] at r2 q2
  refine⟨2,⟨λ h=>absurd h (by decide),λ h=>absurd h.r (by rw[hR];simp)⟩,?_,?_⟩
  ·skip
   refine Zn 0 59 [ResultVar.tmp 4] Zj Tryz.func46 rfl Tryz.ntmps46 rfl λ cx hnt hn0=>?_
   skip
   refine Zz ?_;refine Zx [] Zj hnt λ _ z9=>z9 _ _ ?_;refine Zz ?_;refine Zx [] Zj hnt λ _ z9=>z9 _ _ ?_;refine Zz ?_;refine Zt ?_;refine Zz ?_;refine Zx [] Zj hnt λ K hK=>?_;refine Zk (hW1) ?_;refine hK _ _ ?_;clear hK K;refine Zy (t:=false) rfl ?_;rw[if_neg (by simp)];refine Zz ?_
   refine Zx [] Zj hnt λ K hK=>?_;refine Zk (r1) ?_;refine Zk (r2) ?_;refine hK _ _ ?_;clear hK K;refine Zy (t:=true) rfl ?_;rw[if_pos rfl];refine Zz ?_;refine Zx [] Zj hnt λ _ z9=>z9 _ _ ?_;refine Zv ?_
   exact Zi rfl
  skip
  refine Zn 0 55 [ResultVar.tmp 4] Zj Tryz.func48 rfl Tryz.ntmps48 rfl λ cx hnt hn0=>?_
  skip
  refine Zz ?_;refine Zx [] Zj hnt λ _ z9=>z9 _ _ ?_;refine Zz ?_;refine Zx [] Zj hnt λ K hK=>?_;refine Zk (hWd) ?_;refine hK _ _ ?_;clear hK K;refine Zz ?_;refine Zz ?_;refine Zx [] Zj hnt λ K hK=>?_;refine Zk (hW2) ?_;refine hK _ _ ?_;clear hK K;refine Zy (t:=false) rfl ?_;rw[if_neg (by simp)];refine Zw ?_
  refine Zz ?_;refine Zz ?_;refine Zx [] Zj hnt λ K hK=>?_;refine Zk (q1) ?_;refine Zk (q2) ?_;refine hK _ _ ?_;clear hK K;refine Zy (t:=true) rfl ?_;rw[if_pos rfl];refine Zz ?_;refine Zx [] Zj hnt λ _ z9=>z9 _ _ ?_;refine Zv ?_
  exact Zi rfl
 | true=>
 rw[hR] at r2 q2
 obtain⟨o,ho⟩:∃ o,Q6 C p.m p.l=o:=⟨_,rfl⟩
 rw[ho] at t1 t2
 cases o with
 | none=>
  simp only[Option.getD_none,Option.isSome_none,Bool.false_eq_true,if_false] at t1 t2
  rw[XO] at t1 t2
  refine⟨5,⟨λ h=>absurd h (by decide),λ h=>(by obtain⟨u,h,_⟩:=h.u;rw[ho] at h;cases h)⟩,?_,?_⟩
  ·skip
   refine Zn 0 59 [ResultVar.tmp 4] Zj Tryz.func46 rfl Tryz.ntmps46 rfl λ cx hnt hn0=>?_
   skip
   refine Zz ?_;refine Zx [] Zj hnt λ _ z9=>z9 _ _ ?_;refine Zz ?_;refine Zx [] Zj hnt λ _ z9=>z9 _ _ ?_;refine Zz ?_;refine Zt ?_;refine Zz ?_;refine Zx [] Zj hnt λ K hK=>?_;refine Zk (hW1) ?_;refine hK _ _ ?_;clear hK K;refine Zy (t:=false) rfl ?_;rw[if_neg (by simp)];refine Zz ?_
   refine Zx [] Zj hnt λ K hK=>?_;refine Zk (r1) ?_;refine Zk (r2) ?_;refine hK _ _ ?_;clear hK K;refine Zy (t:=false) rfl ?_;rw[if_neg (by simp)];refine Zw ?_;refine Zz ?_;refine Zx [] Zj hnt λ K hK=>?_;refine Zk (t1) ?_;refine hK _ _ ?_;clear hK K;refine Zz ?_;refine Zz ?_;refine Zx [(39,.v (.bool true))] Zj hnt λ K hK=>?_;refine And.intro (YO (by decide)) ?_
   refine hK _ _ ?_;clear hK K;refine Zy (t:=true) rfl ?_;rw[if_pos rfl];refine Zz ?_;refine Zx [] Zj hnt λ _ z9=>z9 _ _ ?_;refine Zv ?_
   exact Zi rfl
  skip
  refine Zn 0 55 [ResultVar.tmp 4] Zj Tryz.func48 rfl Tryz.ntmps48 rfl λ cx hnt hn0=>?_
  skip
  refine Zz ?_;refine Zx [] Zj hnt λ _ z9=>z9 _ _ ?_;refine Zz ?_;refine Zx [] Zj hnt λ K hK=>?_;refine Zk (hWd) ?_;refine hK _ _ ?_;clear hK K;refine Zz ?_;refine Zz ?_;refine Zx [] Zj hnt λ K hK=>?_;refine Zk (hW2) ?_;refine hK _ _ ?_;clear hK K;refine Zy (t:=false) rfl ?_;rw[if_neg (by simp)];refine Zw ?_
  refine Zz ?_;refine Zz ?_;refine Zx [] Zj hnt λ K hK=>?_;refine Zk (q1) ?_;refine Zk (q2) ?_;refine hK _ _ ?_;clear hK K;refine Zy (t:=false) rfl ?_;rw[if_neg (by simp)];refine Zw ?_;refine Zz ?_;refine Zx [] Zj hnt λ K hK=>?_;refine Zk (t2) ?_;refine hK _ _ ?_;clear hK K;refine Zz ?_;refine Zz ?_;refine Zx [] Zj hnt λ K hK=>?_
  refine hK _ _ ?_;clear hK K;refine Zy (t:=true) rfl ?_;rw[if_pos rfl];refine Zz ?_;refine Zx [] Zj hnt λ _ z9=>z9 _ _ ?_;refine Zv ?_
  exact Zi rfl
 | some u=>
 simp only[Option.getD_some,Option.isSome_some,if_true] at t1 t2
 rw[Zc] at t1 t2
 by_cases hu:u.args=[]
 ·have hu0:u.args.length=0:=by rw[hu];rfl
  have i1:∀ c,(c=true↔Wz C p.m p.l [] u)->_:=λ c hc=>JP b C p.m p.l u c (by omega) (by omega) hc (by omega)
  have i2:∀ c,(c=true↔Wz C p.m p.r [] u)->_:=λ c hc=>JP b C p.m p.r u c (by omega) (by omega) hc (by omega)
  by_cases hi1:Wz C p.m p.l [] u
  ·have i1:=i1 true (by simp[hi1])
   have k1:=Vg b C p.m u p.l 0 (by omega) (by omega) (Tj hL hi1) (by omega) hl.2
   rw[decide_eq_true rfl] at k1
   rw[Zu,Zc] at i1
   rw[Zu] at k1
   by_cases hi2:Wz C p.m p.r [] u
   ·have i2:=i2 true (by simp[hi2])
    have k2:=Vg b C p.m u p.r 0 (by omega) (by omega) (Tj hR hi2) (by omega) hr.2
    rw[decide_eq_true rfl] at k2
    rw[Zu,Zc] at i2
    rw[Zu] at k2
    refine⟨0,⟨λ _=>⟨hw.1 rfl,hL,hR,u,ho,hu,hi1,hi2⟩,λ _=>rfl⟩,?_,?_⟩
    ·skip
     refine Zn 0 59 [ResultVar.tmp 4] Zj Tryz.func46 rfl Tryz.ntmps46 rfl λ cx hnt hn0=>?_
     skip
     refine Zz ?_;refine Zx [] Zj hnt λ _ z9=>z9 _ _ ?_;refine Zz ?_;refine Zx [] Zj hnt λ _ z9=>z9 _ _ ?_;refine Zz ?_;refine Zt ?_;refine Zz ?_;refine Zx [] Zj hnt λ K hK=>?_;refine Zk (hW1) ?_;refine hK _ _ ?_;clear hK K;refine Zy (t:=false) rfl ?_;rw[if_neg (by simp)];refine Zz ?_
     refine Zx [] Zj hnt λ K hK=>?_;refine Zk (r1) ?_;refine Zk (r2) ?_;refine hK _ _ ?_;clear hK K;refine Zy (t:=false) rfl ?_;rw[if_neg (by simp)];refine Zw ?_;refine Zz ?_;refine Zx [] Zj hnt λ K hK=>?_;refine Zk (t1) ?_;refine hK _ _ ?_;clear hK K;refine Zz ?_;refine Zz ?_;refine Zx [(39,.v (.bool false)),(43,.v (.int .i64 (↑u.args.length))),(44,.v (.bool false))] Zj hnt λ K hK=>?_
     refine And.intro (Yq rfl) ?_;refine And.intro (Zr (by rw[Zs])) ?_;refine And.intro X5 ?_;refine hK _ _ ?_;clear hK K;refine Zy (t:=false) rfl ?_;rw[if_neg (by simp)];refine Zw ?_;refine Zz ?_;refine Zx [] Zj hnt λ _ z9=>z9 _ _ ?_;refine Zz ?_;refine Zz ?_;refine Zx [] Zj hnt λ K hK=>?_;refine Zk (k1) ?_;refine Zk (k2) ?_
     refine hK _ _ ?_;clear hK K;refine Zy (t:=false) rfl ?_;rw[if_neg (by simp)];refine Zw ?_;refine Zz ?_;refine Zx [] Zj hnt λ _ z9=>z9 _ _ ?_;refine Zv ?_
     exact Zi rfl
    skip
    refine Zn 0 55 [ResultVar.tmp 4] Zj Tryz.func48 rfl Tryz.ntmps48 rfl λ cx hnt hn0=>?_
    skip
    refine Zz ?_;refine Zx [] Zj hnt λ _ z9=>z9 _ _ ?_;refine Zz ?_;refine Zx [] Zj hnt λ K hK=>?_;refine Zk (hWd) ?_;refine hK _ _ ?_;clear hK K;refine Zz ?_;refine Zz ?_;refine Zx [] Zj hnt λ K hK=>?_;refine Zk (hW2) ?_;refine hK _ _ ?_;clear hK K;refine Zy (t:=false) rfl ?_;rw[if_neg (by simp)];refine Zw ?_
    refine Zz ?_;refine Zz ?_;refine Zx [] Zj hnt λ K hK=>?_;refine Zk (q1) ?_;refine Zk (q2) ?_;refine hK _ _ ?_;clear hK K;refine Zy (t:=false) rfl ?_;rw[if_neg (by simp)];refine Zw ?_;refine Zz ?_;refine Zx [] Zj hnt λ K hK=>?_;refine Zk (t2) ?_;refine hK _ _ ?_;clear hK K;refine Zz ?_;refine Zz ?_;refine Zx [(36,.v (.int .i64 (↑u.args.length))),(37,.v (.bool false))] Zj hnt λ K hK=>?_
    refine And.intro (Zr (by rw[Zs])) ?_;refine And.intro X5 ?_;refine Zk (i1) ?_;refine Zk (i2) ?_;refine hK _ _ ?_;clear hK K;refine Zy (t:=false) rfl ?_;rw[if_neg (by simp)];refine Zw ?_;refine Zz ?_;refine Zx [] Zj hnt λ _ z9=>z9 _ _ ?_;refine Zv ?_
    exact Zi rfl
   have i2:=i2 false (by simp[hi2])
   have k2:=Vg b C p.m u p.r 5 (by omega) (by omega) (Nc hR hi2) (by omega) hr.2
   rw[decide_eq_false (by decide)] at k2
   rw[Zu,Zc] at i2
   rw[Zu] at k2
   refine⟨5,⟨λ h=>absurd h (by decide),λ h=>(by obtain⟨u',h,_,_,h4⟩:=h.u;rw[ho] at h;cases h;exact absurd h4 hi2)⟩,?_,?_⟩
   ·skip
    refine Zn 0 59 [ResultVar.tmp 4] Zj Tryz.func46 rfl Tryz.ntmps46 rfl λ cx hnt hn0=>?_
    skip
    refine Zz ?_;refine Zx [] Zj hnt λ _ z9=>z9 _ _ ?_;refine Zz ?_;refine Zx [] Zj hnt λ _ z9=>z9 _ _ ?_;refine Zz ?_;refine Zt ?_;refine Zz ?_;refine Zx [] Zj hnt λ K hK=>?_;refine Zk (hW1) ?_;refine hK _ _ ?_;clear hK K;refine Zy (t:=false) rfl ?_;rw[if_neg (by simp)];refine Zz ?_
    refine Zx [] Zj hnt λ K hK=>?_;refine Zk (r1) ?_;refine Zk (r2) ?_;refine hK _ _ ?_;clear hK K;refine Zy (t:=false) rfl ?_;rw[if_neg (by simp)];refine Zw ?_;refine Zz ?_;refine Zx [] Zj hnt λ K hK=>?_;refine Zk (t1) ?_;refine hK _ _ ?_;clear hK K;refine Zz ?_;refine Zz ?_;refine Zx [(39,.v (.bool false)),(43,.v (.int .i64 (↑u.args.length))),(44,.v (.bool false))] Zj hnt λ K hK=>?_
    refine And.intro (Yq rfl) ?_;refine And.intro (Zr (by rw[Zs])) ?_;refine And.intro X5 ?_;refine hK _ _ ?_;clear hK K;refine Zy (t:=false) rfl ?_;rw[if_neg (by simp)];refine Zw ?_;refine Zz ?_;refine Zx [] Zj hnt λ _ z9=>z9 _ _ ?_;refine Zz ?_;refine Zz ?_;refine Zx [] Zj hnt λ K hK=>?_;refine Zk (k1) ?_;refine Zk (k2) ?_
    refine hK _ _ ?_;clear hK K;refine Zy (t:=true) rfl ?_;rw[if_pos rfl];refine Zz ?_;refine Zx [] Zj hnt λ _ z9=>z9 _ _ ?_;refine Zv ?_
    exact Zi rfl
   skip
   refine Zn 0 55 [ResultVar.tmp 4] Zj Tryz.func48 rfl Tryz.ntmps48 rfl λ cx hnt hn0=>?_
   skip
   refine Zz ?_;refine Zx [] Zj hnt λ _ z9=>z9 _ _ ?_;refine Zz ?_;refine Zx [] Zj hnt λ K hK=>?_;refine Zk (hWd) ?_;refine hK _ _ ?_;clear hK K;refine Zz ?_;refine Zz ?_;refine Zx [] Zj hnt λ K hK=>?_;refine Zk (hW2) ?_;refine hK _ _ ?_;clear hK K;refine Zy (t:=false) rfl ?_;rw[if_neg (by simp)];refine Zw ?_
   refine Zz ?_;refine Zz ?_;refine Zx [] Zj hnt λ K hK=>?_;refine Zk (q1) ?_;refine Zk (q2) ?_;refine hK _ _ ?_;clear hK K;refine Zy (t:=false) rfl ?_;rw[if_neg (by simp)];refine Zw ?_;refine Zz ?_;refine Zx [] Zj hnt λ K hK=>?_;refine Zk (t2) ?_;refine hK _ _ ?_;clear hK K;refine Zz ?_;refine Zz ?_;refine Zx [(36,.v (.int .i64 (↑u.args.length))),(37,.v (.bool false))] Zj hnt λ K hK=>?_
   refine And.intro (Zr (by rw[Zs])) ?_;refine And.intro X5 ?_;refine Zk (i1) ?_;refine Zk (i2) ?_;refine hK _ _ ?_;clear hK K;refine Zy (t:=true) rfl ?_;rw[if_pos rfl];refine Zz ?_;refine Zx [] Zj hnt λ _ z9=>z9 _ _ ?_;refine Zv ?_
   exact Zi rfl
  have i1:=i1 false (by simp[hi1])
  have k1:=Vg b C p.m u p.l 5 (by omega) (by omega) (Nc hL hi1) (by omega) hl.2
  rw[decide_eq_false (by decide)] at k1
  rw[Zu,Zc] at i1
  rw[Zu] at k1
  refine⟨5,⟨λ h=>absurd h (by decide),λ h=>(by obtain⟨u',h,_,h3,_⟩:=h.u;rw[ho] at h;cases h;exact absurd h3 hi1)⟩,?_,?_⟩
  ·skip
   refine Zn 0 59 [ResultVar.tmp 4] Zj Tryz.func46 rfl Tryz.ntmps46 rfl λ cx hnt hn0=>?_
   skip
   refine Zz ?_;refine Zx [] Zj hnt λ _ z9=>z9 _ _ ?_;refine Zz ?_;refine Zx [] Zj hnt λ _ z9=>z9 _ _ ?_;refine Zz ?_;refine Zt ?_;refine Zz ?_;refine Zx [] Zj hnt λ K hK=>?_;refine Zk (hW1) ?_;refine hK _ _ ?_;clear hK K;refine Zy (t:=false) rfl ?_;rw[if_neg (by simp)];refine Zz ?_
   refine Zx [] Zj hnt λ K hK=>?_;refine Zk (r1) ?_;refine Zk (r2) ?_;refine hK _ _ ?_;clear hK K;refine Zy (t:=false) rfl ?_;rw[if_neg (by simp)];refine Zw ?_;refine Zz ?_;refine Zx [] Zj hnt λ K hK=>?_;refine Zk (t1) ?_;refine hK _ _ ?_;clear hK K;refine Zz ?_;refine Zz ?_;refine Zx [(39,.v (.bool false)),(43,.v (.int .i64 (↑u.args.length))),(44,.v (.bool false))] Zj hnt λ K hK=>?_
   refine And.intro (Yq rfl) ?_;refine And.intro (Zr (by rw[Zs])) ?_;refine And.intro X5 ?_;refine hK _ _ ?_;clear hK K;refine Zy (t:=false) rfl ?_;rw[if_neg (by simp)];refine Zw ?_;refine Zz ?_;refine Zx [] Zj hnt λ _ z9=>z9 _ _ ?_;refine Zz ?_;refine Zz ?_;refine Zx [] Zj hnt λ K hK=>?_;refine Zk (k1) ?_;refine hK _ _ ?_;clear hK K
   refine Zy (t:=true) rfl ?_;rw[if_pos rfl];refine Zz ?_;refine Zx [] Zj hnt λ _ z9=>z9 _ _ ?_;refine Zv ?_
   exact Zi rfl
  skip
  refine Zn 0 55 [ResultVar.tmp 4] Zj Tryz.func48 rfl Tryz.ntmps48 rfl λ cx hnt hn0=>?_
  skip
  refine Zz ?_;refine Zx [] Zj hnt λ _ z9=>z9 _ _ ?_;refine Zz ?_;refine Zx [] Zj hnt λ K hK=>?_;refine Zk (hWd) ?_;refine hK _ _ ?_;clear hK K;refine Zz ?_;refine Zz ?_;refine Zx [] Zj hnt λ K hK=>?_;refine Zk (hW2) ?_;refine hK _ _ ?_;clear hK K;refine Zy (t:=false) rfl ?_;rw[if_neg (by simp)];refine Zw ?_
  refine Zz ?_;refine Zz ?_;refine Zx [] Zj hnt λ K hK=>?_;refine Zk (q1) ?_;refine Zk (q2) ?_;refine hK _ _ ?_;clear hK K;refine Zy (t:=false) rfl ?_;rw[if_neg (by simp)];refine Zw ?_;refine Zz ?_;refine Zx [] Zj hnt λ K hK=>?_;refine Zk (t2) ?_;refine hK _ _ ?_;clear hK K;refine Zz ?_;refine Zz ?_;refine Zx [(36,.v (.int .i64 (↑u.args.length))),(37,.v (.bool false))] Zj hnt λ K hK=>?_
  refine And.intro (Zr (by rw[Zs])) ?_;refine And.intro X5 ?_;refine Zk (i1) ?_;refine hK _ _ ?_;clear hK K;refine Zy (t:=true) rfl ?_;rw[if_pos rfl];refine Zz ?_;refine Zx [] Zj hnt λ _ z9=>z9 _ _ ?_;refine Zv ?_
  exact Zi rfl
 have hu0:0<u.args.length:=List.length_pos_iff.2 hu
 refine⟨5,⟨λ h=>absurd h (by decide),λ h=>(by obtain⟨u',h,h2,_⟩:=h.u;rw[ho] at h;cases h;exact absurd h2 hu)⟩,?_,?_⟩
 ·skip
  refine Zn 0 59 [ResultVar.tmp 4] Zj Tryz.func46 rfl Tryz.ntmps46 rfl λ cx hnt hn0=>?_
  skip
  refine Zz ?_;refine Zx [] Zj hnt λ _ z9=>z9 _ _ ?_;refine Zz ?_;refine Zx [] Zj hnt λ _ z9=>z9 _ _ ?_;refine Zz ?_;refine Zt ?_;refine Zz ?_;refine Zx [] Zj hnt λ K hK=>?_;refine Zk (hW1) ?_;refine hK _ _ ?_;clear hK K;refine Zy (t:=false) rfl ?_;rw[if_neg (by simp)];refine Zz ?_
  refine Zx [] Zj hnt λ K hK=>?_;refine Zk (r1) ?_;refine Zk (r2) ?_;refine hK _ _ ?_;clear hK K;refine Zy (t:=false) rfl ?_;rw[if_neg (by simp)];refine Zw ?_;refine Zz ?_;refine Zx [] Zj hnt λ K hK=>?_;refine Zk (t1) ?_;refine hK _ _ ?_;clear hK K;refine Zz ?_;refine Zz ?_;refine Zx [(39,.v (.bool false)),(43,.v (.int .i64 (↑u.args.length))),(44,.v (.bool true))] Zj hnt λ K hK=>?_
  refine And.intro (Yq rfl) ?_;refine And.intro (Zr (by rw[Zs])) ?_;refine And.intro Xd ?_;refine hK _ _ ?_;clear hK K;refine Zy (t:=true) rfl ?_;rw[if_pos rfl];refine Zz ?_;refine Zx [] Zj hnt λ _ z9=>z9 _ _ ?_;refine Zv ?_
  exact Zi rfl
 skip
 refine Zn 0 55 [ResultVar.tmp 4] Zj Tryz.func48 rfl Tryz.ntmps48 rfl λ cx hnt hn0=>?_
 skip
 refine Zz ?_;refine Zx [] Zj hnt λ _ z9=>z9 _ _ ?_;refine Zz ?_;refine Zx [] Zj hnt λ K hK=>?_;refine Zk (hWd) ?_;refine hK _ _ ?_;clear hK K;refine Zz ?_;refine Zz ?_;refine Zx [] Zj hnt λ K hK=>?_;refine Zk (hW2) ?_;refine hK _ _ ?_;clear hK K;refine Zy (t:=false) rfl ?_;rw[if_neg (by simp)];refine Zw ?_
 refine Zz ?_;refine Zz ?_;refine Zx [] Zj hnt λ K hK=>?_;refine Zk (q1) ?_;refine Zk (q2) ?_;refine hK _ _ ?_;clear hK K;refine Zy (t:=false) rfl ?_;rw[if_neg (by simp)];refine Zw ?_;refine Zz ?_;refine Zx [] Zj hnt λ K hK=>?_;refine Zk (t2) ?_;refine hK _ _ ?_;clear hK K;refine Zz ?_;refine Zz ?_;refine Zx [(36,.v (.int .i64 (↑u.args.length))),(37,.v (.bool true))] Zj hnt λ K hK=>?_
 refine And.intro (Zr (by rw[Zs])) ?_;refine And.intro Xd ?_;refine hK _ _ ?_;clear hK K;refine Zy (t:=true) rfl ?_;rw[if_pos rfl];refine Zz ?_;refine Zx [] Zj hnt λ _ z9=>z9 _ _ ?_;refine Zv ?_
 exact Zi rfl
namespace Ru
end Ru
namespace Ru
def kA:Ty:=.mk [] 0
end Ru
namespace Ru
structure Sm (p:Li.Pr):Prop where
 l:p.l.full<=150/\p.l.Fit
 r:p.r.full<=150/\p.r.Fit
 ml:p.m.length<=300
 m:∀ t∈p.m,t.size<=60
theorem mt_size {M:List Ty}(h:∀ t∈M,t.size<=60)(x:Int):(mt M x).size<=60:=by
 unfold mt
 rw[List.getD_eq_getElem?_getD]
 cases hx:M[x.toNat]? with
 | none=>simp[Ty.size,Ty.sizes]
 | some t=>exact h t (List.mem_of_getElem? hx)
theorem Sm.own {p:Li.Pr}(h:Sm p):Sm (own p).1:=by
 by_cases hb:(tr p.r (tr p.l []).1).1.any (bad p.m)=true
 ·have:Ru.own p=(.z,10):=by unfold Ru.own;rw[if_pos hb]
  rw[this]
  exact⟨⟨by decide,Tm.fit_iff.2 ⟨by decide,by decide,nofun⟩⟩,⟨by decide,Tm.fit_iff.2 ⟨by decide,by decide,nofun⟩⟩,by decide,nofun⟩
 have e:Ru.own p=(⟨(tr p.l []).2,(tr p.r (tr p.l []).1).2,(tr p.r (tr p.l []).1).1.map (mt p.m)⟩,0):=by unfold Ru.own;rw[if_neg hb]
 rw[e]
 have g1:=tr_grow p.l []
 have g2:=tr_grow p.r (tr p.l []).1
 have:=h.l.1
 have:=h.r.1
 simp only[List.length_nil,Nat.zero_add] at g1
 refine⟨⟨?_,?_⟩,⟨?_,?_⟩,?_,λ t ht=>?_⟩
 ·show (tr p.l []).2.full<=150
  rw[tr_full];exact h.l.1
 ·exact tr_fit p.l [] (by simp;omega) h.l.2
 ·show (tr p.r (tr p.l []).1).2.full<=150
  rw[tr_full];exact h.r.1
 ·exact tr_fit p.r _ (by omega) h.r.2
 ·show (List.map _ _).length<=300
  rw[List.length_map];omega
 obtain⟨x,_,rfl⟩:=List.mem_map.1 ht
 exact mt_size h.m x
theorem Sm.sizes {p:Li.Pr}(h:Sm p):Ty.sizes p.m<=18000:=by
 have:=UX h.m
 have:=h.ml
 omega
end Ru
namespace Ru
/-! typed -/
variable {C M:List Ty} {o:List Int}
/-! which metavariables -/
def g (f:List Int)(x:Int):Int:=if x∈f then (ix x f:Int) else x
end Ru
namespace Ru
variable {C M:List Ty}
end Ru
def GU (kw kb:Nat)(l:List (Int×Tm))(s:Nm.St):List (Key×D):=[(.c kw 0,.o kb),(.c kw 1,.sl 5 (Z5 l) none),(.c kw 2,.v (.int .i64 s.e)),(.o kb,.ob (Uc s.left s.dry))]
theorem KT (kw kb:Nat)(hk:kw≠kb)(l:List (Int×Tm))(hl:l.length<=1000000)(t:Tm)(ht:Yv t)(ins:Int)(s:Nm.St)(hs:UJ s)(ho:Sv l t ins s):
  ZB Tryz.prog 149 [.p kw 0,.ag (eTm t),.v (.int .i64 ins)] (GU kw kb l s) (GU kw kb l (Sb.through l t ins s).2) (.ag (eTm (Sb.through l t ins s).1)):=by
 have h:=(Iw l hl t ht ins s hs ho).ren (Qz kw kb) (by simp[Ut,KV,D.ok,D.oks,ZM,Xa,WO,YK,Y8,Yi,YS]) (by
  intro k h1 k' h2
  simp[ZM,KV] at h1 h2
  rcases h1 with rfl | rfl <;> rcases h2 with rfl | rfl <;> simp[Qz,hk,hk.symm])
 simpa[D.ren,VR,Ul,VP,KV,GU,WJ,Key.ren,Qz] using h
theorem G0 {l:List (Int×Tm)}{t:Tm}{left:Int}{dry:Bool}(h:Sb.right l=false):Sb.apply l t left dry=(Nm.tz,⟨left,dry,0,1⟩):=if_pos h
theorem Ga {l:List (Int×Tm)}{t:Tm}{left:Int}{dry:Bool}(h:Sb.right l=true):Sb.apply l t left dry =
  (let r:=Sb.through l t 0 ⟨left,dry,0,0⟩;let s:Nm.St:=if r.2.e=0/\¬ (r.1.size<=5000/\r.1.depth<=60) then { r.2 with e:=2 } else r.2;if s.e≠0 then (Nm.tz,s) else (r.1,s)):=if_neg (by rw[h];simp)
def Oc (t:Tm)(s:Nm.St):Tm×Nm.St:=let s':Nm.St:=if s.e=0/\¬ (t.size<=5000/\t.depth<=60) then { s with e:=2 } else s;if s'.e≠0 then (Nm.tz,s') else (t,s')
theorem Gn {t:Tm}(h:t.size<=5000/\t.depth<=60)(l:Int)(d:Bool)(c:Int):Oc t ⟨l,d,c,0⟩=(t,⟨l,d,c,0⟩):=by
 have:¬ ((0:Int)=0/\¬ (t.size<=5000/\t.depth<=60)):=λ h'=>h'.2 h
 unfold Oc;dsimp only;rw[if_neg this];simp
theorem Gp {t:Tm}(h:¬ (t.size<=5000/\t.depth<=60))(l:Int)(d:Bool)(c:Int):Oc t ⟨l,d,c,0⟩=(Nm.tz,⟨l,d,c,2⟩):=by
 have:(0:Int)=0/\¬ (t.size<=5000/\t.depth<=60):=⟨rfl,h⟩
 unfold Oc;dsimp only;rw[if_pos this];rfl
theorem Gq {t:Tm}{e:Int}(h:e≠0)(l:Int)(d:Bool)(c:Int):Oc t ⟨l,d,c,e⟩=(Nm.tz,⟨l,d,c,e⟩):=by
 have:¬ (e=0/\¬ (t.size<=5000/\t.depth<=60)):=λ h'=>h h'.1
 unfold Oc;dsimp only;rw[if_neg this];exact if_pos h
set_option maxHeartbeats 1000000 in
theorem JZ (l:List (Int×Tm))(hl:l.length<=1000000)(t:Tm)(ht:Yv t)(left:Int)(dry:Bool)(h0:0<=left/\left<=1000000000)(ho:Sb.right l=true->Sv l t 0 ⟨left,dry,0,0⟩/\((Sb.through l t 0 ⟨left,dry,0,0⟩).2.e=0->VG (Sb.through l t 0 ⟨left,dry,0,0⟩).1)):
  ZB Tryz.prog 140 [.sl 5 (Z5 l) none,.ag (eTm t),.o 1] [(.o 1,.ob (Uc left dry))] [(.o 1,.ob (Uc (Sb.apply l t left dry).2.left (Sb.apply l t left dry).2.dry))] (.tu [.ag (eTm (Sb.apply l t left dry).1),.v (.int .i64 (Sb.apply l t left dry).2.e)]):=by
 obtain⟨p,hp⟩:∃ p,Sb.apply l t left dry=p:=⟨_,rfl⟩
 rw[hp]
 have hrt:=QY l hl
 have hth:=λ h=>KT 15 1 (by decide) l hl t ht 0 ⟨left,dry,0,0⟩ h0 (ho h).1
 rw[Zu t] at hth ⊢
 refine ZX 2 50 [ResultVar.cell 6 62,ResultVar.tmp 7] ZN (by kernel_rfl) Tryz.func140 rfl Tryz.ntmps140 rfl (by simp) ?dwords ?dbody
 case dwords=>simp[ZA,D.ok,D.oks,ZM,Xa,WO,YK,Y8,Yi,YS]
 case dbody=>
  intro cx hnt hn0
  refine Zz ?_;refine Zx [] ZN hnt λ _ z9=>z9 _ _ ?_;refine Zz (Zz ?_)
  cases hr:Sb.right l with
  | false=>
   rw[hr] at hrt
   rw[G0 hr] at hp
   subst hp
   refine Zx [] ZN hnt λ K hK=>?_;refine Zk (hrt) ?_;refine hK _ _ ?_;clear hK K;refine Zy (t:=true) rfl ?_;rw[if_pos rfl];refine Zz ?_;refine Zx [] ZN hnt λ _ z9=>z9 _ _ ?_;refine Zv ?_
   rw[X6]
   exact Yd (N:=0) (.inr rfl) rfl (by repeat first | exact Zm.refl _ | exact Zm.nil _ | exact Zm.untag _ _ _ | refine Zm.ag ?_ | refine Zm.tu ?_ | refine ZO.cons ?_ ?_ | exact ZO.nil) (by repeat first | exact trivial | refine And.intro rfl ?_)
  | true=>
   rw[hr] at hrt
   have ho:=(ho hr).2
   have hth:=hth hr
   rw[Ga hr] at hp
   obtain⟨r,hrr⟩:∃ r,Sb.through l t 0 ⟨left,dry,0,0⟩=r:=⟨_,rfl⟩
   rw[hrr] at hp ho hth
   have hp:Oc r.1 r.2=p:=hp
   clear hrr
   obtain⟨u,s1⟩:=r
   obtain⟨left',dry',count,er⟩:=s1
   dsimp only at hp ho hth
   refine Zx [] ZN hnt λ K hK=>?_;refine Zk (hrt) ?_;refine hK _ _ ?_;clear hK K;refine Zy (t:=false) rfl ?_;rw[if_neg (by simp)];refine Zw ?_;refine Zz ?_;refine Zx [] ZN hnt λ _ z9=>z9 _ _ ?_;refine Zz ?_
   have hru:er=0->Zh Tryz.prog 34 [.ag (eTm u)] (.v (.bool (decide (u.size<=5000/\u.depth<=60)))):=λ h=>WK u (by have:=(ho h).right;omega)
   have hcu:er=0->(u.size<=5000/\u.depth<=60)->Zh Tryz.prog 96 [.ag (eTm u)] (.ag (eTm u)):=λ h h'=>VN u ((ho h).copy h').1 ((ho h).copy h').2
   rw[Zu u] at hth hru hcu
   refine Zx [] ZN hnt λ K hK=>?_;refine Zk (hth) ?_;refine hK _ _ ?_;clear hK K;refine Zz (Zz ?_)
   by_cases he:er=0
   ·subst he
    have hru:=hru rfl
    by_cases hR:u.size<=5000/\u.depth<=60
    ·have hcu:=hcu rfl hR
     rw[Gn hR] at hp
     subst hp
     rw[decide_eq_true hR] at hru
     refine Zx [(29,.v (.bool true))] ZN hnt λ K hK=>?_;refine And.intro (Zm.refl _) ?_;refine Zk (hru) ?_;refine hK _ _ ?_;clear hK K;refine Zy (t:=false) rfl ?_;rw[if_neg (by simp)];refine Zw ?_;refine Zz (Zz ?_);refine Zx [(42,.v (.bool false))] ZN hnt λ K hK=>?_;refine And.intro (Zm.refl _) ?_;refine hK _ _ ?_;clear hK K;refine Zy (t:=false) rfl ?_
     rw[if_neg (by simp)];refine Zw ?_;refine Zz ?_;refine Zx [] ZN hnt λ K hK=>?_;refine Zk (hcu) ?_;refine hK _ _ ?_;clear hK K;refine Zv ?_
     rw[Zu]
     exact Yd (N:=0) (.inr rfl) rfl (by repeat first | exact Zm.refl _ | exact Zm.nil _ | exact Zm.untag _ _ _ | refine Zm.ag ?_ | refine Zm.tu ?_ | refine ZO.cons ?_ ?_ | exact ZO.nil) (by repeat first | exact trivial | refine And.intro rfl ?_)
    rw[Gp hR] at hp
    subst hp
    rw[decide_eq_false hR] at hru
    refine Zx [(29,.v (.bool true))] ZN hnt λ K hK=>?_;refine And.intro (Zm.refl _) ?_;refine Zk (hru) ?_;refine hK _ _ ?_;clear hK K;refine Zy (t:=true) rfl ?_;rw[if_pos rfl];refine Zx [] ZN hnt λ _ z9=>z9 _ _ ?_;refine Zz (Zz ?_);refine Zx [(42,.v (.bool true))] ZN hnt λ K hK=>?_;refine And.intro (Zm.refl _) ?_;refine hK _ _ ?_;clear hK K
    refine Zy (t:=true) rfl ?_;rw[if_pos rfl];refine Zz ?_;refine ZQ [] ZN hnt λ K hK=>?_;refine hK _ _ (by kernel_rfl) ?_;clear hK K;refine Zv ?_
    rw[X6]
    exact Yd (N:=0) (.inr rfl) rfl (by repeat first | exact Zm.refl _ | exact Zm.nil _ | exact Zm.untag _ _ _ | refine Zm.ag ?_ | refine Zm.tu ?_ | refine ZO.cons ?_ ?_ | exact ZO.nil) (by repeat first | exact trivial | refine And.intro rfl ?_)
   rw[Gq he] at hp
   subst hp
   refine Zx [(29,.v (.bool false))] ZN hnt λ K hK=>?_;refine And.intro (Zm.of_eq (by simp[he])) ?_;refine hK _ _ ?_;clear hK K;refine Zy (t:=false) rfl ?_;rw[if_neg (by simp)];refine Zw ?_;refine Zz (Zz ?_);refine Zx [(42,.v (.bool true))] ZN hnt λ K hK=>?_;refine And.intro (Zm.of_eq (by simp[he])) ?_;refine hK _ _ ?_;clear hK K;refine Zy (t:=true) rfl ?_
   rw[if_pos rfl];refine Zz ?_;refine ZQ [] ZN hnt λ K hK=>?_;refine hK _ _ (by kernel_rfl) ?_;clear hK K;refine Zv ?_
   rw[X6]
   exact Yd (N:=0) (.inr rfl) rfl (by repeat first | exact Zm.refl _ | exact Zm.nil _ | exact Zm.untag _ _ _ | refine Zm.ag ?_ | refine Zm.tu ?_ | refine ZO.cons ?_ ?_ | exact ZO.nil) (by repeat first | exact trivial | refine And.intro rfl ?_)
theorem K0 (kb:Nat)(l:List (Int×Tm))(hl:l.length<=1000000)(t:Tm)(ht:Yv t)(left:Int)(dry:Bool)(h0:0<=left/\left<=1000000000)(ho:Sb.right l=true->Sv l t 0 ⟨left,dry,0,0⟩/\((Sb.through l t 0 ⟨left,dry,0,0⟩).2.e=0->VG (Sb.through l t 0 ⟨left,dry,0,0⟩).1)):
  ZB Tryz.prog 140 [.sl 5 (Z5 l) none,.ag (eTm t),.o kb] [(.o kb,.ob (Uc left dry))] [(.o kb,.ob (Uc (Sb.apply l t left dry).2.left (Sb.apply l t left dry).2.dry))] (.tu [.ag (eTm (Sb.apply l t left dry).1),.v (.int .i64 (Sb.apply l t left dry).2.e)]):=by
 have h:=(JZ l hl t ht left dry h0 ho).ren (λ _=>kb) (by simp[Ut,D.ok,D.oks,ZM,Xa,WO,YK,YS]) (by
  intro k h1 k' h2 _
  simp[ZM] at h1 h2
  rw[h1,h2])
 simpa[D.ren,D.rens,VR,VP,WJ,Key.ren] using h
namespace Ru
end Ru
theorem O9 {l:List (Int×Tm)}{t:Tm}{left:Int}{dry:Bool}{B:Nat}(hl:∀ p∈l,Bnd B p.2)(ht:Bnd B t)(h:0<=left/\left<=1000000000):(Sb.apply l t left dry).2.e=0->(Sb.apply l t left dry).2.left<=left/\((Sb.apply l t left dry).1.size<=5000/\(Sb.apply l t left dry).1.depth<=60)/\Bnd B (Sb.apply l t left dry).1:=by
 unfold Sb.apply
 by_cases hr:Sb.right l=false
 ·rw[if_pos hr];intro e;cases e
 rw[if_neg hr]
 have h1:=Sb.grow l hl t ht 0 ⟨left,dry,0,0⟩ h
 dsimp only
 generalize Sb.through l t 0 ⟨left,dry,0,0⟩=r at h1
 by_cases hc:r.2.e=0/\¬ (r.1.size<=5000/\r.1.depth<=60)
 ·rw[if_pos hc]
  rw[if_pos (by show (2:Int)≠0;decide)]
  intro e;cases e
 rw[if_neg hc]
 by_cases hp:r.2.e=0
 ·rw[if_neg (λ h=>h hp)]
  intro _
  have h2:=h1 hp
  have h3:=Tm.size_pos r.1
  refine⟨by have:=h2.2.1;dsimp only at this ⊢;omega,?_,h2.2.2⟩
  by_cases h5:r.1.size<=5000/\r.1.depth<=60
  ·exact h5
  exact absurd ⟨hp,h5⟩ hc
 rw[if_pos hp]
 intro e;exact absurd e hp
def TAUB_140:TI:=⟨5,true,[Value.int IntKind.i64 0,Value.slice none 0 0,Value.slice none 0 0,Value.slice none 0 0,Value.int IntKind.i64 0],[(0,3,true),(3,1,false),(4,1,false)],none,88,6,none,false⟩
theorem WT:TypOk Tryz.prog 140 TAUB_140:=by constructor <;> kernel_rfl
def TAUB_138:TI:=⟨1,false,[Value.pointer none],[],none,8,4,none,false⟩
theorem WS:TypOk Tryz.prog 138 TAUB_138:=by constructor <;> kernel_rfl
def TAUB_4:TI:=⟨1,false,[Value.bool false],[],none,1,1,none,false⟩
theorem WX:TypOk Tryz.prog 4 TAUB_4:=by constructor <;> kernel_rfl
def TAUB:List (Nat×TI):=[(62,TG_62),(50,TN1_50),(3,TG_3),(110,TS1_110),(84,TS1_84),(140,TAUB_140),(64,TPR_64),(41,TG_41),(138,TAUB_138),(4,TAUB_4),(60,TG_60),(43,TRT6_43),(106,TG_106),(71,TTY_71),(233,TN1_233)]
theorem YW:Zd Tryz.prog TAUB:=((((((((((((((((Zd.nil _).cons VI).cons YV).cons Yx).cons Yb).cons Xs).cons WX).cons WS).cons Ym).cons Yk).cons WT).cons Xb).cons YG).cons ZW).cons Y0).cons Yu)
namespace Au
def ck (b:Int)(C Mw:List Ty)(eqs:List Li.Pr)(e:Int):List (Key×D):=[(.c 0 0,.v (.int .i64 b)),(.c 0 1,.sl 2 (eTys C) none),(.c 0 2,.sl 2 (eTys Mw) none),(.c 0 3,.sl 9 (Yt eqs) none),(.c 0 4,.v (.int .i64 e))]
end Au
theorem W4 (b:Int)(C Mw:List Ty)(eqs:List Li.Pr)(e c:Int)(is:Bool):ZB Tryz.prog 120 [.p 0 0,.v (.bool is),.v (.int .i64 c)] (Au.ck b C Mw eqs e) (Au.ck b C Mw eqs (Au.must e is c)) (.tu []):=by
 unfold Au.must Au.ck
 by_cases he:e=0
 ·subst he
  cases is with
  | true=>
   rw[if_neg (by simp)]
   refine Zn 2 19 [] YW Tryz.func120 rfl Tryz.ntmps120 rfl λ cx hnt hn0=>?_
   skip
   refine Zz ?_;refine Zx [(10,.v (.bool true))] YW hnt λ K hK=>?_;refine And.intro (YT rfl) ?_;refine hK _ _ ?_;clear hK K;refine Zy (t:=false) rfl ?_;rw[if_neg (by simp)];refine Zw ?_
   exact Zi rfl
  | false=>
   rw[if_pos ⟨rfl,rfl⟩]
   refine Zn 2 19 [] YW Tryz.func120 rfl Tryz.ntmps120 rfl λ cx hnt hn0=>?_
   skip
   refine Zz ?_;refine Zx [(10,.v (.bool true))] YW hnt λ K hK=>?_;refine And.intro (YT rfl) ?_;refine hK _ _ ?_;clear hK K;refine Zy (t:=true) rfl ?_;rw[if_pos rfl];refine Zx [] YW hnt λ _ z9=>z9 _ _ ?_
   exact Zi rfl
 rw[if_neg (λ h=>he h.1)]
 refine Zn 2 19 [] YW Tryz.func120 rfl Tryz.ntmps120 rfl λ cx hnt hn0=>?_
 skip
 refine Zz ?_;refine Zx [(10,.v (.bool false))] YW hnt λ K hK=>?_;refine And.intro (XM he) ?_;refine hK _ _ ?_;clear hK K;refine Zy (t:=false) rfl ?_;rw[if_neg (by simp)];refine Zw ?_
 exact Zi rfl
set_option maxHeartbeats 2000000 in
theorem TD (b:Int)(C Mw:List Ty)(eqs:List Li.Pr)(e:Int)(s:List (Int×Tm))(t:Tm)(hl:s.length<=1000)(hs:∀ q∈s,Bnd 150 q.2/\Yv q.2)(ht:Bnd 150 t)(htz:t.size<=5000):
  ZB Tryz.prog 123 [.p 0 0,.sl 5 (Z5 s) none,.ag (eTm t)] (Au.ck b C Mw eqs e) (Au.ck b C Mw eqs (Au.img s t e).2) (.ag (eTm (Au.img s t e).1)):=by
 by_cases he:e=0
 ·subst he
  have hA:=λ kb=>K0 kb s (by omega) t (Bnd.wide t ht (by omega) (by decide)) 100000 false ⟨by decide,by decide⟩ λ _=>Sb.apply_ok (B:=150) 100000 (by decide) (by decide) (by decide) s hs t ht 100000 ⟨by decide,by decide⟩ false
  have e0:Au.img s t 0=((Sb.apply s t 100000 false).1,Au.must 0 (decide ((Sb.apply s t 100000 false).2.e=0)) (Sb.apply s t 100000 false).2.e):=by
   unfold Au.img;rw[if_neg (λ h=>h rfl)]
  rw[e0]
  obtain⟨⟨z,st⟩,hz⟩:∃ r,Sb.apply s t 100000 false=r:=⟨_,rfl⟩
  simp only[hz] at hA ⊢
  simp only[Zu] at hA
  have hm:=W4 b C Mw eqs 0 st.e (decide (st.e=0))
  rw[Zu,Zu]
  by_cases h0:st.e=0
  ·rw[decide_eq_true h0,Au.must_true] at hm ⊢
   unfold Au.ck at hm ⊢
   refine Zn 2 28 [ResultVar.cell 6 62] YW Tryz.func123 rfl Tryz.ntmps123 rfl λ cx hnt hn0=>?_
   skip
   refine Zz ?_;refine Zx [] YW hnt λ _ z9=>z9 _ _ ?_;refine Zz ?_;refine Zz ?_;refine Zx [(13,.v (.bool false))] YW hnt λ K hK=>?_;refine And.intro (Yq rfl) ?_;refine hK _ _ ?_;clear hK K;refine Zy (t:=false) rfl ?_;rw[if_neg (by simp)];refine Zw ?_;refine Zz ?_;refine ZQ [] YW hnt λ K hK=>?_;refine H6 ((JN 100000 (by decide)) _) ?_
   refine Zk (hA _) ?_;refine hK _ _ (by kernel_rfl) ?_;clear hK K;refine Zz ?_;refine Zx [(24,.v (.bool true))] YW hnt λ K hK=>?_;refine And.intro (YT h0) ?_;refine Zk (hm) ?_;refine hK _ _ ?_;clear hK K;refine Zz ?_;refine Zx [] YW hnt λ _ z9=>z9 _ _ ?_;refine Zv ?_
   exact Zi rfl
  rw[decide_eq_false h0] at hm ⊢
  unfold Au.ck at hm ⊢
  refine Zn 2 28 [ResultVar.cell 6 62] YW Tryz.func123 rfl Tryz.ntmps123 rfl λ cx hnt hn0=>?_
  skip
  refine Zz ?_;refine Zx [] YW hnt λ _ z9=>z9 _ _ ?_;refine Zz ?_;refine Zz ?_;refine Zx [(13,.v (.bool false))] YW hnt λ K hK=>?_;refine And.intro (Yq rfl) ?_;refine hK _ _ ?_;clear hK K;refine Zy (t:=false) rfl ?_;rw[if_neg (by simp)];refine Zw ?_;refine Zz ?_;refine ZQ [] YW hnt λ K hK=>?_;refine H6 ((JN 100000 (by decide)) _) ?_
  refine Zk (hA _) ?_;refine hK _ _ (by kernel_rfl) ?_;clear hK K;refine Zz ?_;refine Zx [(24,.v (.bool false))] YW hnt λ K hK=>?_;refine And.intro (XM h0) ?_;refine Zk (hm) ?_;refine hK _ _ ?_;clear hK K;refine Zz ?_;refine Zx [] YW hnt λ _ z9=>z9 _ _ ?_;refine Zv ?_
  exact Zi rfl
 have e0:Au.img s t e=(Tm.zero,e):=by unfold Au.img;rw[if_pos he]
 rw[e0]
 unfold Au.ck
 dsimp only
 rw[Zu t,show eTm Tm.zero=[.sl 2 [] none,.v (.int .i64 0),.v (.int .i64 0),.sl 4 [] none] from rfl]
 refine Zn 2 28 [ResultVar.cell 6 62] YW Tryz.func123 rfl Tryz.ntmps123 rfl λ cx hnt hn0=>?_
 skip
 refine Zz ?_;refine Zx [] YW hnt λ _ z9=>z9 _ _ ?_;refine Zz ?_;refine Zz ?_;refine Zx [(13,.v (.bool true))] YW hnt λ K hK=>?_;refine And.intro (YO he) ?_;refine hK _ _ ?_;clear hK K;refine Zy (t:=true) rfl ?_;rw[if_pos rfl];refine Zz ?_;refine Zx [] YW hnt λ _ z9=>z9 _ _ ?_;refine Zv ?_
 exact Zi rfl
def TAUD:List (Nat×TI):=[(3,TG_3),(110,TS1_110),(71,TTY_71),(84,TS1_84),(50,TN1_50),(64,TPR_64),(41,TG_41),(62,TG_62),(138,TAUB_138),(4,TAUB_4),(60,TG_60),(140,TAUB_140),(43,TRT6_43),(106,TG_106)]
theorem ZU:Zd Tryz.prog TAUD:=(((((((((((((((Zd.nil _).cons Yx).cons Yb).cons WT).cons Xs).cons WX).cons WS).cons Yu).cons Ym).cons Yk).cons Y0).cons Xb).cons YV).cons YG).cons ZW)
theorem LH (l r:List Int)(hl:l.length<=1000000)(hr:r.length<=1000000):Zh Tryz.prog 138 [.sl 1 (YJ l) none,.sl 1 (YJ r) none] (.v (.bool (decide (l=r)))):=by
 by_cases hlen:l.length=r.length
 ·skip
  refine Zn 0 26 [ResultVar.tmp 4] ZU Tryz.func138 rfl Tryz.ntmps138 rfl λ cx hnt hn0=>?_
  skip
  refine Zz ?_;refine Zx [] ZU hnt λ _ z9=>z9 _ _ ?_;refine Zz ?_;refine Zz ?_;refine Zx [(7,.v (.int .i64 (↑l.length))),(9,.v (.int .i64 (↑r.length))),(10,.v (.bool false))] ZU hnt λ K hK=>?_;refine And.intro (Zr (by rw[Zb])) ?_;refine And.intro (Zr (by rw[Zb])) ?_;refine And.intro (Yq (by omega)) ?_;refine hK _ _ ?_;clear hK K
  refine Zy (t:=false) rfl ?_;rw[if_neg (by simp)];refine Zw ?_;refine Zz ?_;refine Zz ?_;refine Zx [(12,.v (.int .i64 (↑l.length)))] ZU hnt λ K hK=>?_;refine And.intro (Zr (by rw[Zb])) ?_;refine hK _ _ ?_;clear hK K;refine Zt ?_
  refine Z6 (ι:={ j:Nat // j<=l.length/\∀ i (h:i<l.length) (h':i<r.length),i<j->l[i]=r[i] }) (λ j=>[(.t 0,.sl 1 (YJ l) none),(.t 1,.sl 1 (YJ r) none),(.t 12,.v (.int .i64 ↑l.length)),(.t 13,.v (.int .i64 ↑j.1))]) 1 (λ j=>l.length-j.1) (⟨0,Nat.zero_le _,λ i h h' h2=>by omega⟩) (VS.toA) λ j=>?_
  obtain⟨j,hj,hj2⟩:=j
  dsimp only
  by_cases hlt:j<l.length
  ·have hlt2:j<r.length:=by omega
   by_cases he:l[j]=r[j]
   ·skip
    refine Zz ?_;refine Zx [(14,.v (.bool true))] ZU hnt λ K hK=>?_;refine And.intro Xd ?_;refine hK _ _ ?_;clear hK K;refine Zz ?_;refine Zy (t:=true) rfl ?_;rw[if_pos rfl];refine Zw ?_;refine Zz ?_;refine Zt ?_;refine Zz ?_;refine Zx [] ZU hnt λ _ z9=>z9 _ _ ?_;refine Zz ?_;refine ZQ [(18,.q [.v (.int .i64 (l[j]))]),(22,.q [.v (.int .i64 (r[j]))]),(24,.v (.bool false))] ZU hnt λ K hK=>?_
    refine And.intro (XQ (Zb l)) ?_;refine And.intro (XR (Xu l j) rfl) ?_;refine And.intro (XQ (Zb r)) ?_;refine And.intro (XR (Xu r j) rfl) ?_;refine And.intro (Yq he) ?_;refine hK _ _ (by kernel_rfl) ?_;clear hK K;refine Zy (t:=false) rfl ?_;rw[if_neg (by simp)];refine Zw ?_;refine Zx [(25,.v (.int .i64 (↑(j+1))))] ZU hnt λ K hK=>?_;refine And.intro Ww ?_
    refine hK _ _ ?_;clear hK K
    refine⟨⟨j+1,hlt,λ i h h' h2=>if hij:i=j then by subst hij;exact he else hj2 i h h' (by omega)⟩,by first | omega | (dsimp only;omega),VS.toA⟩
   have hne:l≠r:=λ h=>he (by subst h;rfl)
   rw[decide_eq_false hne]
   refine Zz ?_;refine Zx [(14,.v (.bool true))] ZU hnt λ K hK=>?_;refine And.intro Xd ?_;refine hK _ _ ?_;clear hK K;refine Zz ?_;refine Zy (t:=true) rfl ?_;rw[if_pos rfl];refine Zw ?_;refine Zz ?_;refine Zt ?_;refine Zz ?_;refine Zx [] ZU hnt λ _ z9=>z9 _ _ ?_;refine Zz ?_;refine ZQ [(18,.q [.v (.int .i64 (l[j]))]),(22,.q [.v (.int .i64 (r[j]))]),(24,.v (.bool true))] ZU hnt λ K hK=>?_
   refine And.intro (XQ (Zb l)) ?_;refine And.intro (XR (Xu l j) rfl) ?_;refine And.intro (XQ (Zb r)) ?_;refine And.intro (XR (Xu r j) rfl) ?_;refine And.intro (YO he) ?_;refine hK _ _ (by kernel_rfl) ?_;clear hK K;refine Zy (t:=true) rfl ?_;rw[if_pos rfl];refine Zz ?_;refine Zx [] ZU hnt λ _ z9=>z9 _ _ ?_;refine Zv ?_
   exact Zi rfl
  have heq:l=r:=List.ext_getElem hlen λ i h h'=>hj2 i h h' (by omega)
  rw[decide_eq_true heq]
  refine Zz ?_;refine Zx [(14,.v (.bool false))] ZU hnt λ K hK=>?_;refine And.intro X5 ?_;refine hK _ _ ?_;clear hK K;refine Zz ?_;refine Zy (t:=false) rfl ?_;rw[if_neg (by simp)];refine Zg ?_;refine Zz ?_;refine Zx [] ZU hnt λ _ z9=>z9 _ _ ?_;refine Zv ?_
  exact Zi rfl
 have hne:l≠r:=λ h=>hlen (by rw[h])
 rw[decide_eq_false hne]
 refine Zn 0 26 [ResultVar.tmp 4] ZU Tryz.func138 rfl Tryz.ntmps138 rfl λ cx hnt hn0=>?_
 skip
 refine Zz ?_;refine Zx [] ZU hnt λ _ z9=>z9 _ _ ?_;refine Zz ?_;refine Zz ?_;refine Zx [(7,.v (.int .i64 (↑l.length))),(9,.v (.int .i64 (↑r.length))),(10,.v (.bool true))] ZU hnt λ K hK=>?_;refine And.intro (Zr (by rw[Zb])) ?_;refine And.intro (Zr (by rw[Zb])) ?_;refine And.intro (YO (by omega)) ?_;refine hK _ _ ?_;clear hK K
 refine Zy (t:=true) rfl ?_;rw[if_pos rfl];refine Zz ?_;refine Zx [] ZU hnt λ _ z9=>z9 _ _ ?_;refine Zv ?_
 exact Zi rfl
namespace Au
def f1 (q:Li.Pr)(e:Int)(p:Int×Tm):Int:=must e (decide (0<=p.1/\p.1<(q.m.length:Int))) 1
def f2 (code:List Ty->Tm->Ty->Int)(q:Li.Pr)(ar:List Ty)(e:Int)(p:Int×Tm):Int:=if e=0 then must e (decide (code ar p.2 (q.m.getD p.1.toNat (.mk [] 0))=0)) 5 else e
theorem fold1_0 (q:Li.Pr):∀ (s:List (Int×Tm)) (e:Int),s.foldl (f1 q) e=0->e=0/\∀ p∈s,0<=p.1/\p.1<(q.m.length:Int)
 | [],e,h=>⟨h,λ p hp=>by cases hp⟩
 | p :: s,e,h=>by
  rw[List.foldl_cons] at h
  obtain⟨h1,h2⟩:=fold1_0 q s _ h
  obtain⟨h3,h4⟩:=must_0 (by decide) h1
  exact⟨h3,λ x hx=>by
   rcases List.mem_cons.1 hx with rfl | hx
   ·exact of_decide_eq_true h4
   exact h2 x hx⟩
theorem fold2_0 (code:List Ty->Tm->Ty->Int)(q:Li.Pr)(ar:List Ty):∀ (s:List (Int×Tm)) (e:Int),s.foldl (f2 code q ar) e=0->e=0
 | [],e,h=>h
 | p :: s,e,h=>by
  rw[List.foldl_cons] at h
  have h1:=fold2_0 code q ar s _ h
  unfold f2 at h1
  by_cases he:e=0
  ·exact he
  rw[if_neg he] at h1;exact h1
theorem fold_snoc {α β:Type}(f:β->α->β)(l:List α)(e:β)(j:Nat)(h:j<l.length):(l.take (j+1)).foldl f e=f ((l.take j).foldl f e) l[j]:=by
 rw[List.take_add_one,List.getElem?_eq_getElem h,List.foldl_append];rfl
end Au
set_option maxHeartbeats 4000000 in
theorem Su (b:Int)(C Mw:List Ty)(eqs:List Li.Pr)(e:Int)(q:Li.Pr)(s:List (Int×Tm))(ar:List Ty)(code:List Ty->Tm->Ty->Int)(hc:∀ X t u,Yp C Mw t X u (code X t u))(hCl:C.length<=1000000)(hMl:Mw.length<=1000000) 
  (hq:q.l.full<=90000/\q.r.full<=90000) (hqm:q.m.length<=900000) (hsl:s.length<=1000) (hs:∀ p∈s,p.2.full<=10000/\p.2.Fit) (har:ar.length<=770000) :
  ZB Tryz.prog 122 [.p 0 0,.ag (WG q),.sl 5 (Z5 s) none,.sl 2 (eTys ar) none] (Au.ck b C Mw eqs e) (Au.ck b C Mw eqs (Au.subS code q s ar e)) (.tu []):=by
 have hMe:=Jz [q.l,q.r] (by simp) (λ t ht=>by
  rcases List.mem_cons.1 ht with rfl | ht
  ·exact hq.1
  rw[List.mem_singleton] at ht;subst ht;exact hq.2)
 have eQ:eTms [q.l,q.r]=[[.sl 2 (eTys q.l.binds) none,.v (.int .i64 q.l.kind),.v (.int .i64 q.l.index),.sl 4 (eTms q.l.args) none],[.sl 2 (eTys q.r.binds) none,.v (.int .i64 q.r.kind),.v (.int .i64 q.r.index),.sl 4 (eTms q.r.args) none]]:=by rw[<-Zu,<-Zu];rfl
 obtain⟨U,hU⟩:∃ U,Wr (Y9 [q.l,q.r])=U:=⟨_,rfl⟩
 have hUl:U.length<=1000000:=by
  rw[<-hU]
  have h1:=QG (Wr (Y9 [q.l,q.r])) (Y9 [q.l,q.r]) ((X2 _).1.imp λ h=>Int.ne_of_lt h) λ x hx=>((X2 _).2 x).1 hx
  have h2:=UW [q.l,q.r] 90000 (λ t ht=>by
   rcases List.mem_cons.1 ht with rfl | ht
   ·exact hq.1
   rw[List.mem_singleton] at ht;subst ht;exact hq.2)
  simp at h2;omega
 rw[hU] at hMe
 have hR:=QY s (by omega)
 have hD:=Kv s (by omega)
 have hE:=LH (s.map (·.1)) U (by simp;omega) hUl
 obtain⟨e1,he1⟩:∃ e1,Au.must e (Sb.right s&&decide (s.map (·.1)=U)) 1=e1:=⟨_,rfl⟩
 have hm0:=W4 b C Mw eqs e 1 (Sb.right s&&decide (s.map (·.1)=U))
 rw[he1] at hm0
 obtain⟨F,hF⟩:∃ F:Nat->Int,∀ j,(s.take j).foldl (Au.f1 q) e1=F j:=⟨_,λ _=>rfl⟩
 have hF0:F 0=e1:=by rw[<-hF];rfl
 have hFn:∀ j (h:j<s.length),F (j+1)=Au.must (F j) (decide (0<=s[j].1/\s[j].1<(q.m.length:Int))) 1:=λ j h=>by rw[<-hF,Au.fold_snoc _ _ _ _ h,hF];rfl
 have hFs:s.foldl (Au.f1 q) e1=F s.length:=by rw[<-hF,List.take_length]
 obtain⟨G,hG⟩:∃ G:Nat->Int,∀ j,(s.take j).foldl (Au.f2 code q ar) (F s.length)=G j:=⟨_,λ _=>rfl⟩
 have hG0:G 0=F s.length:=by rw[<-hG];rfl
 have hGn:∀ j (h:j<s.length),G (j+1)=if G j=0 then Au.must (G j) (decide (code ar s[j].2 (q.m.getD s[j].1.toNat (.mk [] 0))=0)) 5 else G j:=λ j h=>by rw[<-hG,Au.fold_snoc _ _ _ _ h,hG];rfl
 have hGr:∀ j,G j=0->∀ p∈s,0<=p.1/\p.1<(q.m.length:Int):=λ j h=>by
  rw[<-hG] at h
  have:=Au.fold2_0 code q ar _ _ h
  rw[<-hFs] at this
  exact(Au.fold1_0 q s e1 this).2
 have hsub:Au.subS code q s ar e=G s.length:=by
  have:Au.subS code q s ar e=s.foldl (Au.f2 code q ar) (s.foldl (Au.f1 q) (Au.must e (Sb.right s&&decide (s.map (·.1)=Wr (Y9 [q.l,q.r]))) 1)):=rfl
  rw[this,hU,he1,hFs,<-hG,List.take_length]
 rw[hsub]
 rw[Ys]
 unfold Au.ck at hm0 ⊢
 have hm1:=λ j is=>W4 b C Mw eqs (F j) 1 is
 have hm2:=λ j is=>W4 b C Mw eqs (G j) 5 is
 unfold Au.ck at hm1 hm2
 refine Zn 2 78 [] ZU Tryz.func122 rfl Tryz.ntmps122 rfl λ cx hnt hn0=>?_
 skip
 refine Zz ?_;refine Zx [] ZU hnt λ _ z9=>z9 _ _ ?_;refine Zz ?_;refine Zx [(17,.sl 4 (eTms [q.l,q.r]) none)] ZU hnt λ K hK=>?_;refine And.intro ((by rw[eQ];exact Zm.untag _ _ _)) ?_;refine Zk (hMe) ?_;refine hK _ _ ?_;clear hK K
 refine Wi (τ:=[(.t 0,.p 0 0),(.t 2,.sl 5 (Z5 s) none),(.t 3,.sl 2 (eTys ar) none),(.t 5,.p 2 0),(.c 2 8,.sl 2 (eTys q.m) none),(.c 0 0,.v (.int .i64 b)),(.c 0 1,.sl 2 (eTys C) none),(.c 0 2,.sl 2 (eTys Mw) none),(.c 0 3,.sl 9 (Yt eqs) none),(.c 0 4,.v (.int .i64 (e1)))]) (N1:=60) ?_ ?_
 ·cases hr:Sb.right s with
  | false=>
   rw[hr] at hR hm0
   refine Zx [] ZU hnt λ K hK=>?_;refine Zk (hR) ?_;refine Zk (hm0) ?_;refine hK _ _ ?_;clear hK K
   exact Y4 VS.toA
  | true=>
   rw[hr] at hR hm0
   refine Zx [] ZU hnt λ K hK=>?_;refine Zk (hR) ?_;refine Zk (hD) ?_;refine Zk (hE) ?_;refine Zk (hm0) ?_;refine hK _ _ ?_;clear hK K
   exact Y4 VS.toA
 ·skip
  refine Zz ?_;refine Zz ?_;refine Zx [(30,.v (.int .i64 (↑s.length)))] ZU hnt λ K hK=>?_;refine And.intro (Zr (by rw[Zf])) ?_;refine hK _ _ ?_;clear hK K;refine Zt ?_
  refine Z6 (ι:={ j:Nat // j<=s.length }) (λ j=>[(.t 0,.p 0 0),(.t 2,.sl 5 (Z5 s) none),(.t 3,.sl 2 (eTys ar) none),(.t 5,.p 2 0),(.t 29,.sl 5 (Z5 s) none),(.t 30,.v (.int .i64 ↑s.length)),(.t 31,.v (.int .i64 ↑j.1)),(.c 2 8,.sl 2 (eTys q.m) none),(.c 0 0,.v (.int .i64 b)),(.c 0 1,.sl 2 (eTys C) none),(.c 0 2,.sl 2 (eTys Mw) none),(.c 0 3,.sl 9 (Yt eqs) none),(.c 0 4,.v (.int .i64 (F j.1)))]) 70 (λ j=>s.length-j.1) (⟨0,Nat.zero_le _⟩) ((by try simp only[List.length_append,List.length_take,List.length_cons,List.length_nil,Nat.zero_add,hF0];exact VS.toA)) λ j=>?_
  obtain⟨j,hj⟩:=j
  dsimp only
  by_cases hlt:j<s.length
  ·have hn:=hFn j hlt
   by_cases h0:0<=s[j].1
   ·by_cases h1:s[j].1<(q.m.length:Int)
    ·rw[decide_eq_true ⟨h0,h1⟩] at hn
     have hm:=hm1 j true
     rw[<-hn] at hm
     refine Zz ?_;refine Zx [(32,.v (.bool true))] ZU hnt λ K hK=>?_;refine And.intro Xd ?_;refine hK _ _ ?_;clear hK K;refine Zz ?_;refine Zy (t:=true) rfl ?_;rw[if_pos rfl];refine Zw ?_;refine Zz ?_;refine Zt ?_;refine Zz ?_;refine Zx [(33,.q [.v (.int .i64 s[j].1),.sl 2 (eTys s[j].2.binds) none,.v (.int .i64 s[j].2.kind),.v (.int .i64 s[j].2.index),.sl 4 (eTms s[j].2.args) none])] ZU hnt λ K hK=>?_
     refine And.intro (XQ (Zf s)) ?_;refine And.intro (XR (ZP s j) (ZG _)) ?_;refine hK _ _ ?_;clear hK K;refine Zx [(38,.v (.bool true)),(44,.v (.int .i64 (↑q.m.length))),(45,.v (.bool true))] ZU hnt λ K hK=>?_;refine And.intro (Z7 (by omega)) ?_;refine And.intro (Zr (by rw[Zs])) ?_;refine And.intro (Z7 h1) ?_;refine Zk (hm) ?_;refine hK _ _ ?_;clear hK K
     refine Zx [(48,.v (.int .i64 (↑(j+1))))] ZU hnt λ K hK=>?_;refine And.intro Ww ?_;refine hK _ _ ?_;clear hK K
     refine⟨⟨j+1,hlt⟩,by first | omega | (dsimp only;omega),VS.toA⟩
    rw[decide_eq_false (λ h=>h1 h.2)] at hn
    have hm:=hm1 j false
    rw[<-hn] at hm
    refine Zz ?_;refine Zx [(32,.v (.bool true))] ZU hnt λ K hK=>?_;refine And.intro Xd ?_;refine hK _ _ ?_;clear hK K;refine Zz ?_;refine Zy (t:=true) rfl ?_;rw[if_pos rfl];refine Zw ?_;refine Zz ?_;refine Zt ?_;refine Zz ?_;refine Zx [(33,.q [.v (.int .i64 s[j].1),.sl 2 (eTys s[j].2.binds) none,.v (.int .i64 s[j].2.kind),.v (.int .i64 s[j].2.index),.sl 4 (eTms s[j].2.args) none])] ZU hnt λ K hK=>?_
    refine And.intro (XQ (Zf s)) ?_;refine And.intro (XR (ZP s j) (ZG _)) ?_;refine hK _ _ ?_;clear hK K;refine Zx [(38,.v (.bool true)),(44,.v (.int .i64 (↑q.m.length))),(45,.v (.bool false))] ZU hnt λ K hK=>?_;refine And.intro (Z7 (by omega)) ?_;refine And.intro (Zr (by rw[Zs])) ?_;refine And.intro (Ze h1) ?_;refine Zk (hm) ?_;refine hK _ _ ?_;clear hK K
    refine Zx [(48,.v (.int .i64 (↑(j+1))))] ZU hnt λ K hK=>?_;refine And.intro Ww ?_;refine hK _ _ ?_;clear hK K
    refine⟨⟨j+1,hlt⟩,by first | omega | (dsimp only;omega),VS.toA⟩
   rw[decide_eq_false (λ h=>h0 h.1)] at hn
   have hm:=hm1 j false
   rw[<-hn] at hm
   refine Zz ?_;refine Zx [(32,.v (.bool true))] ZU hnt λ K hK=>?_;refine And.intro Xd ?_;refine hK _ _ ?_;clear hK K;refine Zz ?_;refine Zy (t:=true) rfl ?_;rw[if_pos rfl];refine Zw ?_;refine Zz ?_;refine Zt ?_;refine Zz ?_;refine Zx [(33,.q [.v (.int .i64 s[j].1),.sl 2 (eTys s[j].2.binds) none,.v (.int .i64 s[j].2.kind),.v (.int .i64 s[j].2.index),.sl 4 (eTms s[j].2.args) none])] ZU hnt λ K hK=>?_
   refine And.intro (XQ (Zf s)) ?_;refine And.intro (XR (ZP s j) (ZG _)) ?_;refine hK _ _ ?_;clear hK K;refine Zx [(38,.v (.bool false))] ZU hnt λ K hK=>?_;refine And.intro (Ze (by omega)) ?_;refine Zk (hm) ?_;refine hK _ _ ?_;clear hK K;refine Zx [(48,.v (.int .i64 (↑(j+1))))] ZU hnt λ K hK=>?_;refine And.intro Ww ?_;refine hK _ _ ?_;clear hK K
   refine⟨⟨j+1,hlt⟩,by first | omega | (dsimp only;omega),VS.toA⟩
  have hje:j=s.length:=by omega
  subst hje
  refine Zz ?_;refine Zx [(32,.v (.bool false))] ZU hnt λ K hK=>?_;refine And.intro X5 ?_;refine hK _ _ ?_;clear hK K;refine Zz ?_;refine Zy (t:=false) rfl ?_;rw[if_neg (by simp)];refine Zg ?_;refine Zz ?_;refine Zx [(50,.v (.int .i64 (↑s.length)))] ZU hnt λ K hK=>?_;refine And.intro (Zr (by rw[Zf])) ?_;refine hK _ _ ?_;clear hK K
  refine Zt ?_
  refine Z6 (ι:={ n:Nat // n<=s.length }) (λ n=>[(.t 0,.p 0 0),(.t 3,.sl 2 (eTys ar) none),(.t 5,.p 2 0),(.t 49,.sl 5 (Z5 s) none),(.t 50,.v (.int .i64 ↑s.length)),(.t 51,.v (.int .i64 ↑n.1)),(.c 2 8,.sl 2 (eTys q.m) none),(.c 0 0,.v (.int .i64 b)),(.c 0 1,.sl 2 (eTys C) none),(.c 0 2,.sl 2 (eTys Mw) none),(.c 0 3,.sl 9 (Yt eqs) none),(.c 0 4,.v (.int .i64 (G n.1)))]) 120 (λ n=>s.length-n.1) (⟨0,Nat.zero_le _⟩) ((by try simp only[List.length_append,List.length_take,List.length_cons,List.length_nil,Nat.zero_add,hG0];exact VS.toA)) λ n=>?_
  obtain⟨n,hn0⟩:=n
  dsimp only
  by_cases hlt:n<s.length
  ·have hn:=hGn n hlt
   by_cases hg:G n=0
   ·rw[if_pos hg] at hn
    obtain⟨r1,r2⟩:=hGr n hg _ (List.getElem_mem hlt)
    obtain⟨z,hz⟩:∃ z:Nat,s[n].1=z:=⟨s[n].1.toNat,by omega⟩
    have hzl:z<q.m.length:=by omega
    have hgd:q.m.getD s[n].1.toNat (.mk [] 0)=q.m[z]:=by rw[hz,Int.toNat_natCast,List.getD_eq_getElem?_getD,List.getElem?_eq_getElem hzl];rfl
    rw[hgd] at hn
    have hck:=Rj b C Mw ar s[n].2 q.m[z] (code ar s[n].2 q.m[z]) hCl hMl (hc _ _ _) (by have:=(hs _ (List.getElem_mem hlt)).1;omega) (hs _ (List.getElem_mem hlt)).2
    rw[Zu,Zc] at hck
    by_cases hcd:code ar s[n].2 q.m[z]=0
    ·rw[decide_eq_true hcd] at hn
     have hm:=hm2 n true
     rw[<-hn] at hm
     refine Zz ?_;refine Zx [(52,.v (.bool true))] ZU hnt λ K hK=>?_;refine And.intro Xd ?_;refine hK _ _ ?_;clear hK K;refine Zz ?_;refine Zy (t:=true) rfl ?_;rw[if_pos rfl];refine Zw ?_;refine Zz ?_;refine Zt ?_;refine Zz ?_;refine Zx [(53,.q [.v (.int .i64 s[n].1),.sl 2 (eTys s[n].2.binds) none,.v (.int .i64 s[n].2.kind),.v (.int .i64 s[n].2.index),.sl 4 (eTms s[n].2.args) none])] ZU hnt λ K hK=>?_
     refine And.intro (XQ (Zf s)) ?_;refine And.intro (XR (ZP s n) (ZG _)) ?_;refine hK _ _ ?_;clear hK K;refine Zz ?_;refine Zx [(59,.v (.bool true))] ZU hnt λ K hK=>?_;refine And.intro (YT hg) ?_;refine hK _ _ ?_;clear hK K;refine Zy (t:=true) rfl ?_;rw[if_pos rfl];refine ZQ [(71,.v (.int .i64 (↑z))),(72,.q [.sl 2 (eTys q.m[z].args) none,.v (.int .i64 q.m[z].base)]),(75,.v (.bool true))] ZU hnt λ K hK=>?_
     refine And.intro (Zr (by exact hz)) ?_;refine And.intro (XQ (Zs q.m)) ?_;refine And.intro (XR (ZV q.m z) (Zc _)) ?_;refine Zk (hck) ?_;refine And.intro (YT hcd) ?_;refine Zk (hm) ?_;refine hK _ _ (by kernel_rfl) ?_;clear hK K;refine Zx [(77,.v (.int .i64 (↑(n+1))))] ZU hnt λ K hK=>?_;refine And.intro Ww ?_;refine hK _ _ ?_;clear hK K
     refine⟨⟨n+1,hlt⟩,by first | omega | (dsimp only;omega),VS.toA⟩
    rw[decide_eq_false hcd] at hn
    have hm:=hm2 n false
    rw[<-hn] at hm
    refine Zz ?_;refine Zx [(52,.v (.bool true))] ZU hnt λ K hK=>?_;refine And.intro Xd ?_;refine hK _ _ ?_;clear hK K;refine Zz ?_;refine Zy (t:=true) rfl ?_;rw[if_pos rfl];refine Zw ?_;refine Zz ?_;refine Zt ?_;refine Zz ?_;refine Zx [(53,.q [.v (.int .i64 s[n].1),.sl 2 (eTys s[n].2.binds) none,.v (.int .i64 s[n].2.kind),.v (.int .i64 s[n].2.index),.sl 4 (eTms s[n].2.args) none])] ZU hnt λ K hK=>?_
    refine And.intro (XQ (Zf s)) ?_;refine And.intro (XR (ZP s n) (ZG _)) ?_;refine hK _ _ ?_;clear hK K;refine Zz ?_;refine Zx [(59,.v (.bool true))] ZU hnt λ K hK=>?_;refine And.intro (YT hg) ?_;refine hK _ _ ?_;clear hK K;refine Zy (t:=true) rfl ?_;rw[if_pos rfl];refine ZQ [(71,.v (.int .i64 (↑z))),(72,.q [.sl 2 (eTys q.m[z].args) none,.v (.int .i64 q.m[z].base)]),(75,.v (.bool false))] ZU hnt λ K hK=>?_
    refine And.intro (Zr (by exact hz)) ?_;refine And.intro (XQ (Zs q.m)) ?_;refine And.intro (XR (ZV q.m z) (Zc _)) ?_;refine Zk (hck) ?_;refine And.intro (XM hcd) ?_;refine Zk (hm) ?_;refine hK _ _ (by kernel_rfl) ?_;clear hK K;refine Zx [(77,.v (.int .i64 (↑(n+1))))] ZU hnt λ K hK=>?_;refine And.intro Ww ?_;refine hK _ _ ?_;clear hK K
    refine⟨⟨n+1,hlt⟩,by first | omega | (dsimp only;omega),VS.toA⟩
   rw[if_neg hg] at hn;refine Zz ?_;refine Zx [(52,.v (.bool true))] ZU hnt λ K hK=>?_;refine And.intro Xd ?_;refine hK _ _ ?_;clear hK K;refine Zz ?_;refine Zy (t:=true) rfl ?_;rw[if_pos rfl];refine Zw ?_;refine Zz ?_;refine Zt ?_;refine Zz ?_;refine Zx [(53,.q [.v (.int .i64 s[n].1),.sl 2 (eTys s[n].2.binds) none,.v (.int .i64 s[n].2.kind),.v (.int .i64 s[n].2.index),.sl 4 (eTms s[n].2.args) none])] ZU hnt λ K hK=>?_
   refine And.intro (XQ (Zf s)) ?_;refine And.intro (XR (ZP s n) (ZG _)) ?_;refine hK _ _ ?_;clear hK K;refine Zz ?_;refine Zx [(59,.v (.bool false))] ZU hnt λ K hK=>?_;refine And.intro (XM hg) ?_;refine hK _ _ ?_;clear hK K;refine Zy (t:=false) rfl ?_;rw[if_neg (by simp)]
   rw[<-hn]
   refine Zw ?_;refine Zx [(77,.v (.int .i64 (↑(n+1))))] ZU hnt λ K hK=>?_;refine And.intro Ww ?_;refine hK _ _ ?_;clear hK K
   refine⟨⟨n+1,hlt⟩,by first | omega | (dsimp only;omega),VS.toA⟩
  have hne:n=s.length:=by omega
  subst hne
  refine Zz ?_;refine Zx [(52,.v (.bool false))] ZU hnt λ K hK=>?_;refine And.intro X5 ?_;refine hK _ _ ?_;clear hK K;refine Zz ?_;refine Zy (t:=false) rfl ?_;rw[if_neg (by simp)];refine Zg ?_
  exact Zi rfl
def TAT:List (Nat×TI):=[(62,TG_62),(41,TG_41),(3,TG_3),(60,TG_60),(106,TG_106),(71,TTY_71)]
theorem YY:Zd Tryz.prog TAT:=(((((((Zd.nil _).cons YV).cons Yx).cons Xs).cons ZW).cons Ym).cons Yu)
theorem O1 (a:Option Addr)(c nm:Nat):Vn Tryz.prog 135 [.v (.slice a 0 c)] [] nm [(.r nm,.rp 106 2 [])] (.ps nm 0):=by
 refine Xe 8 [ResultVar.tmp 2] YY (by kernel_rfl) Tryz.func135 rfl Tryz.ntmps135 rfl (by simp) (by simp[D.ok]) (by simp[D.okss]) ?dbody nm
 case dbody=>
  intro cx hnt hn0
  refine Zz ?_;refine Zx [] YY hnt λ _ z9=>z9 _ _ ?_
  cases a with
  | none=>
   refine Zz ?_;refine Zz ?_;refine Zx [(4,.v (.bool true))] YY hnt λ K hK=>?_;refine And.intro (Zm.refl _) ?_;refine hK _ _ ?_;clear hK K;refine Zy (t:=true) rfl ?_;rw[if_pos rfl];refine Zz ?_;refine Zx [] YY hnt λ _ z9=>z9 _ _ ?_
   refine DW.vs (VS.rowPT (x:=2) (by rw[hnt];decide) 106 2 rfl) ?_
   refine Zv ?_
   exact⟨.inr rfl,_,rfl,rfl⟩
  | some a=>
   refine Zz ?_;refine Zz ?_;refine Zx [(4,.v (.bool false))] YY hnt λ K hK=>?_;refine And.intro (Zm.refl _) ?_;refine hK _ _ ?_;clear hK K;refine Zy (t:=false) rfl ?_;rw[if_neg (by simp)];refine Zw ?_;refine Zz ?_;refine Zx [(5,.ps 3 0)] YY hnt λ K hK=>?_;refine And.intro (Zm.ps0 _ _) ?_;refine And.intro (by decide) ?_;refine hK _ _ ?_;clear hK K
   refine Zv ?_
   exact⟨.inr rfl,_,rfl,rfl⟩
theorem P8 (x:Ty)(l:List Ty)(hl:l.length<=900000)(nm:Nat):Vn Tryz.prog 135 [.sl 2 (eTys (x :: l)) none] [] nm [(.r nm,.rp 106 2 (eTys (x :: l)))] (.ps nm (x :: l).length):=by
 refine Xe 8 [ResultVar.tmp 2] YY (by kernel_rfl) Tryz.func135 rfl Tryz.ntmps135 rfl (by simp) (by simp[D.ok,Yi]) (by simp[D.okss,Yi]) ?dbody nm
 case dbody=>
  intro cx hnt hn0
  refine Zz ?_;refine Zx [] YY hnt λ _ z9=>z9 _ _ ?_;refine Zz ?_;refine Zz ?_;refine Zx [(4,.v (.bool false))] YY hnt λ K hK=>?_;refine And.intro (Zm.refl _) ?_;refine hK _ _ ?_;clear hK K;refine Zy (t:=false) rfl ?_;rw[if_neg (by simp)];refine Zw ?_;refine Zz ?_;refine Zx [(5,.ps 3 0)] YY hnt λ K hK=>?_;refine And.intro (Zm.ps0 _ _) ?_
  refine And.intro (by rw[Zs];simp;omega) ?_;refine hK _ _ ?_;clear hK K;refine Zv ?_
  exact⟨.inr rfl,3,by rw[show (x :: l).length=(eTys (x :: l)).length by rw[Zs]];rfl,rfl⟩
theorem Kq (l:List Ty)(hl:l.length<=900000)(nm:Nat):Vn Tryz.prog 135 [.sl 2 (eTys l) none] [] nm [(.r nm,.rp 106 2 (eTys l))] (.ps nm l.length):=by
 cases l with
 | cons x l=>exact P8 x l (by simp at hl;omega) nm
 | nil=>
  refine⟨by kernel_rfl,λ cx Fr m Im w a σ vs hnm hs hv hR=>?_⟩
  match vs,hv with
  | [v],hv=>
   obtain⟨a0,c,bl,off,X,rfl,_⟩:=Wk hv.1
   exact(O1 a0 c nm).2 cx Fr m Im w a σ _ hnm hs ⟨.v _,trivial⟩ hR
def NV (r:Option (Tm×List Ty)):D:=match r with
 | some r=>.tu [.ag (eTm r.1),.sl 2 (eTys r.2) none,.v (.int .i64 0)]
 | none=>.tu [.ag (eTm Tm.zero),.sl 2 [] none,.v (.int .i64 10)]
theorem Kc (t:Tm)(p:List Int)(j:Nat)(hj:j<p.length)(u:Tm)(l:List Ty)(h:Pn.atP (p.take j) t=some (u,l)):
  Pn.atP (p.take (j+1)) t=if 0<=p[j]/\p[j]<(u.args.length:Int) then some (u.args.getD p[j].toNat Tm.zero,l++(u.args.getD p[j].toNat Tm.zero).binds) else none:=by
 rw[List.take_add_one,List.getElem?_eq_getElem hj,Option.toList_some,Pn.atP_app,h]
 show (Pn.atP [p[j]] u).map _=_
 rw[Pn.atP]
 by_cases hc:0<=p[j]/\p[j]<(u.args.length:Int)
 ·rw[if_pos hc,if_pos hc,Pn.atP]
  simp
 rw[if_neg hc,if_neg hc];rfl
theorem Ke (t:Tm)(p:List Int)(j:Nat)(hj:j<p.length)(h:Pn.atP (p.take (j+1)) t=none):Pn.atP p t=none:=by
 rw[<-List.take_append_drop (j+1) p,Pn.atP_app,h];rfl
theorem SH {P:Tm->Prop}(hP:∀ u,P u->∀ x∈u.args,P x):∀ (p:List Int) (t:Tm) (r:Tm×List Ty),P t->Pn.atP p t=some r->P r.1
 | [],t,r,ht,h=>by rw[Pn.atP] at h;cases h;exact ht
 | j :: p,t,r,ht,h=>by
  rw[Pn.atP] at h
  split at h
  ·rename_i hj
   cases h2:Pn.atP p (t.args.getD j.toNat Tm.zero) with
   | none=>rw[h2] at h;cases h
   | some r'=>
    rw[h2] at h;cases h
    have hlt:j.toNat<t.args.length:=by omega
    have e:t.args.getD j.toNat Tm.zero=t.args[j.toNat]:=by rw[List.getD_eq_getElem?_getD,List.getElem?_eq_getElem hlt];rfl
    rw[e] at h2
    exact SH hP p _ r' (hP _ ht _ (List.getElem_mem hlt)) h2
  cases h
@[simp] theorem G7 (f g:Nat->Bool) (r:Option (Tm×List Ty)):D.ok f g (NV r)=true:=by
 cases r <;> simp[NV,D.ok,D.oks,D.okss,YK,Yi]
theorem SY (u:Tm)(h:u.Fit):∀ x∈u.args,x.Fit:=by
 obtain⟨b,k,i,a⟩:=u
 exact(Tm.fit_iff.1 h).2.2
set_option maxHeartbeats 2000000 in
theorem HW (t:Tm)(p:List Int)(hz:t.full<=780000)(hf:t.Fit)(hp:p.length<=100000):Zh Tryz.prog 121 [.ag (eTm t),.sl 1 (YJ p) none] (NV (Pn.atP p t)):=by
 have hbl:=Ty.le_sizes t.binds
 have hft:=XD t
 have hcl:=Kq t.binds (by omega)
 rw[Zu]
 refine Zn 0 45 [ResultVar.cell 4 62,ResultVar.tmp 5,ResultVar.tmp 6] YY Tryz.func121 rfl Tryz.ntmps121 rfl λ cx hnt hn0=>?_
 skip
 refine Zz ?_;refine Zx [] YY hnt λ _ z9=>z9 _ _ ?_;refine Zz ?_;refine Zx [] YY hnt λ K hK=>?_;refine H6 (hcl _) ?_;refine hK _ _ ?_;clear hK K;refine Zz ?_;refine Zz ?_;refine Zx [(14,.v (.int .i64 (↑p.length)))] YY hnt λ K hK=>?_;refine And.intro (Zr (by rw[Zb])) ?_;refine hK _ _ ?_;clear hK K;refine Zt ?_
 refine Z6 (ι:={ x:Nat×Tm×List Ty // x.1<=p.length/\Pn.atP (p.take x.1) t=some x.2 }) (λ x=>[(.t 2,.p 0 0),(.t 4,.p 1 0),(.t 7,.ps 6 x.1.2.2.length),(.t 13,.sl 1 (YJ p) none),(.t 14,.v (.int .i64 ↑p.length)),(.t 15,.v (.int .i64 ↑x.1.1)),(.r 6,.rp 106 2 (eTys x.1.2.2)),(.c 0 0,.sl 2 (eTys x.1.2.1.binds) none),(.c 0 1,.v (.int .i64 x.1.2.1.kind)),(.c 0 2,.v (.int .i64 x.1.2.1.index)),(.c 0 3,.sl 4 (eTms x.1.2.1.args) none),(.c 1 0,.v (.slice none 0 0)),(.c 1 1,.v (.int .i64 0)),(.c 1 2,.v (.int .i64 0)),(.c 1 3,.v (.slice none 0 0))]) 7 (λ x=>p.length-x.1.1) (⟨(0,t,t.binds),Nat.zero_le _,by simp[Pn.atP]⟩) (VS.toA) λ x=>?_
 obtain⟨⟨j,u,l⟩,hj,hu⟩:=x
 dsimp only at hj hu
 dsimp only
 obtain⟨hs1,hs2,hs3,hs4⟩:=WB _ _ _ hu
 have hfu:u.Fit:=SH SY _ _ _ hf hu
 dsimp only at hs1 hs2 hs3 hs4
 have hfa:=XD u
 by_cases hlt:j<p.length
 ·have hst:=Kc t p j hlt u l hu
  by_cases hc:0<=p[j]/\p[j]<(u.args.length:Int)
  ·rw[if_pos hc] at hst
   obtain⟨n,hn⟩:∃ n:Nat,p[j]=n:=⟨p[j].toNat,by omega⟩
   have hlt2:n<u.args.length:=by omega
   have e:u.args.getD p[j].toNat Tm.zero=u.args[n]:=by rw[hn,Int.toNat_natCast,List.getD_eq_getElem?_getD,List.getElem?_eq_getElem hlt2];rfl
   rw[e] at hst
   obtain⟨x,hx⟩:∃ x,u.args[n]=x:=⟨_,rfl⟩
   rw[hx] at hst
   have hsn:=(WB _ _ _ hst).2.2.1
   dsimp only at hsn
   rw[List.length_append] at hsn
   have hgx:(eTms u.args).getD n []=[.sl 2 (eTys x.binds) none,.v (.int .i64 x.kind),.v (.int .i64 x.index),.sl 4 (eTms x.args) none]:=by rw[ZT u.args n hlt2,hx,Zu]
   refine Zz ?_;refine Zx [(16,.v (.bool true))] YY hnt λ K hK=>?_;refine And.intro Xd ?_;refine hK _ _ ?_;clear hK K;refine Zz ?_;refine Zy (t:=true) rfl ?_;rw[if_pos rfl];refine Zw ?_;refine Zz ?_;refine Zt ?_;refine Zz ?_;refine Zx [(17,.q [.v (.int .i64 (p[j]))])] YY hnt λ K hK=>?_;refine And.intro (XQ (Zb p)) ?_;refine And.intro (XR (Xu p j) rfl) ?_
   refine hK _ _ ?_;clear hK K;refine Zz ?_;refine Zz ?_;refine Zx [(20,.v (.bool false)),(25,.v (.int .i64 (↑u.args.length))),(26,.v (.bool false))] YY hnt λ K hK=>?_;refine And.intro X5 ?_;refine And.intro (Zr (by rw[Zq])) ?_;refine And.intro X5 ?_;refine hK _ _ ?_;clear hK K;refine Zy (t:=false) rfl ?_;rw[if_neg (by simp)];refine Zw ?_;refine Zz ?_
   refine Zx [(31,.v (.int .i64 (↑n))),(32,.q [.sl 2 (eTys x.binds) none,.v (.int .i64 x.kind),.v (.int .i64 x.index),.sl 4 (eTms x.args) none])] YY hnt λ K hK=>?_;refine And.intro (Zr (by exact hn)) ?_;refine And.intro (⟨by omega,by rw[Zq];omega⟩) ?_;refine And.intro (Zm.of_eq (by rw[Int.toNat_natCast,hgx])) ?_;refine hK _ _ ?_;clear hK K;refine Zx [(37,.ps 6 (l.length+x.binds.length))] YY hnt λ K hK=>?_
   refine And.intro (⟨by rw[Zs],by rw[Zs,Zs];omega⟩) ?_;refine And.intro (Zm.of_eq (by rw[Zs])) ?_;refine hK _ _ ?_;clear hK K
   rw[<-Wn,<-List.length_append]
   refine Zx [(38,.v (.int .i64 (↑(j+1))))] YY hnt λ K hK=>?_;refine And.intro Ww ?_;refine hK _ _ ?_;clear hK K
   refine⟨⟨(j+1,x,l++x.binds),by omega,hst⟩,by first | omega | (dsimp only;omega),VS.toA⟩
  rw[if_neg hc] at hst
  rw[Ke t p j hlt hst]
  by_cases h0:p[j]<0
  ·skip
   refine Zz ?_;refine Zx [(16,.v (.bool true))] YY hnt λ K hK=>?_;refine And.intro Xd ?_;refine hK _ _ ?_;clear hK K;refine Zz ?_;refine Zy (t:=true) rfl ?_;rw[if_pos rfl];refine Zw ?_;refine Zz ?_;refine Zt ?_;refine Zz ?_;refine Zx [(17,.q [.v (.int .i64 (p[j]))])] YY hnt λ K hK=>?_;refine And.intro (XQ (Zb p)) ?_;refine And.intro (XR (Xu p j) rfl) ?_
   refine hK _ _ ?_;clear hK K;refine Zz ?_;refine Zz ?_;refine Zx [(20,.v (.bool true))] YY hnt λ K hK=>?_;refine And.intro Xd ?_;refine hK _ _ ?_;clear hK K;refine Zy (t:=true) rfl ?_;rw[if_pos rfl];refine Zz ?_;refine Zx [] YY hnt λ _ z9=>z9 _ _ ?_;refine Zv ?_
   exact Zi rfl
  skip
  refine Zz ?_;refine Zx [(16,.v (.bool true))] YY hnt λ K hK=>?_;refine And.intro Xd ?_;refine hK _ _ ?_;clear hK K;refine Zz ?_;refine Zy (t:=true) rfl ?_;rw[if_pos rfl];refine Zw ?_;refine Zz ?_;refine Zt ?_;refine Zz ?_;refine Zx [(17,.q [.v (.int .i64 (p[j]))])] YY hnt λ K hK=>?_;refine And.intro (XQ (Zb p)) ?_;refine And.intro (XR (Xu p j) rfl) ?_
  refine hK _ _ ?_;clear hK K;refine Zz ?_;refine Zz ?_;refine Zx [(20,.v (.bool false)),(25,.v (.int .i64 (↑u.args.length))),(26,.v (.bool true))] YY hnt λ K hK=>?_;refine And.intro X5 ?_;refine And.intro (Zr (by rw[Zq])) ?_;refine And.intro Xd ?_;refine hK _ _ ?_;clear hK K;refine Zy (t:=true) rfl ?_;rw[if_pos rfl];refine Zz ?_;refine Zx [] YY hnt λ K hK=>?_
  refine hK _ _ ?_;clear hK K;refine Zv ?_
  exact Zi rfl
 have hjp:p.take j=p:=List.take_of_length_le (by omega)
 rw[hjp] at hu
 rw[hu,show NV (some (u,l))=.tu [.ag [.sl 2 (eTys u.binds) none,.v (.int .i64 u.kind),.v (.int .i64 u.index),.sl 4 (eTms u.args) none],.sl 2 (eTys l) none,.v (.int .i64 0)] by rw[<-Zu];rfl]
 have hcp:=VN u (by omega) hfu
 have hs0:(Ty.mk [] 0).size=1:=by simp[Ty.size,Ty.sizes]
 have harr:=Sz (.mk [] 0) l (by omega)
 dsimp only[Ty.args,Ty.base] at harr
 rw[List.append_nil,Zc,Zc] at harr
 dsimp only[Ty.args,Ty.base,eTys] at harr
 rw[Zu] at hcp
 refine Zz ?_;refine Zx [(16,.v (.bool false))] YY hnt λ K hK=>?_;refine And.intro X5 ?_;refine hK _ _ ?_;clear hK K;refine Zz ?_;refine Zy (t:=false) rfl ?_;rw[if_neg (by simp)]
 refine RM (x:=7) (g:=6) rfl rfl (Zs _) ?_
 rw[Zs]
 refine Zg ?_;refine Zz ?_;refine Zx [(41,.ag [.sl 2 [] none,.v (.int .i64 0)]),(42,.sl 2 (eTys l) none)] YY hnt λ K hK=>?_;refine Zk (hcp) ?_;refine And.intro (XP) ?_;refine And.intro (Zm.untag _ _ _) ?_;refine Zk (harr) ?_;refine hK _ _ ?_;clear hK K;refine Zv ?_
 exact Zi rfl
def TAUE_86:TI:=⟨4,true,[Value.int IntKind.i64 0,Value.bool false,Value.slice none 0 0,Value.slice none 0 0],[(0,1,false),(1,1,false),(2,1,false),(3,1,false)],none,64,6,none,false⟩
theorem Xl:TypOk Tryz.prog 86 TAUE_86:=by constructor <;> kernel_rfl
def TAUE_34:TI:=⟨1,false,[Value.slice none 0 0],[],some 64,24,5,none,false⟩
theorem YM:TypOk Tryz.prog 34 TAUE_34:=by constructor <;> kernel_rfl
def TAUE_78:TI:=⟨1,false,[Value.slice none 0 0],[],some 86,24,5,none,false⟩
theorem Xk:TypOk Tryz.prog 78 TAUE_78:=by constructor <;> kernel_rfl
def TAUE:List (Nat×TI):=[(62,TG_62),(86,TAUE_86),(50,TN1_50),(138,TAUB_138),(140,TAUB_140),(3,TG_3),(64,TPR_64),(84,TS1_84),(4,TAUB_4),(34,TAUE_34),(78,TAUE_78),(43,TRT6_43),(71,TTY_71),(41,TG_41),(106,TG_106),(110,TS1_110)]
theorem ZZ:Zd Tryz.prog TAUE:=(((((((((((((((((Zd.nil _).cons YG).cons Yx).cons Ym).cons YV).cons Yb).cons Xk).cons YM).cons WX).cons Xb).cons Yk).cons ZW).cons WT).cons WS).cons Y0).cons Xl).cons Yu)
def Nl (x:Au.St):List D:=[.v (.int .i64 x.eq),.v (.bool x.back),.sl 1 (YJ x.path) none,.sl 5 (Z5 x.s) none]
@[simp] theorem IH (f g:Nat->Bool) (x:Au.St):D.oks f g (Nl x)=true:=by simp[Nl,D.oks,D.ok]
theorem J9 (t:Tm)(hsz:t.full<=900000)(hfit:t.Fit):Zh Tryz.prog 124 [.ag (eTm t)] (.ag (eTm (Pn.nb t))):=by
 have h:=VN t hsz hfit
 rw[Zu] at h ⊢
 rw[show eTm (Pn.nb t)=[.sl 2 [] none,.v (.int .i64 t.kind),.v (.int .i64 t.index),.sl 4 (eTms t.args) none] by rw[Zu];rfl]
 refine Zn 0 8 [ResultVar.cell 2 62] ZZ Tryz.func124 rfl Tryz.ntmps124 rfl λ cx hnt hn0=>?_
 skip
 refine Zz ?_;refine Zx [] ZZ hnt λ _ z9=>z9 _ _ ?_;refine Zz ?_;refine Zx [] ZZ hnt λ K hK=>?_;refine Zk (h) ?_;refine hK _ _ ?_;clear hK K;refine Zz ?_;refine Zx [] ZZ hnt λ _ z9=>z9 _ _ ?_;refine Zz ?_;refine Zx [] ZZ hnt λ _ z9=>z9 _ _ ?_;refine Zv ?_
 exact Zi rfl
theorem Bnd.mono170 {t:Tm}:Bnd 150 t->Bnd 170 t:=by
 induction t using Tm.ind with
 | h b k i a ih=>exact λ ht=>.mk _ _ _ _ (by have:=ht.inv.1;omega) ht.inv.2.1 λ u hu=>ih u hu (ht.inv.2.2 u hu)
namespace Au
theorem repl_full {t c:Tm}{p:List Int}(h1:t.full<=800000)(h2:c.full<=800000):(repl t c p).1.full<=17100000:=by
 unfold repl
 by_cases hb:c.binds≠[]
 ·rw[if_pos hb];show Tm.zero.full<=17100000;decide
 rw[if_neg hb]
 cases hx:replP p t c with
 | none=>show Tm.zero.full<=17100000;decide
 | some o=>
  have:=(VZ p t c o hx).2.1
  show o.full<=17100000
  omega
theorem img_bnd {s:List (Int×Tm)}{t:Tm}{e:Int}(hs:∀ q∈s,Bnd 150 q.2)(ht:Bnd 150 t):Bnd 150 (img s t e).1/\(img s t e).1.size<=5000:=by
 unfold img
 by_cases he:e≠0
 ·rw[if_pos he];exact⟨Bnd.tz,by show Tm.zero.size<=5000;decide⟩
 rw[if_neg he]
 have hle:=O9 (l:=s) (t:=t) (left:=100000) (dry:=false) hs ht ⟨by decide,by decide⟩
 dsimp only
 by_cases h0:(Sb.apply s t 100000 false).2.e=0
 ·exact⟨(hle h0).2.2,(hle h0).2.1.1⟩
 have hz:(Sb.apply s t 100000 false).1=Nm.tz:=by
  unfold Sb.apply at h0 ⊢
  by_cases hr:Sb.right s=false
  ·rw[if_pos hr]
  rw[if_neg hr] at h0 ⊢
  dsimp only at h0 ⊢
  generalize Sb.through s t 0 ⟨100000,false,0,0⟩=r at h0 ⊢
  by_cases hc:r.2.e=0/\¬ (r.1.size<=5000/\r.1.depth<=60)
  ·rw[if_pos hc]
   exact congrArg Prod.fst (if_pos (α:=Tm×Nm.St) (t:=(Nm.tz,{ r.2 with e:=2 })) (e:=(r.1,{ r.2 with e:=2 })) (show (2:Int)≠0 by decide))
  rw[if_neg hc] at h0 ⊢
  by_cases hr2:r.2.e=0
  ·rw[if_neg (λ h=>h hr2)] at h0;exact absurd hr2 h0
  rw[if_pos hr2]
 rw[hz];exact⟨Bnd.tz,by decide⟩
def EqOk (q:Li.Pr):Prop:=(q.l.full<=150/\Bnd 150 q.l)/\(q.r.full<=150/\Bnd 150 q.r)/\q.m.length<=1000
def SOk (x:St):Prop:=x.s.length<=1000/\(∀ q∈x.s,q.2.full<=150/\q.2.Fit)/\x.path.length<=10000
end Au
set_option maxRecDepth 100000 in
set_option maxHeartbeats 8000000 in
theorem Iv (b:Int)(C Mw:List Ty)(eqs:List Li.Pr)(e:Int)(t:Tm)(x:Au.St)(code:List Ty->Tm->Ty->Int)(hc:∀ X t u,Yp C Mw t X u (code X t u))(hCl:C.length<=1000000)(hMl:Mw.length<=1000000) 
  (hel:eqs.length<=1000) (hes:∀ q∈eqs,Au.EqOk q) (hx:Au.SOk x) (ht:t.size<=5000/\Bnd 150 t/\t.full<=760000) :
  ZB Tryz.prog 97 [.p 0 0,.ag (eTm t),.ag (Nl x)] (Au.ck b C Mw eqs e) (Au.ck b C Mw eqs (Au.step code eqs x (t,e)).2) (.ag (eTm (Au.step code eqs x (t,e)).1)):=by
 obtain⟨hx1,hx2,hx3⟩:=hx
 obtain⟨ht1,ht2,ht3⟩:=ht
 have hsw:∀ q∈x.s,Bnd 150 q.2/\Yv q.2:=λ q hq=>⟨Bnd.of_full q.2 (hx2 q hq).1 (hx2 q hq).2,Wd _ (by have:=(hx2 q hq).1;omega)⟩
 have hsb:∀ q∈x.s,Bnd 150 q.2:=λ q hq=>(hsw q hq).1
 have hAt:=HW t x.path (by omega) (Bnd.fit _ ht2) (by omega)
 obtain⟨is,his⟩:∃ is,decide (0<=x.eq/\x.eq<(eqs.length:Int))=is:=⟨_,rfl⟩
 obtain⟨e1,he1⟩:∃ e1,Au.must e is 10=e1:=⟨_,rfl⟩
 have hm1:=W4 b C Mw eqs e 10 is
 rw[he1] at hm1
 have hm2f:=W4 b C Mw eqs e1 10 false
 have hm2t:=W4 b C Mw eqs e1 10 true
 rw[Au.must_true] at hm2t
 have hm2f:ZB _ _ _ _ _ _:=hm2f
 obtain⟨⟨o,oe⟩,hO⟩:∃ r,Au.step code eqs x (t,e)=r:=⟨_,rfl⟩
 rw[hO]
 unfold Au.step at hO
 dsimp only at hO ⊢
 rw[his,he1] at hO
 generalize hat:Pn.atP x.path t=r at hAt hO
 unfold Nl
 rw[Zu t,Zu o]
 unfold Au.ck at hm1 hm2f hm2t ⊢
 refine Zn 2 117 [ResultVar.cell 6 62] ZZ Tryz.func97 rfl Tryz.ntmps97 rfl λ cx hnt hn0=>?_
 skip
 refine Zz ?_;refine Zx [] ZZ hnt λ _ z9=>z9 _ _ ?_
 refine Wi (τ:=[(.t 0,.p 0 0),(.t 4,.p 2 0),(.t 5,.p 3 0),(.t 6,.p 4 0),(.c 2 0,.sl 2 (eTys t.binds) none),(.c 2 1,.v (.int .i64 t.kind)),(.c 2 2,.v (.int .i64 t.index)),(.c 2 3,.sl 4 (eTms t.args) none),(.c 3 0,.v (.int .i64 x.eq)),(.c 3 1,.v (.bool x.back)),(.c 3 2,.sl 1 (YJ x.path) none),(.c 3 3,.sl 5 (Z5 x.s) none),(.c 4 0,.v (.slice none 0 0)),(.c 4 1,.v (.int .i64 0)),(.c 4 2,.v (.int .i64 0)),(.c 4 3,.v (.slice none 0 0)),(.c 0 0,.v (.int .i64 b)),(.c 0 1,.sl 2 (eTys C) none),(.c 0 2,.sl 2 (eTys Mw) none),(.c 0 3,.sl 9 (Yt eqs) none),(.c 0 4,.v (.int .i64 e1))]) (N1:=60) ?_ ?_
 ·by_cases h0:0<=x.eq
  ·by_cases h1:x.eq<(eqs.length:Int)
   ·have hi:is=true:=by rw[<-his];exact decide_eq_true ⟨h0,h1⟩
    subst hi
    refine ZQ [(19,.v (.bool true)),(27,.v (.int .i64 (↑eqs.length))),(28,.v (.bool true))] ZZ hnt λ K hK=>?_;refine And.intro (Z7 (by omega)) ?_;refine And.intro (Zr (by rw[Z4])) ?_;refine And.intro (Z7 h1) ?_;refine Zk (hm1) ?_;refine hK _ _ (by kernel_rfl) ?_;clear hK K
    exact Y4 VS.toA
   have hi:is=false:=by rw[<-his];exact decide_eq_false λ h=>h1 h.2
   subst hi
   refine ZQ [(19,.v (.bool true)),(27,.v (.int .i64 (↑eqs.length))),(28,.v (.bool false))] ZZ hnt λ K hK=>?_;refine And.intro (Z7 (by omega)) ?_;refine And.intro (Zr (by rw[Z4])) ?_;refine And.intro (Ze h1) ?_;refine Zk (hm1) ?_;refine hK _ _ (by kernel_rfl) ?_;clear hK K
   exact Y4 VS.toA
  have hi:is=false:=by rw[<-his];exact decide_eq_false λ h=>h0 h.1
  subst hi
  refine ZQ [(19,.v (.bool false))] ZZ hnt λ K hK=>?_;refine And.intro (Ze (by omega)) ?_;refine Zk (hm1) ?_;refine hK _ _ (by kernel_rfl) ?_;clear hK K
  exact Y4 VS.toA
 cases r with
 | none=>
  dsimp only at hO
  have he2:Au.must e1 false 10≠0:=λ h=>by have:=(Au.must_0 (by decide) h).2;cases this
  obtain⟨rfl,rfl⟩:=Prod.mk.inj hO
  unfold NV at hAt
  dsimp only at hAt
  rw[Zu t,T7] at hAt
  refine Zz ?_;refine Zx [] ZZ hnt λ K hK=>?_;refine Zk (hAt) ?_;refine hK _ _ ?_;clear hK K;refine Zz ?_;refine Zx [(41,.v (.bool false))] ZZ hnt λ K hK=>?_;refine And.intro (XM (by decide)) ?_;refine Zk (hm2f) ?_;refine hK _ _ ?_;clear hK K;refine Zz ?_;refine Zz ?_;refine Zx [(47,.v (.bool true))] ZZ hnt λ K hK=>?_;refine And.intro (YO he2) ?_
  refine hK _ _ ?_;clear hK K;refine Zy (t:=true) rfl ?_;rw[if_pos rfl];refine Zz ?_;refine Zx [] ZZ hnt λ _ z9=>z9 _ _ ?_;refine Zv ?_
  exact Zi rfl
 | some y=>
  obtain⟨th,ar⟩:=y
  dsimp only at hO
  unfold NV at hAt
  dsimp only at hAt
  obtain⟨z1,z2,z3,z4⟩:=WB _ _ _ hat
  dsimp only at z1 z2 z3 z4
  have hthf:th.Fit:=SH SY _ _ _ (Bnd.fit _ ht2) hat
  have hBo:=J9 th (by omega) hthf
  rw[Zu t,Zu th] at hAt
  simp only[Zu] at hBo
  refine Zz ?_;refine Zx [] ZZ hnt λ K hK=>?_;refine Zk (hAt) ?_;refine hK _ _ ?_;clear hK K;refine Zz ?_;refine Zx [(41,.v (.bool true))] ZZ hnt λ K hK=>?_;refine And.intro (YT rfl) ?_;refine Zk (hm2t) ?_;refine hK _ _ ?_;clear hK K
  by_cases hz:e1=0
  ·subst hz
   rw[if_neg (λ h=>h rfl)] at hO
   obtain⟨h0,hi⟩:=Au.must_0 (by decide) he1
   subst hi
   obtain⟨h1,h2⟩:=of_decide_eq_true his
   obtain⟨n,hn⟩:∃ n:Nat,x.eq=n:=⟨x.eq.toNat,by omega⟩
   have hnl:n<eqs.length:=by omega
   obtain⟨q,hq⟩:∃ q,eqs[n]=q:=⟨_,rfl⟩
   have hqa:Au.eqAt eqs x=q:=by
    unfold Au.eqAt
    rw[hn,Int.toNat_natCast,List.getD_eq_getElem?_getD,List.getElem?_eq_getElem hnl,hq];rfl
   rw[hqa] at hO
   obtain⟨hbl,hbr,hqm⟩:Au.EqOk q:=hes q (hq ▸ List.getElem_mem hnl)
   have hSub:=Su b C Mw eqs 0 q x.s ar code hc hCl hMl ⟨by have:=hbl.1;omega,by have:=hbr.1;omega⟩ (by omega) hx1 (λ p hp=>⟨by have:=(hx2 p hp).1;omega,(hx2 p hp).2⟩) (by omega)
   obtain⟨E3,hE3⟩:∃ E,Au.subS code q x.s ar 0=E:=⟨_,rfl⟩
   rw[hE3] at hSub hO
   rw[Ys] at hSub
   unfold Au.ck at hSub
   refine Zz ?_;refine Zz ?_;refine Zx [(47,.v (.bool false))] ZZ hnt λ K hK=>?_;refine And.intro (Yq rfl) ?_;refine hK _ _ ?_;clear hK K;refine Zy (t:=false) rfl ?_;rw[if_neg (by simp)];refine Zw ?_;refine Zz ?_;refine ZQ [(54,.v (.int .i64 (↑n))),(55,.q [.sl 2 (eTys q.l.binds) none,.v (.int .i64 q.l.kind),.v (.int .i64 q.l.index),.sl 4 (eTms q.l.args) none,.sl 2 (eTys q.r.binds) none,.v (.int .i64 q.r.kind),.v (.int .i64 q.r.index),.sl 4 (eTms q.r.args) none,.sl 2 (eTys q.m) none])] ZZ hnt λ K hK=>?_
   refine And.intro (Zr (by exact hn)) ?_;refine And.intro (⟨by omega,by rw[Z4];omega⟩) ?_;refine And.intro (Zm.of_eq (by rw[Int.toNat_natCast,XC eqs n hnl,hq,Ys])) ?_;refine hK _ _ (by kernel_rfl) ?_;clear hK K;refine Zz ?_;refine Zx [] ZZ hnt λ K hK=>?_;refine Zk (hSub) ?_;refine hK _ _ ?_;clear hK K;refine Zz ?_;refine ZQ [] ZZ hnt λ K hK=>?_
   refine hK _ _ (by kernel_rfl) ?_;clear hK K
   cases hb:x.back with
   | true=>
    have hff:(if x.back=true then q.r else q.l)=q.r:=by rw[hb];rfl
    have hgg:(if x.back=true then q.l else q.r)=q.l:=by rw[hb];rfl
    refine Zz ?_;refine Zz ?_;refine Zx [] ZZ hnt λ _ z9=>z9 _ _ ?_;refine Zy (t:=true) rfl ?_;rw[if_pos rfl];refine Zx [] ZZ hnt λ _ z9=>z9 _ _ ?_
    have hI1:=TD b C Mw eqs E3 x.s q.r hx1 hsw hbr.2 (by have:=hbr.1;have:=Tm.size_le_full q.r;omega)
    have hAb:=Au.img_bnd (s:=x.s) (t:=q.r) (e:=E3) hsb hbr.2
    rw[hff] at hO
    obtain⟨⟨a,ae⟩,hA⟩:∃ r,Au.img x.s q.r E3=r:=⟨_,rfl⟩
    rw[hA] at hI1 hAb hO
    dsimp only at hI1 hAb hO
    have hI2:=TD b C Mw eqs ae x.s q.l hx1 hsw hbl.2 (by have:=hbl.1;have:=Tm.size_le_full q.l;omega)
    have hCb:=Au.img_bnd (s:=x.s) (t:=q.l) (e:=ae) hsb hbl.2
    rw[hgg] at hO
    obtain⟨⟨c,ce⟩,hCc⟩:∃ r,Au.img x.s q.l ae=r:=⟨_,rfl⟩
    rw[hCc] at hI2 hCb hO
    dsimp only at hI2 hCb hO
    have hEq:=Um a (Pn.nb th)
    have hm6:=W4 b C Mw eqs ce 9 (decide (a=Pn.nb th))
    unfold Au.fin at hO
    obtain⟨E6,hE6⟩:∃ E,Au.must ce (decide (a=Pn.nb th)) 9=E:=⟨_,rfl⟩
    rw[hE6] at hm6 hO
    have hcz:c.full<=755000:=by
     have h1:=Bnd.full _ hCb.1
     have h2:c.size * (150+1)<=5000 * 151:=Nat.mul_le_mul hCb.2 (by decide)
     omega
    have hRe:=Sr t c x.path (by omega) ⟨by omega,by omega,Bnd.mono170 ht2⟩ ⟨by omega,by omega,Bnd.mono170 hCb.1⟩
    have hRf:(Au.repl t c x.path).1.full<=17100000:=Au.repl_full (by omega) (by omega)
    obtain⟨⟨ro,re⟩,hR⟩:∃ r,Au.repl t c x.path=r:=⟨_,rfl⟩
    rw[hR] at hRe hRf hO
    dsimp only at hRe hRf hO
    have hm7:=W4 b C Mw eqs E6 re (decide (re=0))
    obtain⟨E7,hE7⟩:∃ E,Au.must E6 (decide (re=0)) re=E:=⟨_,rfl⟩
    rw[hE7] at hm7 hO
    have hRt:=WK ro hRf
    rw[show decide (ro.size<=5000/\ro.depth<=60)=Li.rt ro from rfl] at hRt
    have hm8:=W4 b C Mw eqs E7 2 (Li.rt ro)
    obtain⟨E8,hE8⟩:∃ E,Au.must E7 (Li.rt ro) 2=E:=⟨_,rfl⟩
    rw[hE8] at hm8 hO
    unfold Au.ck at hI1 hI2 hm6 hm7 hm8
    simp only[Zu] at hI1 hI2 hEq hRe hRt
    refine Zz ?_;refine Zx [] ZZ hnt λ K hK=>?_;refine Zk (hI1) ?_;refine hK _ _ ?_;clear hK K;refine Zz ?_;refine Zx [] ZZ hnt λ K hK=>?_;refine Zk (hI2) ?_;refine hK _ _ ?_;clear hK K;refine Zz ?_;refine ZQ [] ZZ hnt λ K hK=>?_;refine Zk (hBo) ?_;refine Zk (hEq) ?_;refine Zk (hm6) ?_;refine hK _ _ (by kernel_rfl) ?_;clear hK K
    by_cases h6:E6=0
    ·rw[if_neg (λ h=>h h6)] at hO
     by_cases h8:E8=0
     ·rw[if_neg (λ h=>h h8)] at hO
      obtain⟨rfl,rfl⟩:=Prod.mk.inj hO
      rw[h8] at hm8
      refine Zz ?_;refine Zz ?_;refine Zx [(91,.v (.bool false))] ZZ hnt λ K hK=>?_;refine And.intro (Yq h6) ?_;refine hK _ _ ?_;clear hK K;refine Zy (t:=false) rfl ?_;rw[if_neg (by simp)];refine Zw ?_;refine Zz ?_;refine Zx [] ZZ hnt λ K hK=>?_;refine Zk (hRe) ?_;refine hK _ _ ?_;clear hK K;refine Zz ?_;refine Zx [(103,.v (.bool (decide (re=0))))] ZZ hnt λ K hK=>?_
      refine And.intro (Zm.of_eq (by by_cases h:re=0 <;> simp[h])) ?_;refine Zk (hm7) ?_;refine hK _ _ ?_;clear hK K;refine Zz ?_;refine Zx [] ZZ hnt λ K hK=>?_;refine Zk (hRt) ?_;refine Zk (hm8) ?_;refine hK _ _ ?_;clear hK K;refine Zz ?_;refine Zz ?_;refine Zx [(114,.v (.bool false))] ZZ hnt λ K hK=>?_;refine And.intro (Yq rfl) ?_;refine hK _ _ ?_;clear hK K
      refine Zy (t:=false) rfl ?_;rw[if_neg (by simp)];refine Zw ?_;refine Zz ?_;refine Zx [] ZZ hnt λ _ z9=>z9 _ _ ?_;refine Zv ?_
      exact Zi rfl
     rw[if_pos h8] at hO
     obtain⟨rfl,rfl⟩:=Prod.mk.inj hO
     refine Zz ?_;refine Zz ?_;refine Zx [(91,.v (.bool false))] ZZ hnt λ K hK=>?_;refine And.intro (Yq h6) ?_;refine hK _ _ ?_;clear hK K;refine Zy (t:=false) rfl ?_;rw[if_neg (by simp)];refine Zw ?_;refine Zz ?_;refine Zx [] ZZ hnt λ K hK=>?_;refine Zk (hRe) ?_;refine hK _ _ ?_;clear hK K;refine Zz ?_;refine Zx [(103,.v (.bool (decide (re=0))))] ZZ hnt λ K hK=>?_
     refine And.intro (Zm.of_eq (by by_cases h:re=0 <;> simp[h])) ?_;refine Zk (hm7) ?_;refine hK _ _ ?_;clear hK K;refine Zz ?_;refine Zx [] ZZ hnt λ K hK=>?_;refine Zk (hRt) ?_;refine Zk (hm8) ?_;refine hK _ _ ?_;clear hK K;refine Zz ?_;refine Zz ?_;refine Zx [(114,.v (.bool true))] ZZ hnt λ K hK=>?_;refine And.intro (YO h8) ?_;refine hK _ _ ?_;clear hK K
     refine Zy (t:=true) rfl ?_;rw[if_pos rfl];refine Zz ?_;refine Zx [] ZZ hnt λ _ z9=>z9 _ _ ?_;refine Zv ?_
     exact Zi rfl
    rw[if_pos h6] at hO
    obtain⟨rfl,rfl⟩:=Prod.mk.inj hO
    refine Zz ?_;refine Zz ?_;refine Zx [(91,.v (.bool true))] ZZ hnt λ K hK=>?_;refine And.intro (YO h6) ?_;refine hK _ _ ?_;clear hK K;refine Zy (t:=true) rfl ?_;rw[if_pos rfl];refine Zz ?_;refine Zx [] ZZ hnt λ _ z9=>z9 _ _ ?_;refine Zv ?_
    exact Zi rfl
   | false=>
    have hff:(if x.back=true then q.r else q.l)=q.l:=by rw[hb];rfl
    have hgg:(if x.back=true then q.l else q.r)=q.r:=by rw[hb];rfl
    refine Zz ?_;refine Zz ?_;refine Zx [] ZZ hnt λ _ z9=>z9 _ _ ?_;refine Zy (t:=false) rfl ?_;rw[if_neg (by simp)]
    have hI1:=TD b C Mw eqs E3 x.s q.l hx1 hsw hbl.2 (by have:=hbl.1;have:=Tm.size_le_full q.l;omega)
    have hAb:=Au.img_bnd (s:=x.s) (t:=q.l) (e:=E3) hsb hbl.2
    rw[hff] at hO
    obtain⟨⟨a,ae⟩,hA⟩:∃ r,Au.img x.s q.l E3=r:=⟨_,rfl⟩
    rw[hA] at hI1 hAb hO
    dsimp only at hI1 hAb hO
    have hI2:=TD b C Mw eqs ae x.s q.r hx1 hsw hbr.2 (by have:=hbr.1;have:=Tm.size_le_full q.r;omega)
    have hCb:=Au.img_bnd (s:=x.s) (t:=q.r) (e:=ae) hsb hbr.2
    rw[hgg] at hO
    obtain⟨⟨c,ce⟩,hCc⟩:∃ r,Au.img x.s q.r ae=r:=⟨_,rfl⟩
    rw[hCc] at hI2 hCb hO
    dsimp only at hI2 hCb hO
    have hEq:=Um a (Pn.nb th)
    have hm6:=W4 b C Mw eqs ce 9 (decide (a=Pn.nb th))
    unfold Au.fin at hO
    obtain⟨E6,hE6⟩:∃ E,Au.must ce (decide (a=Pn.nb th)) 9=E:=⟨_,rfl⟩
    rw[hE6] at hm6 hO
    have hcz:c.full<=755000:=by
     have h1:=Bnd.full _ hCb.1
     have h2:c.size * (150+1)<=5000 * 151:=Nat.mul_le_mul hCb.2 (by decide)
     omega
    have hRe:=Sr t c x.path (by omega) ⟨by omega,by omega,Bnd.mono170 ht2⟩ ⟨by omega,by omega,Bnd.mono170 hCb.1⟩
    have hRf:(Au.repl t c x.path).1.full<=17100000:=Au.repl_full (by omega) (by omega)
    obtain⟨⟨ro,re⟩,hR⟩:∃ r,Au.repl t c x.path=r:=⟨_,rfl⟩
    rw[hR] at hRe hRf hO
    dsimp only at hRe hRf hO
    have hm7:=W4 b C Mw eqs E6 re (decide (re=0))
    obtain⟨E7,hE7⟩:∃ E,Au.must E6 (decide (re=0)) re=E:=⟨_,rfl⟩
    rw[hE7] at hm7 hO
    have hRt:=WK ro hRf
    rw[show decide (ro.size<=5000/\ro.depth<=60)=Li.rt ro from rfl] at hRt
    have hm8:=W4 b C Mw eqs E7 2 (Li.rt ro)
    obtain⟨E8,hE8⟩:∃ E,Au.must E7 (Li.rt ro) 2=E:=⟨_,rfl⟩
    rw[hE8] at hm8 hO
    unfold Au.ck at hI1 hI2 hm6 hm7 hm8
    simp only[Zu] at hI1 hI2 hEq hRe hRt
    refine Zw ?_;refine Zz ?_;refine Zx [] ZZ hnt λ K hK=>?_;refine Zk (hI1) ?_;refine hK _ _ ?_;clear hK K;refine Zz ?_;refine Zx [] ZZ hnt λ K hK=>?_;refine Zk (hI2) ?_;refine hK _ _ ?_;clear hK K;refine Zz ?_;refine ZQ [] ZZ hnt λ K hK=>?_;refine Zk (hBo) ?_;refine Zk (hEq) ?_;refine Zk (hm6) ?_;refine hK _ _ (by kernel_rfl) ?_;clear hK K
    by_cases h6:E6=0
    ·rw[if_neg (λ h=>h h6)] at hO
     by_cases h8:E8=0
     ·rw[if_neg (λ h=>h h8)] at hO
      obtain⟨rfl,rfl⟩:=Prod.mk.inj hO
      rw[h8] at hm8
      refine Zz ?_;refine Zz ?_;refine Zx [(91,.v (.bool false))] ZZ hnt λ K hK=>?_;refine And.intro (Yq h6) ?_;refine hK _ _ ?_;clear hK K;refine Zy (t:=false) rfl ?_;rw[if_neg (by simp)];refine Zw ?_;refine Zz ?_;refine Zx [] ZZ hnt λ K hK=>?_;refine Zk (hRe) ?_;refine hK _ _ ?_;clear hK K;refine Zz ?_;refine Zx [(103,.v (.bool (decide (re=0))))] ZZ hnt λ K hK=>?_
      refine And.intro (Zm.of_eq (by by_cases h:re=0 <;> simp[h])) ?_;refine Zk (hm7) ?_;refine hK _ _ ?_;clear hK K;refine Zz ?_;refine Zx [] ZZ hnt λ K hK=>?_;refine Zk (hRt) ?_;refine Zk (hm8) ?_;refine hK _ _ ?_;clear hK K;refine Zz ?_;refine Zz ?_;refine Zx [(114,.v (.bool false))] ZZ hnt λ K hK=>?_;refine And.intro (Yq rfl) ?_;refine hK _ _ ?_;clear hK K
      refine Zy (t:=false) rfl ?_;rw[if_neg (by simp)];refine Zw ?_;refine Zz ?_;refine Zx [] ZZ hnt λ _ z9=>z9 _ _ ?_;refine Zv ?_
      exact Zi rfl
     rw[if_pos h8] at hO
     obtain⟨rfl,rfl⟩:=Prod.mk.inj hO
     refine Zz ?_;refine Zz ?_;refine Zx [(91,.v (.bool false))] ZZ hnt λ K hK=>?_;refine And.intro (Yq h6) ?_;refine hK _ _ ?_;clear hK K;refine Zy (t:=false) rfl ?_;rw[if_neg (by simp)];refine Zw ?_;refine Zz ?_;refine Zx [] ZZ hnt λ K hK=>?_;refine Zk (hRe) ?_;refine hK _ _ ?_;clear hK K;refine Zz ?_;refine Zx [(103,.v (.bool (decide (re=0))))] ZZ hnt λ K hK=>?_
     refine And.intro (Zm.of_eq (by by_cases h:re=0 <;> simp[h])) ?_;refine Zk (hm7) ?_;refine hK _ _ ?_;clear hK K;refine Zz ?_;refine Zx [] ZZ hnt λ K hK=>?_;refine Zk (hRt) ?_;refine Zk (hm8) ?_;refine hK _ _ ?_;clear hK K;refine Zz ?_;refine Zz ?_;refine Zx [(114,.v (.bool true))] ZZ hnt λ K hK=>?_;refine And.intro (YO h8) ?_;refine hK _ _ ?_;clear hK K
     refine Zy (t:=true) rfl ?_;rw[if_pos rfl];refine Zz ?_;refine Zx [] ZZ hnt λ _ z9=>z9 _ _ ?_;refine Zv ?_
     exact Zi rfl
    rw[if_pos h6] at hO
    obtain⟨rfl,rfl⟩:=Prod.mk.inj hO
    refine Zz ?_;refine Zz ?_;refine Zx [(91,.v (.bool true))] ZZ hnt λ K hK=>?_;refine And.intro (YO h6) ?_;refine hK _ _ ?_;clear hK K;refine Zy (t:=true) rfl ?_;rw[if_pos rfl];refine Zz ?_;refine Zx [] ZZ hnt λ _ z9=>z9 _ _ ?_;refine Zv ?_
    exact Zi rfl
  rw[if_pos hz] at hO
  obtain⟨rfl,rfl⟩:=Prod.mk.inj hO
  refine Zz ?_;refine Zz ?_;refine Zx [(47,.v (.bool true))] ZZ hnt λ K hK=>?_;refine And.intro (YO hz) ?_;refine hK _ _ ?_;clear hK K;refine Zy (t:=true) rfl ?_;rw[if_pos rfl];refine Zz ?_;refine Zx [] ZZ hnt λ _ z9=>z9 _ _ ?_;refine Zv ?_
  exact Zi rfl
def TAUF:List (Nat×TI):=[(62,TG_62),(86,TAUE_86),(78,TAUE_78),(43,TRT6_43),(140,TAUB_140),(50,TN1_50),(3,TG_3),(138,TAUB_138),(34,TAUE_34),(41,TG_41),(206,TCP_206),(106,TG_106),(64,TPR_64)]
theorem XA:Zd Tryz.prog TAUF:=((((((((((((((Zd.nil _).cons Yk).cons Yx).cons SD).cons Ym).cons YM).cons WS).cons ZW).cons Y0).cons WT).cons Yb).cons Xk).cons Xl).cons Yu)
def Yc (l:List Au.St):List (List D):=l.map Nl
theorem ZH (l:List Au.St):(Yc l).length=l.length:=List.length_map ..
theorem V1 (l:List Au.St)(i:Nat)(h:i<l.length):(Yc l).getD i []=Nl l[i]:=by
 rw[Yc,List.getD_eq_getElem?_getD,List.getElem?_map,List.getElem?_eq_getElem h];rfl
@[simp] theorem Nn (f g:Nat->Bool) (l:List Au.St):D.okss f g (Yc l)=true:=D.okss_map _ l λ l _=>IH f g l
namespace Au
theorem replP_bnd {B:Nat}:∀ (p:List Int) (t b o:Tm),replP p t b=some o->Bnd B t->Bnd B b->Bnd B o
 | [],t,b,o,h,h1,h2=>by
  rw[replP] at h
  cases h
  obtain⟨tb,tk,ti,ta⟩:=t
  obtain⟨bb,bk,bi,ba⟩:=b
  exact .mk _ _ _ _ h1.inv.1 h2.inv.2.1 h2.inv.2.2
 | j :: p,t,b,o,h,g1,g2=>by
  rw[replP] at h
  by_cases hj:0<=j/\j<(t.args.length:Int)
  ·rw[if_pos hj] at h
   cases hr:replP p (t.args.getD j.toNat Tm.zero) b with
   | none=>rw[hr] at h;cases h
   | some x=>
    rw[hr] at h
    have h:=Option.some.inj h
    have hn:j.toNat<t.args.length:=by omega
    rw[List.getD_eq_getElem?_getD,List.getElem?_eq_getElem hn,Option.getD_some] at hr
    have h3:=replP_bnd (B:=B) p _ b x hr
    obtain⟨tb,tk,ti,ta⟩:=t
    subst h
    refine .mk _ _ _ _ g1.inv.1 g1.inv.2.1 λ u hu=>?_
    rcases List.mem_or_eq_of_mem_set hu with hu | rfl
    ·exact g1.inv.2.2 u hu
    exact h3 (g1.inv.2.2 _ (List.getElem_mem hn)) g2
  rw[if_neg hj] at h;cases h
theorem repl_bnd {B:Nat}{t b:Tm}{p:List Int}(h1:Bnd B t)(h2:Bnd B b):Bnd B (repl t b p).1:=by
 unfold repl
 by_cases hb:b.binds≠[]
 ·rw[if_pos hb];exact Bnd.tz
 rw[if_neg hb]
 cases hx:replP p t b with
 | none=>exact Bnd.tz
 | some o=>exact replP_bnd p t b o hx h1 h2
def TOk (t:Tm):Prop:=t.size<=5000/\Bnd 150 t/\t.full<=760000
theorem TOk.zero:TOk Tm.zero:=⟨by decide,Bnd.tz,by decide⟩
theorem fin_ok {x:St}{t th a b:Tm}{e:Int}(ht:TOk t)(hb:Bnd 150 b):TOk (fin x t th a b e).1:=by
 unfold fin
 by_cases h1:must e (decide (a=Pn.nb th)) 9≠0
 ·rw[if_pos h1];exact TOk.zero
 rw[if_neg h1]
 by_cases h2:must (must (must e (decide (a=Pn.nb th)) 9) (decide ((repl t b x.path).2=0)) (repl t b x.path).2) (Li.rt (repl t b x.path).1) 2≠0
 ·rw[if_pos h2];exact TOk.zero
 rw[if_neg h2]
 have h3:=(must_0 (by decide) (Decidable.not_not.1 h2)).2
 have h4:(repl t b x.path).1.size<=5000:=(of_decide_eq_true h3).1
 have h5:Bnd 150 (repl t b x.path).1:=repl_bnd ht.2.1 hb
 refine⟨h4,h5,?_⟩
 have h6:=Bnd.full _ h5
 have h7:(repl t b x.path).1.size * (150+1)<=5000 * 151:=Nat.mul_le_mul h4 (by decide)
 show (repl t b x.path).1.full<=760000
 omega
theorem step_ok (code:List Ty->Tm->Ty->Int){eqs:List Li.Pr}{x:St}{r:Tm×Int}(hes:∀ q∈eqs,EqOk q)(hs:∀ q∈x.s,Bnd 150 q.2)(ht:TOk r.1):TOk (step code eqs x r).1:=by
 have hq:Bnd 150 (eqAt eqs x).l/\Bnd 150 (eqAt eqs x).r:=by
  unfold eqAt
  rw[List.getD_eq_getElem?_getD]
  cases hg:eqs[x.eq.toNat]? with
  | none=>exact⟨Bnd.tz,Bnd.tz⟩
  | some q=>exact⟨(hes q (List.mem_of_getElem? hg)).1.2,(hes q (List.mem_of_getElem? hg)).2.1.2⟩
 unfold step
 cases Pn.atP x.path r.1 with
 | none=>exact TOk.zero
 | some y=>
  obtain⟨th,ar⟩:=y
  dsimp only
  by_cases h:must r.2 (decide (0<=x.eq/\x.eq<(eqs.length:Int))) 10≠0
  ·rw[if_pos h];exact TOk.zero
  rw[if_neg h]
  refine fin_ok ht (img_bnd hs ?_).1
  cases x.back with
  | true=>exact hq.1
  | false=>exact hq.2
end Au
set_option maxHeartbeats 4000000 in
theorem J2 (b:Int)(C Mw:List Ty)(eqs:List Li.Pr)(t:Tm)(l:List Au.St)(code:List Ty->Tm->Ty->Int)(hc:∀ X t u,Yp C Mw t X u (code X t u))(hCl:C.length<=1000000)(hMl:Mw.length<=1000000) 
  (hel:eqs.length<=1000) (hes:∀ q∈eqs,Au.EqOk q) (hl:l.length<=1000) (hx:∀ x∈l,Au.SOk x) (ht:Au.TOk t) :
  ZB Tryz.prog 65 [.p 0 0,.ag (eTm t),.sl 4 (Yc l) none] (Au.ck b C Mw eqs 0) (Au.ck b C Mw eqs (Au.chain code eqs l t).2) (.ag (eTm (Au.chain code eqs l t).1)):=by
 have hCp:=VN t (by have:=ht.2.2;omega) (Bnd.fit _ ht.2.1)
 obtain⟨F,hF⟩:∃ F:Nat->Tm×Int,∀ j,(l.take j).foldl (λ r x=>Au.step code eqs x r) (t,0)=F j:=⟨_,λ _=>rfl⟩
 have hF0:F 0=(t,0):=by rw[<-hF];rfl
 have hFn:∀ j (h:j<l.length),F (j+1)=Au.step code eqs l[j] (F j):=λ j h=>by rw[<-hF,Au.fold_snoc _ _ _ _ h,hF]
 have hFl:l.foldl (λ r x=>Au.step code eqs x r) (t,0)=F l.length:=by rw[<-hF,List.take_length]
 have hFo:∀ j,j<=l.length->Au.TOk (F j).1:=by
  intro j
  induction j with
  | zero=>intro _;rw[hF0];exact ht
  | succ j ih=>
   intro h
   rw[hFn j h]
   exact Au.step_ok code hes (λ q hq=>Bnd.of_full q.2 ((hx _ (List.getElem_mem h)).2.1 q hq).1 ((hx _ (List.getElem_mem h)).2.1 q hq).2) (ih (by omega))
 have hSt:∀ j (h:j<l.length),ZB Tryz.prog 97 [.p 0 0,.ag (eTm (F j).1),.ag (Nl l[j])] (Au.ck b C Mw eqs (F j).2) (Au.ck b C Mw eqs (F (j+1)).2) (.ag (eTm (F (j+1)).1)):=λ j h=>by
  rw[hFn j h]
  exact Iv b C Mw eqs (F j).2 (F j).1 l[j] code hc hCl hMl hel hes (hx _ (List.getElem_mem h)) (hFo j (by omega))
 have hch:Au.chain code eqs l t=if (F l.length).2≠0 then (Tm.zero,(F l.length).2) else F l.length:=by unfold Au.chain;rw[hFl]
 rw[hch]
 obtain⟨T,hT⟩:∃ T:Nat->Tm,∀ j,(F j).1=T j:=⟨_,λ _=>rfl⟩
 obtain⟨E,hE⟩:∃ E:Nat->Int,∀ j,(F j).2=E j:=⟨_,λ _=>rfl⟩
 have hT0:T 0=t:=by rw[<-hT,hF0]
 have hE0:E 0=0:=by rw[<-hE,hF0]
 have hFe:F l.length=(T l.length,E l.length):=by rw[<-hT,<-hE]
 rw[hFe]
 dsimp only
 simp only[hT,hE] at hSt
 unfold Au.ck Nl at hSt
 unfold Au.ck
 obtain⟨o,hO⟩:∃ o,(if E l.length≠0 then (Tm.zero,E l.length) else (T l.length,E l.length))=o:=⟨_,rfl⟩
 rw[hO]
 simp only[Zu] at hCp hSt
 rw[Zu t,Zu o.1]
 refine Zn 2 29 [ResultVar.cell 6 62] XA Tryz.func65 rfl Tryz.ntmps65 rfl λ cx hnt hn0=>?_
 skip
 refine Zz ?_;refine Zx [] XA hnt λ _ z9=>z9 _ _ ?_;refine Zz ?_;refine Zx [] XA hnt λ K hK=>?_;refine Zk (hCp) ?_;refine hK _ _ ?_;clear hK K;refine Zz ?_;refine Zz ?_;refine Zx [(12,.v (.int .i64 (↑l.length)))] XA hnt λ K hK=>?_;refine And.intro (Zr (by rw[ZH])) ?_;refine hK _ _ ?_;clear hK K
 rw[<-hT0]
 refine Zt ?_
 refine Z6 (ι:={ j:Nat // j<=l.length }) (λ j=>[(.t 0,.p 0 0),(.t 4,.p 2 0),(.t 6,.p 3 0),(.t 11,.sl 4 (Yc l) none),(.t 12,.v (.int .i64 ↑l.length)),(.t 13,.v (.int .i64 ↑j.1)),(.c 2 0,.sl 2 (eTys (T j.1).binds) none),(.c 2 1,.v (.int .i64 (T j.1).kind)),(.c 2 2,.v (.int .i64 (T j.1).index)),(.c 2 3,.sl 4 (eTms (T j.1).args) none),(.c 3 0,.v (.slice none 0 0)),(.c 3 1,.v (.int .i64 0)),(.c 3 2,.v (.int .i64 0)),(.c 3 3,.v (.slice none 0 0)),(.c 0 0,.v (.int .i64 b)),(.c 0 1,.sl 2 (eTys C) none),(.c 0 2,.sl 2 (eTys Mw) none),(.c 0 3,.sl 9 (Yt eqs) none),(.c 0 4,.v (.int .i64 (E j.1)))]) 20 (λ j=>l.length-j.1) (⟨0,Nat.zero_le _⟩) ((by try simp only[List.length_append,List.length_take,List.length_cons,List.length_nil,Nat.zero_add,hE0];exact VS.toA)) λ j=>?_
 obtain⟨j,hj⟩:=j
 dsimp only
 by_cases hlt:j<l.length
 ·have hs:=hSt j hlt
  refine Zz ?_;refine Zx [(14,.v (.bool true))] XA hnt λ K hK=>?_;refine And.intro Xd ?_;refine hK _ _ ?_;clear hK K;refine Zz ?_;refine Zy (t:=true) rfl ?_;rw[if_pos rfl];refine Zw ?_;refine Zz ?_;refine Zt ?_;refine Zz ?_;refine Zx [(15,.q [.v (.int .i64 l[j].eq),.v (.bool l[j].back),.sl 1 (YJ l[j].path) none,.sl 5 (Z5 l[j].s) none])] XA hnt λ K hK=>?_
  refine And.intro (⟨by omega,by rw[ZH];omega⟩) ?_;refine And.intro (Zm.of_eq (by rw[Int.toNat_natCast,V1 l j hlt];rfl)) ?_;refine hK _ _ ?_;clear hK K;refine Zx [] XA hnt λ K hK=>?_;refine Zk (hs) ?_;refine hK _ _ ?_;clear hK K;refine Zx [(21,.v (.int .i64 (↑(j+1))))] XA hnt λ K hK=>?_;refine And.intro Ww ?_;refine hK _ _ ?_;clear hK K
  refine⟨⟨j+1,hlt⟩,by first | omega | (dsimp only;omega),VS.toA⟩
 have hje:j=l.length:=by omega
 subst hje
 refine Zz ?_;refine Zx [(14,.v (.bool false))] XA hnt λ K hK=>?_;refine And.intro X5 ?_;refine hK _ _ ?_;clear hK K;refine Zz ?_;refine Zy (t:=false) rfl ?_;rw[if_neg (by simp)]
 by_cases hz:E l.length=0
 ·rw[if_neg (λ h=>h hz)] at hO
  subst hO
  refine Zg ?_;refine Zz ?_;refine Zz ?_;refine Zx [(26,.v (.bool false))] XA hnt λ K hK=>?_;refine And.intro (Yq hz) ?_;refine hK _ _ ?_;clear hK K;refine Zy (t:=false) rfl ?_;rw[if_neg (by simp)];refine Zw ?_;refine Zz ?_;refine Zx [] XA hnt λ _ z9=>z9 _ _ ?_;refine Zv ?_
  exact Zi rfl
 rw[if_pos hz] at hO
 subst hO
 refine Zg ?_;refine Zz ?_;refine Zz ?_;refine Zx [(26,.v (.bool true))] XA hnt λ K hK=>?_;refine And.intro (YO hz) ?_;refine hK _ _ ?_;clear hK K;refine Zy (t:=true) rfl ?_;rw[if_pos rfl];refine Zz ?_;refine Zx [] XA hnt λ _ z9=>z9 _ _ ?_;refine Zv ?_
 exact Zi rfl
def TAUQ_56:TI:=⟨1,false,[Value.slice none 0 0],[],some 74,24,5,none,false⟩
theorem Vu:TypOk Tryz.prog 56 TAUQ_56:=by constructor <;> kernel_rfl
def TAUQ_74:TI:=⟨4,true,[Value.int IntKind.i64 0,Value.bool false,Value.slice none 0 0,Value.slice none 0 0],[(0,1,false),(1,1,false),(2,1,false),(3,1,false)],none,64,6,none,false⟩
theorem WZ:TypOk Tryz.prog 74 TAUQ_74:=by constructor <;> kernel_rfl
def TAUQ:List (Nat×TI):=[(56,TAUQ_56),(3,TG_3),(74,TAUQ_74),(72,TL9_72),(71,TTY_71),(78,TAUE_78),(4,TAUB_4),(86,TAUE_86),(130,TL9_130)]
theorem Xg:Zd Tryz.prog TAUQ:=((((((((((Zd.nil _).cons XJ).cons Xl).cons WX).cons Xk).cons YV).cons Wm).cons WZ).cons ZW).cons Vu)
namespace Au
def okS (x:St):Bool:=Qi x.s&&decide (x.path.length<=100)
end Au
theorem Oe (l:List Au.St)(hl:l.length<=9223372036854775807)(hs:∀ x∈l,x.s.length<=9223372036854775807/\(∀ p∈x.s.take 10,Uz p.2=true->Yv p.2))(hp:∀ x∈l,x.path.length<=9223372036854775807):Zh Tryz.prog 24 [.sl 4 (Yc l) none] (.v (.bool ((l.take 8).all Au.okS))):=by
 obtain⟨B,hB⟩:∃ B,(l.take 8).all Au.okS=B:=⟨_,rfl⟩
 rw[hB]
 have hm:∀ i (h:i<l.length),i<8->l[i]∈l.take 8:=λ i h h8=>by
  rw[List.mem_iff_getElem]
  exact⟨i,by rw[List.length_take];omega,by rw[List.getElem_take]⟩
 have hbad:∀ i (h:i<l.length),i<8->Au.okS l[i]=false->B=false:=λ i h h8 hf=>by
  rw[<-hB,List.all_eq_false]
  exact⟨l[i],hm i h h8,by rw[hf];simp⟩
 have hgood:(∀ i (h:i<l.length),i<8->Au.okS l[i]=true)->B=true:=λ h=>by
  rw[<-hB,List.all_eq_true]
  intro x hx
  obtain⟨i,hi,rfl⟩:=List.getElem_of_mem hx
  rw[List.getElem_take]
  rw[List.length_take] at hi
  exact h i (by omega) (by omega)
 refine Zn 0 30 [ResultVar.tmp 2] Xg Tryz.func24 rfl Tryz.ntmps24 rfl λ cx hnt hn0=>?_
 skip
 refine Zz ?_;refine Zx [] Xg hnt λ _ z9=>z9 _ _ ?_;refine Zz ?_;refine Zz ?_;refine Zx [] Xg hnt λ _ z9=>z9 _ _ ?_;refine Zt ?_
 refine Z6 (ι:={ j:Nat // j<=l.length/\∀ i (h:i<l.length),i<8->i<j->Au.okS l[i]=true }) (λ j=>[(.t 0,.sl 4 (Yc l) none),(.t 3,.v (.int .i64 ↑j.1))]) 1 (λ j=>l.length-j.1) (⟨0,Nat.zero_le _,λ i h h8 h2=>by omega⟩) (VS.toA) λ j=>?_
 obtain⟨j,hj,hjo⟩:=j
 dsimp only
 by_cases hlt:j<l.length
 ·by_cases h8:j<8
  ·obtain⟨x,hx⟩:∃ x,l[j]=x:=⟨_,rfl⟩
   have hgd:(Yc l).getD j []=[.v (.int .i64 x.eq),.v (.bool x.back),.sl 1 (YJ x.path) none,.sl 5 (Z5 x.s) none]:=by rw[V1 l j hlt,hx];rfl
   have hxs:=hs x (hx ▸ List.getElem_mem hlt)
   have hf:=IN x.s hxs.1 hxs.2
   have hpl:=hp x (hx ▸ List.getElem_mem hlt)
   cases h1:Qi x.s with
   | false=>
    rw[h1] at hf
    rw[hbad j hlt h8 (by rw[hx,Au.okS,h1];rfl)]
    refine Zz ?_;refine Zz ?_;refine Zx [(6,.v (.int .i64 (↑l.length))),(7,.v (.bool true)),(10,.v (.bool true))] Xg hnt λ K hK=>?_;refine And.intro (Zr (by rw[ZH])) ?_;refine And.intro (Z7 (by omega)) ?_;refine And.intro (Z7 (by omega)) ?_;refine hK _ _ ?_;clear hK K;refine Zy (t:=true) rfl ?_;rw[if_pos rfl];refine Zw ?_;refine Zz ?_;refine Zt ?_
    refine Zz ?_;refine Zx [(16,.q [.v (.int .i64 x.eq),.v (.bool x.back),.sl 1 (YJ x.path) none,.sl 5 (Z5 x.s) none])] Xg hnt λ K hK=>?_;refine And.intro (⟨by omega,by rw[ZH];omega⟩) ?_;refine And.intro (Zm.of_eq (by rw[Int.toNat_natCast,hgd])) ?_;refine Zk (hf) ?_;refine hK _ _ ?_;clear hK K;refine Zy (t:=true) rfl ?_;rw[if_pos rfl];refine Zz ?_
    refine Zx [] Xg hnt λ _ z9=>z9 _ _ ?_;refine Zv ?_
    exact Zi rfl
   | true=>
    rw[h1] at hf
    by_cases h2:x.path.length<=100
    ·skip
     refine Zz ?_;refine Zz ?_;refine Zx [(6,.v (.int .i64 (↑l.length))),(7,.v (.bool true)),(10,.v (.bool true))] Xg hnt λ K hK=>?_;refine And.intro (Zr (by rw[ZH])) ?_;refine And.intro (Z7 (by omega)) ?_;refine And.intro (Z7 (by omega)) ?_;refine hK _ _ ?_;clear hK K;refine Zy (t:=true) rfl ?_;rw[if_pos rfl];refine Zw ?_;refine Zz ?_;refine Zt ?_
     refine Zz ?_;refine Zx [(16,.q [.v (.int .i64 x.eq),.v (.bool x.back),.sl 1 (YJ x.path) none,.sl 5 (Z5 x.s) none]),(24,.q [.v (.int .i64 x.eq),.v (.bool x.back),.sl 1 (YJ x.path) none,.sl 5 (Z5 x.s) none]),(27,.v (.int .i64 (↑x.path.length))),(28,.v (.bool false))] Xg hnt λ K hK=>?_;refine And.intro (⟨by omega,by rw[ZH];omega⟩) ?_;refine And.intro (Zm.of_eq (by rw[Int.toNat_natCast,hgd])) ?_
     refine Zk (hf) ?_;refine And.intro (⟨by omega,by rw[ZH];omega⟩) ?_;refine And.intro (Zm.of_eq (by rw[Int.toNat_natCast,hgd])) ?_;refine And.intro (Zr (by rw[Zb])) ?_;refine And.intro (Ze (by omega)) ?_;refine hK _ _ ?_;clear hK K;refine Zy (t:=false) rfl ?_;rw[if_neg (by simp)];refine Zw ?_;refine Zx [(13,.v (.int .i64 (↑(j+1))))] Xg hnt λ K hK=>?_
     refine And.intro Ww ?_;refine hK _ _ ?_;clear hK K
     refine⟨⟨j+1,hlt,λ i h h8 h3=>if hij:i=j then by subst hij;rw[hx,Au.okS,h1,decide_eq_true h2];rfl else hjo i h h8 (by omega)⟩,by first | omega | (dsimp only;omega),VS.toA⟩
    rw[hbad j hlt h8 (by rw[hx,Au.okS,h1,decide_eq_false h2];rfl)]
    refine Zz ?_;refine Zz ?_;refine Zx [(6,.v (.int .i64 (↑l.length))),(7,.v (.bool true)),(10,.v (.bool true))] Xg hnt λ K hK=>?_;refine And.intro (Zr (by rw[ZH])) ?_;refine And.intro (Z7 (by omega)) ?_;refine And.intro (Z7 (by omega)) ?_;refine hK _ _ ?_;clear hK K;refine Zy (t:=true) rfl ?_;rw[if_pos rfl];refine Zw ?_;refine Zz ?_;refine Zt ?_
    refine Zz ?_;refine Zx [(16,.q [.v (.int .i64 x.eq),.v (.bool x.back),.sl 1 (YJ x.path) none,.sl 5 (Z5 x.s) none]),(24,.q [.v (.int .i64 x.eq),.v (.bool x.back),.sl 1 (YJ x.path) none,.sl 5 (Z5 x.s) none]),(27,.v (.int .i64 (↑x.path.length))),(28,.v (.bool true))] Xg hnt λ K hK=>?_;refine And.intro (⟨by omega,by rw[ZH];omega⟩) ?_;refine And.intro (Zm.of_eq (by rw[Int.toNat_natCast,hgd])) ?_
    refine Zk (hf) ?_;refine And.intro (⟨by omega,by rw[ZH];omega⟩) ?_;refine And.intro (Zm.of_eq (by rw[Int.toNat_natCast,hgd])) ?_;refine And.intro (Zr (by rw[Zb])) ?_;refine And.intro (Z7 (by omega)) ?_;refine hK _ _ ?_;clear hK K;refine Zy (t:=true) rfl ?_;rw[if_pos rfl];refine Zz ?_;refine Zx [] Xg hnt λ _ z9=>z9 _ _ ?_
    refine Zv ?_
    exact Zi rfl
  rw[hgood λ i h hi8=>hjo i h hi8 (by omega)]
  refine Zz ?_;refine Zz ?_;refine Zx [(6,.v (.int .i64 (↑l.length))),(7,.v (.bool true)),(10,.v (.bool false))] Xg hnt λ K hK=>?_;refine And.intro (Zr (by rw[ZH])) ?_;refine And.intro (Z7 (by omega)) ?_;refine And.intro (Ze (by omega)) ?_;refine hK _ _ ?_;clear hK K;refine Zy (t:=false) rfl ?_;rw[if_neg (by simp)];refine Zg ?_;refine Zz ?_
  refine Zx [] Xg hnt λ _ z9=>z9 _ _ ?_;refine Zv ?_
  exact Zi rfl
 rw[hgood λ i h hi8=>hjo i h hi8 (by omega)]
 refine Zz ?_;refine Zz ?_;refine Zx [(6,.v (.int .i64 (↑l.length))),(7,.v (.bool false))] Xg hnt λ K hK=>?_;refine And.intro (Zr (by rw[ZH])) ?_;refine And.intro (Ze (by omega)) ?_;refine hK _ _ ?_;clear hK K;refine Zy (t:=false) rfl ?_;rw[if_neg (by simp)];refine Zg ?_;refine Zz ?_;refine Zx [] Xg hnt λ _ z9=>z9 _ _ ?_
 refine Zv ?_
 exact Zi rfl
def TAUR:List (Nat×TI):=[(56,TAUQ_56),(74,TAUQ_74),(3,TG_3),(78,TAUE_78),(72,TL9_72),(4,TAUB_4),(71,TTY_71),(86,TAUE_86),(130,TL9_130)]
theorem Wh:Zd Tryz.prog TAUR:=((((((((((Zd.nil _).cons XJ).cons Xl).cons YV).cons WX).cons Wm).cons Xk).cons ZW).cons WZ).cons Vu)
namespace Au
def cut (x:St):St:=⟨x.eq,x.back,x.path,x.s.take 10⟩
end Au
theorem RP (l:List Au.St)(x:Au.St):Yc l++[[.v (.int .i64 x.eq),.v (.bool x.back),.sl 1 (YJ x.path) none,.sl 5 (Z5 x.s) none]]=Yc (l++[x]):=by
 rw[Yc,Yc,List.map_append,List.map_cons,List.map_nil];rfl
set_option maxHeartbeats 4000000 in
theorem KR (l:List Au.St)(hl:l.length<=9223372036854775807)(hs:∀ x∈l.take 8,x.s.length<=9223372036854775807/\(∀ p∈x.s.take 10,p.2.full<=900000)):Zh Tryz.prog 25 [.sl 4 (Yc l) none] (.sl 4 (Yc ((l.take 8).map Au.cut)) none):=by
 have hm:∀ i (h:i<l.length),i<8->l[i]∈l.take 8:=λ i h h8=>by
  rw[List.mem_iff_getElem]
  exact⟨i,by rw[List.length_take];omega,by rw[List.getElem_take]⟩
 obtain⟨O,hO⟩:∃ O:Nat->List Au.St,∀ j,(l.take j).map Au.cut=O j:=⟨_,λ _=>rfl⟩
 have hO0:O 0=[]:=by rw[<-hO];rfl
 have hOn:∀ j (h:j<l.length),O j++[Au.cut l[j]]=O (j+1):=λ j h=>by rw[<-hO,<-hO,List.take_add_one,List.getElem?_eq_getElem h,List.map_append];rfl
 have hOl:∀ j,j<=l.length->(O j).length=j:=λ j h=>by rw[<-hO,List.length_map,List.length_take];omega
 refine Zn 0 41 [ResultVar.tmp 2] Wh Tryz.func25 rfl Tryz.ntmps25 rfl λ cx hnt hn0=>?_
 skip
 refine Zz ?_;refine Zx [] Wh hnt λ _ z9=>z9 _ _ ?_;refine Zz ?_;refine Zx [] Wh hnt λ _ z9=>z9 _ _ ?_
 refine DW.vs (VS.rowT (x:=3) (by rw[hnt];decide) 86 4 rfl) ?_
 refine Zz ?_;refine Zz ?_;refine Zx [] Wh hnt λ _ z9=>z9 _ _ ?_;refine Zt ?_
 refine Z6 (ι:={ j:Nat // j<=l.length/\j<=8 }) (λ j=>[(.t 0,.sl 4 (Yc l) none),(.t 3,.sl 4 (Yc (O j.1)) (some 2)),(.r 2,.rw 86 4 (O j.1).length),(.t 4,.v (.int .i64 ↑j.1))]) 20 (λ j=>l.length-j.1) (⟨0,Nat.zero_le _,Nat.zero_le _⟩) ((by dsimp only;rw[hO0];exact VS.toA)) λ j=>?_
 obtain⟨j,hj,hj8⟩:=j
 dsimp only
 by_cases hlt:j<l.length
 ·by_cases h8:j<8
  ·obtain⟨x,hx⟩:∃ x,l[j]=x:=⟨_,rfl⟩
   have hgd:(Yc l).getD j []=[.v (.int .i64 x.eq),.v (.bool x.back),.sl 1 (YJ x.path) none,.sl 5 (Z5 x.s) none]:=by rw[V1 l j hlt,hx];rfl
   have hxs:=hs x (hx ▸ hm j hlt h8)
   have hf:=H9 x.s hxs.1 hxs.2
   have hsn:=RP (O j) (Au.cut x)
   rw[<-hx,hOn j hlt,hx] at hsn
   have hsn:Yc (O j)++[[.v (.int .i64 x.eq),.v (.bool x.back),.sl 1 (YJ x.path) none,.sl 5 (Z5 (x.s.take 10)) none]]=Yc (O (j+1)):=hsn
   have hl1:(Yc (O j)).length=(O j).length:=ZH _
   have hl3:=hOl j hj
   have hl2:(Yc (O (j+1))).length=(O (j+1)).length:=ZH _
   refine Zz ?_;refine Zz ?_;refine Zx [(7,.v (.int .i64 (↑l.length))),(8,.v (.bool true)),(11,.v (.bool true))] Wh hnt λ K hK=>?_;refine And.intro (Zr (by rw[ZH])) ?_;refine And.intro (Z7 (by omega)) ?_;refine And.intro (Z7 (by omega)) ?_;refine hK _ _ ?_;clear hK K;refine Zy (t:=true) rfl ?_;rw[if_pos rfl];refine Zw ?_;refine Zz ?_;refine Zt ?_
   refine ZQ [(18,.q [.v (.int .i64 x.eq),.v (.bool x.back),.sl 1 (YJ x.path) none,.sl 5 (Z5 x.s) none]),(23,.q [.v (.int .i64 x.eq),.v (.bool x.back),.sl 1 (YJ x.path) none,.sl 5 (Z5 x.s) none]),(28,.q [.v (.int .i64 x.eq),.v (.bool x.back),.sl 1 (YJ x.path) none,.sl 5 (Z5 x.s) none]),(33,.q [.v (.int .i64 x.eq),.v (.bool x.back),.sl 1 (YJ x.path) none,.sl 5 (Z5 x.s) none])] Wh hnt λ K hK=>?_
   refine And.intro (⟨by omega,by rw[ZH];omega⟩) ?_;refine And.intro (Zm.of_eq (by rw[Int.toNat_natCast,hgd])) ?_;refine And.intro (⟨by omega,by rw[ZH];omega⟩) ?_;refine And.intro (Zm.of_eq (by rw[Int.toNat_natCast,hgd])) ?_;refine And.intro (⟨by omega,by rw[ZH];omega⟩) ?_;refine And.intro (Zm.of_eq (by rw[Int.toNat_natCast,hgd])) ?_;refine And.intro (⟨by omega,by rw[ZH];omega⟩) ?_
   refine And.intro (Zm.of_eq (by rw[Int.toNat_natCast,hgd])) ?_;refine Zk (hf) ?_;refine And.intro (⟨by omega,by rw[hl1];simp;omega⟩) ?_;refine hK _ _ (by kernel_rfl) ?_;clear hK K
   rw[hsn,hl2]
   refine Zx [(14,.v (.int .i64 (↑(j+1))))] Wh hnt λ K hK=>?_;refine And.intro Ww ?_;refine hK _ _ ?_;clear hK K
   refine⟨⟨j+1,hlt,h8⟩,by first | omega | (dsimp only;omega),VS.toA⟩
  have h8e:j=8:=by omega
  subst h8e
  rw[hO]
  refine Zz ?_;refine Zz ?_;refine Zx [(7,.v (.int .i64 (↑l.length))),(8,.v (.bool true)),(11,.v (.bool false))] Wh hnt λ K hK=>?_;refine And.intro (Zr (by rw[ZH])) ?_;refine And.intro (Z7 (by omega)) ?_;refine And.intro (Ze (by omega)) ?_;refine hK _ _ ?_;clear hK K;refine Zy (t:=false) rfl ?_;rw[if_neg (by simp)];refine Zg ?_;refine Zz ?_
  refine Zx [] Wh hnt λ _ z9=>z9 _ _ ?_;refine Zv ?_
  exact Zi rfl
 have hje:j=l.length:=by omega
 rw[show l.take 8=l.take j by rw[List.take_of_length_le (by omega),hje,List.take_length],hO]
 refine Zz ?_;refine Zz ?_;refine Zx [(7,.v (.int .i64 (↑l.length))),(8,.v (.bool false))] Wh hnt λ K hK=>?_;refine And.intro (Zr (by rw[ZH])) ?_;refine And.intro (Ze (by omega)) ?_;refine hK _ _ ?_;clear hK K;refine Zy (t:=false) rfl ?_;rw[if_neg (by simp)];refine Zg ?_;refine Zz ?_;refine Zx [] Wh hnt λ _ z9=>z9 _ _ ?_
 refine Zv ?_
 exact Zi rfl
end Go.Proofs.YtclihnccilkohaaGreat
namespace Go.Proofs.YtclihnccilkohaaGreat
open Go.RowKit Go.ChangeShapes Go.WideShapes Go.ChangeAt
theorem RA {α:Type}{r:Rp α}{F:Nat->Prop}{w:World}{v:Value}{l:List α}(h:Y6 r F w v l):v.oneCell'=true:=by
 obtain⟨a,c,bl,off,X,rfl,_⟩:=h;rfl
def OJ:Rp Li.Pr where
 n:=9
 R:=λ F w x p=>∃ v1 v2 v3 v4 v5 v6 v7 v8 v9,x=[v1,v2,v3,v4,v5,v6,v7,v8,v9]/\N7 F w v1 v2 v3 v4 v5 v6 v7 v8 v9 p
 len:=fun⟨_,_,_,_,_,_,_,_,_,e,_⟩=>by rw[e];rfl
 one:=fun⟨b,k,i,a,b',k',i',a',v9,e,h⟩ v hv=>by
  have h1:=U6.one (F:=_) (w:=_) (x:=[b,k,i,a]) (a:=_) ⟨b,k,i,a,rfl,h.l⟩
  have h2:=U6.one (F:=_) (w:=_) (x:=[b',k',i',a']) (a:=_) ⟨b',k',i',a',rfl,h.r⟩
  rw[e] at hv
  have:v∈[b,k,i,a]∨v∈[b',k',i',a']∨v=v9:=by simpa[or_assoc] using hv
  rcases this with hv | hv | rfl
  ·exact h1 v hv
  ·exact h2 v hv
  exact RA h.m
 keep:=fun⟨b,k,i,a,b',k',i',a',v9,e,h⟩ hk=>⟨b,k,i,a,b',k',i',a',v9,e,⟨h.l.keep hk,h.r.keep hk,h.m.keep hk⟩⟩
 weaken:=fun⟨b,k,i,a,b',k',i',a',v9,e,h⟩ hf=>⟨b,k,i,a,b',k',i',a',v9,e,⟨h.l.weaken hf,h.r.weaken hf,h.m.weaken (by decide) hf⟩⟩
set_option maxRecDepth 100000 in
theorem JO {H:Type}(enc:TypeId×Value->H)(W:World)(base:Nat)(sp:Nat->Bool)(hd:Bool):∀ n,Rd enc W base sp hd 33 OJ (λ _ p=>p.l.Fit/\p.r.Fit) n:=by
 intro n cs x h
 obtain⟨xs,m,rfl,rfl,hl,hlen,hf⟩:=DataW.trod_struct Tryz.underlying33 h
 rw[Th] at hl
 obtain⟨v0,v1,v2,v3,v4,v5,v6,v7,v8,rfl⟩:=OE hl
 have h0:DataW.trod enc Tryz.prog W base sp hd m 31 ([v0,v1,v2,v3,v4,v5,v6,v7,v8].take (Tryz.prog.cellsOf 31))=xs[0]?:=hf 0 _ rfl
 have h1:DataW.trod enc Tryz.prog W base sp hd m 31 ([v4,v5,v6,v7,v8].take (Tryz.prog.cellsOf 31))=xs[1]?:=hf 1 _ rfl
 have h2:DataW.trod enc Tryz.prog W base sp hd m 22 ([v8].take (Tryz.prog.cellsOf 22))=xs[2]?:=hf 2 _ rfl
 rw[V5] at h0 h1
 rw[Ti] at h2
 have hlen:xs.length=3:=hlen
 rw[List.getElem?_eq_getElem (by omega)] at h0 h1 h2
 obtain⟨t,⟨b,k,j,a,hx,ht⟩,hfit⟩:=HP enc W base sp hd m _ _ h0
 obtain⟨t',⟨b',k',j',a',hx',ht'⟩,hfit'⟩:=HP enc W base sp hd m _ _ h1
 obtain⟨ma,mn,mc,M,hmv,_,hM,_⟩:=YH Tryz.underlying22 UQ (by decide) (λ j hj=>HQ enc W base sp hd j) h2
 have e0:[v0,v1,v2,v3]=[b,k,j,a]:=hx
 have e1:[v4,v5,v6,v7]=[b',k',j',a']:=hx'
 have e2:[v8]=[.slice ma mn mc]:=hmv
 simp only[List.cons.injEq,and_true] at e0 e1 e2
 obtain⟨rfl,rfl,rfl,rfl⟩:=e0
 obtain⟨rfl,rfl,rfl,rfl⟩:=e1
 subst e2
 exact⟨⟨t,t',M⟩,⟨_,_,_,_,_,_,_,_,_,rfl,⟨ht,ht',hM⟩⟩,hfit,hfit'⟩
theorem KI {m:Mp}{w:World}{F:Nat->Prop}{v:Value}{l:List Li.Pr}(h:Y6 OJ F w v l):Yz m (Uk F w) w v (.sl 9 (Yt l) none):=by
 have e:∀ p,WG p=eTm p.l++(eTm p.r++[.sl 2 (eTys p.m) none]):=λ p=>by rw[Zu,Zu];rfl
 have:=X9 (m:=m) (r:=OJ) (e:=WG) Xt (λ p=>by rw[e,Zu,Zu];rfl) (λ x p hx=>by
  obtain⟨v1,v2,v3,v4,v5,v6,v7,v8,v9,rfl,h⟩:=hx
  rw[e]
  exact(Wb Xt p.l h.l).append ((Wb Xt p.r h.r).append ⟨Sg h.m,trivial⟩)) h
 exact this
def KL:Rp Au.St where
 n:=4
 R:=λ F w x s=>∃ pv sv,x=[.int .i64 s.eq,.bool s.back,pv,sv]/\Y6 G8 F w pv s.path/\Y6 KK F w sv s.s
 len:=fun⟨_,_,e,_⟩=>by rw[e];rfl
 one:=fun⟨pv,sv,e,h1,h2⟩ v hv=>by
  rw[e] at hv
  simp only[List.mem_cons,List.not_mem_nil,or_false] at hv
  rcases hv with rfl | rfl | rfl | rfl
  ·rfl
  ·rfl
  ·exact RA h1
  exact RA h2
 keep:=fun⟨pv,sv,e,h1,h2⟩ hk=>⟨pv,sv,e,h1.keep hk,h2.keep hk⟩
 weaken:=fun⟨pv,sv,e,h1,h2⟩ hf=>⟨pv,sv,e,h1.weaken (by decide) hf,h2.weaken (by decide) hf⟩
theorem Nb:Tryz.prog.cellsOf 74=4:=by kernel_rfl
theorem J5:Tryz.prog.cellsOf 4=1:=by kernel_rfl
theorem J3:Tryz.prog.cellsOf 71=1:=by kernel_rfl
theorem J4:Tryz.prog.cellsOf 72=1:=by kernel_rfl
theorem LK {α:Type}{cs:List α}(h:cs.length=4):∃ a b c d,cs=[a,b,c,d]:=by
 match cs,h with
 | [a,b,c,d],_=>exact⟨a,b,c,d,rfl⟩
set_option maxRecDepth 100000 in
theorem GS {H:Type}(enc:TypeId×Value->H)(W:World)(base:Nat)(sp:Nat->Bool)(hd:Bool):∀ n,Rd enc W base sp hd 74 KL (λ _ x=>x.path.length<=9223372036854775807/\x.s.length<=9223372036854775807/\∀ q∈x.s,q.2.Fit) n:=by
 intro n cs x h
 obtain⟨xs,m,rfl,rfl,hl,hlen,hf⟩:=DataW.trod_struct Tryz.underlying74 h
 rw[Nb] at hl
 obtain⟨v0,v1,v2,v3,rfl⟩:=LK hl
 have h0:DataW.trod enc Tryz.prog W base sp hd m 3 ([v0,v1,v2,v3].take (Tryz.prog.cellsOf 3))=xs[0]?:=hf 0 _ rfl
 have h1:DataW.trod enc Tryz.prog W base sp hd m 4 ([v1,v2,v3].take (Tryz.prog.cellsOf 4))=xs[1]?:=hf 1 _ rfl
 have h2:DataW.trod enc Tryz.prog W base sp hd m 71 ([v2,v3].take (Tryz.prog.cellsOf 71))=xs[2]?:=hf 2 _ rfl
 have h3:DataW.trod enc Tryz.prog W base sp hd m 72 ([v3].take (Tryz.prog.cellsOf 72))=xs[3]?:=hf 3 _ rfl
 rw[V6] at h0
 rw[J5] at h1
 rw[J3] at h2
 rw[J4] at h3
 have hlen:xs.length=4:=hlen
 rw[List.getElem?_eq_getElem (by omega)] at h0 h1 h2 h3
 obtain⟨i,hi,_,_⟩:=DataW.trod_int Tryz.underlying3 h0
 obtain⟨bo,hb,_⟩:=DataW.trod_bool Tryz.underlying4 h1
 obtain⟨pa,pn,pc,P,hpv,_,hP,_⟩:=YH Tryz.underlying71 V6 (by decide) (λ j hj=>Fw enc W base sp hd j) h2
 obtain⟨sa,sn,sc,S,hsv,_,hS,hSf⟩:=YH Tryz.underlying72 RJ (by decide) (λ j hj=>GR enc W base sp hd j) h3
 have e0:[v0]=[.int .i64 i]:=hi
 have e1:[v1]=[.bool bo]:=hb
 have e2:[v2]=[.slice pa pn pc]:=hpv
 have e3:[v3]=[.slice sa sn sc]:=hsv
 simp only[List.cons.injEq,and_true] at e0 e1 e2 e3
 subst e0 e1 e2 e3
 exact⟨⟨i,bo,P,S⟩,⟨_,_,rfl,hP,hS⟩,hP.len1,hS.len1,λ q hq=>(VW (d:=xs[3].1) (Q:=fun(q:Int×Tm)=>q.2.Fit/\-9223372036854775808<=q.1/\q.1<=9223372036854775807) hSf q hq).1⟩
theorem Ii {m:Mp}{w:World}{F:Nat->Prop}{v:Value}{l:List Au.St}(h:Y6 KL F w v l):Yz m (Uk F w) w v (.sl 4 (Yc l) none):=
 X9 (r:=KL) (e:=Nl) Xt (λ p=>rfl) (λ x p hx=>by
  obtain⟨pv,sv,rfl,h1,h2⟩:=hx
  exact⟨.v _,.v _,KH h1,MD h2,trivial⟩) h
end Go.Proofs.YtclihnccilkohaaGreat
namespace Go.Proofs.YtclihnccilkohaaGreat
open Go.RowKit
def TAUG:List (Nat×TI):=[(62,TG_62),(86,TAUE_86),(43,TRT6_43),(78,TAUE_78),(140,TAUB_140),(50,TN1_50),(138,TAUB_138),(3,TG_3),(34,TAUE_34),(64,TPR_64)]
theorem Tf:Zd Tryz.prog TAUG:=(((((((((((Zd.nil _).cons Yk).cons YM).cons ZW).cons WS).cons Y0).cons WT).cons Xk).cons Yb).cons Xl).cons Yu)
theorem LA (ρ:Nat->Nat)(l:List Li.Pr):D.renss ρ (Yt l)=Yt l:=D.renss_id (f:=λ _=>false) (g:=λ _=>false) (λ _ h=>by cases h) _ (TB _ _ l)
theorem LB (ρ:Nat->Nat)(l:List Au.St):D.renss ρ (Yc l)=Yc l:=D.renss_id (f:=λ _=>false) (g:=λ _=>false) (λ _ h=>by cases h) _ (Nn _ _ l)
set_option maxHeartbeats 4000000 in
theorem JS (b:Int)(C Mw:List Ty)(eqs:List Li.Pr)(t:Tm)(l:List Au.St)(code:List Ty->Tm->Ty->Int)(hc:∀ X t u,Yp C Mw t X u (code X t u))(hCl:C.length<=1000000)(hMl:Mw.length<=1000000) 
  (hel:eqs.length<=1000) (hes:∀ q∈eqs,Au.EqOk q) (hl:l.length<=1000) (hx:∀ x∈l,Au.SOk x) (ht:Au.TOk t) :
  Zh Tryz.prog 32 [.ag [.v (.int .i64 b),.sl 2 (eTys C) none,.sl 2 (eTys Mw) none],.sl 9 (Yt eqs) none,.ag (eTm t),.sl 4 (Yc l) none] (.tu [.ag (eTm (Au.chain code eqs l t).1),.v (.int .i64 (Au.chain code eqs l t).2)]):=by
 have h:=J2 b C Mw eqs t l code hc hCl hMl hel hes hl hx ht
 obtain⟨⟨o,e⟩,hO⟩:∃ r,Au.chain code eqs l t=r:=⟨_,rfl⟩
 rw[hO] at h ⊢
 dsimp only at h ⊢
 have h:=h.ren (λ _=>7) (by simp[Au.ck,Ut,D.ok,D.oks,ZM,Xa,WO,YK,Y8,Yi,TB,Nn]) (by intro k h1 k' h2 _;simp[Au.ck,ZM] at h1 h2;rw[h1,h2])
 simp only[Au.ck,List.map_cons,List.map_nil,D.ren,D.rens,WJ,Key.ren,VR,LE,LA,LB] at h
 rw[Zu t,Zu o] at h ⊢
 refine Zn 0 25 [ResultVar.cell 8 62,ResultVar.tmp 9] Tf Tryz.func32 rfl Tryz.ntmps32 rfl λ cx hnt hn0=>?_
 skip
 refine Zz ?_;refine Zx [] Tf hnt λ _ z9=>z9 _ _ ?_;refine Zz ?_;refine Zx [] Tf hnt λ _ z9=>z9 _ _ ?_;refine Zz ?_;refine Zx [] Tf hnt λ K hK=>?_;refine Zk (h) ?_;refine hK _ _ ?_;clear hK K;refine Zz ?_;refine ZQ [] Tf hnt λ K hK=>?_;refine hK _ _ (by kernel_rfl) ?_;clear hK K;refine Zv ?_
 exact Zi rfl
def TRS:List (Nat×TI):=[(64,TPR_64),(62,TG_62),(41,TG_41),(106,TG_106)]
theorem VL:Zd Tryz.prog TRS:=(((((Zd.nil _).cons Yx).cons Ym).cons Yu).cons Yk)
namespace Ru
def swap (p:Li.Pr):Li.Pr:=⟨p.r,p.l,p.m⟩
theorem swap_at (p:Li.Pr):WG (swap p)=[.sl 2 (eTys p.r.binds) none,.v (.int .i64 p.r.kind),.v (.int .i64 p.r.index),.sl 4 (eTms p.r.args) none,.sl 2 (eTys p.l.binds) none,.v (.int .i64 p.l.kind),.v (.int .i64 p.l.index),.sl 4 (eTms p.l.args) none,.sl 2 (eTys p.m) none]:=rfl
end Ru
theorem Tb (M:List Ty)(h:Ty.sizes M<=800000):Zh Tryz.prog 103 [.sl 2 (eTys M) none] (.sl 2 (eTys M) none):=by
 have ha:=Sz (.mk [] 0) M (by rw[UF];simp[Ty.sizes];omega)
 simp only[Zc,XL,Wv,List.append_nil] at ha
 refine Zn 0 7 [ResultVar.tmp 2] VL Tryz.func103 rfl Tryz.ntmps103 rfl λ cx hnt hn0=>?_
 skip
 refine Zz ?_;refine Zx [] VL hnt λ _ z9=>z9 _ _ ?_;refine Zz ?_;refine Zx [(3,.ag [.sl 2 (eTys []) none,.v (.int .i64 0)])] VL hnt λ K hK=>?_;refine And.intro (XP) ?_;refine Zk (ha) ?_;refine hK _ _ ?_;clear hK K;refine Zv ?_
 exact Zi rfl
theorem PI (p:Li.Pr)(h1:p.l.full<=900000/\p.l.Fit)(h2:p.r.full<=900000/\p.r.Fit)(h3:Ty.sizes p.m<=800000):Zh Tryz.prog 113 [.ag (WG p)] (.ag (WG p)):=by
 have c1:=VN p.l h1.1 h1.2
 have c2:=VN p.r h2.1 h2.2
 have c3:=Tb p.m h3
 rw[Zu] at c1 c2
 rw[Ys]
 refine Zn 0 13 [ResultVar.cell 2 64] VL Tryz.func113 rfl Tryz.ntmps113 rfl λ cx hnt hn0=>?_
 skip
 refine Zz ?_;refine Zx [] VL hnt λ _ z9=>z9 _ _ ?_;refine Zz ?_;refine ZQ [] VL hnt λ K hK=>?_;refine Zk (c1) ?_;refine Zk (c2) ?_;refine Zk (c3) ?_;refine hK _ _ (by kernel_rfl) ?_;clear hK K;refine Zv ?_
 exact Zi rfl
theorem QT (p:Li.Pr)(h1:p.l.full<=900000/\p.l.Fit)(h2:p.r.full<=900000/\p.r.Fit)(h3:Ty.sizes p.m<=800000):Zh Tryz.prog 89 [.ag (WG p)] (.ag (WG (Ru.swap p))):=by
 have c:=PI (Ru.swap p) h2 h1 h3
 rw[Ru.swap_at] at c ⊢
 rw[Ys]
 refine Zn 0 11 [ResultVar.cell 2 64] VL Tryz.func89 rfl Tryz.ntmps89 rfl λ cx hnt hn0=>?_
 skip
 refine Zz ?_;refine Zx [] VL hnt λ _ z9=>z9 _ _ ?_;refine Zz ?_;refine Zx [] VL hnt λ K hK=>?_;refine Zk (c) ?_;refine hK _ _ ?_;clear hK K;refine Zv ?_
 exact Zi rfl
def TRM:List (Nat×TI):=[(43,TRT6_43),(41,TG_41),(24,TS9_24),(22,TTY_22),(64,TPR_64),(3,TG_3),(104,TTY_104),(106,TG_106)]
theorem TX:Zd Tryz.prog TRM:=(((((((((Zd.nil _).cons Yx).cons Yy).cons ZW).cons Yk).cons Yo).cons Xy).cons Ym).cons Yb)
namespace Ru
end Ru
theorem P0 (l r:List Li.Pr):Yt (l++r)=Yt l++Yt r:=List.map_append ..
theorem Kz (x:Li.Pr):Yt [x]=[[.sl 2 (eTys x.l.binds) none,.v (.int .i64 x.l.kind),.v (.int .i64 x.l.index),.sl 4 (eTms x.l.args) none,.sl 2 (eTys x.r.binds) none,.v (.int .i64 x.r.kind),.v (.int .i64 x.r.index),.sl 4 (eTms x.r.args) none,.sl 2 (eTys x.m) none]]:=rfl
theorem U4 (l:List Li.Pr)(x:Li.Pr):Yt l++[[.sl 2 (eTys x.l.binds) none,.v (.int .i64 x.l.kind),.v (.int .i64 x.l.index),.sl 4 (eTms x.l.args) none,.sl 2 (eTys x.r.binds) none,.v (.int .i64 x.r.kind),.v (.int .i64 x.r.index),.sl 4 (eTms x.r.args) none,.sl 2 (eTys x.m) none]]=Yt (l++[x]):=by rw[P0,Kz]
theorem H8 (b:Int)(C M:List Ty)(h1:Ty.sizes C<=900000)(h2:Ty.sizes M<=900000):Zh Tryz.prog 12 [.ag [.v (.int .i64 b),.sl 2 (eTys C) none,.sl 2 (eTys M) none]] (.ag [.v (.int .i64 b),.sl 2 (eTys C) none,.sl 2 (eTys M) none]):=by
 have hC:=TK C h1
 have hM:=TK M h2
 refine Zn 0 12 [ResultVar.cell 2 43] TX Tryz.func12 rfl Tryz.ntmps12 rfl λ cx hnt hn0=>?_
 skip
 refine Zz ?_;refine Zx [] TX hnt λ _ z9=>z9 _ _ ?_;refine Zz ?_;refine ZQ [] TX hnt λ K hK=>?_;refine Zk (hC) ?_;refine Zk (hM) ?_;refine hK _ _ (by kernel_rfl) ?_;clear hK K;refine Zv ?_
 exact Zi rfl
theorem NT (b:Int)(C Mw:List Ty)(p:Li.Pr)(h1:Ty.sizes C<=800000)(h2:Ty.sizes p.m<=800000):Zh Tryz.prog 78 [.ag [.v (.int .i64 b),.sl 2 (eTys C) none,.sl 2 (eTys Mw) none],.ag (WG p)] (.ag [.v (.int .i64 b),.sl 2 (eTys C) none,.sl 2 (eTys p.m) none]):=by
 have hC:=Tb C h1
 have hM:=Tb p.m h2
 rw[Ys]
 refine Zn 0 14 [ResultVar.cell 4 43] TX Tryz.func78 rfl Tryz.ntmps78 rfl λ cx hnt hn0=>?_
 skip
 refine Zz ?_;refine Zx [] TX hnt λ _ z9=>z9 _ _ ?_;refine Zz ?_;refine ZQ [] TX hnt λ K hK=>?_;refine Zk (hC) ?_;refine Zk (hM) ?_;refine hK _ _ (by kernel_rfl) ?_;clear hK K;refine Zv ?_
 exact Zi rfl
end Go.Proofs.YtclihnccilkohaaGreat
