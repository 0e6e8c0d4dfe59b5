/-
  Parts of the proof.
-/
import Derived.Test.YtclihnccilkohaaGreatRowAuditChecksp11
set_option maxRecDepth 100000
set_option maxHeartbeats 1000000
set_option linter.unusedVariables false
set_option linter.unusedSimpArgs false
namespace Go.Proofs.YtclihnccilkohaaGreat
open Go.RowKit
def TRWH:List (Nat×TI):=[(25,TPR_25),(3,TG_3),(24,TS9_24),(33,TPR_33),(26,TRCE_26),(58,TRCE_58)]
theorem Ya:Zd Tryz.prog TRWH:=(((((((Zd.nil _).cons VK).cons UM).cons XX).cons Xy).cons ZW).cons W9)
set_option maxHeartbeats 4000000 in
theorem MR (b:Int)(C Mw:List Ty)(a:List Li.Pr)(ls:List Au.Lm)(ct:Li.Pr->Int)(code:List Ty->List Ty->Tm->Ty->Int) 
  (hT:∀ p∈a++ls.map (·.p),Zh Tryz.prog 48 [.ag [.v (.int .i64 b),.sl 2 (eTys C) none,.sl 2 (eTys Mw) none],.ag (WG p)] (.v (.int .i64 (ct p))))
  (hc:∀ M X t u,Yp C M t X u (code M X t u)) (hCl:C.length<=1000000)
  (hal:a.length<=100) (ha:∀ q∈a,Au.EqOk q) (hll:ls.length<=100) (hls:∀ x∈ls,Au.LOk x) :
  Zh Tryz.prog 16 [.ag [.v (.int .i64 b),.sl 2 (eTys C) none,.sl 2 (eTys Mw) none],.sl 9 (Yt a) none,.sl 10 (YI ls) none] (.tu [.v (.int .i64 (Au.wh code ct a ls).1),.v (.int .i64 (Au.wh code ct a ls).2)]):=by
 have hTa:∀ j (h:j<a.length),Zh Tryz.prog 48 [.ag [.v (.int .i64 b),.sl 2 (eTys C) none,.sl 2 (eTys Mw) none],.ag (WG a[j])] (.v (.int .i64 (ct a[j]))):=λ j h=>hT _ (List.mem_append_left _ (List.getElem_mem h))
 obtain⟨E,hE⟩:∃ E:Nat->List Li.Pr,∀ j,a++(ls.take j).map (·.p)=E j:=⟨_,λ _=>rfl⟩
 have hE0:E 0=a:=by rw[<-hE];simp
 have hEn:∀ j (h:j<ls.length),E (j+1)=E j++[ls[j].p]:=λ j h=>by rw[<-hE,<-hE,List.take_add_one,List.getElem?_eq_getElem h,List.map_append,List.append_assoc];rfl
 have hEl:∀ j,j<=ls.length->(E j).length=a.length+j:=λ j h=>by rw[<-hE];simp;omega
 have hEo:∀ j,∀ q∈E j,Au.EqOk q:=λ j q hq=>by
  rw[<-hE] at hq
  rcases List.mem_append.1 hq with hq | hq
  ·exact ha q hq
  obtain⟨x,hx,rfl⟩:=List.mem_map.1 hq
  exact(hls x (List.mem_of_mem_take hx)).1
 obtain⟨O,hO⟩:∃ O:Nat->List Li.Pr,∀ j,a.take j=O j:=⟨_,λ _=>rfl⟩
 have hO0:O 0=[]:=by rw[<-hO];rfl
 have hOn:∀ j (h:j<a.length),O j++[a[j]]=O (j+1):=λ j h=>by rw[<-hO,<-hO,List.take_add_one,List.getElem?_eq_getElem h];rfl
 have hOl:∀ j,j<=a.length->(O j).length=j:=λ j h=>by rw[<-hO,List.length_take];omega
 have hOm:O a.length=a:=by rw[<-hO,List.take_length]
 obtain⟨L,hL⟩:∃ L:Nat->Int,∀ j (h:j<ls.length),Au.lemma1 (code ls[j].p.m) (E j) (ct ls[j].p) ls[j]=L j:=⟨λ j=>if h:j<ls.length then Au.lemma1 (code ls[j].p.m) (E j) (ct ls[j].p) ls[j] else 0,λ j h=>by dsimp only;rw[dif_pos h]⟩
 have hLe:∀ j (h:j<ls.length),Zh Tryz.prog 49 [.ag [.v (.int .i64 b),.sl 2 (eTys C) none,.sl 2 (eTys Mw) none],.sl 9 (Yt (E j)) none,.ag (PQ ls[j])] (.v (.int .i64 (L j))):=λ j h=>by
  rw[<-hL j h]
  obtain⟨g1,g2,g3,g4⟩:=hls _ (List.getElem_mem h)
  exact MN b C Mw (E j) ls[j] (ct ls[j].p) (code ls[j].p.m) (hT _ (List.mem_append_right _ (List.mem_map.2 ⟨_,List.getElem_mem h,rfl⟩))) (hc _) hCl (by have:=g1.2.2;omega) (by rw[hEl j (by omega)];omega) (hEo j) g3 g4 g1.ok
 obtain⟨G,hG⟩:∃ G:Nat->Int×Int,∀ j,Au.lemmas code ct (ls.drop j) (E j) j=G j:=⟨_,λ _=>rfl⟩
 have hGn:∀ j (h:j<ls.length),G j=if L j≠0 then ((j:Int),L j) else G (j+1):=λ j h=>by
  rw[<-hG,<-hG,List.drop_eq_getElem_cons h,Au.lemmas,hL j h,hEn j h]
 have hGe:G ls.length=((ls.length:Int),0):=by rw[<-hG,List.drop_length];rfl
 have hw:Au.wh code ct a ls=if Au.firstE ct a≠0 then (-1,Au.firstE ct a) else G 0:=by rw[<-hG,hE0];rfl
 have hF:∀ j (h:j<a.length),Au.firstE ct (a.drop j)=if ct a[j]≠0 then ct a[j] else Au.firstE ct (a.drop (j+1)):=λ j h=>by rw[List.drop_eq_getElem_cons h];rfl
 obtain⟨V,hV⟩:∃ V,Au.wh code ct a ls=V:=⟨_,rfl⟩
 rw[hV] at hw ⊢
 simp only[Ys] at hTa
 unfold PQ at hLe
 refine Zn 0 62 [ResultVar.tmp 6,ResultVar.tmp 7] Ya Tryz.func16 rfl Tryz.ntmps16 rfl λ cx hnt hn0=>?_
 skip
 refine Zz ?_;refine Zx [] Ya hnt λ _ z9=>z9 _ _ ?_;refine Zz ?_;refine Zx [] Ya hnt λ _ z9=>z9 _ _ ?_
 refine DW.vs (VS.rowT (x:=8) (by rw[hnt];decide) 33 9 rfl) ?_
 refine Zz ?_;refine Zz ?_;refine Zx [] Ya hnt λ _ z9=>z9 _ _ ?_;refine Zt ?_
 refine Z6 (ι:={ j:Nat // j<=a.length/\Au.firstE ct (a.drop j)=Au.firstE ct a }) (λ j=>[(.t 1,.sl 9 (Yt a) none),(.t 2,.sl 10 (YI ls) none),(.t 3,.p 0 0),(.c 0 0,.v (.int .i64 b)),(.c 0 1,.sl 2 (eTys C) none),(.c 0 2,.sl 2 (eTys Mw) none),(.t 8,.sl 9 (Yt (O j.1)) (some 4)),(.r 4,.rw 33 9 (O j.1).length),(.t 9,.v (.int .i64 ↑j.1))]) 20 (λ j=>a.length-j.1) (⟨0,Nat.zero_le _,rfl⟩) ((by dsimp only;rw[hO0];exact VS.toA)) λ j=>?_
 obtain⟨j,hj,hje⟩:=j
 dsimp only
 by_cases hlt:j<a.length
 ·have hn:=hF j hlt
  have ht:=hTa j hlt
  have hl1:(Yt (O j)).length=(O j).length:=Z4 _
  have hl3:=hOl j hj
  have hl2:(Yt (O (j+1))).length=(O (j+1)).length:=Z4 _
  have hsn:=U4 (O j) a[j]
  rw[hOn j hlt] at hsn
  by_cases h0:ct a[j]=0
  ·rw[if_neg (λ h=>h h0)] at hn;refine Zz ?_;refine Zz ?_;refine Zx [(15,.v (.int .i64 (↑a.length))),(16,.v (.bool true))] Ya hnt λ K hK=>?_;refine And.intro (Zr (by rw[Z4])) ?_;refine And.intro (Z7 (by omega)) ?_;refine hK _ _ ?_;clear hK K;refine Zy (t:=true) rfl ?_;rw[if_pos rfl];refine Zw ?_;refine Zz ?_;refine Zt ?_;refine Zz ?_
   refine ZQ [(22,.q [.sl 2 (eTys a[j].l.binds) none,.v (.int .i64 a[j].l.kind),.v (.int .i64 a[j].l.index),.sl 4 (eTms a[j].l.args) none,.sl 2 (eTys a[j].r.binds) none,.v (.int .i64 a[j].r.kind),.v (.int .i64 a[j].r.index),.sl 4 (eTms a[j].r.args) none,.sl 2 (eTys a[j].m) none])] Ya hnt λ K hK=>?_;refine And.intro (⟨by omega,by rw[Z4];omega⟩) ?_;refine And.intro (Zm.of_eq (by rw[Int.toNat_natCast,XC a j hlt,Ys])) ?_
   refine Zk (ht) ?_;refine hK _ _ (by kernel_rfl) ?_;clear hK K;refine Zz ?_;refine Zz ?_;refine Zx [(26,.v (.bool false))] Ya hnt λ K hK=>?_;refine And.intro (Yq h0) ?_;refine hK _ _ ?_;clear hK K;refine Zy (t:=false) rfl ?_;rw[if_neg (by simp)];refine Zw ?_;refine Zx [(31,.q [.sl 2 (eTys a[j].l.binds) none,.v (.int .i64 a[j].l.kind),.v (.int .i64 a[j].l.index),.sl 4 (eTms a[j].l.args) none,.sl 2 (eTys a[j].r.binds) none,.v (.int .i64 a[j].r.kind),.v (.int .i64 a[j].r.index),.sl 4 (eTms a[j].r.args) none,.sl 2 (eTys a[j].m) none])] Ya hnt λ K hK=>?_
   refine And.intro (⟨by omega,by rw[Z4];omega⟩) ?_;refine And.intro (Zm.of_eq (by rw[Int.toNat_natCast,XC a j hlt,Ys])) ?_;refine And.intro (⟨by omega,by rw[hl1];simp;omega⟩) ?_;refine hK _ _ ?_;clear hK K
   rw[hsn,hl2]
   refine Zx [(18,.v (.int .i64 (↑(j+1))))] Ya hnt λ K hK=>?_;refine And.intro Ww ?_;refine hK _ _ ?_;clear hK K
   refine⟨⟨j+1,hlt,by rw[<-hn,hje]⟩,by first | omega | (dsimp only;omega),VS.toA⟩
  rw[if_pos h0] at hn
  rw[<-hje,hn,if_pos h0] at hw
  subst hw
  refine Zz ?_;refine Zz ?_;refine Zx [(15,.v (.int .i64 (↑a.length))),(16,.v (.bool true))] Ya hnt λ K hK=>?_;refine And.intro (Zr (by rw[Z4])) ?_;refine And.intro (Z7 (by omega)) ?_;refine hK _ _ ?_;clear hK K;refine Zy (t:=true) rfl ?_;rw[if_pos rfl];refine Zw ?_;refine Zz ?_;refine Zt ?_;refine Zz ?_;refine ZQ [(22,.q [.sl 2 (eTys a[j].l.binds) none,.v (.int .i64 a[j].l.kind),.v (.int .i64 a[j].l.index),.sl 4 (eTms a[j].l.args) none,.sl 2 (eTys a[j].r.binds) none,.v (.int .i64 a[j].r.kind),.v (.int .i64 a[j].r.index),.sl 4 (eTms a[j].r.args) none,.sl 2 (eTys a[j].m) none])] Ya hnt λ K hK=>?_
  refine And.intro (⟨by omega,by rw[Z4];omega⟩) ?_;refine And.intro (Zm.of_eq (by rw[Int.toNat_natCast,XC a j hlt,Ys])) ?_;refine Zk (ht) ?_;refine hK _ _ (by kernel_rfl) ?_;clear hK K;refine Zz ?_;refine Zz ?_;refine Zx [(26,.v (.bool true))] Ya hnt λ K hK=>?_;refine And.intro (YO h0) ?_;refine hK _ _ ?_;clear hK K;refine Zy (t:=true) rfl ?_
  rw[if_pos rfl];refine Zz ?_;refine Zx [] Ya hnt λ _ z9=>z9 _ _ ?_;refine Zv ?_
  exact Zi rfl
 have hja:j=a.length:=by omega
 subst hja
 rw[List.drop_length] at hje
 rw[<-hje,if_neg (λ h=>h rfl)] at hw
 refine Zz ?_;refine Zz ?_;refine Zx [(15,.v (.int .i64 (↑a.length))),(16,.v (.bool false))] Ya hnt λ K hK=>?_;refine And.intro (Zr (by rw[Z4])) ?_;refine And.intro (Ze (by omega)) ?_;refine hK _ _ ?_;clear hK K;refine Zy (t:=false) rfl ?_;rw[if_neg (by simp)]
 rw[hOm,<-hE0]
 refine Zg ?_;refine Zz ?_;refine Zz ?_;refine Zx [] Ya hnt λ _ z9=>z9 _ _ ?_;refine Zt ?_
 refine Z6 (ι:={ n:Nat // n<=ls.length/\G n=G 0 }) (λ n=>[(.t 2,.sl 10 (YI ls) none),(.t 3,.p 0 0),(.c 0 0,.v (.int .i64 b)),(.c 0 1,.sl 2 (eTys C) none),(.c 0 2,.sl 2 (eTys Mw) none),(.t 8,.sl 9 (Yt (E n.1)) (some 4)),(.r 4,.rw 33 9 (E n.1).length),(.t 11,.v (.int .i64 ↑n.1))]) 40 (λ n=>ls.length-n.1) (⟨0,Nat.zero_le _,rfl⟩) (VS.toA) λ n=>?_
 obtain⟨n,hn0,hne⟩:=n
 dsimp only
 by_cases hlt:n<ls.length
 ·have hn:=hGn n hlt
  have hl:=hLe n hlt
  have hl1:(Yt (E n)).length=a.length+n:=by rw[Z4,hEl n (by omega)]
  have hl2:(Yt (E (n+1))).length=(E (n+1)).length:=Z4 _
  have hl3:=hEl n (by omega)
  have hl4:=hEl (n+1) (by omega)
  have hsn:=U4 (E n) ls[n].p
  rw[<-hEn n hlt] at hsn
  by_cases h0:L n=0
  ·rw[if_neg (λ h=>h h0)] at hn;refine Zz ?_;refine Zz ?_;refine Zx [(37,.v (.int .i64 (↑ls.length))),(38,.v (.bool true))] Ya hnt λ K hK=>?_;refine And.intro (Zr (by rw[ZY])) ?_;refine And.intro (Z7 (by omega)) ?_;refine hK _ _ ?_;clear hK K;refine Zy (t:=true) rfl ?_;rw[if_pos rfl];refine Zw ?_;refine Zz ?_;refine Zt ?_;refine Zz ?_
   refine ZQ [(42,.sl 9 (Yt (E n)) none),(45,.q [.sl 2 (eTys ls[n].p.l.binds) none,.v (.int .i64 ls[n].p.l.kind),.v (.int .i64 ls[n].p.l.index),.sl 4 (eTms ls[n].p.l.args) none,.sl 2 (eTys ls[n].p.r.binds) none,.v (.int .i64 ls[n].p.r.kind),.v (.int .i64 ls[n].p.r.index),.sl 4 (eTms ls[n].p.r.args) none,.sl 2 (eTys ls[n].p.m) none,.sl 4 (Yc ls[n].l) none])] Ya hnt λ K hK=>?_
   refine And.intro (Zm.untag _ _ _) ?_;refine And.intro (⟨by omega,by rw[ZY];omega⟩) ?_;refine And.intro (Zm.of_eq (by rw[Int.toNat_natCast,XZ ls n hlt];rfl)) ?_;refine Zk (hl) ?_;refine hK _ _ (by kernel_rfl) ?_;clear hK K;refine Zz ?_;refine Zz ?_;refine Zx [(49,.v (.bool false))] Ya hnt λ K hK=>?_;refine And.intro (Yq h0) ?_;refine hK _ _ ?_;clear hK K
   refine Zy (t:=false) rfl ?_;rw[if_neg (by simp)];refine Zw ?_;refine Zx [(55,.q [.sl 2 (eTys ls[n].p.l.binds) none,.v (.int .i64 ls[n].p.l.kind),.v (.int .i64 ls[n].p.l.index),.sl 4 (eTms ls[n].p.l.args) none,.sl 2 (eTys ls[n].p.r.binds) none,.v (.int .i64 ls[n].p.r.kind),.v (.int .i64 ls[n].p.r.index),.sl 4 (eTms ls[n].p.r.args) none,.sl 2 (eTys ls[n].p.m) none,.sl 4 (Yc ls[n].l) none])] Ya hnt λ K hK=>?_
   refine And.intro (⟨by omega,by rw[ZY];omega⟩) ?_;refine And.intro (Zm.of_eq (by rw[Int.toNat_natCast,XZ ls n hlt];rfl)) ?_;refine And.intro (⟨by omega,by rw[hl1];simp;omega⟩) ?_;refine hK _ _ ?_;clear hK K
   rw[hsn,hl2]
   refine Zx [(40,.v (.int .i64 (↑(n+1))))] Ya hnt λ K hK=>?_;refine And.intro Ww ?_;refine hK _ _ ?_;clear hK K
   refine⟨⟨n+1,hlt,by rw[<-hn,hne]⟩,by first | omega | (dsimp only;omega),VS.toA⟩
  rw[if_pos h0] at hn
  rw[<-hne,hn] at hw
  subst hw
  refine Zz ?_;refine Zz ?_;refine Zx [(37,.v (.int .i64 (↑ls.length))),(38,.v (.bool true))] Ya hnt λ K hK=>?_;refine And.intro (Zr (by rw[ZY])) ?_;refine And.intro (Z7 (by omega)) ?_;refine hK _ _ ?_;clear hK K;refine Zy (t:=true) rfl ?_;rw[if_pos rfl];refine Zw ?_;refine Zz ?_;refine Zt ?_;refine Zz ?_;refine ZQ [(42,.sl 9 (Yt (E n)) none),(45,.q [.sl 2 (eTys ls[n].p.l.binds) none,.v (.int .i64 ls[n].p.l.kind),.v (.int .i64 ls[n].p.l.index),.sl 4 (eTms ls[n].p.l.args) none,.sl 2 (eTys ls[n].p.r.binds) none,.v (.int .i64 ls[n].p.r.kind),.v (.int .i64 ls[n].p.r.index),.sl 4 (eTms ls[n].p.r.args) none,.sl 2 (eTys ls[n].p.m) none,.sl 4 (Yc ls[n].l) none])] Ya hnt λ K hK=>?_
  refine And.intro (Zm.untag _ _ _) ?_;refine And.intro (⟨by omega,by rw[ZY];omega⟩) ?_;refine And.intro (Zm.of_eq (by rw[Int.toNat_natCast,XZ ls n hlt];rfl)) ?_;refine Zk (hl) ?_;refine hK _ _ (by kernel_rfl) ?_;clear hK K;refine Zz ?_;refine Zz ?_;refine Zx [(49,.v (.bool true))] Ya hnt λ K hK=>?_;refine And.intro (YO h0) ?_;refine hK _ _ ?_;clear hK K
  refine Zy (t:=true) rfl ?_;rw[if_pos rfl];refine Zz ?_;refine Zx [] Ya hnt λ _ z9=>z9 _ _ ?_;refine Zv ?_
  exact Zi rfl
 have hnl:n=ls.length:=by omega
 subst hnl
 rw[<-hne,hGe] at hw
 subst hw
 refine Zz ?_;refine Zz ?_;refine Zx [(37,.v (.int .i64 (↑ls.length))),(38,.v (.bool false))] Ya hnt λ K hK=>?_;refine And.intro (Zr (by rw[ZY])) ?_;refine And.intro (Ze (by omega)) ?_;refine hK _ _ ?_;clear hK K;refine Zy (t:=false) rfl ?_;rw[if_neg (by simp)];refine Zg ?_;refine Zz ?_;refine Zx [(61,.v (.int .i64 (↑ls.length)))] Ya hnt λ K hK=>?_
 refine And.intro (Zr (by rw[ZY])) ?_;refine hK _ _ ?_;clear hK K;refine Zv ?_
 exact Zi rfl
def TAUW:List (Nat×TI):=[(47,TAUI_47),(43,TRT6_43),(3,TG_3),(33,TPR_33),(24,TS9_24),(26,TRCE_26),(64,TPR_64),(25,TPR_25),(34,TAUE_34),(58,TRCE_58),(50,TN1_50),(22,TTY_22),(104,TTY_104)]
theorem Z0:Zd Tryz.prog TAUW:=((((((((((((((Zd.nil _).cons Yy).cons Yo).cons Y0).cons VK).cons YM).cons W9).cons Yk).cons UM).cons Xy).cons XX).cons ZW).cons Yb).cons Ws)
namespace Au
theorem typed_ex (b:Int)(C Mw:List Ty)(L:List Li.Pr)(hC:C.length<=900000)(hs:∀ t∈C,t.size<=400000)(h:∀ p∈L,(p.l.full<=20000/\p.l.Fit)/\(p.r.full<=20000/\p.r.Fit)/\p.m.length<=900000/\∀ t∈p.m,t.size<=400000):
  ∃ ct:Li.Pr->Int,(∀ p∈L,Zh Tryz.prog 46 [.ag [.v (.int .i64 b),.sl 2 (eTys C) none,.sl 2 (eTys Mw) none],.ag (WG p)] (.v (.int .i64 (ct p))))/\(∀ p∈L,Zh Tryz.prog 48 [.ag [.v (.int .i64 b),.sl 2 (eTys C) none,.sl 2 (eTys Mw) none],.ag (WG p)] (.v (.int .i64 (ct p)))):=by
 have key:∀ p:Li.Pr,∃ c:Int,p∈L->Zh Tryz.prog 46 [.ag [.v (.int .i64 b),.sl 2 (eTys C) none,.sl 2 (eTys Mw) none],.ag (WG p)] (.v (.int .i64 c))/\Zh Tryz.prog 48 [.ag [.v (.int .i64 b),.sl 2 (eTys C) none,.sl 2 (eTys Mw) none],.ag (WG p)] (.v (.int .i64 c)):=λ p=>by
  by_cases hp:p∈L
  ·obtain⟨h1,h2,h3,h4⟩:=h p hp
   obtain⟨c,_,k1,k2⟩:=Ub b C Mw p h1 h2 hC h3 (λ t ht=>by
    rcases List.mem_append.1 ht with ht | ht
    ·exact hs t ht
    exact h4 t ht)
   exact⟨c,λ _=>⟨k1,k2⟩⟩
  exact⟨0,λ h=>absurd h hp⟩
 obtain⟨ct,hct⟩:=Classical.axiomOfChoice key
 exact⟨ct,λ p hp=>(hct p hp).1,λ p hp=>(hct p hp).2⟩
theorem codes_ex (C:List Ty):∃ code:List Ty->List Ty->Tm->Ty->Int,∀ M X t u,Yp C M t X u (code M X t u):=by
 obtain⟨code,h⟩:=Classical.axiomOfChoice (λ M=>code_ex C M)
 exact⟨code,h⟩
theorem goal_last {l:List Lm}{p:Li.Pr}(h:l≠[]):goal l p=if (l.getLast h).p=p then 0 else 12:=by
 unfold goal
 rw[List.getLast?_eq_some_getLast h,Option.map_some]
 by_cases hp:(l.getLast h).p=p
 ·rw[if_pos hp,if_pos (by rw[hp])]
 rw[if_neg hp,if_neg (λ g=>hp (Option.some.inj g))]
end Au
set_option maxRecDepth 100000 in
set_option maxHeartbeats 8000000 in
theorem Rq (b:Int)(C Mw:List Ty)(l:List Li.Pr)(c:List Au.Lm)(p:Li.Pr)(hl:l.length<=9223372036854775807)(hlf:∀ p∈l,p.l.Fit/\p.r.Fit)(hcl:c.length<=9223372036854775807) 
  (hcf:∀ x∈c,(x.p.l.Fit/\x.p.r.Fit)/\x.l.length<=9223372036854775807/\∀ y∈x.l,y.path.length<=9223372036854775807/\y.s.length<=9223372036854775807/\∀ q∈y.s,q.2.Fit) (hpf:p.l.Fit/\p.r.Fit) :
  Zh Tryz.prog 3 [.ag [.v (.int .i64 b),.sl 2 (eTys C) none,.sl 2 (eTys Mw) none],.sl 9 (Yt l) none,.sl 10 (YI c) none,.ag (WG p)] (.v (.bool true)):=by
 have hk:=Mx
 have hA:=Kf l hl
 have hSm:=MV b C Mw
 have hF:=Ji c hcl (λ x hx=>⟨(hcf x hx).2.1,λ y hy=>⟨((hcf x hx).2.2 y hy).1,((hcf x hx).2.2 y hy).2.1⟩⟩)
 have hG:=Nq [p] (by simp)
 rw[show [p].all VA=VA p by simp] at hG
 have eP:Yt [p]=[[.sl 2 (eTys p.l.binds) none,.v (.int .i64 p.l.kind),.v (.int .i64 p.l.index),.sl 4 (eTms p.l.args) none,.sl 2 (eTys p.r.binds) none,.v (.int .i64 p.r.kind),.v (.int .i64 p.r.index),.sl 4 (eTms p.r.args) none,.sl 2 (eTys p.m) none]]:=rfl
 obtain⟨A,hAe⟩:∃ A,(if (l.take 6).all Au.okA=true then l.take 6 else [])=A:=⟨_,rfl⟩
 rw[hAe] at hA
 rw[Ys p]
 cases ha:(l.take 6).all Au.okA with
 | false=>
  rw[ha] at hA
  refine Zn 0 139 [ResultVar.tmp 8] Z0 Tryz.func3 rfl Tryz.ntmps3 rfl λ cx hnt hn0=>?_
  skip
  refine Zz ?_;refine Zx [] Z0 hnt λ _ z9=>z9 _ _ ?_;refine Zz ?_;refine Zx [] Z0 hnt λ K hK=>?_;refine Zk (hA) ?_;refine hK _ _ ?_;clear hK K;refine Zz ?_;refine Zz ?_;refine Zx [] Z0 hnt λ _ z9=>z9 _ _ ?_;refine Zy (t:=true) rfl ?_;rw[if_pos rfl];refine Zz ?_;refine Zx [] Z0 hnt λ K hK=>?_
  refine Zk (hk) ?_;refine hK _ _ ?_;clear hK K;refine Zv ?_
  exact Zi rfl
 | true=>
 rw[ha] at hA
 cases hs:Ru.wB C Mw with
 | false=>
  rw[hs] at hSm
  refine Zn 0 139 [ResultVar.tmp 8] Z0 Tryz.func3 rfl Tryz.ntmps3 rfl λ cx hnt hn0=>?_
  skip
  refine Zz ?_;refine Zx [] Z0 hnt λ _ z9=>z9 _ _ ?_;refine Zz ?_;refine Zx [] Z0 hnt λ K hK=>?_;refine Zk (hA) ?_;refine hK _ _ ?_;clear hK K;refine Zz ?_;refine Zz ?_;refine Zx [] Z0 hnt λ K hK=>?_;refine Zk (hSm) ?_;refine hK _ _ ?_;clear hK K;refine Zy (t:=true) rfl ?_;rw[if_pos rfl];refine Zz ?_;refine Zx [] Z0 hnt λ K hK=>?_
  refine Zk (hk) ?_;refine hK _ _ ?_;clear hK K;refine Zv ?_
  exact Zi rfl
 | true=>
 rw[hs] at hSm
 cases hf:(c.take 6).all Au.okL with
 | false=>
  rw[hf] at hF
  refine Zn 0 139 [ResultVar.tmp 8] Z0 Tryz.func3 rfl Tryz.ntmps3 rfl λ cx hnt hn0=>?_
  skip
  refine Zz ?_;refine Zx [] Z0 hnt λ _ z9=>z9 _ _ ?_;refine Zz ?_;refine Zx [] Z0 hnt λ K hK=>?_;refine Zk (hA) ?_;refine hK _ _ ?_;clear hK K;refine Zz ?_;refine Zz ?_;refine Zx [] Z0 hnt λ K hK=>?_;refine Zk (hSm) ?_;refine Zk (hF) ?_;refine hK _ _ ?_;clear hK K;refine Zy (t:=true) rfl ?_;rw[if_pos rfl];refine Zz ?_
  refine Zx [] Z0 hnt λ K hK=>?_;refine Zk (hk) ?_;refine hK _ _ ?_;clear hK K;refine Zv ?_
  exact Zi rfl
 | true=>
 rw[hf] at hF
 cases hg:VA p with
 | false=>
  rw[hg] at hG
  refine Zn 0 139 [ResultVar.tmp 8] Z0 Tryz.func3 rfl Tryz.ntmps3 rfl λ cx hnt hn0=>?_
  skip
  refine Zz ?_;refine Zx [] Z0 hnt λ _ z9=>z9 _ _ ?_;refine Zz ?_;refine Zx [] Z0 hnt λ K hK=>?_;refine Zk (hA) ?_;refine hK _ _ ?_;clear hK K;refine Zz ?_;refine Zz ?_;refine Zx [(43,.sl 9 (Yt [p]) none)] Z0 hnt λ K hK=>?_;refine Zk (hSm) ?_;refine Zk (hF) ?_;refine And.intro ((by rw[eP];exact Zm.untag _ _ _)) ?_
  refine Zk (hG) ?_;refine hK _ _ ?_;clear hK K;refine Zy (t:=true) rfl ?_;rw[if_pos rfl];refine Zz ?_;refine Zx [] Z0 hnt λ K hK=>?_;refine Zk (hk) ?_;refine hK _ _ ?_;clear hK K;refine Zv ?_
  exact Zi rfl
 | true=>
 rw[hg] at hG
 have hAe:A=l.take 6:=by rw[<-hAe,if_pos ha]
 have hAl:A.length<=6:=by rw[hAe,List.length_take];omega
 unfold Ru.wB at hs
 rw[Bool.and_eq_true,decide_eq_true_eq] at hs
 have hCM:∀ t∈C++Mw,t.size<=60:=λ t ht=>Og (List.all_eq_true.1 hs.2 t ht)
 have zC:Ty.sizes C<=1200:=by have:=UX (λ t ht=>hCM t (List.mem_append_left _ ht));have:=hs.1.1;omega
 have zM:Ty.sizes Mw<=1200:=by have:=UX (λ t ht=>hCM t (List.mem_append_right _ ht));have:=hs.1.2;omega
 have hWd:=H8 b C Mw (by omega) (by omega)
 have hcl2:=hs.1.1
 have hEq:∀ q∈A,Au.EqOk q/\∀ t∈q.m,t.size<=60:=λ q hq=>by
  rw[hAe] at hq
  have h:=List.all_eq_true.1 ha q hq
  rw[Au.okA,Bool.and_eq_true] at h
  obtain⟨h1,h2,h3⟩:=Qk h.1
  have hfq:=hlf q (List.mem_of_mem_take hq)
  exact⟨⟨⟨h1.1,Bnd.of_full _ h1.1 hfq.1⟩,⟨h1.2,Bnd.of_full _ h1.2 hfq.2⟩,by omega⟩,h3⟩
 have hLx:∀ x∈c.take 6,(x.p.l.full<=150/\x.p.r.full<=150)/\(x.p.m.length<=20/\∀ t∈x.p.m,t.size<=60)/\∀ y∈x.l.take 8,(∀ q∈y.s.take 10,q.2.full<=150)/\y.path.length<=100:=λ x hx=>by
  have h:=List.all_eq_true.1 hf x hx
  rw[Au.okL,Bool.and_eq_true,Bool.and_eq_true,Bool.and_eq_true,decide_eq_true_eq] at h
  obtain⟨⟨h1,h2,h3⟩,h4⟩:=h
  simp only[List.all_cons,List.all_nil,Bool.and_true,Bool.and_eq_true] at h1
  refine⟨⟨(Wp h1.1).1,(Wp h1.2).1⟩,⟨h2,λ t ht=>Og (List.all_eq_true.1 h3 t ht)⟩,λ y hy=>?_⟩
  have h5:=List.all_eq_true.1 h4 y hy
  rw[Au.okS,Bool.and_eq_true,decide_eq_true_eq] at h5
  exact⟨λ q hq=>(Wp (by have:=List.all_eq_true.1 h5.1 q hq;rw[Bool.and_eq_true] at this;exact this.1)).1,h5.2⟩
 have hTo:=JB c hcl (λ x hx=>by
  obtain⟨h1,h2,h3⟩:=hLx x hx
  have hx':=hcf x (List.mem_of_mem_take hx)
  exact⟨⟨by omega,by omega,by have:=Au.sizes_of h2.2;omega⟩,hx'.2.1,λ y hy=>⟨(hx'.2.2 y (List.mem_of_mem_take hy)).2.1,λ q hq=>by have:=(h3 y hy).1 q hq;omega⟩⟩)
 obtain⟨LS,hLS⟩:∃ LS,(c.take 6).map Au.cutL=LS:=⟨_,rfl⟩
 have hLl:LS.length<=6:=by rw[<-hLS,List.length_map,List.length_take];omega
 have hL:∀ x∈LS,Au.LOk x/\(x.p.l.Fit/\x.p.r.Fit)/\(∀ t∈x.p.m,t.size<=60)/\x.l.length<=8/\∀ y∈x.l,y.s.length<=10:=λ x hx=>by
  rw[<-hLS] at hx
  obtain⟨x,hxm,rfl⟩:=List.mem_map.1 hx
  obtain⟨h1,h2,h3⟩:=hLx x hxm
  have hx':=hcf x (List.mem_of_mem_take hxm)
  have h8:(Au.cutL x).l.length<=8:=by show ((x.l.take 8).map Au.cut).length<=8;rw[List.length_map,List.length_take];omega
  have h10:∀ y∈(Au.cutL x).l,y.s.length<=10/\Au.SOk y:=λ y hy=>by
   obtain⟨y,hym,rfl⟩:=List.mem_map.1 (show y∈(x.l.take 8).map Au.cut from hy)
   have hl10:(Au.cut y).s.length<=10:=by show (y.s.take 10).length<=10;rw[List.length_take];omega
   refine⟨hl10,by omega,λ q hq=>?_,by have:=(h3 y hym).2;show y.path.length<=_;omega⟩
   exact⟨(h3 y hym).1 q hq,(hx'.2.2 y (List.mem_of_mem_take hym)).2.2 q (List.mem_of_mem_take hq)⟩
  exact⟨⟨⟨⟨h1.1,Bnd.of_full _ h1.1 hx'.1.1⟩,⟨h1.2,Bnd.of_full _ h1.2 hx'.1.2⟩,by show x.p.m.length<=_;omega⟩,by have:=Au.sizes_of h2.2;show Ty.sizes x.p.m<=_;omega,by omega,λ y hy=>(h10 y hy).2⟩,hx'.1,h2.2,h8,λ y hy=>(h10 y hy).1⟩
 rw[hLS] at hTo
 have hOf:=I0 LS (by omega) (λ x hx=>by
  obtain⟨h1,h2,h3,h4,h5⟩:=hL x hx
  exact⟨⟨by have:=h1.1.1.1;omega,by have:=h1.1.2.1.1;omega,by have:=h1.2.1;omega⟩,by omega,λ y hy=>⟨by have:=h5 y hy;omega,λ q hq=>by have:=((h1.2.2.2 y hy).2.1 q hq).1;omega⟩⟩)
 obtain⟨ct,hT1,hT2⟩:=Au.typed_ex b C Mw (A++LS.map (·.p)) (by omega) (λ t ht=>by have:=hCM t (List.mem_append_left _ ht);omega) (λ q hq=>by
  rcases List.mem_append.1 hq with hq | hq
  ·obtain⟨h1,h2⟩:=hEq q hq
   exact⟨⟨by have:=h1.1.1;omega,(hlf q (List.mem_of_mem_take (hAe ▸ hq))).1⟩,⟨by have:=h1.2.1.1;omega,(hlf q (List.mem_of_mem_take (hAe ▸ hq))).2⟩,by have:=h1.2.2;omega,λ t ht=>by have:=h2 t ht;omega⟩
  obtain⟨x,hx,rfl⟩:=List.mem_map.1 hq
  obtain⟨h1,h2,h3,_⟩:=hL x hx
  exact⟨⟨by have:=h1.1.1.1;omega,h2.1⟩,⟨by have:=h1.1.2.1.1;omega,h2.2⟩,by have:=h1.1.2.2;omega,λ t ht=>by have:=h3 t ht;omega⟩)
 obtain⟨code,hc⟩:=Au.codes_ex C
 have hWh:=N5 b C Mw A LS ct code hT1 hc (by omega) (by omega) (by omega) (λ q hq=>(hEq q hq).1) (by omega) (λ x hx=>(hL x hx).1)
 have hRw:=MR b C Mw A LS ct code hT2 hc (by omega) (by omega) (λ q hq=>(hEq q hq).1) (by omega) (λ x hx=>(hL x hx).1)
 obtain⟨⟨i,e⟩,hie⟩:∃ r,Au.wh code ct A LS=r:=⟨_,rfl⟩
 rw[hie] at hWh hRw
 dsimp only at hWh hRw
 have hCk:=RD b C Mw A LS i e hWh
 have hLp:∀ x∈LS,(x.p.l.full<=900000/\x.p.l.Fit)/\(x.p.r.full<=900000/\x.p.r.Fit)/\Ty.sizes x.p.m<=800000:=λ x hx=>by
  obtain⟨h1,h2,_⟩:=hL x hx
  exact⟨⟨by have:=h1.1.1.1;omega,h2.1⟩,⟨by have:=h1.1.2.1.1;omega,h2.2⟩,h1.2.1⟩
 have hPr:=λ g=>PS b C Mw A LS e g (by omega) hLp hCk
 have hLm:∀ x∈LS,x.p.m.length<=1000:=λ x hx=>(hL x hx).1.1.2.2
 obtain⟨z1,z2,z3⟩:=Qk hg
 have hTp:=PL p (by omega) (by omega) (by have:=Au.sizes_of z3;omega)
 clear hie hc hT1 hT2 hLx hL hEq hlf hcf
 have hP1:=hPr p
 simp only[Ys] at hP1 hTp
 by_cases h0:e=0
 ·subst h0
  rw[if_neg (λ h=>h rfl)] at hP1
  by_cases hn:LS=[]
  ·subst hn
   have hgo:=SA
   have hP2:=hPr Li.Pr.z
   rw[if_neg (λ h=>h rfl),show Au.goal [] Li.Pr.z=12 from if_neg (by simp)] at hP2
   rw[show Au.goal [] p=12 from if_neg (by simp)] at hP1
   rw[Ky] at hgo hP2
   refine Zn 0 139 [ResultVar.tmp 8] Z0 Tryz.func3 rfl Tryz.ntmps3 rfl λ cx hnt hn0=>?_
   skip
   refine Zz ?_;refine Zx [] Z0 hnt λ _ z9=>z9 _ _ ?_;refine Zz ?_;refine Zx [] Z0 hnt λ K hK=>?_;refine Zk (hA) ?_;refine hK _ _ ?_;clear hK K;refine Zz ?_;refine Zz ?_;refine Zx [(43,.sl 9 (Yt [p]) none)] Z0 hnt λ K hK=>?_;refine Zk (hSm) ?_;refine Zk (hF) ?_;refine And.intro ((by rw[eP];exact Zm.untag _ _ _)) ?_
   refine Zk (hG) ?_;refine hK _ _ ?_;clear hK K;refine Zy (t:=false) rfl ?_;rw[if_neg (by simp)];refine Zw ?_;refine Zz ?_;refine Zx [] Z0 hnt λ K hK=>?_;refine Zk (hWd) ?_;refine hK _ _ ?_;clear hK K;refine Zz ?_;refine Zx [] Z0 hnt λ K hK=>?_;refine Zk (hTo) ?_;refine hK _ _ ?_;clear hK K;refine Zz ?_;refine Zx [] Z0 hnt λ K hK=>?_
   refine Zk (hOf) ?_;refine hK _ _ ?_;clear hK K;refine Zz ?_;refine Zx [] Z0 hnt λ K hK=>?_;refine Zk (hWh) ?_;refine hK _ _ ?_;clear hK K;refine Zz ?_;refine Zx [] Z0 hnt λ K hK=>?_;refine Zk (hRw) ?_;refine hK _ _ ?_;clear hK K;refine Zz ?_;refine Zx [] Z0 hnt λ _ z9=>z9 _ _ ?_;refine Zz ?_;refine Zz ?_;refine ZQ [(70,.v (.bool true)),(73,.v (.int .i64 (0))),(74,.v (.bool true))] Z0 hnt λ K hK=>?_
   refine And.intro (YT rfl) ?_;refine And.intro (Zr (by rfl)) ?_;refine And.intro (YT rfl) ?_;refine hK _ _ (by kernel_rfl) ?_;clear hK K;refine Zy (t:=true) rfl ?_;rw[if_pos rfl];refine Zx [] Z0 hnt λ _ z9=>z9 _ _ ?_;refine Zz ?_;refine Zx [] Z0 hnt λ _ z9=>z9 _ _ ?_;refine Zz ?_;refine Zz ?_;refine Zx [(90,.v (.bool true)),(93,.v (.int .i64 (0))),(94,.v (.bool true))] Z0 hnt λ K hK=>?_
   refine And.intro (YT rfl) ?_;refine And.intro (Zr (by rfl)) ?_;refine And.intro (YT rfl) ?_;refine hK _ _ ?_;clear hK K;refine Zy (t:=true) rfl ?_;rw[if_pos rfl];refine Zx [] Z0 hnt λ _ z9=>z9 _ _ ?_;refine Zz ?_;refine Zx [] Z0 hnt λ K hK=>?_;refine Zk (hgo) ?_;refine hK _ _ ?_;clear hK K;refine Zz ?_;refine ZQ [(105,.v (.bool true)),(110,.v (.bool true)),(118,.v (.bool true)),(128,.v (.bool true)),(137,.v (.bool true))] Z0 hnt λ K hK=>?_
   refine Zk (hk) ?_;refine And.intro (YT rfl) ?_;refine And.intro (YT rfl) ?_;refine Zk (hCk) ?_;refine And.intro (YT rfl) ?_;refine Zk (hTp) ?_;refine Zk (hP1) ?_;refine And.intro (YT rfl) ?_;refine Zk (hP2) ?_;refine And.intro (YT rfl) ?_;refine hK _ _ (by kernel_rfl) ?_;clear hK K;refine Zv ?_
   exact Zi rfl
  have hgo:=OT LS (by omega) hLp hn
  obtain⟨q,hq⟩:∃ q,(LS.getLast hn).p=q:=⟨_,rfl⟩
  rw[hq] at hgo
  have hP2:=hPr q
  rw[if_neg (λ h=>h rfl),Au.goal_last hn,hq,if_pos rfl] at hP2
  rw[Au.goal_last hn,hq] at hP1
  have h0:0<LS.length:=List.length_pos_iff.2 hn
  obtain⟨x,hx⟩:∃ x,LS.getLast hn=x:=⟨_,rfl⟩
  obtain⟨k,hk'⟩:∃ k:Nat,k+1=LS.length:=⟨LS.length-1,by omega⟩
  have hxl:LS[LS.length-1]=x:=by rw[<-hx,List.getLast_eq_getElem]
  have hxk:LS[k]=x:=by rw[<-hxl];congr 1;omega
  have hxq:x.p=q:=by rw[<-hx,hq]
  have hgd:(YI LS).getD k []=[.sl 2 (eTys q.l.binds) none,.v (.int .i64 q.l.kind),.v (.int .i64 q.l.index),.sl 4 (eTms q.l.args) none,.sl 2 (eTys q.r.binds) none,.v (.int .i64 q.r.kind),.v (.int .i64 q.r.index),.sl 4 (eTms q.r.args) none,.sl 2 (eTys q.m) none,.sl 4 (Yc x.l) none]:=by rw[XZ LS k (by omega),hxk,<-hxq];rfl
  have hxi:=hLm x (hx ▸ List.getLast_mem hn)
  rw[hxq] at hxi
  have hSa:=MS q p (by omega) (by omega)
  simp only[Ys] at hgo hP2 hSa
  by_cases hqp:q=p
  ·rw[if_pos hqp] at hP1
   rw[decide_eq_true hqp] at hSa
   refine Zn 0 139 [ResultVar.tmp 8] Z0 Tryz.func3 rfl Tryz.ntmps3 rfl λ cx hnt hn0=>?_
   skip
   refine Zz ?_;refine Zx [] Z0 hnt λ _ z9=>z9 _ _ ?_;refine Zz ?_;refine Zx [] Z0 hnt λ K hK=>?_;refine Zk (hA) ?_;refine hK _ _ ?_;clear hK K;refine Zz ?_;refine Zz ?_;refine Zx [(43,.sl 9 (Yt [p]) none)] Z0 hnt λ K hK=>?_;refine Zk (hSm) ?_;refine Zk (hF) ?_;refine And.intro ((by rw[eP];exact Zm.untag _ _ _)) ?_
   refine Zk (hG) ?_;refine hK _ _ ?_;clear hK K;refine Zy (t:=false) rfl ?_;rw[if_neg (by simp)];refine Zw ?_;refine Zz ?_;refine Zx [] Z0 hnt λ K hK=>?_;refine Zk (hWd) ?_;refine hK _ _ ?_;clear hK K;refine Zz ?_;refine Zx [] Z0 hnt λ K hK=>?_;refine Zk (hTo) ?_;refine hK _ _ ?_;clear hK K;refine Zz ?_;refine Zx [] Z0 hnt λ K hK=>?_
   refine Zk (hOf) ?_;refine hK _ _ ?_;clear hK K;refine Zz ?_;refine Zx [] Z0 hnt λ K hK=>?_;refine Zk (hWh) ?_;refine hK _ _ ?_;clear hK K;refine Zz ?_;refine Zx [] Z0 hnt λ K hK=>?_;refine Zk (hRw) ?_;refine hK _ _ ?_;clear hK K;refine Zz ?_;refine Zx [] Z0 hnt λ _ z9=>z9 _ _ ?_;refine Zz ?_;refine Zz ?_;refine ZQ [(70,.v (.bool true)),(73,.v (.int .i64 (↑LS.length))),(74,.v (.bool false)),(78,.v (.int .i64 (↑LS.length))),(79,.v (.int .i64 (↑k))),(80,.q [.sl 2 (eTys q.l.binds) none,.v (.int .i64 q.l.kind),.v (.int .i64 q.l.index),.sl 4 (eTms q.l.args) none,.sl 2 (eTys q.r.binds) none,.v (.int .i64 q.r.kind),.v (.int .i64 q.r.index),.sl 4 (eTms q.r.args) none,.sl 2 (eTys q.m) none,.sl 4 (Yc x.l) none])] Z0 hnt λ K hK=>?_
   refine And.intro (YT rfl) ?_;refine And.intro (Zr (by rw[ZY])) ?_;refine And.intro (XM (by omega)) ?_;refine And.intro (Zr (by rw[ZY])) ?_;refine And.intro (Zr (by (rw[IntWalk.i64_in _ (by omega)];omega))) ?_;refine And.intro (⟨by omega,by rw[ZY];omega⟩) ?_;refine And.intro (Zm.of_eq (by rw[Int.toNat_natCast,hgd])) ?_;refine Zk (hSa) ?_;refine hK _ _ (by kernel_rfl) ?_;clear hK K
   refine Zy (t:=false) rfl ?_;rw[if_neg (by simp)];refine Zw ?_;refine Zz ?_;refine Zx [] Z0 hnt λ _ z9=>z9 _ _ ?_;refine Zz ?_;refine Zz ?_;refine Zx [(90,.v (.bool true)),(93,.v (.int .i64 (↑LS.length))),(94,.v (.bool false))] Z0 hnt λ K hK=>?_;refine And.intro (YT rfl) ?_;refine And.intro (Zr (by rw[ZY])) ?_
   refine And.intro (XM (by omega)) ?_;refine hK _ _ ?_;clear hK K;refine Zy (t:=false) rfl ?_;rw[if_neg (by simp)];refine Zw ?_;refine Zz ?_;refine Zx [] Z0 hnt λ K hK=>?_;refine Zk (hgo) ?_;refine hK _ _ ?_;clear hK K;refine Zz ?_;refine ZQ [(105,.v (.bool true)),(110,.v (.bool true)),(118,.v (.bool true)),(128,.v (.bool true)),(137,.v (.bool true))] Z0 hnt λ K hK=>?_
   refine Zk (hk) ?_;refine And.intro (YT rfl) ?_;refine And.intro (YT rfl) ?_;refine Zk (hCk) ?_;refine And.intro (YT rfl) ?_;refine Zk (hTp) ?_;refine Zk (hP1) ?_;refine And.intro (YT rfl) ?_;refine Zk (hP2) ?_;refine And.intro (YT rfl) ?_;refine hK _ _ (by kernel_rfl) ?_;clear hK K;refine Zv ?_
   exact Zi rfl
  rw[if_neg hqp] at hP1
  rw[decide_eq_false hqp] at hSa
  refine Zn 0 139 [ResultVar.tmp 8] Z0 Tryz.func3 rfl Tryz.ntmps3 rfl λ cx hnt hn0=>?_
  skip
  refine Zz ?_;refine Zx [] Z0 hnt λ _ z9=>z9 _ _ ?_;refine Zz ?_;refine Zx [] Z0 hnt λ K hK=>?_;refine Zk (hA) ?_;refine hK _ _ ?_;clear hK K;refine Zz ?_;refine Zz ?_;refine Zx [(43,.sl 9 (Yt [p]) none)] Z0 hnt λ K hK=>?_;refine Zk (hSm) ?_;refine Zk (hF) ?_;refine And.intro ((by rw[eP];exact Zm.untag _ _ _)) ?_
  refine Zk (hG) ?_;refine hK _ _ ?_;clear hK K;refine Zy (t:=false) rfl ?_;rw[if_neg (by simp)];refine Zw ?_;refine Zz ?_;refine Zx [] Z0 hnt λ K hK=>?_;refine Zk (hWd) ?_;refine hK _ _ ?_;clear hK K;refine Zz ?_;refine Zx [] Z0 hnt λ K hK=>?_;refine Zk (hTo) ?_;refine hK _ _ ?_;clear hK K;refine Zz ?_;refine Zx [] Z0 hnt λ K hK=>?_
  refine Zk (hOf) ?_;refine hK _ _ ?_;clear hK K;refine Zz ?_;refine Zx [] Z0 hnt λ K hK=>?_;refine Zk (hWh) ?_;refine hK _ _ ?_;clear hK K;refine Zz ?_;refine Zx [] Z0 hnt λ K hK=>?_;refine Zk (hRw) ?_;refine hK _ _ ?_;clear hK K;refine Zz ?_;refine Zx [] Z0 hnt λ _ z9=>z9 _ _ ?_;refine Zz ?_;refine Zz ?_;refine ZQ [(70,.v (.bool true)),(73,.v (.int .i64 (↑LS.length))),(74,.v (.bool false)),(78,.v (.int .i64 (↑LS.length))),(79,.v (.int .i64 (↑k))),(80,.q [.sl 2 (eTys q.l.binds) none,.v (.int .i64 q.l.kind),.v (.int .i64 q.l.index),.sl 4 (eTms q.l.args) none,.sl 2 (eTys q.r.binds) none,.v (.int .i64 q.r.kind),.v (.int .i64 q.r.index),.sl 4 (eTms q.r.args) none,.sl 2 (eTys q.m) none,.sl 4 (Yc x.l) none])] Z0 hnt λ K hK=>?_
  refine And.intro (YT rfl) ?_;refine And.intro (Zr (by rw[ZY])) ?_;refine And.intro (XM (by omega)) ?_;refine And.intro (Zr (by rw[ZY])) ?_;refine And.intro (Zr (by (rw[IntWalk.i64_in _ (by omega)];omega))) ?_;refine And.intro (⟨by omega,by rw[ZY];omega⟩) ?_;refine And.intro (Zm.of_eq (by rw[Int.toNat_natCast,hgd])) ?_;refine Zk (hSa) ?_;refine hK _ _ (by kernel_rfl) ?_;clear hK K
  refine Zy (t:=true) rfl ?_;rw[if_pos rfl];refine Zx [] Z0 hnt λ _ z9=>z9 _ _ ?_;refine Zz ?_;refine Zx [] Z0 hnt λ _ z9=>z9 _ _ ?_;refine Zz ?_;refine Zz ?_;refine Zx [(90,.v (.bool true)),(93,.v (.int .i64 (↑LS.length))),(94,.v (.bool false))] Z0 hnt λ K hK=>?_;refine And.intro (YT rfl) ?_
  refine And.intro (Zr (by rw[ZY])) ?_;refine And.intro (XM (by omega)) ?_;refine hK _ _ ?_;clear hK K;refine Zy (t:=false) rfl ?_;rw[if_neg (by simp)];refine Zw ?_;refine Zz ?_;refine Zx [] Z0 hnt λ K hK=>?_;refine Zk (hgo) ?_;refine hK _ _ ?_;clear hK K;refine Zz ?_;refine ZQ [(105,.v (.bool true)),(110,.v (.bool true)),(118,.v (.bool true)),(128,.v (.bool true)),(137,.v (.bool true))] Z0 hnt λ K hK=>?_
  refine Zk (hk) ?_;refine And.intro (YT rfl) ?_;refine And.intro (YT rfl) ?_;refine Zk (hCk) ?_;refine And.intro (YT rfl) ?_;refine Zk (hTp) ?_;refine Zk (hP1) ?_;refine And.intro (YT rfl) ?_;refine Zk (hP2) ?_;refine And.intro (YT rfl) ?_;refine hK _ _ (by kernel_rfl) ?_;clear hK K;refine Zv ?_
  exact Zi rfl
 rw[if_pos h0] at hP1
 obtain⟨G,f,hgo⟩:∃ (G:Li.Pr) (f:Bool),Zh Tryz.prog 18 [.ag [.sl 10 (YI LS) none]] (.tu [.ag (WG G),.v (.bool f)]):=by
  by_cases hn:LS=[]
  ·subst hn;exact⟨_,_,SA⟩
  exact⟨_,_,OT LS (by omega) hLp hn⟩
 have hP2:=hPr G
 rw[if_pos h0] at hP2
 simp only[Ys] at hgo hP2
 refine Zn 0 139 [ResultVar.tmp 8] Z0 Tryz.func3 rfl Tryz.ntmps3 rfl λ cx hnt hn0=>?_
 skip
 refine Zz ?_;refine Zx [] Z0 hnt λ _ z9=>z9 _ _ ?_;refine Zz ?_;refine Zx [] Z0 hnt λ K hK=>?_;refine Zk (hA) ?_;refine hK _ _ ?_;clear hK K;refine Zz ?_;refine Zz ?_;refine Zx [(43,.sl 9 (Yt [p]) none)] Z0 hnt λ K hK=>?_;refine Zk (hSm) ?_;refine Zk (hF) ?_;refine And.intro ((by rw[eP];exact Zm.untag _ _ _)) ?_
 refine Zk (hG) ?_;refine hK _ _ ?_;clear hK K;refine Zy (t:=false) rfl ?_;rw[if_neg (by simp)];refine Zw ?_;refine Zz ?_;refine Zx [] Z0 hnt λ K hK=>?_;refine Zk (hWd) ?_;refine hK _ _ ?_;clear hK K;refine Zz ?_;refine Zx [] Z0 hnt λ K hK=>?_;refine Zk (hTo) ?_;refine hK _ _ ?_;clear hK K;refine Zz ?_;refine Zx [] Z0 hnt λ K hK=>?_
 refine Zk (hOf) ?_;refine hK _ _ ?_;clear hK K;refine Zz ?_;refine Zx [] Z0 hnt λ K hK=>?_;refine Zk (hWh) ?_;refine hK _ _ ?_;clear hK K;refine Zz ?_;refine Zx [] Z0 hnt λ K hK=>?_;refine Zk (hRw) ?_;refine hK _ _ ?_;clear hK K;refine Zz ?_;refine Zx [] Z0 hnt λ _ z9=>z9 _ _ ?_;refine Zz ?_;refine Zz ?_;refine ZQ [(70,.v (.bool false))] Z0 hnt λ K hK=>?_
 refine And.intro (XM h0) ?_;refine hK _ _ (by kernel_rfl) ?_;clear hK K;refine Zy (t:=false) rfl ?_;rw[if_neg (by simp)];refine Zw ?_;refine Zz ?_;refine Zx [] Z0 hnt λ _ z9=>z9 _ _ ?_;refine Zz ?_;refine Zz ?_;refine Zx [(90,.v (.bool false))] Z0 hnt λ K hK=>?_;refine And.intro (XM h0) ?_;refine hK _ _ ?_;clear hK K
 refine Zy (t:=false) rfl ?_;rw[if_neg (by simp)];refine Zw ?_;refine Zz ?_;refine Zx [] Z0 hnt λ K hK=>?_;refine Zk (hgo) ?_;refine hK _ _ ?_;clear hK K;refine Zz ?_;refine ZQ [(105,.v (.bool true)),(110,.v (.bool true)),(118,.v (.bool true)),(128,.v (.bool true)),(137,.v (.bool true))] Z0 hnt λ K hK=>?_;refine Zk (hk) ?_;refine And.intro (YT rfl) ?_
 refine And.intro (YT rfl) ?_;refine Zk (hCk) ?_;refine And.intro (YT rfl) ?_;refine Zk (hTp) ?_;refine Zk (hP1) ?_;refine And.intro (YT rfl) ?_;refine Zk (hP2) ?_;refine And.intro (YT rfl) ?_;refine hK _ _ (by kernel_rfl) ?_;clear hK K;refine Zv ?_
 exact Zi rfl
end Go.Proofs.YtclihnccilkohaaGreat
