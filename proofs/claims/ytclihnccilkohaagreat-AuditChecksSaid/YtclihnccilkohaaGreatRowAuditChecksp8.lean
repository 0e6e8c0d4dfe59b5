/-
  Parts of the proof.
-/
import Derived.Test.YtclihnccilkohaaGreatRowAuditChecksp7
import Derived.Test.YtclihnccilkohaaGreatRowAuditChecksp1
import Derived.Test.YtclihnccilkohaaGreatRowAuditChecksp5
import Derived.Test.YtclihnccilkohaaGreatRowAuditChecksp4
import Derived.Test.YtclihnccilkohaaGreatRowAuditChecksp6
set_option maxRecDepth 100000
set_option maxHeartbeats 1000000
set_option linter.unusedVariables false
set_option linter.unusedSimpArgs false
namespace Go.Proofs.YtclihnccilkohaaGreat
open Go.RowKit
def Ue (out S:List Int):Prop:=out.Pairwise (· < ·)/\(∀ y,y∈out↔y∈S)/\out.length<=S.length
theorem NN:Ue [] []:=⟨.nil,by simp,by simp⟩
theorem Ue.skip {out S:List Int}{x:Int}(h:Ue out S)(hx:x∈out):Ue out (S++[x]):=
 ⟨h.1,λ y=>by
  rw[h.2.1,List.mem_append]
  constructor
  ·exact .inl
  rintro(h' | h')
  ·exact h'
  simp at h';subst h';exact(h.2.1 _).1 hx,by have:=h.2.2;simp;omega⟩
theorem Ue.put {out S:List Int}{x:Int}{a:Nat}(h:Ue out S)(ha:a<=out.length)(hlt:∀ k (hk:k<a),out[k]<x)(hge:∀ h':a<out.length,¬ out[a]<x/\out[a]≠x):Ue (out.take a++[x]++out.drop a) (S++[x]):=by
 have h1:=List.pairwise_iff_getElem.1 h.1
 have hT:∀ y∈out.take a,y<x:=λ y hy=>by
  obtain⟨k,hk,e⟩:=List.getElem_of_mem hy
  have hk':k<a:=by simp at hk;omega
  rw[<-e,List.getElem_take];exact hlt k hk'
 have hD:∀ y∈out.drop a,x<y:=λ y hy=>by
  obtain⟨k,hk,e⟩:=List.getElem_of_mem hy
  have hk':a+k<out.length:=by simp at hk;omega
  rw[<-e,List.getElem_drop]
  have h2:=hge (by omega)
  by_cases hk0:k=0
  ·subst hk0;simp only[Nat.add_zero];omega
  have:=h1 a (a+k) (by omega) hk' (by omega);omega
 refine⟨?_,λ y=>?_,?_⟩
 ·have hp:(out.take a++out.drop a).Pairwise (· < ·):=by rw[List.take_append_drop];exact h.1
  rw[List.pairwise_append] at hp
  rw[List.append_assoc,List.pairwise_append,List.singleton_append,List.pairwise_cons]
  refine⟨hp.1,⟨hD,hp.2.1⟩,λ y hy z hz=>?_⟩
  rcases List.mem_cons.1 hz with rfl | hz
  ·exact hT y hy
  exact hp.2.2 y hy z hz
 ·rw[List.mem_append,List.mem_append,List.mem_append,<-h.2.1]
  have:y∈out↔y∈out.take a∨y∈out.drop a:=by rw[<-List.mem_append,List.take_append_drop]
  rw[this]
  constructor
  ·rintro((h' | h') | h')
   ·exact .inl (.inl h')
   ·exact .inr h'
   exact .inl (.inr h')
  rintro((h' | h') | h')
  ·exact .inl (.inl h')
  ·exact .inr h'
  exact .inl (.inr h')
 have:=h.2.2;simp;omega
theorem Ue.eq {out S:List Int}(h:Ue out S):out=Wr S:=Si h.1 (X2 S).1 λ x=>by rw[h.2.1,(X2 S).2]
theorem QC (l:List (Int×Int))(j:Nat)(h:j<l.length):WQ (l.take (j+1))=WQ (l.take j)++if l[j].1=2 then [l[j].2] else []:=by
 rw[List.take_succ_eq_append_getElem h]
 unfold WQ
 rw[List.filterMap_append]
 congr 1
 by_cases hk:l[j].1=2
 ·simp[hk]
 simp[hk]
def Wj (l:List Tm):List Int:=l.flatMap λ t=>WQ (t.heads 0)
theorem QE (l:List Tm)(j:Nat)(h:j<l.length):Wj (l.take (j+1))=Wj (l.take j)++WQ (l[j].heads 0):=by
 rw[List.take_succ_eq_append_getElem h];unfold Wj;rw[List.flatMap_append];simp
theorem Sc (l:List Tm)(m:Nat)(h:∀ t∈l,t.full<=m):(Wj l).length<=l.length * m:=by
 induction l with
 | nil=>simp[Wj]
 | cons t l ih=>
  have h1:=h t (by simp)
  have h2:=ih (λ u hu=>h u (by simp[hu]))
  have h3:(Wj (t :: l)).length=(WQ (t.heads 0)).length+(Wj l).length:=by simp[Wj]
  have h4:(WQ (t.heads 0)).length<=(t.heads 0).length:=List.length_filterMap_le _ _
  have h5:=Tm.heads_len t 0
  rw[h3,List.length_cons,Nat.succ_mul];omega
def TRX_175:TI:=⟨1,false,[Value.slice none 0 0],[],some 28,24,5,none,false⟩
theorem SE:TypOk Tryz.prog 175 TRX_175:=by constructor <;> kernel_rfl
def TRX:List (Nat×TI):=[(3,TG_3),(31,TTM_31),(71,TTY_71),(175,TRX_175),(28,TTM_28),(29,TTM_29),(22,TTY_22),(104,TTY_104)]
theorem ZJ:Zd Tryz.prog TRX:=(((((((((Zd.nil _).cons Yy).cons Yo).cons Y5).cons Xz).cons SE).cons YV).cons Yl).cons ZW)
def Rz (l:List (Int×Int)):List (List D):=l.map λ h=>[.v (.int .i64 h.1),.v (.int .i64 h.2)]
theorem Xh (l:List (Int×Int)):(Rz l).length=l.length:=List.length_map ..
theorem SL (l r:List (Int×Int)):Rz (l++r)=Rz l++Rz r:=List.map_append ..
theorem Kw (l:List (Int×Int))(i:Nat)(h:i<l.length):(Rz l).getD i []=[.v (.int .i64 l[i].1),.v (.int .i64 l[i].2)]:=by
 rw[Rz,List.getD_eq_getElem?_getD,List.getElem?_map,List.getElem?_eq_getElem h];rfl
@[simp] theorem GG (f g:Nat->Bool) (l:List (Int×Int)):D.okss f g (Rz l)=true:=D.okss_map _ l λ _ _=>rfl
set_option maxHeartbeats 2000000 in
theorem MK:∀ (t:Tm) (n:Int),0<=n->n+t.full<=1000000->t.Fit->Zh Tryz.prog 114 [.ag (eTm t),.v (.int .i64 n)] (.sl 2 (Rz (t.heads n)) none):=by
 intro t
 induction t using Tm.ind with
 | h b k i a ih=>
 intro n h0 hz hf
 obtain⟨f1,f2,f3⟩:=Tm.fit_iff.1 hf
 rw[Tm.full_eq] at hz
 have hal:=RU a
 have hbl:=Ty.le_sizes b
 obtain⟨m,hm⟩:∃ m:Int,n+(b.length:Int)=m:=⟨_,rfl⟩
 rw[Tm.heads_eq _ _ _ _ _ _ hm,Zu]
 simp only[M0,L6,Mn,Kb]
 obtain⟨hd,hhd⟩:∃ hd,(if k≠0 then [(k,i)] else if m<=i then [(0,i-m)] else [])=hd:=⟨_,rfl⟩
 have hdl:hd.length<=1:=by rw[<-hhd];split <;> (try split) <;> simp
 rw[hhd]
 refine Zn 0 55 [ResultVar.tmp 4] ZJ Tryz.func114 rfl Tryz.ntmps114 rfl λ cx hnt hn0=>?_
 skip
 refine Zz ?_;refine Zx [] ZJ hnt λ _ z9=>z9 _ _ ?_;refine Zz ?_;refine Zx [] ZJ hnt λ _ z9=>z9 _ _ ?_
 refine DW.vs (VS.rowT (x:=5) (by rw[hnt];decide) 28 2 rfl) ?_
 refine Zz ?_;refine Zx [(11,.v (.int .i64 (↑b.length))),(12,.v (.int .i64 (m)))] ZJ hnt λ K hK=>?_;refine And.intro (Zr (by rw[Zs])) ?_;refine And.intro Ww ?_;refine hK _ _ ?_;clear hK K
 refine Wi (τ:=[(.t 2,.p 0 0),(.t 5,.sl 2 (Rz hd) (some 3)),(.r 3,.rw 28 2 hd.length),(.t 6,.v (.int .i64 m)),(.c 0 3,.sl 4 (eTms a) none)]) (N1:=4) ?_ ?_
 ·by_cases hk:k=0
  ·by_cases hi:m<=i
   ·rw[if_neg (by simp[hk]),if_pos hi] at hhd
    subst hhd
    refine Zt ?_;refine Zz ?_;refine Zx [(17,.v (.bool false))] ZJ hnt λ K hK=>?_;refine And.intro (Yq hk) ?_;refine hK _ _ ?_;clear hK K;refine Zy (t:=false) rfl ?_;rw[if_neg (by simp)];refine Zz ?_;refine Zx [(28,.v (.bool true))] ZJ hnt λ K hK=>?_;refine And.intro Xd ?_;refine hK _ _ ?_;clear hK K;refine Zy (t:=true) rfl ?_;rw[if_pos rfl]
    refine Zx [(34,.v (.int .i64 (i-m)))] ZJ hnt λ K hK=>?_;refine And.intro Ww ?_;refine And.intro (⟨rfl,by simp⟩) ?_;refine hK _ _ ?_;clear hK K
    exact Y4 (VS.toK (by omega) (by repeat first | exact trivial | refine And.intro (And.intro (by first | rfl | simp[D.ok,D.oks,D.okss,D.okm,Xi,X7,Rz]) (by first | exact Or.inl rfl | exact Or.inr ⟨_,rfl,(by repeat first | exact Zm.refl _ | exact Zm.nil _ | exact Zm.untag _ _ _ | refine Zm.ag ?_ | refine Zm.tu ?_ | refine ZO.cons ?_ ?_ | exact ZO.nil),trivial⟩ | simp[get,Key.eq,Rz])) ?_))
   rw[if_neg (by simp[hk]),if_neg hi] at hhd
   subst hhd
   refine Zt ?_;refine Zz ?_;refine Zx [(17,.v (.bool false))] ZJ hnt λ K hK=>?_;refine And.intro (Yq hk) ?_;refine hK _ _ ?_;clear hK K;refine Zy (t:=false) rfl ?_;rw[if_neg (by simp)];refine Zz ?_;refine Zx [(28,.v (.bool false))] ZJ hnt λ K hK=>?_;refine And.intro X5 ?_;refine hK _ _ ?_;clear hK K;refine Zy (t:=false) rfl ?_;rw[if_neg (by simp)]
   refine Zw ?_
   exact Y4 (VS.toK (by omega) (by repeat first | exact trivial | refine And.intro (And.intro (by first | rfl | simp[D.ok,D.oks,D.okss,D.okm,Xi,X7,Rz]) (by first | exact Or.inl rfl | exact Or.inr ⟨_,rfl,(by repeat first | exact Zm.refl _ | exact Zm.nil _ | exact Zm.untag _ _ _ | refine Zm.ag ?_ | refine Zm.tu ?_ | refine ZO.cons ?_ ?_ | exact ZO.nil),trivial⟩ | simp[get,Key.eq,Rz])) ?_))
  rw[if_pos hk] at hhd
  subst hhd
  refine Zt ?_;refine Zz ?_;refine Zx [(17,.v (.bool true))] ZJ hnt λ K hK=>?_;refine And.intro (YO hk) ?_;refine hK _ _ ?_;clear hK K;refine Zy (t:=true) rfl ?_;rw[if_pos rfl];refine Zx [] ZJ hnt λ K hK=>?_;refine And.intro (⟨rfl,by simp⟩) ?_;refine hK _ _ ?_;clear hK K
  exact Y4 (VS.toK (by omega) (by repeat first | exact trivial | refine And.intro (And.intro (by first | rfl | simp[D.ok,D.oks,D.okss,D.okm,Xi,X7,Rz]) (by first | exact Or.inl rfl | exact Or.inr ⟨_,rfl,(by repeat first | exact Zm.refl _ | exact Zm.nil _ | exact Zm.untag _ _ _ | refine Zm.ag ?_ | refine Zm.tu ?_ | refine ZO.cons ?_ ?_ | exact ZO.nil),trivial⟩ | simp[get,Key.eq,Rz])) ?_))
 skip
 refine Zz ?_;refine Zz ?_;refine Zx [] ZJ hnt λ _ z9=>z9 _ _ ?_;refine Zt ?_
 refine Z6 (ι:={ j:Nat // j<=a.length }) (λ j=>[(.t 2,.p 0 0),(.t 5,.sl 2 (Rz (hd++Tm.headss (a.take j.1) m)) (some 3)),(.r 3,.rw 28 2 (hd++Tm.headss (a.take j.1) m).length),(.t 6,.v (.int .i64 m)),(.t 7,.v (.int .i64 ↑j.1)),(.c 0 3,.sl 4 (eTms a) none)]) 4 (λ j=>a.length-j.1) (⟨0,Nat.zero_le _⟩) ((by simp only[List.take_zero,Tm.headss,List.append_nil];exact VS.toA)) λ j=>?_
 obtain⟨j,hj⟩:=j
 dsimp only
 by_cases hlt:j<a.length
 ·have hmem:=List.getElem_mem hlt
  have hfm:=full_mem hmem
  have hih:=ih a[j] hmem m (by omega) (by omega) (f3 _ hmem)
  have hst:=Tm.headss_take a m j hlt
  have hl1:=Tm.heads_len a[j] m
  have hl2:=Tm.headss_len (a.take j) m
  have hl3:=Tm.fulls_take_le a (j+1)
  have hl5:=Tm.fulls_take a j hlt
  rw[Zu] at hih
  refine Zz ?_;refine Zz ?_;refine Zx [(41,.v (.int .i64 (↑a.length))),(42,.v (.bool true))] ZJ hnt λ K hK=>?_;refine And.intro (Zr (by rw[Zq])) ?_;refine And.intro Xd ?_;refine hK _ _ ?_;clear hK K;refine Zy (t:=true) rfl ?_;rw[if_pos rfl];refine Zw ?_;refine Zz ?_;refine Zt ?_;refine Zx [(49,.q [.sl 2 (eTys a[j].binds) none,.v (.int .i64 a[j].kind),.v (.int .i64 a[j].index),.sl 4 (eTms a[j].args) none]),(53,.sl 2 (Rz (hd++Tm.headss (a.take (j+1)) m)) (some 3))] ZJ hnt λ K hK=>?_
  refine And.intro (XQ (Zq a)) ?_;refine And.intro (XR (ZT a j) (Zu _)) ?_;refine Zk (hih) ?_;refine And.intro (⟨by rw[Xh],by rw[Xh,Xh,List.length_append];omega⟩) ?_;refine And.intro (Zm.of_eq (by rw[hst,<-List.append_assoc,SL (hd++_)])) ?_;refine hK _ _ ?_;clear hK K;refine Zx [(44,.v (.int .i64 (↑(j+1))))] ZJ hnt λ K hK=>?_;refine And.intro Ww ?_
  refine hK _ _ ?_;clear hK K
  have hl4:(Rz (hd++Tm.headss (a.take j) m)++Rz (a[j].heads m)).length=(hd++Tm.headss (a.take (j+1)) m).length:=by rw[<-SL,Xh,hst,List.append_assoc]
  refine⟨⟨j+1,by omega⟩,by first | omega | (dsimp only;omega),(by try simp only[List.length_append,List.length_take,List.length_cons,List.length_nil,Nat.zero_add,hl4];exact VS.toA)⟩
 rw[List.take_of_length_le (by omega)]
 refine Zz ?_;refine Zz ?_;refine Zx [(41,.v (.int .i64 (↑a.length))),(42,.v (.bool false))] ZJ hnt λ K hK=>?_;refine And.intro (Zr (by rw[Zq])) ?_;refine And.intro X5 ?_;refine hK _ _ ?_;clear hK K;refine Zy (t:=false) rfl ?_;rw[if_neg (by simp)];refine Zg ?_;refine Zz ?_;refine Zx [] ZJ hnt λ _ z9=>z9 _ _ ?_
 refine Zv ?_
 exact Zi rfl
theorem MA (t:Tm)(hz:t.full<=1000000)(hf:t.Fit):Zh Tryz.prog 91 [.ag (eTm t)] (.sl 2 (Rz (t.heads 0)) none):=by
 have h:=MK t 0 (by omega) (by omega) hf
 rw[Zu] at h ⊢
 refine Zn 0 5 [ResultVar.tmp 2] ZJ Tryz.func91 rfl Tryz.ntmps91 rfl λ cx hnt hn0=>?_
 skip
 refine Zz ?_;refine Zx [] ZJ hnt λ _ z9=>z9 _ _ ?_;refine Zz ?_;refine Zx [] ZJ hnt λ K hK=>?_;refine Zk (h) ?_;refine hK _ _ ?_;clear hK K;refine Zv ?_
 exact Zi rfl
theorem P2 (o:List Int)(a:Nat):(YJ o).take a=YJ (o.take a):=by unfold YJ;rw[List.map_take]
theorem P4 (o:List Int)(a:Nat):((YJ o).take (YJ o).length).drop a=YJ (o.drop a):=by rw[List.take_length];unfold YJ;rw[List.map_drop]
theorem Ox (l:List (Int×Int)):(WQ l).length<=l.length:=List.length_filterMap_le _ _
set_option maxHeartbeats 4000000 in
theorem MB (l:List Tm)(hl:l.length<=9)(hz:∀ t∈l,t.full<=90000)(hf:∀ t∈l,t.Fit):Zh Tryz.prog 57 [.sl 4 (eTms l) none] (.sl 1 (YJ (Wr (Wj l))) none):=by
 have hml:=Sc l 90000 hz
 refine Zn 0 85 [ResultVar.tmp 2] ZJ Tryz.func57 rfl Tryz.ntmps57 rfl λ cx hnt hn0=>?_
 skip
 refine Zz ?_;refine Zx [] ZJ hnt λ _ z9=>z9 _ _ ?_;refine Zz ?_;refine Zx [(3,.sl 1 (YJ []) none)] ZJ hnt λ K hK=>?_;refine And.intro (Zm.nil _) ?_;refine hK _ _ ?_;clear hK K;refine Zz ?_;refine Zz ?_;refine Zx [] ZJ hnt λ _ z9=>z9 _ _ ?_;refine Zt ?_
 refine Z6 (ι:={ q:Nat×List Int // q.1<=l.length/\Ue q.2 (Wj (l.take q.1)) }) (λ q=>[(.t 0,.sl 4 (eTms l) none),(.t 3,.sl 1 (YJ q.1.2) none),(.t 4,.v (.int .i64 ↑q.1.1))]) 3 (λ q=>l.length-q.1.1) (⟨(0,[]),Nat.zero_le _,by simpa[Wj] using NN⟩) (VS.toA) λ q=>?_
 obtain⟨⟨i,o⟩,hi,hr⟩:=q
 dsimp only at hi hr ⊢
 by_cases hlt:i<l.length
 ·have hmem:=List.getElem_mem hlt
  have hH:=MA l[i] (by have:=hz _ hmem;omega) (hf _ hmem)
  have hhl:=Tm.heads_len l[i] 0
  have hzi:=hz _ hmem
  have hmt:=QE l i hlt
  have hS0:=Sc (l.take i) 90000 λ t ht=>hz t (List.mem_of_mem_take ht)
  rw[List.length_take] at hS0
  obtain⟨hs,hhs⟩:∃ hs,l[i].heads 0=hs:=⟨_,rfl⟩
  obtain⟨S,hS⟩:∃ S,Wj (l.take i)=S:=⟨_,rfl⟩
  rw[hhs] at hH hhl hmt
  rw[hS] at hr hmt hS0
  have hS1:S.length<=810000:=by
   have:min i l.length * 90000<=9 * 90000:=Nat.mul_le_mul_right _ (by omega)
   omega
  rw[Zu] at hH
  refine Zz ?_;refine Zz ?_;refine Zx [(11,.v (.int .i64 (↑l.length))),(12,.v (.bool true))] ZJ hnt λ K hK=>?_;refine And.intro (Zr (by rw[Zq])) ?_;refine And.intro Xd ?_;refine hK _ _ ?_;clear hK K;refine Zy (t:=true) rfl ?_;rw[if_pos rfl];refine Zw ?_;refine Zz ?_;refine Zt ?_;refine Zz ?_;refine Zx [(17,.q [.sl 2 (eTys l[i].binds) none,.v (.int .i64 l[i].kind),.v (.int .i64 l[i].index),.sl 4 (eTms l[i].args) none])] ZJ hnt λ K hK=>?_
  refine And.intro (XQ (Zq l)) ?_;refine And.intro (XR (ZT l i) (Zu _)) ?_;refine Zk (hH) ?_;refine hK _ _ ?_;clear hK K;refine Zz ?_;refine Zx [] ZJ hnt λ _ z9=>z9 _ _ ?_;refine Zt ?_
  refine Z6 (ι:={ q:Nat×List Int // q.1<=hs.length/\Ue q.2 (S++WQ (hs.take q.1)) }) (λ q=>[(.t 0,.sl 4 (eTms l) none),(.t 3,.sl 1 (YJ q.1.2) none),(.t 4,.v (.int .i64 ↑i)),(.t 5,.sl 2 (Rz hs) none),(.t 6,.v (.int .i64 ↑q.1.1))]) 4 (λ q=>hs.length-q.1.1) (⟨(0,o),Nat.zero_le _,by simpa[WQ] using hr⟩) (VS.toA) λ r=>?_
  obtain⟨⟨k,o⟩,hk,hr⟩:=r
  dsimp only at hk hr ⊢
  by_cases hlk:k<hs.length
  ·have hgk:=Kw hs k hlk
   have hmk:=QC hs k hlk
   have hol:=hr.2.2
   have hMl:=Ox (hs.take k)
   rw[List.length_append] at hol
   rw[List.length_take] at hMl
   obtain⟨⟨hk1,x⟩,hx⟩:∃ h,hs[k]=h:=⟨_,rfl⟩
   rw[hx] at hgk hmk
   dsimp only at hgk hmk
   by_cases h2:hk1=2
   ·rw[if_pos h2] at hmk;refine Zz ?_;refine Zz ?_;refine Zx [(22,.v (.int .i64 (↑hs.length))),(23,.v (.bool true))] ZJ hnt λ K hK=>?_;refine And.intro (Zr (by rw[Xh])) ?_;refine And.intro Xd ?_;refine hK _ _ ?_;clear hK K;refine Zy (t:=true) rfl ?_;rw[if_pos rfl];refine Zw ?_;refine Zz ?_;refine Zt ?_;refine Zz ?_;refine Zz ?_
    refine Zx [(28,.q [.v (.int .i64 hk1),.v (.int .i64 x)]),(31,.v (.bool false))] ZJ hnt λ K hK=>?_;refine And.intro (⟨by omega,by rw[Xh];omega⟩) ?_;refine And.intro (Zm.of_eq (by rw[Int.toNat_natCast,hgk])) ?_;refine And.intro (Yq h2) ?_;refine hK _ _ ?_;clear hK K;refine Zy (t:=false) rfl ?_;rw[if_neg (by simp)];refine Zw ?_;refine Zz ?_;refine Zx [] ZJ hnt λ K hK=>?_
    refine hK _ _ ?_;clear hK K;refine Zz ?_;refine Zt ?_
    refine Z6 (ι:={ a:Nat // a<=o.length/\∀ q (h:q<o.length),q<a->o[q]<x }) (λ a=>[(.t 0,.sl 4 (eTms l) none),(.t 3,.sl 1 (YJ o) none),(.t 4,.v (.int .i64 ↑i)),(.t 5,.sl 2 (Rz hs) none),(.t 6,.v (.int .i64 ↑k)),(.t 7,.v (.int .i64 ↑a.1))]) 5 (λ a=>o.length-a.1) (⟨0,Nat.zero_le _,λ q h1 h2=>by omega⟩) (VS.toA) λ a=>?_
    obtain⟨a,ha,hax⟩:=a
    dsimp only
    by_cases hla:a<o.length
    ·by_cases hxa:o[a]<x
     ·skip
      refine Zz ?_;refine Zz ?_;refine ZQ [(34,.v (.int .i64 (↑o.length))),(35,.v (.bool true)),(39,.q [.v (.int .i64 (o[a]))]),(43,.q [.v (.int .i64 hk1),.v (.int .i64 x)]),(46,.v (.bool true))] ZJ hnt λ K hK=>?_;refine And.intro (Zr (by rw[Zb])) ?_;refine And.intro Xd ?_;refine And.intro (XQ (Zb o)) ?_;refine And.intro (XR (Xu o a) rfl) ?_;refine And.intro (⟨by omega,by rw[Xh];omega⟩) ?_
      refine And.intro (Zm.of_eq (by rw[Int.toNat_natCast,hgk])) ?_;refine And.intro Xd ?_;refine hK _ _ (by kernel_rfl) ?_;clear hK K;refine Zy (t:=true) rfl ?_;rw[if_pos rfl];refine Zw ?_;refine Zt ?_;refine Zx [(49,.v (.int .i64 (↑(a+1))))] ZJ hnt λ K hK=>?_;refine And.intro Ww ?_;refine hK _ _ ?_;clear hK K
      refine⟨⟨a+1,hla,λ q h1 h2=>if e:q=a then by subst e;exact hxa else hax q h1 (by omega)⟩,by first | omega | (dsimp only;omega),VS.toA⟩
     by_cases hex:o[a]=x
     ·have hsk:=hr.skip (x:=x) (by rw[<-hex];exact List.getElem_mem hla)
      refine Zz ?_;refine Zz ?_;refine ZQ [(34,.v (.int .i64 (↑o.length))),(35,.v (.bool true)),(39,.q [.v (.int .i64 (o[a]))]),(43,.q [.v (.int .i64 hk1),.v (.int .i64 x)]),(46,.v (.bool false))] ZJ hnt λ K hK=>?_;refine And.intro (Zr (by rw[Zb])) ?_;refine And.intro Xd ?_;refine And.intro (XQ (Zb o)) ?_;refine And.intro (XR (Xu o a) rfl) ?_;refine And.intro (⟨by omega,by rw[Xh];omega⟩) ?_
      refine And.intro (Zm.of_eq (by rw[Int.toNat_natCast,hgk])) ?_;refine And.intro X5 ?_;refine hK _ _ (by kernel_rfl) ?_;clear hK K;refine Zy (t:=false) rfl ?_;rw[if_neg (by simp)];refine Zg ?_;refine Zz ?_;refine Zz ?_;refine ZQ [(52,.v (.int .i64 (↑o.length))),(53,.v (.bool true)),(57,.q [.v (.int .i64 (o[a]))]),(61,.q [.v (.int .i64 hk1),.v (.int .i64 x)]),(64,.v (.bool true))] ZJ hnt λ K hK=>?_
      refine And.intro (Zr (by rw[Zb])) ?_;refine And.intro Xd ?_;refine And.intro (XQ (Zb o)) ?_;refine And.intro (XR (Xu o a) rfl) ?_;refine And.intro (⟨by omega,by rw[Xh];omega⟩) ?_;refine And.intro (Zm.of_eq (by rw[Int.toNat_natCast,hgk])) ?_;refine And.intro (YT hex) ?_;refine hK _ _ (by kernel_rfl) ?_;clear hK K;refine Zy (t:=true) rfl ?_;rw[if_pos rfl]
      refine Zg ?_;refine Zx [(25,.v (.int .i64 (↑(k+1))))] ZJ hnt λ K hK=>?_;refine And.intro Ww ?_;refine hK _ _ ?_;clear hK K
      refine⟨⟨(k+1,o),hlk,by rw[hmk,<-List.append_assoc];exact hsk⟩,by first | omega | (dsimp only;omega),VS.toA⟩
     have hput:=hr.put (x:=x) (a:=a) ha (λ q h=>hax q (by omega) h) (λ h=>⟨hxa,hex⟩)
     refine Zz ?_;refine Zz ?_;refine ZQ [(34,.v (.int .i64 (↑o.length))),(35,.v (.bool true)),(39,.q [.v (.int .i64 (o[a]))]),(43,.q [.v (.int .i64 hk1),.v (.int .i64 x)]),(46,.v (.bool false))] ZJ hnt λ K hK=>?_;refine And.intro (Zr (by rw[Zb])) ?_;refine And.intro Xd ?_;refine And.intro (XQ (Zb o)) ?_;refine And.intro (XR (Xu o a) rfl) ?_;refine And.intro (⟨by omega,by rw[Xh];omega⟩) ?_
     refine And.intro (Zm.of_eq (by rw[Int.toNat_natCast,hgk])) ?_;refine And.intro X5 ?_;refine hK _ _ (by kernel_rfl) ?_;clear hK K;refine Zy (t:=false) rfl ?_;rw[if_neg (by simp)];refine Zg ?_;refine Zz ?_;refine Zz ?_;refine ZQ [(52,.v (.int .i64 (↑o.length))),(53,.v (.bool true)),(57,.q [.v (.int .i64 (o[a]))]),(61,.q [.v (.int .i64 hk1),.v (.int .i64 x)]),(64,.v (.bool false))] ZJ hnt λ K hK=>?_
     refine And.intro (Zr (by rw[Zb])) ?_;refine And.intro Xd ?_;refine And.intro (XQ (Zb o)) ?_;refine And.intro (XR (Xu o a) rfl) ?_;refine And.intro (⟨by omega,by rw[Xh];omega⟩) ?_;refine And.intro (Zm.of_eq (by rw[Int.toNat_natCast,hgk])) ?_;refine And.intro (XM hex) ?_;refine hK _ _ (by kernel_rfl) ?_;clear hK K;refine Zy (t:=false) rfl ?_;rw[if_neg (by simp)]
     refine Zw ?_;refine Zz ?_;refine Zx [(69,.sl 1 (YJ (o.take a)) none)] ZJ hnt λ K hK=>?_;refine And.intro (⟨by omega,by rw[Zb];omega⟩) ?_;refine And.intro (Zm.of_eq (congrArg (D.sl 1 · none) (P2 o a))) ?_;refine And.intro (⟨rfl,by simp[Zb];omega⟩) ?_;refine hK _ _ ?_;clear hK K;refine Zz ?_;refine Zx [(74,.q [.v (.int .i64 hk1),.v (.int .i64 x)])] ZJ hnt λ K hK=>?_
     refine And.intro (⟨by omega,by rw[Xh];omega⟩) ?_;refine And.intro (Zm.of_eq (by rw[Int.toNat_natCast,hgk])) ?_;refine And.intro (⟨by simp[Zb],by simp[Zb];omega⟩) ?_;refine hK _ _ ?_;clear hK K;refine Zx [(82,.sl 1 (YJ (o.drop a)) none),(83,.sl 1 (YJ (o.take a++[x]++o.drop a)) none)] ZJ hnt λ K hK=>?_;refine And.intro (⟨by omega,by rw[Zb];omega⟩) ?_
     refine And.intro (Zm.of_eq (congrArg (D.sl 1 · none) (P4 o a))) ?_;refine And.intro (⟨by simp[Zb],by simp[Zb];omega⟩) ?_;refine And.intro ((by rw[Vx,Vx];exact Zm.untag _ _ _)) ?_;refine hK _ _ ?_;clear hK K;refine Zx [(25,.v (.int .i64 (↑(k+1))))] ZJ hnt λ K hK=>?_;refine And.intro Ww ?_;refine hK _ _ ?_;clear hK K
     refine⟨⟨(k+1,o.take a++[x]++o.drop a),hlk,by rw[hmk,<-List.append_assoc];exact hput⟩,by first | omega | (dsimp only;omega),VS.toA⟩
    have hput:=hr.put (x:=x) (a:=a) ha (λ q h=>hax q (by omega) h) (λ h=>absurd h hla)
    refine Zz ?_;refine Zz ?_;refine ZQ [(34,.v (.int .i64 (↑o.length))),(35,.v (.bool false))] ZJ hnt λ K hK=>?_;refine And.intro (Zr (by rw[Zb])) ?_;refine And.intro X5 ?_;refine hK _ _ (by kernel_rfl) ?_;clear hK K;refine Zy (t:=false) rfl ?_;rw[if_neg (by simp)];refine Zg ?_;refine Zz ?_;refine Zz ?_;refine ZQ [(52,.v (.int .i64 (↑o.length))),(53,.v (.bool false))] ZJ hnt λ K hK=>?_
    refine And.intro (Zr (by rw[Zb])) ?_;refine And.intro X5 ?_;refine hK _ _ (by kernel_rfl) ?_;clear hK K;refine Zy (t:=false) rfl ?_;rw[if_neg (by simp)];refine Zw ?_;refine Zz ?_;refine Zx [(69,.sl 1 (YJ (o.take a)) none)] ZJ hnt λ K hK=>?_;refine And.intro (⟨by omega,by rw[Zb];omega⟩) ?_;refine And.intro (Zm.of_eq (congrArg (D.sl 1 · none) (P2 o a))) ?_
    refine And.intro (⟨rfl,by simp[Zb];omega⟩) ?_;refine hK _ _ ?_;clear hK K;refine Zz ?_;refine Zx [(74,.q [.v (.int .i64 hk1),.v (.int .i64 x)])] ZJ hnt λ K hK=>?_;refine And.intro (⟨by omega,by rw[Xh];omega⟩) ?_;refine And.intro (Zm.of_eq (by rw[Int.toNat_natCast,hgk])) ?_;refine And.intro (⟨by simp[Zb],by simp[Zb];omega⟩) ?_;refine hK _ _ ?_;clear hK K
    refine Zx [(82,.sl 1 (YJ (o.drop a)) none),(83,.sl 1 (YJ (o.take a++[x]++o.drop a)) none)] ZJ hnt λ K hK=>?_;refine And.intro (⟨by omega,by rw[Zb];omega⟩) ?_;refine And.intro (Zm.of_eq (congrArg (D.sl 1 · none) (P4 o a))) ?_;refine And.intro (⟨by simp[Zb],by simp[Zb];omega⟩) ?_;refine And.intro ((by rw[Vx,Vx];exact Zm.untag _ _ _)) ?_
    refine hK _ _ ?_;clear hK K;refine Zx [(25,.v (.int .i64 (↑(k+1))))] ZJ hnt λ K hK=>?_;refine And.intro Ww ?_;refine hK _ _ ?_;clear hK K
    refine⟨⟨(k+1,o.take a++[x]++o.drop a),hlk,by rw[hmk,<-List.append_assoc];exact hput⟩,by first | omega | (dsimp only;omega),VS.toA⟩
   rw[if_neg h2,List.append_nil] at hmk;refine Zz ?_;refine Zz ?_;refine Zx [(22,.v (.int .i64 (↑hs.length))),(23,.v (.bool true))] ZJ hnt λ K hK=>?_;refine And.intro (Zr (by rw[Xh])) ?_;refine And.intro Xd ?_;refine hK _ _ ?_;clear hK K;refine Zy (t:=true) rfl ?_;rw[if_pos rfl];refine Zw ?_;refine Zz ?_;refine Zt ?_;refine Zz ?_
   refine Zz ?_;refine Zx [(28,.q [.v (.int .i64 hk1),.v (.int .i64 x)]),(31,.v (.bool true))] ZJ hnt λ K hK=>?_;refine And.intro (⟨by omega,by rw[Xh];omega⟩) ?_;refine And.intro (Zm.of_eq (by rw[Int.toNat_natCast,hgk])) ?_;refine And.intro (YO h2) ?_;refine hK _ _ ?_;clear hK K;refine Zy (t:=true) rfl ?_;rw[if_pos rfl];refine Zg ?_;refine Zx [(25,.v (.int .i64 (↑(k+1))))] ZJ hnt λ K hK=>?_
   refine And.intro Ww ?_;refine hK _ _ ?_;clear hK K
   refine⟨⟨(k+1,o),hlk,by rw[hmk];exact hr⟩,by first | omega | (dsimp only;omega),VS.toA⟩
  rw[List.take_of_length_le (by omega)] at hr
  refine Zz ?_;refine Zz ?_;refine Zx [(22,.v (.int .i64 (↑hs.length))),(23,.v (.bool false))] ZJ hnt λ K hK=>?_;refine And.intro (Zr (by rw[Xh])) ?_;refine And.intro X5 ?_;refine hK _ _ ?_;clear hK K;refine Zy (t:=false) rfl ?_;rw[if_neg (by simp)];refine Zg ?_;refine Zx [(14,.v (.int .i64 (↑(i+1))))] ZJ hnt λ K hK=>?_;refine And.intro Ww ?_
  refine hK _ _ ?_;clear hK K
  refine⟨⟨(i+1,o),hlt,by rw[hmt];exact hr⟩,by first | omega | (dsimp only;omega),VS.toA⟩
 rw[List.take_of_length_le (by omega)] at hr
 rw[<-hr.eq]
 refine Zz ?_;refine Zz ?_;refine Zx [(11,.v (.int .i64 (↑l.length))),(12,.v (.bool false))] ZJ hnt λ K hK=>?_;refine And.intro (Zr (by rw[Zq])) ?_;refine And.intro X5 ?_;refine hK _ _ ?_;clear hK K;refine Zy (t:=false) rfl ?_;rw[if_neg (by simp)];refine Zg ?_;refine Zz ?_;refine Zx [] ZJ hnt λ _ z9=>z9 _ _ ?_
 refine Zv ?_
 exact Zi rfl
def KP (x y:Int):Int:=if x<y then -1 else if y<x then 1 else 0
def Q0 (a b:Int):Int:=if a=0 then b else a
@[simp] theorem HL (b:Int):Q0 0 b=b:=by simp[Q0]
@[simp] theorem Lu (a:Int):Q0 a 0=a:=by unfold Q0;split <;> simp_all
namespace Ty
mutual
def cmp:Ty->Ty->Int
 | .mk l b,.mk l' b'=>Q0 (Q0 (Q0 (KP (Ty.sizes l+1:Nat) (Ty.sizes l'+1:Nat)) (KP (l.length:Nat) (l'.length:Nat))) (cmps l l')) (KP b b')
def cmps:List Ty->List Ty->Int
 | [],_=>0
 | _ :: _,[]=>0
 | t :: l,u :: l'=>Q0 (cmp t u) (cmps l l')
end
@[simp] theorem cmps_nil (l:List Ty):cmps [] l=0:=by rw[cmps]
end Ty
namespace Tm
def cmpB (l l':List Ty):Int:=Q0 (KP (l.length:Nat) (l'.length:Nat)) (Ty.cmps l l')
mutual
def cmp:Tm->Tm->Int
 | .mk b k i a,.mk b' k' i' a'=>Q0 (KP (Tm.sizes a+1:Nat) (Tm.sizes a'+1:Nat)) (Q0 (cmpB b b') (Q0 (KP k k') (Q0 (KP i i') (Q0 (KP (a.length:Nat) (a'.length:Nat)) (cmps a a')))))
def cmps:List Tm->List Tm->Int
 | [],_=>0
 | _ :: _,[]=>0
 | t :: l,u :: l'=>Q0 (cmp t u) (cmps l l')
end
@[simp] theorem cmps_nil (l:List Tm):cmps [] l=0:=by rw[cmps]
end Tm
namespace Ty
end Ty
set_option maxRecDepth 100000 in
theorem OM:∀ t:Tm,∀ {F:Nat->Prop} {w0:World} {b k i a:Value} (_:XS F w0 b k i a t) (w:World),t.size<=1000000->Keep F w0 w->Calls Tryz.prog 75 #[.agg #[b,k,i,a]] w (Hk t.size w):=Tm.ind λ binds k0 i0 args ih=>by
 intro F w0 b k i a ht w hsz hw
 obtain⟨pa,pc,qa,qc,rfl,rfl,rfl,rfl⟩:=ht.shape
 simp only[Tm.binds,Tm.kind,Tm.index,Tm.args] at ht ⊢
 obtain⟨_,_,_,hsl⟩:=ht.inv
 simp only[Tm.args] at hsl
 obtain⟨_,hm,bl,off,PA,A,PN,PC,N',C,Kd,Ix,ha,h1,h2,h3,h4,h5⟩:=Td hsl
 clear ht hsl hm
 have hlen:args.length<=1000000:=by have:=Tm.len_sizes args;rw[Tm.size_eq] at hsz;omega
 have Hsz:Hid (∀ i (h:i<args.length),args[i].size<=1000000/\Tm.sizes (args.take i)+args[i].size<=1000000):=λ i h=>by
  have:=Tm.sizes_take args i h;have:=Tm.sizes_take_le args (i+1);rw[Tm.size_eq] at hsz;omega
 have Hend:Hid ((Tm.mk binds k0 i0 args).size=Tm.sizes args+1):=Tm.size_eq _ _ _ _
 have Hih:=Lib.hid ih;clear ih hsz
 go_enter Tryz.func75,Tryz.ntmps75
 go_wp2_with fail
 go_loopw [3,4] (λ x i wr=>∃ k:Nat,i=.int .i64 k/\x=.int .i64 ((Tm.sizes (args.take k):Int)+1)/\k<=args.length/\Below w.heap.size w wr/\Blk wr w.heap.size #[.slice pa binds.length pc,.int .i64 k0,.int .i64 i0,.slice qa args.length qc] 31) (λ _ i _=>args.length-(intOf i).toNat)
 case atStart=>exact⟨0,rfl,rfl,by omega,(Below.refl _ _).alloc (Nat.le_refl _) _,Blk.new _ _ _ rfl⟩
 case round=>
  obtain⟨k,rfl,rfl,hk,hb,hbox⟩:=hrel
  have c0:wr.cell? ⟨w.heap.size,3,none⟩=some (.slice qa args.length qc):=hbox.cell rfl
  have hlt0:=hbox.lt
  by_cases hlt:k<args.length
  ·obtain⟨rfl,hF⟩:=ha (by omega)
   have e1:=(hw.below hb) _ _ _ hF (h1 k hlt)
   have e2:=(hw.below hb) _ _ _ hF (h2 k hlt)
   have e3:=(hw.below hb) _ _ _ hF (h3 k hlt)
   have e4:=(hw.below hb) _ _ _ hF (h4 k hlt)
   have hs:Tm.sizes (args.take k)<=1000000/\args[k].size<=1000000:=by have:=Hsz.out k hlt;omega
   go_wp2_with fail
   refine(Hih.out _ (List.getElem_mem hlt) (h5 k hlt) _ (Hsz.out k hlt).1 (hw.below hb)).mono ?_
   rintro e w1 ⟨rfl,hb1⟩
   go_wp2_with fail
   go_roundw
   case rel=>exact⟨k+1,by go_num,by rw[Tm.sizes_take _ _ hlt];go_num,by omega,hb.trans (hb1.mono (by omega)),hbox.below hb1⟩
   case measure=>simp[intOf];omega
  go_wp2_with fail
  go_ret
  refine⟨?_,hb⟩
  rw[Hend.out,List.take_of_length_le (by omega)];rfl
theorem Y6.bel {α:Type}{r:Rp α}{F:Nat->Prop}{w w':World}{v:Value}{l:List α}(h:Y6 r F w v l)(hb:Below w.heap.size w w'):Y6 r F w' v l:=h.keep ((Keep.refl _ _).below hb)
set_option maxRecDepth 100000 in
theorem Ks:∀ t:Tm,∀ {F:Nat->Prop} {w0:World} {b k i a:Value} (_:XS F w0 b k i a t) (w:World),t.size<=1000000->Keep F w0 w->Calls Tryz.prog 94 #[.agg #[b,k,i,a]] w (Hk t.depth w):=Tm.ind λ binds k0 i0 args ih=>by
 intro F w0 b k i a ht w hsz hw
 obtain⟨pa,pc,qa,qc,rfl,rfl,rfl,rfl⟩:=ht.shape
 simp only[Tm.binds,Tm.kind,Tm.index,Tm.args] at ht ⊢
 obtain⟨_,_,_,hsl⟩:=ht.inv
 simp only[Tm.args] at hsl
 obtain⟨_,hm,bl,off,PA,A,PN,PC,N',C,Kd,Ix,ha,h1,h2,h3,h4,h5⟩:=Td hsl
 clear ht hsl hm
 have hlen:args.length<=1000000:=by have:=Tm.len_sizes args;rw[Tm.size_eq] at hsz;omega
 have Hsz:Hid (∀ i (h:i<args.length),args[i].size<=1000000/\args[i].depth<=1000000/\Tm.depths (args.take i)<=1000000):=λ i h=>by
  have:=Tm.size_mem (List.getElem_mem h);rw[Tm.size_eq] at hsz
  have:=Tm.depth_le_size args[i]
  have:=Tm.depths_take_le args i
  have:=Tm.depth_le_size (.mk binds k0 i0 args)
  rw[Tm.depth_eq,Tm.size_eq] at this
  omega
 have Hend:Hid ((Tm.mk binds k0 i0 args).depth=Tm.depths args+1):=Tm.depth_eq _ _ _ _
 have Hend2:Hid (Tm.depths args<=1000000):=by show _<=_;have:=Tm.depth_le_size (.mk binds k0 i0 args);rw[Tm.depth_eq] at this;omega
 have Hih:=Lib.hid ih;clear ih hsz
 go_enter Tryz.func94,Tryz.ntmps94
 go_wp2_with fail
 go_loopw [3,4,5] (λ x i _ wr=>∃ k:Nat,i=.int .i64 k/\x=.int .i64 (Tm.depths (args.take k):Int)/\k<=args.length/\Below w.heap.size w wr/\Blk wr w.heap.size #[.slice pa binds.length pc,.int .i64 k0,.int .i64 i0,.slice qa args.length qc] 31) (λ _ i _ _=>args.length-(intOf i).toNat)
 case atStart=>exact⟨0,rfl,rfl,by omega,(Below.refl _ _).alloc (Nat.le_refl _) _,Blk.new _ _ _ rfl⟩
 case round=>
  obtain⟨k,rfl,rfl,hk,hb,hbox⟩:=hrel
  have c0:wr.cell? ⟨w.heap.size,3,none⟩=some (.slice qa args.length qc):=hbox.cell rfl
  have hlt0:=hbox.lt
  by_cases hlt:k<args.length
  ·obtain⟨rfl,hF⟩:=ha (by omega)
   have e1:=(hw.below hb) _ _ _ hF (h1 k hlt)
   have e2:=(hw.below hb) _ _ _ hF (h2 k hlt)
   have e3:=(hw.below hb) _ _ _ hF (h3 k hlt)
   have e4:=(hw.below hb) _ _ _ hF (h4 k hlt)
   have Ht:=Lib.hid (Tm.depths_take args k hlt)
   go_wp2_with fail
   refine(Hih.out _ (List.getElem_mem hlt) (h5 k hlt) _ (Hsz.out k hlt).1 (hw.below hb)).mono ?_
   rintro e w1 ⟨rfl,hb1⟩
   by_cases hg:(args[k].depth:Int)>(Tm.depths (args.take k):Int)
   ·go_wp2_with fail
    go_roundw
    case rel=>exact⟨k+1,by go_num,by rw[Ht.out,Nat.max_eq_right (by omega)],by omega,hb.trans (hb1.mono (by omega)),hbox.below hb1⟩
    case measure=>simp[intOf];omega
   go_wp2_with fail
   go_roundw
   case rel=>exact⟨k+1,by go_num,by rw[Ht.out,Nat.max_eq_left (by omega)],by omega,hb.trans (hb1.mono (by omega)),hbox.below hb1⟩
   case measure=>simp[intOf];omega
  have Hd:Hid (Tm.depths (args.take k)=Tm.depths args):=by show _=_;rw[List.take_of_length_le (by omega)]
  have hd2:(Tm.depths (args.take k):Int)<=1000000:=by have:=Hd.out;have:=Hend2.out;omega
  go_wp2_with fail
  go_ret
  refine⟨?_,hb⟩
  rw[Hend.out,<-Hd.out];rfl
set_option maxRecDepth 100000 in
theorem JV {F:Nat->Prop}{w:World}{b k i a:Value}{t:Tm}(ht:XS F w b k i a t)(hz:t.size<=1000000):Calls Tryz.prog 61 #[.agg #[b,k,i,a]] w (SC (t.size<=5000/\t.depth<=60) w):=by
 have Hs:=Lib.hid fun(w':World) (hb:Below w.heap.size w w')=>OM t ht w' hz ((Keep.refl _ _).below hb)
 have Hd:=Lib.hid fun(w':World) (hb:Below w.heap.size w w')=>Ks t ht w' hz ((Keep.refl _ _).below hb)
 obtain⟨t_pa,t_pc,t_qa,t_qc,rfl,rfl,rfl,rfl⟩:=ht.shape
 obtain⟨t_n,ht_n⟩:∃ x,t.binds.length=x:=⟨_,rfl⟩
 obtain⟨t_m,ht_m⟩:∃ x,t.args.length=x:=⟨_,rfl⟩
 obtain⟨t_k,ht_k⟩:∃ x,t.kind=x:=⟨_,rfl⟩
 obtain⟨t_i,ht_i⟩:∃ x,t.index=x:=⟨_,rfl⟩
 rw[ht_n,ht_m,ht_k,ht_i] at ht ⊢
 have Et_n:=Lib.hid ht_n
 have Et_m:=Lib.hid ht_m
 have Et_k:=Lib.hid ht_k
 have Et_i:=Lib.hid ht_i
 clear ht_n ht_m ht_k ht_i
 clear ht
 obtain⟨z,hzz⟩:∃ z,t.size=z:=⟨_,rfl⟩
 obtain⟨d,hdd⟩:∃ d,t.depth=d:=⟨_,rfl⟩
 rw[hzz] at Hs ⊢
 rw[hdd] at Hd ⊢
 rw[Et_n.out,Et_m.out,Et_k.out,Et_i.out] at Hs Hd
 clear hzz hdd hz
 go_enter Tryz.func61,Tryz.ntmps61
 go_wp2_with fail
 have hb1:Below w.heap.size w (w.alloc (.cells #[.slice t_pa t_n t_pc,.int .i64 t_k,.int .i64 t_i,.slice t_qa t_m t_qc] 31)):=(Below.refl _ _).alloc (Nat.le_refl _) _
 have x1:Blk (w.alloc (.cells #[.slice t_pa t_n t_pc,.int .i64 t_k,.int .i64 t_i,.slice t_qa t_m t_qc] 31)) w.heap.size #[.slice t_pa t_n t_pc,.int .i64 t_k,.int .i64 t_i,.slice t_qa t_m t_qc] 31:=Blk.new _ _ _ rfl
 refine(Hs.out _ hb1).mono ?_
 rintro e w1 ⟨rfl,hb2⟩
 have B1:=hb1.trans (hb2.mono hb1.size)
 have x2:=x1.below hb2
 clear hb1 hb2 x1
 by_cases h:z<=5000
 ·have h':(z:Int)<=5000:=by omega
  have c0:w1.cell? ⟨w.heap.size,0,none⟩=some (.slice t_pa t_n t_pc):=x2.cell rfl
  have c1:w1.cell? ⟨w.heap.size,1,none⟩=some (.int .i64 t_k):=x2.cell rfl
  have c2:w1.cell? ⟨w.heap.size,2,none⟩=some (.int .i64 t_i):=x2.cell rfl
  have c3:w1.cell? ⟨w.heap.size,3,none⟩=some (.slice t_qa t_m t_qc):=x2.cell rfl
  have l0:=x2.lt
  go_wp2_with fail
  refine(Hd.out _ B1).mono ?_
  rintro e w2 ⟨rfl,hb3⟩
  go_wp2_with fail
  go_ret
  exact⟨_,by simp;omega,rfl,B1.trans (hb3.mono B1.size)⟩
 have h':¬ (z:Int)<=5000:=by omega
 have h2:decide ((z:Int)<=5000)=false:=by simpa using h'
 go_wp2_with fail
 go_ret
 exact⟨_,by simp;omega,rfl,B1⟩
def Yp (C M:List Ty)(t:Tm)(X:List Ty)(u:Ty)(c:Int):Prop:=(¬ (t.size<=5000/\t.depth<=60)/\c=2)∨((t.size<=5000/\t.depth<=60)/\¬ Wz C M t X u/\c=5)∨((t.size<=5000/\t.depth<=60)/\Wz C M t X u/\c=0)
theorem Ve (t:Tm)(hz:t.size<=1000000):Zh Tryz.prog 61 [.ag (eTm t)] (.v (.bool (Li.rt t))):=by
 refine W0 (by kernel_rfl) λ m Im w vs hv=>?_
 match vs,hv with
 | [x],hv=>
  obtain⟨b,k,i,a,rfl,ht⟩:=Ho hv.1
  refine(JV ht hz).mono ?_
  rintro e w' ⟨b,hb,rfl,h2⟩
  have:b=Li.rt t:=by
   unfold Li.rt
   by_cases hp:t.size<=5000/\t.depth<=60
   ·rw[hb.2 hp];simp[hp]
   have:b=false:=by
    cases b with
    | false=>rfl
    | true=>exact absurd (hb.1 rfl) hp
   rw[this];simp[hp]
  subst this
  exact⟨_,rfl,h2,λ Im' _ hI=>.v _⟩
theorem Ln (l:List Tm)(h:∀ t∈l,t.Fit):Wj l=Y9 l:=by
 unfold Wj Y9
 induction l with
 | nil=>rfl
 | cons t l ih=>
  rw[List.flatMap_cons,List.flatMap_cons,ih λ u hu=>h u (by simp[hu]),Oy t (h t (by simp))]
theorem MO (l:List Tm)(hl:l.length<=9)(hz:∀ t∈l,t.full<=90000)(hf:∀ t∈l,t.Fit):Zh Tryz.prog 57 [.sl 4 (eTms l) none] (.sl 1 (YJ (Wr (Y9 l))) none):=by
 have h:=MB l hl hz hf
 rw[Ln l hf] at h
 exact h
namespace Li
def bad (M:List Ty)(x:Int):Bool:=decide (x<0∨(M.length:Int)<=x)
end Li
def Wg (bases:Int)(t:Ty):Prop:=t.size<=1000/\t.depth<=60/\Ty.Low bases t
set_option maxRecDepth 100000 in
theorem Rt {F:Nat->Prop}{w:World}{s d:Value}{t:Ty}{b:Int}{B:Nat}(ht:Xj F w s d t)(hz:t.size<=400000)(hB:w.cell? ⟨B,0,none⟩=some (.int .i64 b)):
  Calls Tryz.prog 106 #[.agg #[s,d],.pointer (some ⟨B,0,none⟩)] w (SC (¬ Wg b t) w):=by
 have Hr:=Lib.hid fun(w':World) (hb:Below w.heap.size w w')=>KJ (ht.bel hb) b (by omega)
 obtain⟨a,c,rfl,rfl⟩:=ht.shape
 clear ht
 obtain⟨n1,hn1⟩:∃ n,t.args.length=n:=⟨_,rfl⟩
 obtain⟨n2,hn2⟩:∃ n,t.base=n:=⟨_,rfl⟩
 rw[hn1,hn2] at Hr ⊢
 clear hn1 hn2
 have hl:=Keep.lt hB
 go_enter Tryz.func106,Tryz.ntmps106
 go_wp2_with fail
 have hb1:Below w.heap.size w (w.alloc (.cells #[.slice a n1 c,.int .i64 n2] 106)):=(Below.refl _ _).alloc (Nat.le_refl _) _
 refine(Hr.out _ hb1).mono ?_
 intro e w2 h
 obtain⟨r,Hq,rfl,hb2⟩:=Us h
 clear h
 go_wp2_with fail
 go_ret
 exact⟨_,by have:=Hq.out;unfold Wg;cases r <;> simp_all,rfl,hb1.trans (hb2.mono hb1.size)⟩
set_option maxRecDepth 100000 in
theorem Pq {G F:Nat->Prop}{w:World}{v:Value}{l:List Ty}{b:Int}{B:Nat}(h:IsSl2 YD G F w v l)(hz:∀ t∈l,t.size<=400000)(hB:w.cell? ⟨B,0,none⟩=some (.int .i64 b)):
  Calls Tryz.prog 128 #[v,.func (.func 106) #[] #[.pointer (some ⟨B,0,none⟩)]] w λ e w'=>∃ i:Int,Hid (0<=i↔∃ t∈l,¬ Wg b t)/\e=.returned (.int .i64 i)/\Below w.heap.size w w':=by
 obtain⟨a,c,rfl⟩:=h.shape
 have Hat:=Lib.hid (MU h)
 have hl:(l.length:Int)<=9223372036854775807:=by obtain⟨_,_,_,_,_,_,hm,_⟩:=h;unfold maxLen at hm;omega
 clear h
 have Hz:=Lib.hid hz;clear hz
 go_enter Tryz.func128,Tryz.ntmps128
 go_wp2_with fail
 go_loopw [5,8] (λ _ i wr=>∃ k:Nat,i=.int .i64 k/\k<=l.length/\Hid (∀ m (h:m<l.length),m<k->Wg b l[m])/\Below w.heap.size w wr) (λ _ i _=>l.length-(intOf i).toNat)
 case atStart=>exact⟨0,rfl,by omega,λ m _ h=>absurd h (by omega),Below.refl _ _⟩
 case round=>
  obtain⟨k,rfl,hk,hrel,hb⟩:=hrel
  by_cases hlt:k<l.length
  ·obtain⟨bl,off,A,N,C,Bb,rfl,_,e1,e2,hT⟩:=Hat.out k hlt
   have hkx:Keep (λ _=>True) w wr:=(Keep.refl _ _).below hb
   have e1:=hkx _ _ _ trivial e1
   have e2:=hkx _ _ _ trivial e2
   have HT:=Lib.hid (hT.bel hb);clear hT
   have i1:(k:Int)<(l.length:Int):=by omega
   have HB:=Lib.hid (hkx _ _ _ trivial hB)
   clear hkx
   go_wp2_with fail
   refine(Rt HT.out (Hz.out _ (List.getElem_mem hlt)) HB.out).mono ?_
   intro e w2 h
   obtain⟨r,Hq,rfl,hb2⟩:=Us h
   clear h e1 e2
   cases r
   ·have Hq2:=Lib.hid (QF Hq.out)
    go_wp2_with fail
    go_roundw
    case rel=>exact⟨k+1,by go_num,by omega,λ m h hm=>by
     by_cases hmk:m<k
     ·exact hrel.out m h hmk
     obtain rfl:m=k:=by omega
     exact Classical.not_not.1 Hq2.out,hb.trans (hb2.mono hb.size)⟩
    case measure=>simp[intOf];omega
   have Hq2:=Lib.hid (Sy Hq.out)
   go_wp2_with fail
   go_ret
   exact⟨_,⟨λ _=>⟨_,List.getElem_mem hlt,Hq2.out⟩,λ _=>by omega⟩,rfl,hb.trans (hb2.mono hb.size)⟩
  go_wp2_with fail
  go_ret
  refine⟨_,⟨λ h=>absurd h (by omega),fun⟨t,ht,hn⟩=>?_⟩,rfl,hb⟩
  obtain⟨m,hm,rfl⟩:=List.getElem_of_mem ht
  exact absurd (hrel.out m hm (by omega)) hn
set_option maxRecDepth 100000 in
theorem SJ {G F:Nat->Prop}{w:World}{v:Value}{l:List Ty}{b:Int}{B:Nat}(h:IsSl2 YD G F w v l)(hz:∀ t∈l,t.size<=400000)(hB:w.cell? ⟨B,0,none⟩=some (.int .i64 b)):
  Calls Tryz.prog 104 #[v,.func (.func 106) #[] #[.pointer (some ⟨B,0,none⟩)]] w (SC (∃ t∈l,¬ Wg b t) w):=by
 have Hi:=Lib.hid (Pq h hz hB)
 obtain⟨a,c,rfl⟩:=h.shape
 clear h hz hB
 go_enter Tryz.func104,Tryz.ntmps104
 go_wp2_with fail
 refine Hi.out.mono ?_
 rintro e w1 ⟨i,hi,rfl,hb⟩
 go_wp2_with fail
 go_ret
 exact⟨_,by rw[<-hi.out];simp,rfl,hb⟩
def XT (b:Int)(C M:List Ty):Prop:=C.length+M.length<=1000/\∀ t∈C++M,Wg b t
set_option maxRecDepth 100000 in
set_option maxHeartbeats 1000000 in
theorem Qa {F:Nat->Prop}{w:World}{b:Int}{cv mv:Value}{C M:List Ty}(hc:Y6 YD F w cv C)(hm:Y6 YD F w mv M)(hz:∀ t∈C++M,t.size<=400000):
  Calls Tryz.prog 80 #[.agg #[.int .i64 b,cv,mv]] w (SC (XT b C M) w):=by
 obtain⟨ca,cc,rfl⟩:=hc.shape
 obtain⟨ma,mc,rfl⟩:=hm.shape
 have hlc:(C.length:Int)<=9223372036854775807:=by obtain⟨_,_,_,_,_,_,h,_⟩:=hc;unfold maxLen at h;omega
 have hlm:(M.length:Int)<=9223372036854775807:=by obtain⟨_,_,_,_,_,_,h,_⟩:=hm;unfold maxLen at h;omega
 have Hc:=Lib.hid hc;have Hm:=Lib.hid hm;have Hz:=Lib.hid hz
 clear hc hm hz
 by_cases g1:(1000:Int)<(C.length:Int)
 ·skip
  go_enter Tryz.func80,Tryz.ntmps80
  go_wp2_with fail
  go_ret
  exact⟨false,by unfold XT;simp;omega,rfl,(Below.refl _ _).alloc (Nat.le_refl _) _⟩
 have hq:IntKind.i64.wrap (1000-(C.length:Int))=1000-(C.length:Int):=IntWalk.i64_in _ (by omega)
 by_cases g2:1000-(C.length:Int)<(M.length:Int)
 ·skip
  go_enter Tryz.func80,Tryz.ntmps80
  go_wp2_with fail
  go_ret
  exact⟨false,by unfold XT;simp;omega,rfl,(Below.refl _ _).alloc (Nat.le_refl _) _⟩
 go_enter Tryz.func80,Tryz.ntmps80
 go_wp2_with fail
 obtain⟨w2,hw2⟩:∃ w2,(w.alloc (.cells #[.int .i64 b,.slice ca C.length cc,.slice ma M.length mc] 43)).alloc (.cells #[.slice ca C.length cc,.slice ma M.length mc] 41)=w2:=⟨_,rfl⟩
 have B2:Below w.heap.size w w2:=by rw[<-hw2];exact((Below.refl _ _).alloc (Nat.le_refl _) _).alloc (by simp) _
 have x0:Blk w2 w.heap.size #[.int .i64 b,.slice ca C.length cc,.slice ma M.length mc] 43:=by rw[<-hw2];exact(Blk.new _ _ _ rfl).alloc _
 have x1:Blk w2 (w.heap.size+1) #[.slice ca C.length cc,.slice ma M.length mc] 41:=by rw[<-hw2];exact Blk.new _ _ _ (by simp)
 rw[hw2]
 clear hw2
 refine(P6 x1 (IsSl2.of (Hc.out.bel B2)) (IsSl2.of (Hm.out.bel B2)) (by omega)).mono ?_
 rintro e w3 ⟨a3,c3,rfl,hT,hb3⟩
 have HT:=Lib.hid hT;clear hT
 have x0':=x0.below hb3
 have B3:=B2.trans (hb3.mono B2.size)
 obtain⟨Y,hY⟩:∃ Y,C++M=Y:=⟨_,rfl⟩
 have HY:=Lib.hid hY
 rw[hY] at HT Hz ⊢
 clear hY
 go_wp2_with fail
 refine(SJ HT.out Hz.out (x0'.cell rfl)).mono ?_
 intro e w4 h
 obtain⟨r,Hq,rfl,hb4⟩:=Us h
 clear h
 go_wp2_with fail
 go_ret
 refine⟨_,?_,rfl,B3.trans (hb4.mono B3.size)⟩
 have h2:(r=true↔∃ t∈Y,¬ Wg b t):=Hq.out
 have h3:C.length+M.length<=1000:=by omega
 unfold XT
 rw[HY.out]
 cases r
 ·simp only[Bool.not_false,true_iff]
  refine⟨h3,λ t ht=>Classical.not_not.1 λ hn=>?_⟩
  exact absurd (h2.2 ⟨t,ht,hn⟩) (by simp)
 simp only[Bool.not_true,Bool.false_eq_true,false_iff]
 rintro⟨_,h⟩
 obtain⟨t,ht,hn⟩:=h2.1 rfl
 exact hn (h t ht)
set_option maxRecDepth 100000 in
set_option maxHeartbeats 2000000 in
theorem Qb {F:Nat->Prop}{w:World}{b:Int}{cv mv:Value}{C M:List Ty}(hc:Y6 YD F w cv C)(hm:Y6 YD F w mv M):
  Calls Tryz.prog 85 #[.agg #[.int .i64 b,cv,mv]] w (SC (XT b C M) w):=by
 obtain⟨ca,cc,rfl⟩:=hc.shape
 obtain⟨ma,mc,rfl⟩:=hm.shape
 have hlc:(C.length:Int)<=9223372036854775807:=by obtain⟨_,_,_,_,_,_,h,_⟩:=hc;unfold maxLen at h;omega
 have hlm:(M.length:Int)<=9223372036854775807:=by obtain⟨_,_,_,_,_,_,h,_⟩:=hm;unfold maxLen at h;omega
 have Hc:=Lib.hid (MU (IsSl2.of hc));have Hm:=Lib.hid (MU (IsSl2.of hm))
 clear hc hm
 by_cases g1:(1000:Int)<(C.length:Int)
 ·skip
  go_enter Tryz.func85,Tryz.ntmps85
  go_wp2_with fail
  go_ret
  exact⟨false,by unfold XT;simp;omega,rfl,(Below.refl _ _).alloc (Nat.le_refl _) _⟩
 have hq:IntKind.i64.wrap (1000-(C.length:Int))=1000-(C.length:Int):=IntWalk.i64_in _ (by omega)
 by_cases g2:1000-(C.length:Int)<(M.length:Int)
 ·skip
  go_enter Tryz.func85,Tryz.ntmps85
  go_wp2_with fail
  go_ret
  exact⟨false,by unfold XT;simp;omega,rfl,(Below.refl _ _).alloc (Nat.le_refl _) _⟩
 go_enter Tryz.func85,Tryz.ntmps85
 go_wp2_with fail
 have hlen:Hid (C.length+M.length<=1000):=by show _<=_;omega
 clear g1 g2 hq
 obtain⟨w1,hw1⟩:∃ w1,w.alloc (.cells #[.int .i64 b,.slice ca C.length cc,.slice ma M.length mc] 24)=w1:=⟨_,rfl⟩
 have B1:Below w.heap.size w w1:=by rw[<-hw1];exact(Below.refl _ _).alloc (Nat.le_refl _) _
 have x0:Blk w1 w.heap.size #[.int .i64 b,.slice ca C.length cc,.slice ma M.length mc] 24:=by rw[<-hw1];exact Blk.new _ _ _ rfl
 rw[hw1]
 clear hw1
 go_loopw [3] (λ i wr=>∃ k:Nat,i=.int .i64 k/\k<=C.length/\Hid (∀ m (h:m<C.length),m<k->Wg b C[m])/\Below w.heap.size w wr/\Blk wr w.heap.size #[.int .i64 b,.slice ca C.length cc,.slice ma M.length mc] 24) (λ i _=>C.length-(intOf i).toNat)
 case atStart=>exact⟨0,rfl,by omega,λ m _ h=>absurd h (by omega),B1,x0⟩
 case round=>
  clear B1 x0
  obtain⟨k,rfl,hk,hrel1,hb,x0_wr⟩:=hrel
  have Hb:=Lib.hid hb;clear hb
  by_cases hlt:k<C.length
  ·obtain⟨bl,off,A,N,Cc,Bb,rfl,_,e1,e2,hT⟩:=Hc.out k hlt
   have hkx:Keep (λ _=>True) w wr:=(Keep.refl _ _).below Hb.out
   have e1:=hkx _ _ _ trivial e1
   have e2:=hkx _ _ _ trivial e2
   have HT:=Lib.hid (hT.bel Hb.out);clear hT
   have i0:(0:Int)<=(k:Int):=Int.natCast_nonneg _
   have i1:(k:Int)<(C.length:Int):=by omega
   clear hkx
   have cx00:wr.cell? ⟨w.heap.size,0,none⟩=some (.int .i64 b):=x0_wr.cell rfl
   have cx01:wr.cell? ⟨w.heap.size,1,none⟩=some (.slice (some ⟨bl,off,none⟩) C.length cc):=x0_wr.cell rfl
   have cx02:wr.cell? ⟨w.heap.size,2,none⟩=some (.slice ma M.length mc):=x0_wr.cell rfl
   have lx0:=x0_wr.lt
   go_wp2_with fail
   clear cx00 cx01 cx02 lx0
   refine wp_region_noPanic (Ux (S:=λ w'=>w'.cell? ⟨w.heap.size,0,none⟩=some (.int .i64 b)/\w'.cell? ⟨w.heap.size,1,none⟩=some (.slice (some ⟨bl,off,none⟩) C.length cc)/\w'.cell? ⟨bl,off+k * 2,none⟩=some (.slice A N Cc)/\w'.cell? ⟨bl,off+k * 2+1,none⟩=some (.int .i64 Bb)) (by kernel_rfl) ?_)
   have hS:(wr.drew).cell? ⟨w.heap.size,0,none⟩=some (.int .i64 b)/\(wr.drew).cell? ⟨w.heap.size,1,none⟩=some (.slice (some ⟨bl,off,none⟩) C.length cc)/\(wr.drew).cell? ⟨bl,off+k * 2,none⟩=some (.slice A N Cc)/\(wr.drew).cell? ⟨bl,off+k * 2+1,none⟩=some (.int .i64 Bb):=⟨x0_wr.drew.cell rfl,x0_wr.drew.cell rfl,e1,e2⟩
   refine YL (i:=0) (v:=?v1) rfl (by kernel_rfl) (λ _ _ _ h=>h) hS (Or.inl ⟨by rfl,?hy1⟩) ?hr1
   case hy1=>(intro wS hSw;(try dsimp only at hSw);go_simp;(try with_reducible rfl))
   try simp only[Act.put,List.setIfInBounds_toArray,List.set_cons_zero,List.set_cons_succ,List.getElem_toArray,List.getElem_cons_zero,List.getElem_cons_succ]
   refine YL (i:=1) (v:=?v2) rfl (by kernel_rfl) (λ _ _ _ h=>h) hS (Or.inl ⟨by rfl,?hy2⟩) ?hr2
   case hy2=>(intro wS hSw;(try dsimp only at hSw);go_simp;(try with_reducible rfl))
   try simp only[Act.put,List.setIfInBounds_toArray,List.set_cons_zero,List.set_cons_succ,List.getElem_toArray,List.getElem_cons_zero,List.getElem_cons_succ]
   refine YL (i:=2) (v:=?v3) rfl (by kernel_rfl) (λ _ _ _ h=>h) hS (Or.inl ⟨by rfl,?hy3⟩) ?hr3
   case hy3=>(intro wS hSw;(try dsimp only at hSw);go_simp;(try with_reducible rfl))
   try simp only[Act.put,List.setIfInBounds_toArray,List.set_cons_zero,List.set_cons_succ,List.getElem_toArray,List.getElem_cons_zero,List.getElem_cons_succ]
   refine YL (i:=3) (v:=?v4) rfl (by kernel_rfl) (λ _ _ _ h=>h) hS (Or.inl ⟨by rfl,?hy4⟩) ?hr4
   case hy4=>(intro wS hSw;(try dsimp only at hSw);go_simp;(try with_reducible rfl))
   try simp only[Act.put,List.setIfInBounds_toArray,List.set_cons_zero,List.set_cons_succ,List.getElem_toArray,List.getElem_cons_zero,List.getElem_cons_succ]
   refine YL (i:=4) (v:=?v5) rfl (by kernel_rfl) (λ _ _ _ h=>h) hS (Or.inl ⟨by rfl,?hy5⟩) ?hr5
   case hy5=>(intro wS hSw;(try dsimp only at hSw);go_simp;(try with_reducible rfl))
   try simp only[Act.put,List.setIfInBounds_toArray,List.set_cons_zero,List.set_cons_succ,List.getElem_toArray,List.getElem_cons_zero,List.getElem_cons_succ]
   refine YL (i:=5) (v:=?v6) rfl (by kernel_rfl) (λ _ _ _ h=>h) hS (Or.inl ⟨by rfl,?hy6⟩) ?hr6
   case hy6=>(intro wS hSw;(try dsimp only at hSw);go_simp;(try with_reducible rfl))
   try simp only[Act.put,List.setIfInBounds_toArray,List.set_cons_zero,List.set_cons_succ,List.getElem_toArray,List.getElem_cons_zero,List.getElem_cons_succ]
   refine YL (i:=6) (v:=?v7) rfl (by kernel_rfl) (λ _ _ _ h=>h) hS (Or.inl ⟨by rfl,?hy7⟩) ?hr7
   case hy7=>(intro wS hSw;(try dsimp only at hSw);go_simp;(try with_reducible rfl))
   try simp only[Act.put,List.setIfInBounds_toArray,List.set_cons_zero,List.set_cons_succ,List.getElem_toArray,List.getElem_cons_zero,List.getElem_cons_succ]
   refine Q2 (i:=7) (by kernel_rfl) rfl (λ K hK=>?_)
   go_simp
   refine(OH (HT.out.bel (Below.refl _ _).drew) b).mono ?_
   intro e v h
   obtain⟨r,Hr,rfl,hbx0⟩:=Us h
   clear h
   have hbx:Below wr.heap.size wr v:=(Below.refl _ _).drew.trans hbx0
   have hkx:Keep (λ _=>True) wr v:=(Keep.refl _ _).below hbx
   have x0_v:=x0_wr.below hbx
   have Hbv:=Lib.hid (Hb.out.trans (hbx.mono Hb.out.size))
   have hS:(v).cell? ⟨w.heap.size,0,none⟩=some (.int .i64 b)/\(v).cell? ⟨w.heap.size,1,none⟩=some (.slice (some ⟨bl,off,none⟩) C.length cc)/\(v).cell? ⟨bl,off+k * 2,none⟩=some (.slice A N Cc)/\(v).cell? ⟨bl,off+k * 2+1,none⟩=some (.int .i64 Bb):=⟨x0_v.cell rfl,x0_v.cell rfl,hkx _ _ _ trivial e1,hkx _ _ _ trivial e2⟩
   clear hkx hbx hbx0 e1 e2 x0_wr
   refine hK.out _ _ (λ _=>hS) ?_
   clear hK K
   try simp only[Act.put,List.setIfInBounds_toArray,List.set_cons_zero,List.set_cons_succ,List.getElem_toArray,List.getElem_cons_zero,List.getElem_cons_succ]
   refine YL (i:=8) (v:=?v8) rfl (by kernel_rfl) (λ _ _ _ h=>h) hS (Or.inl ⟨by rfl,?hy8⟩) ?hr8
   case hy8=>(intro wS hSw;(try dsimp only at hSw);go_simp;(try with_reducible rfl))
   try simp only[Act.put,List.setIfInBounds_toArray,List.set_cons_zero,List.set_cons_succ,List.getElem_toArray,List.getElem_cons_zero,List.getElem_cons_succ]
   refine Q3 (by kernel_rfl) ?_
   refine NoPanic.normal ?_
   clear hS
   cases r
   ·have hn:=Lib.hid (QF Hr.out)
    go_wp2_with fail
    go_ret
    exact⟨false,by
     simp only[Bool.false_eq_true,false_iff]
     rintro⟨_,h⟩
     exact hn.out (h _ (List.mem_append_left _ (List.getElem_mem hlt))),rfl,Hbv.out⟩
   have Hy:=Lib.hid (Sy Hr.out)
   go_wp2_with fail
   go_roundw
   case rel=>exact⟨k+1,by go_num,by omega,λ m h hm=>by
    by_cases hmk:m<k
    ·exact hrel1.out m h hmk
    obtain rfl:m=k:=by omega
    exact Hy.out,Hbv.out,x0_v⟩
   case measure=>simp[intOf];omega
  have Hall:Hid (∀ m (h:m<C.length),Wg b C[m]):=λ m h=>hrel1.out m h (by omega)
  have cx00:wr.cell? ⟨w.heap.size,0,none⟩=some (.int .i64 b):=x0_wr.cell rfl
  have cx01:wr.cell? ⟨w.heap.size,1,none⟩=some (.slice ca C.length cc):=x0_wr.cell rfl
  have cx02:wr.cell? ⟨w.heap.size,2,none⟩=some (.slice ma M.length mc):=x0_wr.cell rfl
  have lx0:=x0_wr.lt
  go_wp2_with fail
  clear cx00 cx01 cx02 lx0
  go_loopw [4] (λ i wr=>∃ k:Nat,i=.int .i64 k/\k<=M.length/\Hid (∀ m (h:m<M.length),m<k->Wg b M[m])/\Below w.heap.size w wr/\Blk wr w.heap.size #[.int .i64 b,.slice ca C.length cc,.slice ma M.length mc] 24) (λ i _=>M.length-(intOf i).toNat)
  case atStart=>exact⟨0,rfl,by omega,λ m _ h=>absurd h (by omega),Hb.out,x0_wr⟩
  case round=>
   clear Hb x0_wr hrel1 hk hlt
   obtain⟨k,rfl,hk,hrel,hb,x0_wr⟩:=hrel
   have Hb:=Lib.hid hb;clear hb
   by_cases hlt:k<M.length
   ·obtain⟨bl,off,A,N,Cc,Bb,rfl,_,e1,e2,hT⟩:=Hm.out k hlt
    have hkx:Keep (λ _=>True) w wr:=(Keep.refl _ _).below Hb.out
    have e1:=hkx _ _ _ trivial e1
    have e2:=hkx _ _ _ trivial e2
    have HT:=Lib.hid (hT.bel Hb.out);clear hT
    have i0:(0:Int)<=(k:Int):=Int.natCast_nonneg _
    have i1:(k:Int)<(M.length:Int):=by omega
    clear hkx
    have cx00:wr.cell? ⟨w.heap.size,0,none⟩=some (.int .i64 b):=x0_wr.cell rfl
    have cx01:wr.cell? ⟨w.heap.size,1,none⟩=some (.slice ca C.length cc):=x0_wr.cell rfl
    have cx02:wr.cell? ⟨w.heap.size,2,none⟩=some (.slice (some ⟨bl,off,none⟩) M.length mc):=x0_wr.cell rfl
    have lx0:=x0_wr.lt
    go_wp2_with fail
    clear cx00 cx01 cx02 lx0
    refine wp_region_noPanic (Ux (S:=λ w'=>w'.cell? ⟨w.heap.size,0,none⟩=some (.int .i64 b)/\w'.cell? ⟨w.heap.size,2,none⟩=some (.slice (some ⟨bl,off,none⟩) M.length mc)/\w'.cell? ⟨bl,off+k * 2,none⟩=some (.slice A N Cc)/\w'.cell? ⟨bl,off+k * 2+1,none⟩=some (.int .i64 Bb)) (by kernel_rfl) ?_)
    have hS:(wr.drew).cell? ⟨w.heap.size,0,none⟩=some (.int .i64 b)/\(wr.drew).cell? ⟨w.heap.size,2,none⟩=some (.slice (some ⟨bl,off,none⟩) M.length mc)/\(wr.drew).cell? ⟨bl,off+k * 2,none⟩=some (.slice A N Cc)/\(wr.drew).cell? ⟨bl,off+k * 2+1,none⟩=some (.int .i64 Bb):=⟨x0_wr.drew.cell rfl,x0_wr.drew.cell rfl,e1,e2⟩
    refine YL (i:=0) (v:=?v9) rfl (by kernel_rfl) (λ _ _ _ h=>h) hS (Or.inl ⟨by rfl,?hy9⟩) ?hr9
    case hy9=>(intro wS hSw;(try dsimp only at hSw);go_simp;(try with_reducible rfl))
    try simp only[Act.put,List.setIfInBounds_toArray,List.set_cons_zero,List.set_cons_succ,List.getElem_toArray,List.getElem_cons_zero,List.getElem_cons_succ]
    refine YL (i:=1) (v:=?v10) rfl (by kernel_rfl) (λ _ _ _ h=>h) hS (Or.inl ⟨by rfl,?hy10⟩) ?hr10
    case hy10=>(intro wS hSw;(try dsimp only at hSw);go_simp;(try with_reducible rfl))
    try simp only[Act.put,List.setIfInBounds_toArray,List.set_cons_zero,List.set_cons_succ,List.getElem_toArray,List.getElem_cons_zero,List.getElem_cons_succ]
    refine YL (i:=2) (v:=?v11) rfl (by kernel_rfl) (λ _ _ _ h=>h) hS (Or.inl ⟨by rfl,?hy11⟩) ?hr11
    case hy11=>(intro wS hSw;(try dsimp only at hSw);go_simp;(try with_reducible rfl))
    try simp only[Act.put,List.setIfInBounds_toArray,List.set_cons_zero,List.set_cons_succ,List.getElem_toArray,List.getElem_cons_zero,List.getElem_cons_succ]
    refine YL (i:=3) (v:=?v12) rfl (by kernel_rfl) (λ _ _ _ h=>h) hS (Or.inl ⟨by rfl,?hy12⟩) ?hr12
    case hy12=>(intro wS hSw;(try dsimp only at hSw);go_simp;(try with_reducible rfl))
    try simp only[Act.put,List.setIfInBounds_toArray,List.set_cons_zero,List.set_cons_succ,List.getElem_toArray,List.getElem_cons_zero,List.getElem_cons_succ]
    refine YL (i:=4) (v:=?v13) rfl (by kernel_rfl) (λ _ _ _ h=>h) hS (Or.inl ⟨by rfl,?hy13⟩) ?hr13
    case hy13=>(intro wS hSw;(try dsimp only at hSw);go_simp;(try with_reducible rfl))
    try simp only[Act.put,List.setIfInBounds_toArray,List.set_cons_zero,List.set_cons_succ,List.getElem_toArray,List.getElem_cons_zero,List.getElem_cons_succ]
    refine YL (i:=5) (v:=?v14) rfl (by kernel_rfl) (λ _ _ _ h=>h) hS (Or.inl ⟨by rfl,?hy14⟩) ?hr14
    case hy14=>(intro wS hSw;(try dsimp only at hSw);go_simp;(try with_reducible rfl))
    try simp only[Act.put,List.setIfInBounds_toArray,List.set_cons_zero,List.set_cons_succ,List.getElem_toArray,List.getElem_cons_zero,List.getElem_cons_succ]
    refine YL (i:=6) (v:=?v15) rfl (by kernel_rfl) (λ _ _ _ h=>h) hS (Or.inl ⟨by rfl,?hy15⟩) ?hr15
    case hy15=>(intro wS hSw;(try dsimp only at hSw);go_simp;(try with_reducible rfl))
    try simp only[Act.put,List.setIfInBounds_toArray,List.set_cons_zero,List.set_cons_succ,List.getElem_toArray,List.getElem_cons_zero,List.getElem_cons_succ]
    refine Q2 (i:=7) (by kernel_rfl) rfl (λ K hK=>?_)
    go_simp
    refine(OH (HT.out.bel (Below.refl _ _).drew) b).mono ?_
    intro e v h
    obtain⟨r,Hr,rfl,hbx0⟩:=Us h
    clear h
    have hbx:Below wr.heap.size wr v:=(Below.refl _ _).drew.trans hbx0
    have hkx:Keep (λ _=>True) wr v:=(Keep.refl _ _).below hbx
    have x0_v:=x0_wr.below hbx
    have Hbv:=Lib.hid (Hb.out.trans (hbx.mono Hb.out.size))
    have hS:(v).cell? ⟨w.heap.size,0,none⟩=some (.int .i64 b)/\(v).cell? ⟨w.heap.size,2,none⟩=some (.slice (some ⟨bl,off,none⟩) M.length mc)/\(v).cell? ⟨bl,off+k * 2,none⟩=some (.slice A N Cc)/\(v).cell? ⟨bl,off+k * 2+1,none⟩=some (.int .i64 Bb):=⟨x0_v.cell rfl,x0_v.cell rfl,hkx _ _ _ trivial e1,hkx _ _ _ trivial e2⟩
    clear hkx hbx hbx0 e1 e2 x0_wr
    refine hK.out _ _ (λ _=>hS) ?_
    clear hK K
    try simp only[Act.put,List.setIfInBounds_toArray,List.set_cons_zero,List.set_cons_succ,List.getElem_toArray,List.getElem_cons_zero,List.getElem_cons_succ]
    refine YL (i:=8) (v:=?v16) rfl (by kernel_rfl) (λ _ _ _ h=>h) hS (Or.inl ⟨by rfl,?hy16⟩) ?hr16
    case hy16=>(intro wS hSw;(try dsimp only at hSw);go_simp;(try with_reducible rfl))
    try simp only[Act.put,List.setIfInBounds_toArray,List.set_cons_zero,List.set_cons_succ,List.getElem_toArray,List.getElem_cons_zero,List.getElem_cons_succ]
    refine Q3 (by kernel_rfl) ?_
    refine NoPanic.normal ?_
    clear hS
    cases r
    ·have hn:=Lib.hid (QF Hr.out)
     go_wp2_with fail
     go_ret
     exact⟨false,by
      simp only[Bool.false_eq_true,false_iff]
      rintro⟨_,h⟩
      exact hn.out (h _ (List.mem_append_right _ (List.getElem_mem hlt))),rfl,Hbv.out⟩
    have Hy:=Lib.hid (Sy Hr.out)
    go_wp2_with fail
    go_roundw
    case rel=>exact⟨k+1,by go_num,by omega,λ m h hm=>by
     by_cases hmk:m<k
     ·exact hrel.out m h hmk
     obtain rfl:m=k:=by omega
     exact Hy.out,Hbv.out,x0_v⟩
    case measure=>simp[intOf];omega
   have Hall2:Hid (∀ m (h:m<M.length),Wg b M[m]):=λ m h=>hrel.out m h (by omega)
   have cx00:wr.cell? ⟨w.heap.size,0,none⟩=some (.int .i64 b):=x0_wr.cell rfl
   have cx01:wr.cell? ⟨w.heap.size,1,none⟩=some (.slice ca C.length cc):=x0_wr.cell rfl
   have cx02:wr.cell? ⟨w.heap.size,2,none⟩=some (.slice ma M.length mc):=x0_wr.cell rfl
   have lx0:=x0_wr.lt
   go_wp2_with fail
   go_ret
   exact⟨true,by
    simp only[true_iff]
    refine⟨hlen.out,λ t ht=>?_⟩
    rcases List.mem_append.1 ht with ht | ht
    ·obtain⟨m,hm,rfl⟩:=List.getElem_of_mem ht
     exact Hall.out m hm
    obtain⟨m,hm,rfl⟩:=List.getElem_of_mem ht
    exact Hall2.out m hm,rfl,Hb.out⟩
section
variable {w:World} {b:Int} {cv mv xv tb tk ti ta s ub:Value} {C M X:List Ty} {t:Tm} {u:Ty}
end
theorem IT {F:Nat->Prop}{w:World}{v:Value}{l:List Ty}(h:Y6 YD F w v l):Y6 YD (λ _=>True) w v l:=h.weaken (by decide) λ _ _ _=>trivial
theorem JQ {m:Mp}{Im:Nat->Nat->Prop}{w:World}{v:Value}{l:List Ty}(h:Yz m Im w v (.sl 2 (eTys l) none)):Y6 YD (λ _=>True) w v l:=
 IT (Te (r:=YD) (e:=eTy) Vq (λ x t hx _=>Rm t hx) (by decide) (by rw[X8] at h;exact h))
theorem N4 {m:Mp}{Im:Nat->Nat->Prop}{w:World}{x:Value}{b:Int}{C M:List Ty}(h:Yz m Im w x (.ag [.v (.int .i64 b),.sl 2 (eTys C) none,.sl 2 (eTys M) none])):∃ cv mv,x=.agg #[.int .i64 b,cv,mv]/\Y6 YD (λ _=>True) w cv C/\Y6 YD (λ _=>True) w mv M:=by
 obtain⟨cs,rfl,hr⟩:=Wa.1 h
 match cs,hr with
 | [x,y,z],hr=>
  have:=Yr.1 hr.1;subst this
  exact⟨y,z,rfl,JQ hr.2.1,JQ hr.2.2.1⟩
def TC9:List (Nat×TI):=[(3,TG_3),(104,TTY_104),(28,TTM_28),(22,TTY_22),(24,TS9_24),(72,TL9_72),(130,TL9_130)]
theorem Vj:Zd Tryz.prog TC9:=((((((((Zd.nil _).cons XJ).cons Wm).cons Xy).cons Yo).cons Xz).cons Yy).cons ZW)
theorem XO:eTy H7=[.sl 2 [] none,.v (.int .i64 0)]:=rfl
set_option maxHeartbeats 1000000 in
theorem MP (l:List (Int×Tm))(hl:l.length<=1000000):Zh Tryz.prog 92 [.sl 5 (Z5 l) none] (.v (.bool (Sb.right l))):=by
 refine ZX 0 22 [ResultVar.tmp 2] Vj (by kernel_rfl) Tryz.func92 rfl Tryz.ntmps92 rfl (by simp) ?dwords ?dbody
 case dwords=>simp[ZA,D.ok,D.oks,ZM,YS]
 case dbody=>
  intro cx hnt hn0
  refine Zz ?_;refine Zx [] Vj hnt λ _ z9=>z9 _ _ ?_;refine Zz (Zz ?_);refine Zx [] Vj hnt λ _ z9=>z9 _ _ ?_;refine Zt ?_
  refine Z6 (ι:={ j:Nat // ∀ i (_:0<i) (h2:i<l.length),i<j+1->(l[i-1]'(by omega)).1<l[i].1 }) (λ j=>[(.t 0,.sl 5 (Z5 l) none),(.t 3,.v (.int .i64 ((j.1:Int)+1)))]) 2 (λ j=>l.length-j.1) ⟨0,λ i h1 h2 h3=>by omega⟩ VS.toA λ j=>?_
  obtain⟨j,hj⟩:=j
  dsimp only
  refine Zz (Zz ?_)
  by_cases hlt:j+1<l.length
  ·skip
   refine Zx [(7,.v (.bool true))] Vj hnt λ K hK=>?_;refine And.intro (Z7 (by rw[Zf];omega)) ?_;refine hK _ _ ?_;clear hK K;refine Zy (t:=true) rfl ?_;rw[if_pos rfl];refine Zw ?_;refine Zz (Zt (Zz ?_))
   by_cases hc:l[j].1<l[j+1].1
   ·skip
    refine ZQ [(12,.v (.int .i64 (j:Int))),(13,.q [.v (.int .i64 l[j].1),.sl 2 (eTys l[j].2.binds) none,.v (.int .i64 l[j].2.kind),.v (.int .i64 l[j].2.index),.sl 4 (eTms l[j].2.args) none]),(18,.q [.v (.int .i64 l[j+1].1),.sl 2 (eTys l[j+1].2.binds) none,.v (.int .i64 l[j+1].2.kind),.v (.int .i64 l[j+1].2.index),.sl 4 (eTms l[j+1].2.args) none]),(21,.v (.bool false))] Vj hnt λ K hK=>?_
    refine And.intro (Zr (by rw[IntWalk.i64_in _ (by omega)];omega)) ?_;refine And.intro (⟨by omega,by rw[Zf];omega⟩) ?_;refine And.intro (Zm.of_eq (by rw[Int.toNat_natCast,ZP l j (by omega),ZG])) ?_;refine And.intro (⟨by omega,by rw[Zf];omega⟩) ?_;refine And.intro (Zm.of_eq (by rw[show ((j:Int)+1).toNat=j+1 by omega,ZP l (j+1) hlt,ZG])) ?_
    refine And.intro (Ze (by omega)) ?_;refine hK _ _ (by kernel_rfl) ?_;clear hK K;refine Zy (t:=false) rfl ?_;rw[if_neg (by simp)];refine Zw ?_;refine Zx [(9,.v (.int .i64 (((j+1:Nat):Int)+1)))] Vj hnt λ K hK=>?_;refine And.intro (Zr (by rw[IntWalk.i64_in _ (by omega)];omega)) ?_;refine hK _ _ ?_;clear hK K
    refine⟨⟨j+1,λ i h1 h2 h3=>?_⟩,by dsimp only;omega,VS.toA⟩
    by_cases he:i=j+1
    ·subst he;simpa using hc
    exact hj i h1 h2 (by omega)
   have hr:Sb.right l=false:=R3 (i:=j+1) (by omega) hlt (by simpa using hc)
   rw[hr]
   refine ZQ [(12,.v (.int .i64 (j:Int))),(13,.q [.v (.int .i64 l[j].1),.sl 2 (eTys l[j].2.binds) none,.v (.int .i64 l[j].2.kind),.v (.int .i64 l[j].2.index),.sl 4 (eTms l[j].2.args) none]),(18,.q [.v (.int .i64 l[j+1].1),.sl 2 (eTys l[j+1].2.binds) none,.v (.int .i64 l[j+1].2.kind),.v (.int .i64 l[j+1].2.index),.sl 4 (eTms l[j+1].2.args) none]),(21,.v (.bool true))] Vj hnt λ K hK=>?_
   refine And.intro (Zr (by rw[IntWalk.i64_in _ (by omega)];omega)) ?_;refine And.intro (⟨by omega,by rw[Zf];omega⟩) ?_;refine And.intro (Zm.of_eq (by rw[Int.toNat_natCast,ZP l j (by omega),ZG])) ?_;refine And.intro (⟨by omega,by rw[Zf];omega⟩) ?_;refine And.intro (Zm.of_eq (by rw[show ((j:Int)+1).toNat=j+1 by omega,ZP l (j+1) hlt,ZG])) ?_
   refine And.intro (Z7 (by omega)) ?_;refine hK _ _ (by kernel_rfl) ?_;clear hK K;refine Zy (t:=true) rfl ?_;rw[if_pos rfl];refine Zz ?_;refine Zx [] Vj hnt λ _ z9=>z9 _ _ ?_;refine Zv ?_
   exact Yd (N:=0) (.inr rfl) rfl (Zm.refl _) trivial
  have hr:Sb.right l=true:=QO λ i h1 h2=>hj i h1 h2 (by omega)
  rw[hr]
  refine Zx [(7,.v (.bool false))] Vj hnt λ K hK=>?_;refine And.intro (Ze (by rw[Zf];omega)) ?_;refine hK _ _ ?_;clear hK K;refine Zy (t:=false) rfl ?_;rw[if_neg (by simp)];refine Zg ?_;refine Zz ?_;refine Zx [] Vj hnt λ _ z9=>z9 _ _ ?_;refine Zv ?_
  exact Yd (N:=0) (.inr rfl) rfl (Zm.refl _) trivial
def TRT6_43:TI:=⟨3,true,[Value.int IntKind.i64 0,Value.slice none 0 0,Value.slice none 0 0],[(0,1,false),(1,1,false),(2,1,false)],none,56,6,none,false⟩
theorem Yb:TypOk Tryz.prog 43 TRT6_43:=by constructor <;> kernel_rfl
def TRT6:List (Nat×TI):=[(106,TG_106),(41,TG_41),(3,TG_3),(62,TG_62),(43,TRT6_43),(59,TG_59),(60,TG_60),(217,TTY_217),(143,TTY_143)]
theorem Zp:Zd Tryz.prog TRT6:=((((((((((Zd.nil _).cons Vw).cons SF).cons Xs).cons XI).cons Yb).cons Yu).cons ZW).cons Ym).cons Yx)
def Q6 (C M:List Ty)(t:Tm):Option Ty:=(YZ C M ([]++t.binds) t.kind t.index).map λ h=>.mk t.binds h.base
theorem Nt {C M X:List Ty}{b:List Ty}{k i:Int}{a:List Tm}{u:Ty}(h:∀ x,YZ C M (X++b) k i=some x->b=u.args->x.base=u.base->x.args.length=a.length->False):¬ Wz C M (.mk b k i a) X u:=λ hi=>by
 obtain⟨h1,x,h2,h3,h4⟩:=Qp.1 hi
 exact h x h2 h1 h3 (WC.1 h4).1
theorem Q4 (l r:List Ty)(h:l.length+r.length<=800000):Zh Tryz.prog 109 [.sl 2 (eTys l) none,.sl 2 (eTys r) none] (.sl 2 (eTys (l++r)) none):=by
 have hcat:=P5 [l,r] (by simp[lens];omega) (by simp)
 simp only[List.flatten_cons,List.flatten_nil,List.append_nil] at hcat
 refine Zn 0 9 [ResultVar.tmp 4] Zp Tryz.func109 rfl Tryz.ntmps109 rfl λ cx hnt hn0=>?_
 skip
 refine Zz ?_;refine Zx [] Zp hnt λ _ z9=>z9 _ _ ?_;refine Zz ?_;refine Zx [(7,.sl 1 (UY [l,r]) none)] Zp hnt λ K hK=>?_;refine And.intro (Zm.untag _ _ _) ?_;refine Zk (hcat) ?_;refine hK _ _ ?_;clear hK K;refine Zv ?_
 exact Zi rfl
set_option maxHeartbeats 2000000 in
theorem Q9 (b:Int)(C M X:List Ty)(k i:Int)(hi:i<=9223372036854775807)(hC:C.length<=1000000)(hM:M.length<=1000000)(hX:X.length<=1000000):Zh Tryz.prog 108 [.ag [.v (.int .i64 b),.sl 2 (eTys C) none,.sl 2 (eTys M) none],.sl 2 (eTys X) none,.ag [.v (.int .i64 k),.v (.int .i64 i)]] (.tu [.ag (eTy ((YZ C M X k i).getD H7)),.v (.bool (YZ C M X k i).isSome)]):=by
 by_cases k1:k=1
 ·skip
  subst k1
  by_cases hn:i<0
  ·rw[VT hn]
   simp only[Option.getD_none,Option.isSome_none]
   rw[XO]
   refine Zn 0 51 [ResultVar.cell 6 106,ResultVar.tmp 7] Zp Tryz.func108 rfl Tryz.ntmps108 rfl λ cx hnt hn0=>?_
   skip
   refine Zz ?_;refine Zx [] Zp hnt λ _ z9=>z9 _ _ ?_;refine Zz ?_;refine Zx [] Zp hnt λ _ z9=>z9 _ _ ?_;refine Zz ?_;refine Zx [] Zp hnt λ _ z9=>z9 _ _ ?_;refine Zz ?_;refine Zz ?_;refine Zx [] Zp hnt λ _ z9=>z9 _ _ ?_;refine Zt ?_;refine Zz ?_
   refine Zx [(21,.v (.bool true))] Zp hnt λ K hK=>?_;refine And.intro (Zm.refl _) ?_;refine hK _ _ ?_;clear hK K;refine Zy (t:=true) rfl ?_;rw[if_pos rfl];refine ZQ [] Zp hnt λ K hK=>?_;refine hK _ _ (by kernel_rfl) ?_;clear hK K;refine Zz ?_;refine Zz ?_;refine Zx [(39,.v (.bool true))] Zp hnt λ K hK=>?_;refine And.intro Xd ?_;refine hK _ _ ?_;clear hK K
   refine Zy (t:=true) rfl ?_;rw[if_pos rfl];refine Zz ?_;refine Zx [] Zp hnt λ _ z9=>z9 _ _ ?_;refine Zv ?_
   exact Zi rfl
  obtain⟨n,rfl⟩:=Int.eq_ofNat_of_zero_le (Int.not_lt.1 hn)
  rw[Pj]
  by_cases hl:n<C.length
  ·rw[List.getElem?_eq_getElem hl]
   simp only[Option.getD_some,Option.isSome_some]
   rw[Zc]
   refine Zn 0 51 [ResultVar.cell 6 106,ResultVar.tmp 7] Zp Tryz.func108 rfl Tryz.ntmps108 rfl λ cx hnt hn0=>?_
   skip
   refine Zz ?_;refine Zx [] Zp hnt λ _ z9=>z9 _ _ ?_;refine Zz ?_;refine Zx [] Zp hnt λ _ z9=>z9 _ _ ?_;refine Zz ?_;refine Zx [] Zp hnt λ _ z9=>z9 _ _ ?_;refine Zz ?_;refine Zz ?_;refine Zx [] Zp hnt λ _ z9=>z9 _ _ ?_;refine Zt ?_;refine Zz ?_
   refine Zx [(21,.v (.bool true))] Zp hnt λ K hK=>?_;refine And.intro (Zm.refl _) ?_;refine hK _ _ ?_;clear hK K;refine Zy (t:=true) rfl ?_;rw[if_pos rfl];refine ZQ [] Zp hnt λ K hK=>?_;refine hK _ _ (by kernel_rfl) ?_;clear hK K;refine Zz ?_;refine Zz ?_;refine Zx [(39,.v (.bool false)),(43,.v (.int .i64 (↑C.length))),(44,.v (.bool false))] Zp hnt λ K hK=>?_
   refine And.intro X5 ?_;refine And.intro (Zr (by rw[Zs])) ?_;refine And.intro X5 ?_;refine hK _ _ ?_;clear hK K;refine Zy (t:=false) rfl ?_;rw[if_neg (by simp)];refine Zw ?_;refine Zz ?_;refine Zx [(49,.q [.sl 2 (eTys C[n].args) none,.v (.int .i64 C[n].base)])] Zp hnt λ K hK=>?_;refine And.intro (XQ (Zs C)) ?_;refine And.intro (XR (ZV C n) (Zc _)) ?_
   refine hK _ _ ?_;clear hK K;refine Zv ?_
   exact Zi rfl
  rw[List.getElem?_eq_none (by omega)]
  simp only[Option.getD_none,Option.isSome_none]
  rw[XO]
  refine Zn 0 51 [ResultVar.cell 6 106,ResultVar.tmp 7] Zp Tryz.func108 rfl Tryz.ntmps108 rfl λ cx hnt hn0=>?_
  skip
  refine Zz ?_;refine Zx [] Zp hnt λ _ z9=>z9 _ _ ?_;refine Zz ?_;refine Zx [] Zp hnt λ _ z9=>z9 _ _ ?_;refine Zz ?_;refine Zx [] Zp hnt λ _ z9=>z9 _ _ ?_;refine Zz ?_;refine Zz ?_;refine Zx [] Zp hnt λ _ z9=>z9 _ _ ?_;refine Zt ?_;refine Zz ?_
  refine Zx [(21,.v (.bool true))] Zp hnt λ K hK=>?_;refine And.intro (Zm.refl _) ?_;refine hK _ _ ?_;clear hK K;refine Zy (t:=true) rfl ?_;rw[if_pos rfl];refine ZQ [] Zp hnt λ K hK=>?_;refine hK _ _ (by kernel_rfl) ?_;clear hK K;refine Zz ?_;refine Zz ?_;refine Zx [(39,.v (.bool false)),(43,.v (.int .i64 (↑C.length))),(44,.v (.bool true))] Zp hnt λ K hK=>?_
  refine And.intro X5 ?_;refine And.intro (Zr (by rw[Zs])) ?_;refine And.intro Xd ?_;refine hK _ _ ?_;clear hK K;refine Zy (t:=true) rfl ?_;rw[if_pos rfl];refine Zz ?_;refine Zx [] Zp hnt λ _ z9=>z9 _ _ ?_;refine Zv ?_
  exact Zi rfl
 by_cases k2:k=2
 ·skip
  subst k2
  by_cases hn:i<0
  ·rw[VT hn]
   simp only[Option.getD_none,Option.isSome_none]
   rw[XO]
   refine Zn 0 51 [ResultVar.cell 6 106,ResultVar.tmp 7] Zp Tryz.func108 rfl Tryz.ntmps108 rfl λ cx hnt hn0=>?_
   skip
   refine Zz ?_;refine Zx [] Zp hnt λ _ z9=>z9 _ _ ?_;refine Zz ?_;refine Zx [] Zp hnt λ _ z9=>z9 _ _ ?_;refine Zz ?_;refine Zx [] Zp hnt λ _ z9=>z9 _ _ ?_;refine Zz ?_;refine Zz ?_;refine Zx [] Zp hnt λ _ z9=>z9 _ _ ?_;refine Zt ?_;refine Zz ?_
   refine Zx [(21,.v (.bool false))] Zp hnt λ K hK=>?_;refine And.intro (Zm.refl _) ?_;refine hK _ _ ?_;clear hK K;refine Zy (t:=false) rfl ?_;rw[if_neg (by simp)];refine Zz ?_;refine Zx [(27,.v (.bool true))] Zp hnt λ K hK=>?_;refine And.intro (Zm.refl _) ?_;refine hK _ _ ?_;clear hK K;refine Zy (t:=true) rfl ?_;rw[if_pos rfl];refine ZQ [] Zp hnt λ K hK=>?_
   refine hK _ _ (by kernel_rfl) ?_;clear hK K;refine Zz ?_;refine Zz ?_;refine Zx [(39,.v (.bool true))] Zp hnt λ K hK=>?_;refine And.intro Xd ?_;refine hK _ _ ?_;clear hK K;refine Zy (t:=true) rfl ?_;rw[if_pos rfl];refine Zz ?_;refine Zx [] Zp hnt λ _ z9=>z9 _ _ ?_;refine Zv ?_
   exact Zi rfl
  obtain⟨n,rfl⟩:=Int.eq_ofNat_of_zero_le (Int.not_lt.1 hn)
  rw[Pk]
  by_cases hl:n<M.length
  ·rw[List.getElem?_eq_getElem hl]
   simp only[Option.getD_some,Option.isSome_some]
   rw[Zc]
   refine Zn 0 51 [ResultVar.cell 6 106,ResultVar.tmp 7] Zp Tryz.func108 rfl Tryz.ntmps108 rfl λ cx hnt hn0=>?_
   skip
   refine Zz ?_;refine Zx [] Zp hnt λ _ z9=>z9 _ _ ?_;refine Zz ?_;refine Zx [] Zp hnt λ _ z9=>z9 _ _ ?_;refine Zz ?_;refine Zx [] Zp hnt λ _ z9=>z9 _ _ ?_;refine Zz ?_;refine Zz ?_;refine Zx [] Zp hnt λ _ z9=>z9 _ _ ?_;refine Zt ?_;refine Zz ?_
   refine Zx [(21,.v (.bool false))] Zp hnt λ K hK=>?_;refine And.intro (Zm.refl _) ?_;refine hK _ _ ?_;clear hK K;refine Zy (t:=false) rfl ?_;rw[if_neg (by simp)];refine Zz ?_;refine Zx [(27,.v (.bool true))] Zp hnt λ K hK=>?_;refine And.intro (Zm.refl _) ?_;refine hK _ _ ?_;clear hK K;refine Zy (t:=true) rfl ?_;rw[if_pos rfl];refine ZQ [] Zp hnt λ K hK=>?_
   refine hK _ _ (by kernel_rfl) ?_;clear hK K;refine Zz ?_;refine Zz ?_;refine Zx [(39,.v (.bool false)),(43,.v (.int .i64 (↑M.length))),(44,.v (.bool false))] Zp hnt λ K hK=>?_;refine And.intro X5 ?_;refine And.intro (Zr (by rw[Zs])) ?_;refine And.intro X5 ?_;refine hK _ _ ?_;clear hK K;refine Zy (t:=false) rfl ?_;rw[if_neg (by simp)];refine Zw ?_
   refine Zz ?_;refine Zx [(49,.q [.sl 2 (eTys M[n].args) none,.v (.int .i64 M[n].base)])] Zp hnt λ K hK=>?_;refine And.intro (XQ (Zs M)) ?_;refine And.intro (XR (ZV M n) (Zc _)) ?_;refine hK _ _ ?_;clear hK K;refine Zv ?_
   exact Zi rfl
  rw[List.getElem?_eq_none (by omega)]
  simp only[Option.getD_none,Option.isSome_none]
  rw[XO]
  refine Zn 0 51 [ResultVar.cell 6 106,ResultVar.tmp 7] Zp Tryz.func108 rfl Tryz.ntmps108 rfl λ cx hnt hn0=>?_
  skip
  refine Zz ?_;refine Zx [] Zp hnt λ _ z9=>z9 _ _ ?_;refine Zz ?_;refine Zx [] Zp hnt λ _ z9=>z9 _ _ ?_;refine Zz ?_;refine Zx [] Zp hnt λ _ z9=>z9 _ _ ?_;refine Zz ?_;refine Zz ?_;refine Zx [] Zp hnt λ _ z9=>z9 _ _ ?_;refine Zt ?_;refine Zz ?_
  refine Zx [(21,.v (.bool false))] Zp hnt λ K hK=>?_;refine And.intro (Zm.refl _) ?_;refine hK _ _ ?_;clear hK K;refine Zy (t:=false) rfl ?_;rw[if_neg (by simp)];refine Zz ?_;refine Zx [(27,.v (.bool true))] Zp hnt λ K hK=>?_;refine And.intro (Zm.refl _) ?_;refine hK _ _ ?_;clear hK K;refine Zy (t:=true) rfl ?_;rw[if_pos rfl];refine ZQ [] Zp hnt λ K hK=>?_
  refine hK _ _ (by kernel_rfl) ?_;clear hK K;refine Zz ?_;refine Zz ?_;refine Zx [(39,.v (.bool false)),(43,.v (.int .i64 (↑M.length))),(44,.v (.bool true))] Zp hnt λ K hK=>?_;refine And.intro X5 ?_;refine And.intro (Zr (by rw[Zs])) ?_;refine And.intro Xd ?_;refine hK _ _ ?_;clear hK K;refine Zy (t:=true) rfl ?_;rw[if_pos rfl];refine Zz ?_;refine Zx [] Zp hnt λ K hK=>?_
  refine hK _ _ ?_;clear hK K;refine Zv ?_
  exact Zi rfl
 by_cases k0:k=0
 ·subst k0
  by_cases hn:i<0
  ·rw[VT hn]
   simp only[Option.getD_none,Option.isSome_none]
   rw[XO]
   refine Zn 0 51 [ResultVar.cell 6 106,ResultVar.tmp 7] Zp Tryz.func108 rfl Tryz.ntmps108 rfl λ cx hnt hn0=>?_
   skip
   refine Zz ?_;refine Zx [] Zp hnt λ _ z9=>z9 _ _ ?_;refine Zz ?_;refine Zx [] Zp hnt λ _ z9=>z9 _ _ ?_;refine Zz ?_;refine Zx [] Zp hnt λ _ z9=>z9 _ _ ?_;refine Zz ?_;refine Zz ?_;refine Zx [] Zp hnt λ _ z9=>z9 _ _ ?_;refine Zt ?_;refine Zz ?_
   refine Zx [(21,.v (.bool false))] Zp hnt λ K hK=>?_;refine And.intro (Zm.refl _) ?_;refine hK _ _ ?_;clear hK K;refine Zy (t:=false) rfl ?_;rw[if_neg (by simp)];refine Zz ?_;refine Zx [(27,.v (.bool false))] Zp hnt λ K hK=>?_;refine And.intro (Zm.refl _) ?_;refine hK _ _ ?_;clear hK K;refine Zy (t:=false) rfl ?_;rw[if_neg (by simp)];refine Zz ?_
   refine Zx [(33,.v (.bool true))] Zp hnt λ K hK=>?_;refine And.intro (Zm.refl _) ?_;refine hK _ _ ?_;clear hK K;refine Zy (t:=true) rfl ?_;rw[if_pos rfl];refine Zz ?_;refine Zx [(36,.v (.bool true))] Zp hnt λ K hK=>?_;refine And.intro Xd ?_;refine hK _ _ ?_;clear hK K;refine Zy (t:=true) rfl ?_;rw[if_pos rfl];refine Zz ?_;refine Zx [] Zp hnt λ K hK=>?_
   refine hK _ _ ?_;clear hK K;refine Zv ?_
   exact Zi rfl
  obtain⟨n,rfl⟩:=Int.eq_ofNat_of_zero_le (Int.not_lt.1 hn)
  rw[Pi]
  by_cases hl:n<X.length
  ·have hx:X.length-1-n<X.length:=by omega
   rw[List.getElem?_reverse (by omega),List.getElem?_eq_getElem hx]
   simp only[Option.getD_some,Option.isSome_some]
   rw[Zc]
   have hg:(eTys X).getD ((X.length:Int)-1-(n:Int)).toNat []=[.sl 2 (eTys (X[X.length-1-n]).args) none,.v (.int .i64 (X[X.length-1-n]).base)]:=by rw[show ((X.length:Int)-1-(n:Int)).toNat=X.length-1-n by omega,ZV X _ hx,Zc]
   refine Zn 0 51 [ResultVar.cell 6 106,ResultVar.tmp 7] Zp Tryz.func108 rfl Tryz.ntmps108 rfl λ cx hnt hn0=>?_
   skip
   refine Zz ?_;refine Zx [] Zp hnt λ _ z9=>z9 _ _ ?_;refine Zz ?_;refine Zx [] Zp hnt λ _ z9=>z9 _ _ ?_;refine Zz ?_;refine Zx [(12,.v (.int .i64 (↑X.length))),(13,.v (.int .i64 ((↑X.length-1)))),(16,.v (.int .i64 ((↑X.length-1 - ↑n))))] Zp hnt λ K hK=>?_;refine And.intro (Zr (by rw[Zs])) ?_
   refine And.intro Ww ?_;refine And.intro Ww ?_;refine hK _ _ ?_;clear hK K;refine Zz ?_;refine Zz ?_;refine Zx [] Zp hnt λ _ z9=>z9 _ _ ?_;refine Zt ?_;refine Zz ?_;refine Zx [(21,.v (.bool false))] Zp hnt λ K hK=>?_;refine And.intro (Zm.refl _) ?_;refine hK _ _ ?_;clear hK K;refine Zy (t:=false) rfl ?_;rw[if_neg (by simp)]
   refine Zz ?_;refine Zx [(27,.v (.bool false))] Zp hnt λ K hK=>?_;refine And.intro (Zm.refl _) ?_;refine hK _ _ ?_;clear hK K;refine Zy (t:=false) rfl ?_;rw[if_neg (by simp)];refine Zz ?_;refine Zx [(33,.v (.bool true))] Zp hnt λ K hK=>?_;refine And.intro (Zm.refl _) ?_;refine hK _ _ ?_;clear hK K;refine Zy (t:=true) rfl ?_;rw[if_pos rfl]
   refine Zz ?_;refine Zx [(36,.v (.bool false))] Zp hnt λ K hK=>?_;refine And.intro X5 ?_;refine hK _ _ ?_;clear hK K;refine Zy (t:=false) rfl ?_;rw[if_neg (by simp)];refine Zw ?_;refine Zz ?_;refine Zz ?_;refine Zx [(39,.v (.bool false)),(43,.v (.int .i64 (↑X.length))),(44,.v (.bool false))] Zp hnt λ K hK=>?_;refine And.intro X5 ?_;refine And.intro (Zr (by rw[Zs])) ?_
   refine And.intro X5 ?_;refine hK _ _ ?_;clear hK K;refine Zy (t:=false) rfl ?_;rw[if_neg (by simp)];refine Zw ?_;refine Zz ?_;refine Zx [(49,.q [.sl 2 (eTys (X[X.length-1-n]).args) none,.v (.int .i64 (X[X.length-1-n]).base)])] Zp hnt λ K hK=>?_;refine And.intro (⟨by omega,by rw[Zs];omega⟩) ?_;refine And.intro (Zm.of_eq (by rw[hg])) ?_;refine hK _ _ ?_;clear hK K
   refine Zv ?_
   exact Zi rfl
  rw[List.getElem?_eq_none (by simp;omega)]
  simp only[Option.getD_none,Option.isSome_none]
  rw[XO]
  refine Zn 0 51 [ResultVar.cell 6 106,ResultVar.tmp 7] Zp Tryz.func108 rfl Tryz.ntmps108 rfl λ cx hnt hn0=>?_
  skip
  refine Zz ?_;refine Zx [] Zp hnt λ _ z9=>z9 _ _ ?_;refine Zz ?_;refine Zx [] Zp hnt λ _ z9=>z9 _ _ ?_;refine Zz ?_;refine Zx [(12,.v (.int .i64 (↑X.length))),(13,.v (.int .i64 ((↑X.length-1)))),(16,.v (.int .i64 ((↑X.length-1 - ↑n))))] Zp hnt λ K hK=>?_;refine And.intro (Zr (by rw[Zs])) ?_
  refine And.intro Ww ?_;refine And.intro Ww ?_;refine hK _ _ ?_;clear hK K;refine Zz ?_;refine Zz ?_;refine Zx [] Zp hnt λ _ z9=>z9 _ _ ?_;refine Zt ?_;refine Zz ?_;refine Zx [(21,.v (.bool false))] Zp hnt λ K hK=>?_;refine And.intro (Zm.refl _) ?_;refine hK _ _ ?_;clear hK K;refine Zy (t:=false) rfl ?_;rw[if_neg (by simp)]
  refine Zz ?_;refine Zx [(27,.v (.bool false))] Zp hnt λ K hK=>?_;refine And.intro (Zm.refl _) ?_;refine hK _ _ ?_;clear hK K;refine Zy (t:=false) rfl ?_;rw[if_neg (by simp)];refine Zz ?_;refine Zx [(33,.v (.bool true))] Zp hnt λ K hK=>?_;refine And.intro (Zm.refl _) ?_;refine hK _ _ ?_;clear hK K;refine Zy (t:=true) rfl ?_;rw[if_pos rfl]
  refine Zz ?_;refine Zx [(36,.v (.bool false))] Zp hnt λ K hK=>?_;refine And.intro X5 ?_;refine hK _ _ ?_;clear hK K;refine Zy (t:=false) rfl ?_;rw[if_neg (by simp)];refine Zw ?_;refine Zz ?_;refine Zz ?_;refine Zx [(39,.v (.bool true))] Zp hnt λ K hK=>?_;refine And.intro Xd ?_;refine hK _ _ ?_;clear hK K;refine Zy (t:=true) rfl ?_
  rw[if_pos rfl];refine Zz ?_;refine Zx [] Zp hnt λ _ z9=>z9 _ _ ?_;refine Zv ?_
  exact Zi rfl
 rw[Pl k0 k1 k2]
 simp only[Option.getD_none,Option.isSome_none]
 rw[XO]
 refine Zn 0 51 [ResultVar.cell 6 106,ResultVar.tmp 7] Zp Tryz.func108 rfl Tryz.ntmps108 rfl λ cx hnt hn0=>?_
 skip
 refine Zz ?_;refine Zx [] Zp hnt λ _ z9=>z9 _ _ ?_;refine Zz ?_;refine Zx [] Zp hnt λ _ z9=>z9 _ _ ?_;refine Zz ?_;refine Zx [] Zp hnt λ _ z9=>z9 _ _ ?_;refine Zz ?_;refine Zz ?_;refine Zx [] Zp hnt λ _ z9=>z9 _ _ ?_;refine Zt ?_;refine Zz ?_
 refine Zx [(21,.v (.bool false))] Zp hnt λ K hK=>?_;refine And.intro (XM k1) ?_;refine hK _ _ ?_;clear hK K;refine Zy (t:=false) rfl ?_;rw[if_neg (by simp)];refine Zz ?_;refine Zx [(27,.v (.bool false))] Zp hnt λ K hK=>?_;refine And.intro (XM k2) ?_;refine hK _ _ ?_;clear hK K;refine Zy (t:=false) rfl ?_;rw[if_neg (by simp)];refine Zz ?_
 refine Zx [(33,.v (.bool false))] Zp hnt λ K hK=>?_;refine And.intro (XM k0) ?_;refine hK _ _ ?_;clear hK K;refine Zy (t:=false) rfl ?_;rw[if_neg (by simp)];refine Zz ?_;refine Zx [] Zp hnt λ _ z9=>z9 _ _ ?_;refine Zv ?_
 exact Zi rfl
theorem OP (b:Int)(C M:List Ty)(t:Tm)(hi:t.index<=9223372036854775807)(hC:C.length<=1000000)(hM:M.length<=1000000)(hz:t.full<=780000):
  Zh Tryz.prog 81 [.ag [.v (.int .i64 b),.sl 2 (eTys C) none,.sl 2 (eTys M) none],.v (.slice none 0 0),.ag (eTm t)] (.tu [.ag (eTy ((Q6 C M t).getD H7)),.v (.int .i64 (if (Q6 C M t).isSome then 0 else 10))]):=by
 have hbl:=Ty.le_sizes t.binds
 have hfl:=XD t
 have hbe:Zh Tryz.prog 109 [.v (.slice none 0 0),.sl 2 (eTys t.binds) none] (.sl 2 (eTys ([]++t.binds)) none):=ZB.vle (Q4 [] t.binds (by simp;omega)) (.cons (Zm.nil _) (.cons (Zm.refl _) .nil)) (Zm.refl _)
 have hh:=Q9 b C M ([]++t.binds) t.kind t.index hi hC hM (by simp;omega)
 unfold Q6
 obtain⟨o,ho⟩:∃ o,YZ C M ([]++t.binds) t.kind t.index=o:=⟨_,rfl⟩
 obtain⟨X,hX⟩:∃ X,[]++t.binds=X:=⟨_,rfl⟩
 rw[hX] at hh hbe ho ⊢
 rw[ho] at hh ⊢
 rw[Zu]
 cases o with
 | none=>
  simp only[Option.map_none,Option.getD_none,Option.isSome_none,Bool.false_eq_true,if_false] at hh ⊢
  rw[XO] at hh ⊢
  refine Zn 0 29 [ResultVar.cell 6 106,ResultVar.tmp 7] Zp Tryz.func81 rfl Tryz.ntmps81 rfl λ cx hnt hn0=>?_
  skip
  refine Zz ?_;refine Zx [] Zp hnt λ _ z9=>z9 _ _ ?_;refine Zz ?_;refine ZQ [] Zp hnt λ K hK=>?_;refine Zk (hbe) ?_;refine Zk (hh) ?_;refine hK _ _ (by kernel_rfl) ?_;clear hK K;refine Zz ?_;refine Zz ?_;refine Zx [] Zp hnt λ _ z9=>z9 _ _ ?_;refine Zy (t:=true) rfl ?_;rw[if_pos rfl];refine Zz ?_
  refine Zx [] Zp hnt λ _ z9=>z9 _ _ ?_;refine Zv ?_
  exact Zi rfl
 | some h=>
  simp only[Option.map_some,Option.getD_some,Option.isSome_some,if_true] at hh ⊢
  have hk:=LR h.base t.binds (by omega)
  rw[Zc] at hh hk ⊢
  simp only[XL,Wv] at hk ⊢
  refine Zn 0 29 [ResultVar.cell 6 106,ResultVar.tmp 7] Zp Tryz.func81 rfl Tryz.ntmps81 rfl λ cx hnt hn0=>?_
  skip
  refine Zz ?_;refine Zx [] Zp hnt λ _ z9=>z9 _ _ ?_;refine Zz ?_;refine ZQ [] Zp hnt λ K hK=>?_;refine Zk (hbe) ?_;refine Zk (hh) ?_;refine hK _ _ (by kernel_rfl) ?_;clear hK K;refine Zz ?_;refine Zz ?_;refine Zx [] Zp hnt λ _ z9=>z9 _ _ ?_;refine Zy (t:=false) rfl ?_;rw[if_neg (by simp)]
  refine Zw ?_;refine Zz ?_;refine Zx [] Zp hnt λ K hK=>?_;refine Zk (hk) ?_;refine hK _ _ ?_;clear hK K;refine Zv ?_
  exact Zi rfl
set_option maxHeartbeats 4000000 in
theorem JA (b:Int)(C M:List Ty)(hC:C.length<=1000000)(hM:M.length<=1000000):∀ (t:Tm) (X:List Ty) (u:Ty) (c:Bool),(c=true↔Wz C M t X u)->X.length+t.full<=780000->t.Fit ->
  Zh Tryz.prog 110 [.ag [.v (.int .i64 b),.sl 2 (eTys C) none,.sl 2 (eTys M) none],.sl 2 (eTys X) none,.ag (eTm t),.ag (eTy u)] (.v (.bool c)):=by
 intro t
 induction t using Tm.ind with
 | h bs k i a ih=>
 intro X u c hc hz hf
 obtain⟨_,f2,f3⟩:=Tm.fit_iff.1 hf
 rw[Tm.full_eq] at hz
 have hal:=UP a
 have hbl:=Ty.le_sizes bs
 have hbe:=Q4 X bs (by omega)
 have hh:=Q9 b C M (X++bs) k i f2 hC hM (by simp;omega)
 obtain⟨o,ho⟩:∃ o,YZ C M (X++bs) k i=o:=⟨_,rfl⟩
 obtain⟨Y,hY⟩:∃ Y,X++bs=Y:=⟨_,rfl⟩
 have hYl:Y.length=X.length+bs.length:=by rw[<-hY];simp
 have hty:=Qh bs u.args 67 rfl
 have no:∀ (h:∀ x,YZ C M (X++bs) k i=some x->bs=u.args->x.base=u.base->x.args.length=a.length->False),c=false:=λ h=>by
  rw[Bool.eq_false_iff];exact λ hc1=>Nt h (hc.1 hc1)
 rw[ho] at hh no
 rw[Zu,Zc]
 simp only[UO,S4,UT,Ui]
 rw[hY] at hbe hh
 by_cases hb:bs=u.args
 ·rw[decide_eq_true hb] at hty
  cases o with
  | none=>
   simp only[Option.getD_none,Option.isSome_none] at hh
   rw[XO] at hh
   rw[no (λ x h=>by cases h)]
   refine Zn 0 69 [ResultVar.tmp 8] Zp Tryz.func110 rfl Tryz.ntmps110 rfl λ cx hnt hn0=>?_
   skip
   refine Zz ?_;refine Zx [] Zp hnt λ _ z9=>z9 _ _ ?_;refine Zz ?_;refine Zz ?_;refine Zx [] Zp hnt λ K hK=>?_;refine Zk (hty) ?_;refine hK _ _ ?_;clear hK K;refine Zy (t:=false) rfl ?_;rw[if_neg (by simp)];refine Zw ?_;refine Zz ?_;refine Zx [] Zp hnt λ K hK=>?_;refine Zk (hbe) ?_;refine hK _ _ ?_;clear hK K
   refine Zz ?_;refine Zx [] Zp hnt λ K hK=>?_;refine Zk (hh) ?_;refine hK _ _ ?_;clear hK K;refine Zz ?_;refine Zz ?_;refine Zx [] Zp hnt λ _ z9=>z9 _ _ ?_;refine Zy (t:=true) rfl ?_;rw[if_pos rfl];refine Zz ?_;refine Zx [] Zp hnt λ _ z9=>z9 _ _ ?_;refine Zv ?_
   exact Zi rfl
  | some h=>
  simp only[Option.getD_some,Option.isSome_some] at hh
  rw[Zc] at hh
  by_cases hbs:h.base=u.base
  ·by_cases hln:h.args.length=a.length
   ·have hIff:c=true↔∀ j (h1:j<a.length) (h2:j<h.args.length),Wz C M a[j] Y h.args[j]:=by
     rw[hc,Qp,hY]
     constructor
     ·rintro⟨_,x,h2,_,h4⟩ j j1 j2
      rw[<-hY,ho] at h2;cases h2
      exact(WC.1 h4).2 j j1 j2
     intro hall
     exact⟨hb,h,by rw[<-hY,ho],hbs,WC.2 ⟨hln,hall⟩⟩
    have hI:∀ j (h1:j<a.length) (h2:j<h.args.length) (d:Bool),(d=true↔Wz C M a[j] Y h.args[j])->Zh Tryz.prog 110 [.ag [.v (.int .i64 b),.sl 2 (eTys C) none,.sl 2 (eTys M) none],.sl 2 (eTys Y) none,.ag (eTm a[j]),.ag (eTy h.args[j])] (.v (.bool d)):=λ j h1 h2 d hd=>ih _ (List.getElem_mem h1) Y _ d hd (by have:=Tm.full_mem (List.getElem_mem h1);omega) (f3 _ (List.getElem_mem h1))
    clear ih no hc
    refine Zn 0 69 [ResultVar.tmp 8] Zp Tryz.func110 rfl Tryz.ntmps110 rfl λ cx hnt hn0=>?_
    skip
    refine Zz ?_;refine Zx [] Zp hnt λ _ z9=>z9 _ _ ?_;refine Zz ?_;refine Zz ?_;refine Zx [] Zp hnt λ K hK=>?_;refine Zk (hty) ?_;refine hK _ _ ?_;clear hK K;refine Zy (t:=false) rfl ?_;rw[if_neg (by simp)];refine Zw ?_;refine Zz ?_;refine Zx [] Zp hnt λ K hK=>?_;refine Zk (hbe) ?_;refine hK _ _ ?_;clear hK K
    refine Zz ?_;refine Zx [] Zp hnt λ K hK=>?_;refine Zk (hh) ?_;refine hK _ _ ?_;clear hK K;refine Zz ?_;refine Zz ?_;refine Zx [(39,.v (.bool false)),(44,.v (.int .i64 (↑h.args.length))),(47,.v (.int .i64 (↑a.length))),(48,.v (.bool false))] Zp hnt λ K hK=>?_;refine And.intro (Yq hbs) ?_;refine And.intro (Zr (by rw[Zs])) ?_;refine And.intro (Zr (by rw[Zq])) ?_
    refine And.intro (Yq (by omega)) ?_;refine hK _ _ ?_;clear hK K;refine Zy (t:=false) rfl ?_;rw[if_neg (by simp)];refine Zw ?_;refine Zz ?_;refine Zz ?_;refine Zx [(52,.v (.int .i64 (↑a.length)))] Zp hnt λ K hK=>?_;refine And.intro (Zr (by rw[Zq])) ?_;refine hK _ _ ?_;clear hK K;refine Zt ?_
    refine Z6 (ι:={ j:Nat // ∀ i (h1:i<a.length) (h2:i<h.args.length),i<j->Wz C M a[i] Y h.args[i] }) (λ j=>[(.t 4,.p 0 0),(.t 6,.p 1 0),(.t 7,.p 2 0),(.t 9,.sl 2 (eTys Y) none),(.t 10,.p 23 0),(.t 51,.sl 4 (eTms a) none),(.t 52,.v (.int .i64 ↑a.length)),(.t 53,.v (.int .i64 ↑j.1)),(.c 0 0,.v (.int .i64 b)),(.c 0 1,.sl 2 (eTys C) none),(.c 0 2,.sl 2 (eTys M) none),(.c 23 0,.sl 2 (eTys h.args) none),(.c 23 1,.v (.int .i64 h.base))]) 24 (λ j=>a.length-j.1) (⟨0,λ i h1 h2 h3=>by omega⟩) (VS.toA) λ j=>?_
    obtain⟨j,hj⟩:=j
    dsimp only
    by_cases hlt:j<a.length
    ·have hlt2:j<h.args.length:=by omega
     by_cases hio:Wz C M a[j] Y h.args[j]
     ·have hi:=hI j hlt hlt2 true (by simp[hio])
      rw[Zu,Zc] at hi
      refine Zz ?_;refine Zx [(54,.v (.bool true))] Zp hnt λ K hK=>?_;refine And.intro Xd ?_;refine hK _ _ ?_;clear hK K;refine Zz ?_;refine Zy (t:=true) rfl ?_;rw[if_pos rfl];refine Zw ?_;refine Zz ?_;refine Zt ?_;refine Zz ?_;refine Zx [(56,.q [.sl 2 (eTys a[j].binds) none,.v (.int .i64 a[j].kind),.v (.int .i64 a[j].index),.sl 4 (eTms a[j].args) none])] Zp hnt λ K hK=>?_
      refine And.intro (XQ (Zq a)) ?_;refine And.intro (XR (ZT a j) (Zu _)) ?_;refine hK _ _ ?_;clear hK K;refine Zz ?_;refine ZQ [(64,.q [.sl 2 (eTys h.args[j].args) none,.v (.int .i64 h.args[j].base)])] Zp hnt λ K hK=>?_;refine And.intro (XQ (Zs h.args)) ?_;refine And.intro (XR (ZV h.args j) (Zc _)) ?_;refine Zk (hi) ?_;refine hK _ _ (by kernel_rfl) ?_;clear hK K
      refine Zy (t:=false) rfl ?_;rw[if_neg (by simp)];refine Zw ?_;refine Zx [(68,.v (.int .i64 (↑(j+1))))] Zp hnt λ K hK=>?_;refine And.intro Ww ?_;refine hK _ _ ?_;clear hK K
      refine⟨⟨j+1,λ q h1 h2 h3=>if e:q=j then by subst e;exact hio else hj q h1 h2 (by omega)⟩,by first | omega | (dsimp only;omega),VS.toA⟩
     have hi:=hI j hlt hlt2 false (by simp[hio])
     rw[Zu,Zc] at hi
     have hcf:c=false:=by rw[Bool.eq_false_iff];exact λ h1=>hio (hIff.1 h1 j hlt hlt2)
     rw[hcf]
     refine Zz ?_;refine Zx [(54,.v (.bool true))] Zp hnt λ K hK=>?_;refine And.intro Xd ?_;refine hK _ _ ?_;clear hK K;refine Zz ?_;refine Zy (t:=true) rfl ?_;rw[if_pos rfl];refine Zw ?_;refine Zz ?_;refine Zt ?_;refine Zz ?_;refine Zx [(56,.q [.sl 2 (eTys a[j].binds) none,.v (.int .i64 a[j].kind),.v (.int .i64 a[j].index),.sl 4 (eTms a[j].args) none])] Zp hnt λ K hK=>?_
     refine And.intro (XQ (Zq a)) ?_;refine And.intro (XR (ZT a j) (Zu _)) ?_;refine hK _ _ ?_;clear hK K;refine Zz ?_;refine ZQ [(64,.q [.sl 2 (eTys h.args[j].args) none,.v (.int .i64 h.args[j].base)])] Zp hnt λ K hK=>?_;refine And.intro (XQ (Zs h.args)) ?_;refine And.intro (XR (ZV h.args j) (Zc _)) ?_;refine Zk (hi) ?_;refine hK _ _ (by kernel_rfl) ?_;clear hK K
     refine Zy (t:=true) rfl ?_;rw[if_pos rfl];refine Zz ?_;refine Zx [] Zp hnt λ _ z9=>z9 _ _ ?_;refine Zv ?_
     exact Zi rfl
    rw[hIff.2 λ q h1 h2=>hj q h1 h2 (by omega)]
    refine Zz ?_;refine Zx [(54,.v (.bool false))] Zp hnt λ K hK=>?_;refine And.intro X5 ?_;refine hK _ _ ?_;clear hK K;refine Zz ?_;refine Zy (t:=false) rfl ?_;rw[if_neg (by simp)];refine Zg ?_;refine Zz ?_;refine Zx [] Zp hnt λ _ z9=>z9 _ _ ?_;refine Zv ?_
    exact Zi rfl
   ·rw[no (λ x h1 _ _ h4=>by cases h1;exact hln h4)]
    refine Zn 0 69 [ResultVar.tmp 8] Zp Tryz.func110 rfl Tryz.ntmps110 rfl λ cx hnt hn0=>?_
    skip
    refine Zz ?_;refine Zx [] Zp hnt λ _ z9=>z9 _ _ ?_;refine Zz ?_;refine Zz ?_;refine Zx [] Zp hnt λ K hK=>?_;refine Zk (hty) ?_;refine hK _ _ ?_;clear hK K;refine Zy (t:=false) rfl ?_;rw[if_neg (by simp)];refine Zw ?_;refine Zz ?_;refine Zx [] Zp hnt λ K hK=>?_;refine Zk (hbe) ?_;refine hK _ _ ?_;clear hK K
    refine Zz ?_;refine Zx [] Zp hnt λ K hK=>?_;refine Zk (hh) ?_;refine hK _ _ ?_;clear hK K;refine Zz ?_;refine Zz ?_;refine Zx [(39,.v (.bool false)),(44,.v (.int .i64 (↑h.args.length))),(47,.v (.int .i64 (↑a.length))),(48,.v (.bool true))] Zp hnt λ K hK=>?_;refine And.intro (Yq hbs) ?_;refine And.intro (Zr (by rw[Zs])) ?_;refine And.intro (Zr (by rw[Zq])) ?_
    refine And.intro (YO (by omega)) ?_;refine hK _ _ ?_;clear hK K;refine Zy (t:=true) rfl ?_;rw[if_pos rfl];refine Zz ?_;refine Zx [] Zp hnt λ _ z9=>z9 _ _ ?_;refine Zv ?_
    exact Zi rfl
  rw[no (λ x h1 _ h3 _=>by cases h1;exact hbs h3)]
  refine Zn 0 69 [ResultVar.tmp 8] Zp Tryz.func110 rfl Tryz.ntmps110 rfl λ cx hnt hn0=>?_
  skip
  refine Zz ?_;refine Zx [] Zp hnt λ _ z9=>z9 _ _ ?_;refine Zz ?_;refine Zz ?_;refine Zx [] Zp hnt λ K hK=>?_;refine Zk (hty) ?_;refine hK _ _ ?_;clear hK K;refine Zy (t:=false) rfl ?_;rw[if_neg (by simp)];refine Zw ?_;refine Zz ?_;refine Zx [] Zp hnt λ K hK=>?_;refine Zk (hbe) ?_;refine hK _ _ ?_;clear hK K
  refine Zz ?_;refine Zx [] Zp hnt λ K hK=>?_;refine Zk (hh) ?_;refine hK _ _ ?_;clear hK K;refine Zz ?_;refine Zz ?_;refine Zx [(39,.v (.bool true))] Zp hnt λ K hK=>?_;refine And.intro (YO hbs) ?_;refine hK _ _ ?_;clear hK K;refine Zy (t:=true) rfl ?_;rw[if_pos rfl];refine Zz ?_;refine Zx [] Zp hnt λ _ z9=>z9 _ _ ?_
  refine Zv ?_
  exact Zi rfl
 rw[decide_eq_false hb] at hty
 rw[no (λ x _ h2 _ _=>hb h2)]
 refine Zn 0 69 [ResultVar.tmp 8] Zp Tryz.func110 rfl Tryz.ntmps110 rfl λ cx hnt hn0=>?_
 skip
 refine Zz ?_;refine Zx [] Zp hnt λ _ z9=>z9 _ _ ?_;refine Zz ?_;refine Zz ?_;refine Zx [] Zp hnt λ K hK=>?_;refine Zk (hty) ?_;refine hK _ _ ?_;clear hK K;refine Zy (t:=true) rfl ?_;rw[if_pos rfl];refine Zz ?_;refine Zx [] Zp hnt λ _ z9=>z9 _ _ ?_;refine Zv ?_
 exact Zi rfl
theorem Rj (b:Int)(C M X:List Ty)(t:Tm)(u:Ty)(c:Int)(hC:C.length<=1000000)(hM:M.length<=1000000)(hc:Yp C M t X u c)(hz:X.length+t.full<=780000)(hf:t.Fit):
  Zh Tryz.prog 83 [.ag [.v (.int .i64 b),.sl 2 (eTys C) none,.sl 2 (eTys M) none],.sl 2 (eTys X) none,.ag (eTm t),.ag (eTy u)] (.v (.int .i64 c)):=by
 have hr:=WK t (by omega)
 have hi:=λ d hd=>JA b C M hC hM t X u d hd hz hf
 rw[Zu,Zc] at hi
 rw[Zu] at hr
 rw[Zu,Zc]
 rcases hc with⟨h1,rfl⟩ | ⟨h1,h2,rfl⟩ | ⟨h1,h2,rfl⟩
 ·rw[decide_eq_false h1] at hr
  refine Zn 0 20 [ResultVar.tmp 8] Zp Tryz.func83 rfl Tryz.ntmps83 rfl λ cx hnt hn0=>?_
  skip
  refine Zz ?_;refine Zx [] Zp hnt λ _ z9=>z9 _ _ ?_;refine Zz ?_;refine Zt ?_;refine Zz ?_;refine Zx [] Zp hnt λ K hK=>?_;refine Zk (hr) ?_;refine hK _ _ ?_;clear hK K;refine Zy (t:=true) rfl ?_;rw[if_pos rfl];refine Zz ?_;refine Zx [] Zp hnt λ _ z9=>z9 _ _ ?_;refine Zv ?_
  exact Zi rfl
 ·rw[decide_eq_true h1] at hr
  have hi:=hi false (by simp[h2])
  refine Zn 0 20 [ResultVar.tmp 8] Zp Tryz.func83 rfl Tryz.ntmps83 rfl λ cx hnt hn0=>?_
  skip
  refine Zz ?_;refine Zx [] Zp hnt λ _ z9=>z9 _ _ ?_;refine Zz ?_;refine Zt ?_;refine Zz ?_;refine Zx [] Zp hnt λ K hK=>?_;refine Zk (hr) ?_;refine hK _ _ ?_;clear hK K;refine Zy (t:=false) rfl ?_;rw[if_neg (by simp)];refine Zz ?_;refine Zx [] Zp hnt λ K hK=>?_;refine Zk (hi) ?_;refine hK _ _ ?_;clear hK K
  refine Zy (t:=true) rfl ?_;rw[if_pos rfl];refine Zz ?_;refine Zx [] Zp hnt λ _ z9=>z9 _ _ ?_;refine Zv ?_
  exact Zi rfl
 rw[decide_eq_true h1] at hr
 have hi:=hi true (by simp[h2])
 refine Zn 0 20 [ResultVar.tmp 8] Zp Tryz.func83 rfl Tryz.ntmps83 rfl λ cx hnt hn0=>?_
 skip
 refine Zz ?_;refine Zx [] Zp hnt λ _ z9=>z9 _ _ ?_;refine Zz ?_;refine Zt ?_;refine Zz ?_;refine Zx [] Zp hnt λ K hK=>?_;refine Zk (hr) ?_;refine hK _ _ ?_;clear hK K;refine Zy (t:=false) rfl ?_;rw[if_neg (by simp)];refine Zz ?_;refine Zx [] Zp hnt λ K hK=>?_;refine Zk (hi) ?_;refine hK _ _ ?_;clear hK K
 refine Zy (t:=false) rfl ?_;rw[if_neg (by simp)];refine Zw ?_;refine Zz ?_;refine Zx [] Zp hnt λ _ z9=>z9 _ _ ?_;refine Zv ?_
 exact Zi rfl
theorem M8 (b:Int)(C M:List Ty)(t:Tm)(u:Ty)(c:Int)(hC:C.length<=1000000)(hM:M.length<=1000000)(hc:Yp C M t [] u c)(hz:t.full<=780000)(hfit:t.Fit):
  Zh Tryz.prog 83 [.ag [.v (.int .i64 b),.sl 2 (eTys C) none,.sl 2 (eTys M) none],.v (.slice none 0 0),.ag (eTm t),.ag (eTy u)] (.v (.int .i64 c)):=
 ZB.vle (Rj b C M [] t u c hC hM hc (by simp;omega) hfit) (.cons (Zm.refl _) (.cons (Zm.nil _) (.cons (Zm.refl _) (.cons (Zm.refl _) .nil)))) (Zm.refl _)
def TRE:List (Nat×TI):=[(104,TTY_104),(22,TTY_22),(3,TG_3),(28,TTM_28),(24,TS9_24),(31,TTM_31),(29,TTM_29)]
theorem Z2:Zd Tryz.prog TRE:=((((((((Zd.nil _).cons Y5).cons Yl).cons Xy).cons Xz).cons ZW).cons Yo).cons Yy)
theorem Q7 (b:Int)(C M:List Ty)(c:Bool)(hc:c=true↔XT b C M)(hz:∀ t∈C++M,t.size<=400000):Zh Tryz.prog 80 [.ag [.v (.int .i64 b),.sl 2 (eTys C) none,.sl 2 (eTys M) none]] (.v (.bool c)):=by
 refine W0 (by kernel_rfl) λ m Im w vs hv=>?_
 match vs,hv with
 | [x1],hv=>
  obtain⟨cv,mv,rfl,h1,h2⟩:=N4 hv.1
  refine(Qa h1 h2 hz).mono ?_
  rintro e w' ⟨c',hc',rfl,hb⟩
  have:c'=c:=by rw[Bool.eq_iff_iff,hc',hc]
  subst this
  exact⟨_,rfl,hb,λ _ _ _=>.v _⟩
theorem NX (b:Int)(C M:List Ty)(c:Bool)(hc:c=true↔XT b C M):Zh Tryz.prog 85 [.ag [.v (.int .i64 b),.sl 2 (eTys C) none,.sl 2 (eTys M) none]] (.v (.bool c)):=by
 refine W0 (by kernel_rfl) λ m Im w vs hv=>?_
 match vs,hv with
 | [x1],hv=>
  obtain⟨cv,mv,rfl,h1,h2⟩:=N4 hv.1
  refine(Qb h1 h2).mono ?_
  rintro e w' ⟨c',hc',rfl,hb⟩
  have:c'=c:=by rw[Bool.eq_iff_iff,hc',hc]
  subst this
  exact⟨_,rfl,hb,λ _ _ _=>.v _⟩
set_option maxHeartbeats 2000000 in
theorem QN (b:Int)(C M X:List Ty)(k i:Int)(hC:C.length<=1000000)(hM:M.length<=1000000)(hX:X.length<=1000000):Zh Tryz.prog 112 [.ag [.v (.int .i64 b),.sl 2 (eTys C) none,.sl 2 (eTys M) none],.sl 2 (eTys X) none,.ag [.v (.int .i64 k),.v (.int .i64 i)]] (.tu [.ag (eTy ((YZ C M X k i).getD H7)),.v (.bool (YZ C M X k i).isSome)]):=by
 by_cases hi:i<0
 ·rw[VT hi]
  simp only[Option.getD_none,Option.isSome_none]
  rw[XO]
  refine Zn 0 70 [ResultVar.cell 6 104,ResultVar.tmp 7] Z2 Tryz.func112 rfl Tryz.ntmps112 rfl λ cx hnt hn0=>?_
  skip
  refine Zz ?_;refine Zx [] Z2 hnt λ _ z9=>z9 _ _ ?_;refine Zz ?_;refine Zt ?_;refine Zz ?_;refine Zx [(11,.v (.bool true))] Z2 hnt λ K hK=>?_;refine And.intro Xd ?_;refine hK _ _ ?_;clear hK K;refine Zy (t:=true) rfl ?_;rw[if_pos rfl];refine Zz ?_;refine Zx [] Z2 hnt λ _ z9=>z9 _ _ ?_
  refine Zv ?_
  exact Zi rfl
 obtain⟨n,rfl⟩:=Int.eq_ofNat_of_zero_le (Int.not_lt.1 hi)
 by_cases k0:k=0
 ·subst k0
  rw[Pi]
  by_cases hl:n<X.length
  ·have hx:X.length-1-n<X.length:=by omega
   rw[List.getElem?_reverse (by omega),List.getElem?_eq_getElem hx]
   simp only[Option.getD_some,Option.isSome_some]
   rw[Zc]
   have hg:(eTys X).getD ((X.length:Int)-1-(n:Int)).toNat []=[.sl 2 (eTys (X[X.length-1-n]).args) none,.v (.int .i64 (X[X.length-1-n]).base)]:=by rw[show ((X.length:Int)-1-(n:Int)).toNat=X.length-1-n by omega,ZV X _ hx,Zc]
   refine Zn 0 70 [ResultVar.cell 6 104,ResultVar.tmp 7] Z2 Tryz.func112 rfl Tryz.ntmps112 rfl λ cx hnt hn0=>?_
   skip
   refine Zz ?_;refine Zx [] Z2 hnt λ _ z9=>z9 _ _ ?_;refine Zz ?_;refine Zt ?_;refine Zz ?_;refine Zx [(11,.v (.bool false))] Z2 hnt λ K hK=>?_;refine And.intro X5 ?_;refine hK _ _ ?_;clear hK K;refine Zy (t:=false) rfl ?_;rw[if_neg (by simp)];refine Zz ?_;refine Zx [(16,.v (.bool true)),(21,.v (.int .i64 (↑X.length))),(22,.v (.bool true))] Z2 hnt λ K hK=>?_
   refine And.intro (Zm.refl _) ?_;refine And.intro (Zr (by rw[Zs])) ?_;refine And.intro Xd ?_;refine hK _ _ ?_;clear hK K;refine Zy (t:=true) rfl ?_;rw[if_pos rfl];refine Zz ?_;refine Zx [(26,.v (.int .i64 (↑X.length))),(27,.v (.int .i64 ((↑X.length-1)))),(30,.v (.int .i64 ((↑X.length-1 - ↑n)))),(31,.q [.sl 2 (eTys (X[X.length-1-n]).args) none,.v (.int .i64 (X[X.length-1-n]).base)])] Z2 hnt λ K hK=>?_
   refine And.intro (Zr (by rw[Zs])) ?_;refine And.intro Ww ?_;refine And.intro Ww ?_;refine And.intro (⟨by omega,by rw[Zs];omega⟩) ?_;refine And.intro (Zm.of_eq (by rw[hg])) ?_;refine hK _ _ ?_;clear hK K;refine Zv ?_
   exact Zi rfl
  rw[List.getElem?_eq_none (by simp;omega)]
  simp only[Option.getD_none,Option.isSome_none]
  rw[XO]
  refine Zn 0 70 [ResultVar.cell 6 104,ResultVar.tmp 7] Z2 Tryz.func112 rfl Tryz.ntmps112 rfl λ cx hnt hn0=>?_
  skip
  refine Zz ?_;refine Zx [] Z2 hnt λ _ z9=>z9 _ _ ?_;refine Zz ?_;refine Zt ?_;refine Zz ?_;refine Zx [(11,.v (.bool false))] Z2 hnt λ K hK=>?_;refine And.intro X5 ?_;refine hK _ _ ?_;clear hK K;refine Zy (t:=false) rfl ?_;rw[if_neg (by simp)];refine Zz ?_;refine Zx [(16,.v (.bool true)),(21,.v (.int .i64 (↑X.length))),(22,.v (.bool false))] Z2 hnt λ K hK=>?_
  refine And.intro (Zm.refl _) ?_;refine And.intro (Zr (by rw[Zs])) ?_;refine And.intro X5 ?_;refine hK _ _ ?_;clear hK K;refine Zy (t:=false) rfl ?_;rw[if_neg (by simp)];refine Zz ?_;refine Zx [(36,.v (.bool false))] Z2 hnt λ K hK=>?_;refine And.intro (Zm.refl _) ?_;refine hK _ _ ?_;clear hK K;refine Zy (t:=false) rfl ?_;rw[if_neg (by simp)];refine Zz ?_
  refine Zx [(54,.v (.bool false))] Z2 hnt λ K hK=>?_;refine And.intro (Zm.refl _) ?_;refine hK _ _ ?_;clear hK K;refine Zy (t:=false) rfl ?_;rw[if_neg (by simp)];refine Zw ?_;refine Zz ?_;refine Zx [] Z2 hnt λ _ z9=>z9 _ _ ?_;refine Zv ?_
  exact Zi rfl
 by_cases k1:k=1
 ·subst k1
  rw[Pj]
  by_cases hl:n<C.length
  ·rw[List.getElem?_eq_getElem hl]
   simp only[Option.getD_some,Option.isSome_some]
   rw[Zc]
   refine Zn 0 70 [ResultVar.cell 6 104,ResultVar.tmp 7] Z2 Tryz.func112 rfl Tryz.ntmps112 rfl λ cx hnt hn0=>?_
   skip
   refine Zz ?_;refine Zx [] Z2 hnt λ _ z9=>z9 _ _ ?_;refine Zz ?_;refine Zt ?_;refine Zz ?_;refine Zx [(11,.v (.bool false))] Z2 hnt λ K hK=>?_;refine And.intro X5 ?_;refine hK _ _ ?_;clear hK K;refine Zy (t:=false) rfl ?_;rw[if_neg (by simp)];refine Zz ?_;refine Zx [(16,.v (.bool false))] Z2 hnt λ K hK=>?_
   refine And.intro (Zm.refl _) ?_;refine hK _ _ ?_;clear hK K;refine Zy (t:=false) rfl ?_;rw[if_neg (by simp)];refine Zz ?_;refine Zx [(36,.v (.bool true)),(42,.v (.int .i64 (↑C.length))),(43,.v (.bool true))] Z2 hnt λ K hK=>?_;refine And.intro (Zm.refl _) ?_;refine And.intro (Zr (by rw[Zs])) ?_;refine And.intro Xd ?_;refine hK _ _ ?_;clear hK K;refine Zy (t:=true) rfl ?_
   rw[if_pos rfl];refine Zz ?_;refine Zx [(49,.q [.sl 2 (eTys C[n].args) none,.v (.int .i64 C[n].base)])] Z2 hnt λ K hK=>?_;refine And.intro (XQ (Zs C)) ?_;refine And.intro (XR (ZV C n) (Zc _)) ?_;refine hK _ _ ?_;clear hK K;refine Zv ?_
   exact Zi rfl
  rw[List.getElem?_eq_none (by omega)]
  simp only[Option.getD_none,Option.isSome_none]
  rw[XO]
  refine Zn 0 70 [ResultVar.cell 6 104,ResultVar.tmp 7] Z2 Tryz.func112 rfl Tryz.ntmps112 rfl λ cx hnt hn0=>?_
  skip
  refine Zz ?_;refine Zx [] Z2 hnt λ _ z9=>z9 _ _ ?_;refine Zz ?_;refine Zt ?_;refine Zz ?_;refine Zx [(11,.v (.bool false))] Z2 hnt λ K hK=>?_;refine And.intro X5 ?_;refine hK _ _ ?_;clear hK K;refine Zy (t:=false) rfl ?_;rw[if_neg (by simp)];refine Zz ?_;refine Zx [(16,.v (.bool false))] Z2 hnt λ K hK=>?_
  refine And.intro (Zm.refl _) ?_;refine hK _ _ ?_;clear hK K;refine Zy (t:=false) rfl ?_;rw[if_neg (by simp)];refine Zz ?_;refine Zx [(36,.v (.bool true)),(42,.v (.int .i64 (↑C.length))),(43,.v (.bool false))] Z2 hnt λ K hK=>?_;refine And.intro (Zm.refl _) ?_;refine And.intro (Zr (by rw[Zs])) ?_;refine And.intro X5 ?_;refine hK _ _ ?_;clear hK K;refine Zy (t:=false) rfl ?_
  rw[if_neg (by simp)];refine Zz ?_;refine Zx [(54,.v (.bool false))] Z2 hnt λ K hK=>?_;refine And.intro (Zm.refl _) ?_;refine hK _ _ ?_;clear hK K;refine Zy (t:=false) rfl ?_;rw[if_neg (by simp)];refine Zw ?_;refine Zz ?_;refine Zx [] Z2 hnt λ _ z9=>z9 _ _ ?_;refine Zv ?_
  exact Zi rfl
 by_cases k2:k=2
 ·subst k2
  rw[Pk]
  by_cases hl:n<M.length
  ·rw[List.getElem?_eq_getElem hl]
   simp only[Option.getD_some,Option.isSome_some]
   rw[Zc]
   refine Zn 0 70 [ResultVar.cell 6 104,ResultVar.tmp 7] Z2 Tryz.func112 rfl Tryz.ntmps112 rfl λ cx hnt hn0=>?_
   skip
   refine Zz ?_;refine Zx [] Z2 hnt λ _ z9=>z9 _ _ ?_;refine Zz ?_;refine Zt ?_;refine Zz ?_;refine Zx [(11,.v (.bool false))] Z2 hnt λ K hK=>?_;refine And.intro X5 ?_;refine hK _ _ ?_;clear hK K;refine Zy (t:=false) rfl ?_;rw[if_neg (by simp)];refine Zz ?_;refine Zx [(16,.v (.bool false))] Z2 hnt λ K hK=>?_
   refine And.intro (Zm.refl _) ?_;refine hK _ _ ?_;clear hK K;refine Zy (t:=false) rfl ?_;rw[if_neg (by simp)];refine Zz ?_;refine Zx [(36,.v (.bool false))] Z2 hnt λ K hK=>?_;refine And.intro (Zm.refl _) ?_;refine hK _ _ ?_;clear hK K;refine Zy (t:=false) rfl ?_;rw[if_neg (by simp)];refine Zz ?_;refine Zx [(54,.v (.bool true)),(60,.v (.int .i64 (↑M.length))),(61,.v (.bool true))] Z2 hnt λ K hK=>?_
   refine And.intro (Zm.refl _) ?_;refine And.intro (Zr (by rw[Zs])) ?_;refine And.intro Xd ?_;refine hK _ _ ?_;clear hK K;refine Zy (t:=true) rfl ?_;rw[if_pos rfl];refine Zz ?_;refine Zx [(67,.q [.sl 2 (eTys M[n].args) none,.v (.int .i64 M[n].base)])] Z2 hnt λ K hK=>?_;refine And.intro (XQ (Zs M)) ?_;refine And.intro (XR (ZV M n) (Zc _)) ?_
   refine hK _ _ ?_;clear hK K;refine Zv ?_
   exact Zi rfl
  rw[List.getElem?_eq_none (by omega)]
  simp only[Option.getD_none,Option.isSome_none]
  rw[XO]
  refine Zn 0 70 [ResultVar.cell 6 104,ResultVar.tmp 7] Z2 Tryz.func112 rfl Tryz.ntmps112 rfl λ cx hnt hn0=>?_
  skip
  refine Zz ?_;refine Zx [] Z2 hnt λ _ z9=>z9 _ _ ?_;refine Zz ?_;refine Zt ?_;refine Zz ?_;refine Zx [(11,.v (.bool false))] Z2 hnt λ K hK=>?_;refine And.intro X5 ?_;refine hK _ _ ?_;clear hK K;refine Zy (t:=false) rfl ?_;rw[if_neg (by simp)];refine Zz ?_;refine Zx [(16,.v (.bool false))] Z2 hnt λ K hK=>?_
  refine And.intro (Zm.refl _) ?_;refine hK _ _ ?_;clear hK K;refine Zy (t:=false) rfl ?_;rw[if_neg (by simp)];refine Zz ?_;refine Zx [(36,.v (.bool false))] Z2 hnt λ K hK=>?_;refine And.intro (Zm.refl _) ?_;refine hK _ _ ?_;clear hK K;refine Zy (t:=false) rfl ?_;rw[if_neg (by simp)];refine Zz ?_;refine Zx [(54,.v (.bool true)),(60,.v (.int .i64 (↑M.length))),(61,.v (.bool false))] Z2 hnt λ K hK=>?_
  refine And.intro (Zm.refl _) ?_;refine And.intro (Zr (by rw[Zs])) ?_;refine And.intro X5 ?_;refine hK _ _ ?_;clear hK K;refine Zy (t:=false) rfl ?_;rw[if_neg (by simp)];refine Zw ?_;refine Zz ?_;refine Zx [] Z2 hnt λ _ z9=>z9 _ _ ?_;refine Zv ?_
  exact Zi rfl
 rw[Pl k0 k1 k2]
 simp only[Option.getD_none,Option.isSome_none]
 rw[XO]
 refine Zn 0 70 [ResultVar.cell 6 104,ResultVar.tmp 7] Z2 Tryz.func112 rfl Tryz.ntmps112 rfl λ cx hnt hn0=>?_
 skip
 refine Zz ?_;refine Zx [] Z2 hnt λ _ z9=>z9 _ _ ?_;refine Zz ?_;refine Zt ?_;refine Zz ?_;refine Zx [(11,.v (.bool false))] Z2 hnt λ K hK=>?_;refine And.intro X5 ?_;refine hK _ _ ?_;clear hK K;refine Zy (t:=false) rfl ?_;rw[if_neg (by simp)];refine Zz ?_;refine Zx [(16,.v (.bool false))] Z2 hnt λ K hK=>?_
 refine And.intro (XM k0) ?_;refine hK _ _ ?_;clear hK K;refine Zy (t:=false) rfl ?_;rw[if_neg (by simp)];refine Zz ?_;refine Zx [(36,.v (.bool false))] Z2 hnt λ K hK=>?_;refine And.intro (XM k1) ?_;refine hK _ _ ?_;clear hK K;refine Zy (t:=false) rfl ?_;rw[if_neg (by simp)];refine Zz ?_;refine Zx [(54,.v (.bool false))] Z2 hnt λ K hK=>?_
 refine And.intro (XM k2) ?_;refine hK _ _ ?_;clear hK K;refine Zy (t:=false) rfl ?_;rw[if_neg (by simp)];refine Zw ?_;refine Zz ?_;refine Zx [] Z2 hnt λ _ z9=>z9 _ _ ?_;refine Zv ?_
 exact Zi rfl
theorem KN (b:Int)(C M:List Ty)(t:Tm)(hC:C.length<=1000000)(hM:M.length<=1000000)(hz:t.full<=40000):
  Zh Tryz.prog 86 [.ag [.v (.int .i64 b),.sl 2 (eTys C) none,.sl 2 (eTys M) none],.v (.slice none 0 0),.ag (eTm t)] (.tu [.ag (eTy ((Q6 C M t).getD H7)),.v (.bool (Q6 C M t).isSome)]):=by
 have hbl:=Ty.le_sizes t.binds
 have hfl:=XD t
 have hbe:Zh Tryz.prog 38 [.v (.slice none 0 0),.sl 2 (eTys t.binds) none] (.sl 2 (eTys ([]++t.binds)) none):=ZB.vle (Vf [] t.binds (by simp;omega)) (.cons (Zm.nil _) (.cons (Zm.refl _) .nil)) (Zm.refl _)
 have hh:=QN b C M ([]++t.binds) t.kind t.index hC hM (by simp;omega)
 unfold Q6
 obtain⟨o,ho⟩:∃ o,YZ C M ([]++t.binds) t.kind t.index=o:=⟨_,rfl⟩
 obtain⟨X,hX⟩:∃ X,[]++t.binds=X:=⟨_,rfl⟩
 rw[hX] at hh hbe ho ⊢
 rw[ho] at hh ⊢
 rw[Zu]
 cases o with
 | none=>
  simp only[Option.map_none,Option.getD_none,Option.isSome_none] at hh ⊢
  rw[XO] at hh ⊢
  refine Zn 0 29 [ResultVar.cell 6 104,ResultVar.tmp 7] Z2 Tryz.func86 rfl Tryz.ntmps86 rfl λ cx hnt hn0=>?_
  skip
  refine Zz ?_;refine Zx [] Z2 hnt λ _ z9=>z9 _ _ ?_;refine Zz ?_;refine ZQ [] Z2 hnt λ K hK=>?_;refine Zk (hbe) ?_;refine Zk (hh) ?_;refine hK _ _ (by kernel_rfl) ?_;clear hK K;refine Zz ?_;refine Zz ?_;refine Zx [] Z2 hnt λ _ z9=>z9 _ _ ?_;refine Zy (t:=true) rfl ?_;rw[if_pos rfl];refine Zz ?_
  refine Zx [] Z2 hnt λ _ z9=>z9 _ _ ?_;refine Zv ?_
  exact Zi rfl
 | some h=>
  simp only[Option.map_some,Option.getD_some,Option.isSome_some] at hh ⊢
  rw[Zc] at hh ⊢
  simp only[XL,Wv]
  refine Zn 0 29 [ResultVar.cell 6 104,ResultVar.tmp 7] Z2 Tryz.func86 rfl Tryz.ntmps86 rfl λ cx hnt hn0=>?_
  skip
  refine Zz ?_;refine Zx [] Z2 hnt λ _ z9=>z9 _ _ ?_;refine Zz ?_;refine ZQ [] Z2 hnt λ K hK=>?_;refine Zk (hbe) ?_;refine Zk (hh) ?_;refine hK _ _ (by kernel_rfl) ?_;clear hK K;refine Zz ?_;refine Zz ?_;refine Zx [] Z2 hnt λ _ z9=>z9 _ _ ?_;refine Zy (t:=false) rfl ?_;rw[if_neg (by simp)]
  refine Zw ?_;refine Zz ?_;refine Zx [] Z2 hnt λ _ z9=>z9 _ _ ?_;refine Zv ?_
  exact Zi rfl
set_option maxHeartbeats 4000000 in
theorem MM (b:Int)(C M:List Ty)(hC:C.length<=1000000)(hM:M.length<=1000000):∀ (t:Tm) (X:List Ty) (u:Ty) (c:Bool),(c=true↔Wz C M t X u)->X.length+t.full<=900000 ->
  Zh Tryz.prog 87 [.ag [.v (.int .i64 b),.sl 2 (eTys C) none,.sl 2 (eTys M) none],.sl 2 (eTys X) none,.ag (eTm t),.ag (eTy u)] (.v (.bool c)):=by
 intro t
 induction t using Tm.ind with
 | h bs k i a ih=>
 intro X u c hc hz
 rw[Tm.full_eq] at hz
 have hal:=UP a
 have hbl:=Ty.le_sizes bs
 have hbe:=Vf X bs (by omega)
 have hh:=QN b C M (X++bs) k i hC hM (by simp;omega)
 obtain⟨o,ho⟩:∃ o,YZ C M (X++bs) k i=o:=⟨_,rfl⟩
 obtain⟨Y,hY⟩:∃ Y,X++bs=Y:=⟨_,rfl⟩
 have hYl:Y.length=X.length+bs.length:=by rw[<-hY];simp
 have hty:=Sj bs u.args
 have no:∀ (h:∀ x,YZ C M (X++bs) k i=some x->bs=u.args->x.base=u.base->x.args.length=a.length->False),c=false:=λ h=>by
  rw[Bool.eq_false_iff];exact λ hc1=>Nt h (hc.1 hc1)
 rw[ho] at hh no
 rw[Zu,Zc]
 simp only[UO,S4,UT,Ui]
 rw[hY] at hbe hh
 cases o with
 | none=>
  simp only[Option.getD_none,Option.isSome_none] at hh
  rw[XO] at hh
  rw[no (λ x h=>by cases h)]
  refine Zn 0 72 [ResultVar.tmp 8] Z2 Tryz.func87 rfl Tryz.ntmps87 rfl λ cx hnt hn0=>?_
  skip
  refine Zz ?_;refine Zx [] Z2 hnt λ _ z9=>z9 _ _ ?_;refine Zz ?_;refine Zx [] Z2 hnt λ K hK=>?_;refine Zk (hbe) ?_;refine hK _ _ ?_;clear hK K;refine Zz ?_;refine Zx [] Z2 hnt λ K hK=>?_;refine Zk (hh) ?_;refine hK _ _ ?_;clear hK K;refine Zz ?_;refine Zz ?_;refine Zx [] Z2 hnt λ _ z9=>z9 _ _ ?_
  refine Zy (t:=true) rfl ?_;rw[if_pos rfl];refine Zz ?_;refine Zx [] Z2 hnt λ _ z9=>z9 _ _ ?_;refine Zv ?_
  exact Zi rfl
 | some h=>
 simp only[Option.getD_some,Option.isSome_some] at hh
 rw[Zc] at hh
 by_cases hb:bs=u.args
 ·rw[decide_eq_true hb] at hty
  by_cases hbs:h.base=u.base
  ·by_cases hln:h.args.length=a.length
   ·have hIff:c=true↔∀ j (h1:j<a.length) (h2:j<h.args.length),Wz C M a[j] Y h.args[j]:=by
     rw[hc,Qp,hY]
     constructor
     ·rintro⟨_,x,h2,_,h4⟩ j j1 j2
      rw[<-hY,ho] at h2;cases h2
      exact(WC.1 h4).2 j j1 j2
     intro hall
     exact⟨hb,h,by rw[<-hY,ho],hbs,WC.2 ⟨hln,hall⟩⟩
    have hI:∀ j (h1:j<a.length) (h2:j<h.args.length) (d:Bool),(d=true↔Wz C M a[j] Y h.args[j])->Zh Tryz.prog 87 [.ag [.v (.int .i64 b),.sl 2 (eTys C) none,.sl 2 (eTys M) none],.sl 2 (eTys Y) none,.ag (eTm a[j]),.ag (eTy h.args[j])] (.v (.bool d)):=λ j h1 h2 d hd=>ih _ (List.getElem_mem h1) Y _ d hd (by have:=Tm.full_mem (List.getElem_mem h1);omega)
    clear ih no hc
    refine Zn 0 72 [ResultVar.tmp 8] Z2 Tryz.func87 rfl Tryz.ntmps87 rfl λ cx hnt hn0=>?_
    skip
    refine Zz ?_;refine Zx [] Z2 hnt λ _ z9=>z9 _ _ ?_;refine Zz ?_;refine Zx [] Z2 hnt λ K hK=>?_;refine Zk (hbe) ?_;refine hK _ _ ?_;clear hK K;refine Zz ?_;refine Zx [] Z2 hnt λ K hK=>?_;refine Zk (hh) ?_;refine hK _ _ ?_;clear hK K;refine Zz ?_;refine Zz ?_;refine Zx [(40,.v (.bool false)),(45,.v (.int .i64 (↑h.args.length))),(48,.v (.int .i64 (↑a.length))),(49,.v (.bool false))] Z2 hnt λ K hK=>?_
    refine Zk (hty) ?_;refine And.intro (Yq hbs) ?_;refine And.intro (Zr (by rw[Zs])) ?_;refine And.intro (Zr (by rw[Zq])) ?_;refine And.intro (Yq (by omega)) ?_;refine hK _ _ ?_;clear hK K;refine Zy (t:=false) rfl ?_;rw[if_neg (by simp)];refine Zw ?_;refine Zz ?_;refine Zz ?_;refine Zx [] Z2 hnt λ _ z9=>z9 _ _ ?_
    refine Zt ?_
    refine Z6 (ι:={ j:Nat // ∀ i (h1:i<a.length) (h2:i<h.args.length),i<j->Wz C M a[i] Y h.args[i] }) (λ j=>[(.t 4,.p 0 0),(.t 6,.p 1 0),(.t 7,.p 2 0),(.t 9,.sl 2 (eTys Y) none),(.t 10,.p 17 0),(.t 12,.v (.int .i64 ↑j.1)),(.c 0 0,.v (.int .i64 b)),(.c 0 1,.sl 2 (eTys C) none),(.c 0 2,.sl 2 (eTys M) none),(.c 1 0,.sl 2 (eTys bs) none),(.c 1 1,.v (.int .i64 k)),(.c 1 2,.v (.int .i64 i)),(.c 1 3,.sl 4 (eTms a) none),(.c 17 0,.sl 2 (eTys h.args) none),(.c 17 1,.v (.int .i64 h.base))]) 18 (λ j=>a.length-j.1) (⟨0,λ i h1 h2 h3=>by omega⟩) (VS.toA) λ j=>?_
    obtain⟨j,hj⟩:=j
    dsimp only
    by_cases hlt:j<a.length
    ·have hlt2:j<h.args.length:=by omega
     by_cases hio:Wz C M a[j] Y h.args[j]
     ·have hi:=hI j hlt hlt2 true (by simp[hio])
      rw[Zu,Zc] at hi
      refine Zz ?_;refine Zz ?_;refine Zx [(54,.v (.int .i64 (↑a.length))),(55,.v (.bool true))] Z2 hnt λ K hK=>?_;refine And.intro (Zr (by rw[Zq])) ?_;refine And.intro Xd ?_;refine hK _ _ ?_;clear hK K;refine Zy (t:=true) rfl ?_;rw[if_pos rfl];refine Zw ?_;refine Zz ?_;refine Zt ?_;refine Zz ?_;refine ZQ [(63,.q [.sl 2 (eTys a[j].binds) none,.v (.int .i64 a[j].kind),.v (.int .i64 a[j].index),.sl 4 (eTms a[j].args) none]),(68,.q [.sl 2 (eTys h.args[j].args) none,.v (.int .i64 h.args[j].base)])] Z2 hnt λ K hK=>?_
      refine And.intro (XQ (Zq a)) ?_;refine And.intro (XR (ZT a j) (Zu _)) ?_;refine And.intro (XQ (Zs h.args)) ?_;refine And.intro (XR (ZV h.args j) (Zc _)) ?_;refine Zk (hi) ?_;refine hK _ _ (by kernel_rfl) ?_;clear hK K;refine Zy (t:=false) rfl ?_;rw[if_neg (by simp)];refine Zw ?_;refine Zx [(57,.v (.int .i64 (↑(j+1))))] Z2 hnt λ K hK=>?_
      refine And.intro Ww ?_;refine hK _ _ ?_;clear hK K
      refine⟨⟨j+1,λ q h1 h2 h3=>if e:q=j then by subst e;exact hio else hj q h1 h2 (by omega)⟩,by first | omega | (dsimp only;omega),VS.toA⟩
     have hi:=hI j hlt hlt2 false (by simp[hio])
     rw[Zu,Zc] at hi
     have hcf:c=false:=by rw[Bool.eq_false_iff];exact λ h1=>hio (hIff.1 h1 j hlt hlt2)
     rw[hcf]
     refine Zz ?_;refine Zz ?_;refine Zx [(54,.v (.int .i64 (↑a.length))),(55,.v (.bool true))] Z2 hnt λ K hK=>?_;refine And.intro (Zr (by rw[Zq])) ?_;refine And.intro Xd ?_;refine hK _ _ ?_;clear hK K;refine Zy (t:=true) rfl ?_;rw[if_pos rfl];refine Zw ?_;refine Zz ?_;refine Zt ?_;refine Zz ?_;refine ZQ [(63,.q [.sl 2 (eTys a[j].binds) none,.v (.int .i64 a[j].kind),.v (.int .i64 a[j].index),.sl 4 (eTms a[j].args) none]),(68,.q [.sl 2 (eTys h.args[j].args) none,.v (.int .i64 h.args[j].base)])] Z2 hnt λ K hK=>?_
     refine And.intro (XQ (Zq a)) ?_;refine And.intro (XR (ZT a j) (Zu _)) ?_;refine And.intro (XQ (Zs h.args)) ?_;refine And.intro (XR (ZV h.args j) (Zc _)) ?_;refine Zk (hi) ?_;refine hK _ _ (by kernel_rfl) ?_;clear hK K;refine Zy (t:=true) rfl ?_;rw[if_pos rfl];refine Zz ?_;refine Zx [] Z2 hnt λ _ z9=>z9 _ _ ?_
     refine Zv ?_
     exact Zi rfl
    rw[hIff.2 λ q h1 h2=>hj q h1 h2 (by omega)]
    refine Zz ?_;refine Zz ?_;refine Zx [(54,.v (.int .i64 (↑a.length))),(55,.v (.bool false))] Z2 hnt λ K hK=>?_;refine And.intro (Zr (by rw[Zq])) ?_;refine And.intro X5 ?_;refine hK _ _ ?_;clear hK K;refine Zy (t:=false) rfl ?_;rw[if_neg (by simp)];refine Zg ?_;refine Zz ?_;refine Zx [] Z2 hnt λ _ z9=>z9 _ _ ?_
    refine Zv ?_
    exact Zi rfl
   ·rw[no (λ x h1 _ _ h4=>by cases h1;exact hln h4)]
    refine Zn 0 72 [ResultVar.tmp 8] Z2 Tryz.func87 rfl Tryz.ntmps87 rfl λ cx hnt hn0=>?_
    skip
    refine Zz ?_;refine Zx [] Z2 hnt λ _ z9=>z9 _ _ ?_;refine Zz ?_;refine Zx [] Z2 hnt λ K hK=>?_;refine Zk (hbe) ?_;refine hK _ _ ?_;clear hK K;refine Zz ?_;refine Zx [] Z2 hnt λ K hK=>?_;refine Zk (hh) ?_;refine hK _ _ ?_;clear hK K;refine Zz ?_;refine Zz ?_;refine Zx [(40,.v (.bool false)),(45,.v (.int .i64 (↑h.args.length))),(48,.v (.int .i64 (↑a.length))),(49,.v (.bool true))] Z2 hnt λ K hK=>?_
    refine Zk (hty) ?_;refine And.intro (Yq hbs) ?_;refine And.intro (Zr (by rw[Zs])) ?_;refine And.intro (Zr (by rw[Zq])) ?_;refine And.intro (YO (by omega)) ?_;refine hK _ _ ?_;clear hK K;refine Zy (t:=true) rfl ?_;rw[if_pos rfl];refine Zz ?_;refine Zx [] Z2 hnt λ _ z9=>z9 _ _ ?_;refine Zv ?_
    exact Zi rfl
  rw[no (λ x h1 _ h3 _=>by cases h1;exact hbs h3)]
  refine Zn 0 72 [ResultVar.tmp 8] Z2 Tryz.func87 rfl Tryz.ntmps87 rfl λ cx hnt hn0=>?_
  skip
  refine Zz ?_;refine Zx [] Z2 hnt λ _ z9=>z9 _ _ ?_;refine Zz ?_;refine Zx [] Z2 hnt λ K hK=>?_;refine Zk (hbe) ?_;refine hK _ _ ?_;clear hK K;refine Zz ?_;refine Zx [] Z2 hnt λ K hK=>?_;refine Zk (hh) ?_;refine hK _ _ ?_;clear hK K;refine Zz ?_;refine Zz ?_;refine Zx [(40,.v (.bool true))] Z2 hnt λ K hK=>?_
  refine Zk (hty) ?_;refine And.intro (YO hbs) ?_;refine hK _ _ ?_;clear hK K;refine Zy (t:=true) rfl ?_;rw[if_pos rfl];refine Zz ?_;refine Zx [] Z2 hnt λ _ z9=>z9 _ _ ?_;refine Zv ?_
  exact Zi rfl
 rw[decide_eq_false hb] at hty
 rw[no (λ x _ h2 _ _=>hb h2)]
 refine Zn 0 72 [ResultVar.tmp 8] Z2 Tryz.func87 rfl Tryz.ntmps87 rfl λ cx hnt hn0=>?_
 skip
 refine Zz ?_;refine Zx [] Z2 hnt λ _ z9=>z9 _ _ ?_;refine Zz ?_;refine Zx [] Z2 hnt λ K hK=>?_;refine Zk (hbe) ?_;refine hK _ _ ?_;clear hK K;refine Zz ?_;refine Zx [] Z2 hnt λ K hK=>?_;refine Zk (hh) ?_;refine hK _ _ ?_;clear hK K;refine Zz ?_;refine Zz ?_;refine Zx [] Z2 hnt λ K hK=>?_;refine Zk (hty) ?_
 refine hK _ _ ?_;clear hK K;refine Zy (t:=true) rfl ?_;rw[if_pos rfl];refine Zz ?_;refine Zx [] Z2 hnt λ _ z9=>z9 _ _ ?_;refine Zv ?_
 exact Zi rfl
theorem JP (b:Int)(C M:List Ty)(t:Tm)(u:Ty)(c:Bool)(hC:C.length<=1000000)(hM:M.length<=1000000)(hc:c=true↔Wz C M t [] u)(hz:t.full<=90000):
  Zh Tryz.prog 87 [.ag [.v (.int .i64 b),.sl 2 (eTys C) none,.sl 2 (eTys M) none],.v (.slice none 0 0),.ag (eTm t),.ag (eTy u)] (.v (.bool c)):=
 ZB.vle (MM b C M hC hM t [] u c hc (by simp;omega)) (.cons (Zm.refl _) (.cons (Zm.nil _) (.cons (Zm.refl _) (.cons (Zm.refl _) .nil)))) (Zm.refl _)
end Go.Proofs.YtclihnccilkohaaGreat
