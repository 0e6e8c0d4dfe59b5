/-
  The document's Metas, walked in the deep way. Which of two types is less: by size, by how many arguments, argument by argument, by base; and what that order promises. Which of two terms is less: the plain law. sign, cmp.Compare and cmp.Or of ints. The document's order of types. The document's order of terms. A context with more binders: the program's and the document's. term.is: whether a term is of a type. The document's Is: whether a term is of a type. The document's Depth, Right, Check; term.Check. The document's answer of layer 22: lifted, Over, Closed. What the members of a gathering yield: a list of standard shapes. term.HeadType, term.TypeOf. The document's TypeOf. Whether a world may be: the program's RightWorld and the document's. The laws' worlds: World, Small; the document's RightWorld. The contracts of heads and types once more, where all of memory may be read. Checks of substitutions: what is called, as deep contracts. term's TypeOf and Check, walked in the deep way. What rule.Typed and the document's Typed call, as deep contracts. Typed and Check: rule's and the document's. Check: rule's and the document's. The known answer of the laws of layer 17. RuleOwns, walked in the deep way. A rule in its own numbers is a rule, in plain Lean. A typed pair in its own numbers: typed, a rule just where the pair is one; plain. subst.Apply, walked in the deep way. The known answer of the laws of layer 9. rule.Instance, walked in the deep way. Package audit, walked in the deep way: must, image, substitution. Package audit, walked in the deep way: substitution.
-/
import Derived.Test.YtclihnccilkohaaGreatRowAuditStepsp7
import Derived.Test.YtclihnccilkohaaGreatRowAuditStepsp1
import Derived.Test.YtclihnccilkohaaGreatRowAuditStepsp5
import Derived.Test.YtclihnccilkohaaGreatRowAuditStepsp4
import Derived.Test.YtclihnccilkohaaGreatRowAuditStepsp6
set_option maxRecDepth 100000
set_option maxHeartbeats 1000000
set_option linter.unusedVariables false
set_option linter.unusedSimpArgs false
namespace Go.Proofs.YtclihnccilkohaaGreat
open Go.RowKit
def TRX_3:TI:=⟨1,false,[Value.int IntKind.i64 0],[],none,8,2,none,false⟩
theorem EC:TypOk Tryz.prog 3 TRX_3:=by constructor <;> kernel_rfl
def TRX_31:TI:=⟨4,true,[Value.slice none 0 0,Value.int IntKind.i64 0,Value.int IntKind.i64 0,Value.slice none 0 0],[(0,1,false),(1,2,true),(3,1,false)],none,64,6,none,false⟩
theorem I0:TypOk Tryz.prog 31 TRX_31:=by constructor <;> kernel_rfl
def TRX_71:TI:=⟨1,false,[Value.slice none 0 0],[],some 3,24,5,none,false⟩
theorem Ia:TypOk Tryz.prog 71 TRX_71:=by constructor <;> kernel_rfl
def TRX_175:TI:=⟨1,false,[Value.slice none 0 0],[],some 28,24,5,none,false⟩
theorem OZ:TypOk Tryz.prog 175 TRX_175:=by constructor <;> kernel_rfl
def TRX_28:TI:=⟨2,true,[Value.int IntKind.i64 0,Value.int IntKind.i64 0],[(0,1,false),(1,1,false)],none,16,6,none,true⟩
theorem I2:TypOk Tryz.prog 28 TRX_28:=by constructor <;> kernel_rfl
def TRX_29:TI:=⟨1,false,[Value.slice none 0 0],[],some 31,24,5,none,false⟩
theorem I1:TypOk Tryz.prog 29 TRX_29:=by constructor <;> kernel_rfl
def TRX_22:TI:=⟨1,false,[Value.slice none 0 0],[],some 104,24,5,none,false⟩
theorem I3:TypOk Tryz.prog 22 TRX_22:=by constructor <;> kernel_rfl
def TRX_104:TI:=⟨2,true,[Value.slice none 0 0,Value.int IntKind.i64 0],[(0,1,false),(1,1,false)],none,32,6,none,false⟩
theorem OY:TypOk Tryz.prog 104 TRX_104:=by constructor <;> kernel_rfl
def TRX:List (Nat×TI):=[(3,TRX_3),(31,TRX_31),(71,TRX_71),(175,TRX_175),(28,TRX_28),(29,TRX_29),(22,TRX_22),(104,TRX_104)]
theorem ZM:Zh Tryz.prog TRX:=(((((((((Zh.nil _).cons OY).cons I3).cons I1).cons I2).cons OZ).cons Ia).cons I0).cons EC)
def TK (l:List (Int×Int)):List (List D):=l.map fun h=>[.v (.int .i64 h.1),.v (.int .i64 h.2)]
theorem YL (l:List (Int×Int)):(TK l).length=l.length:=List.length_map ..
theorem TQ (l r:List (Int×Int)):TK (l++r)=TK l++TK r:=List.map_append ..
theorem Ec (l:List (Int×Int))(i:Nat)(h:i<l.length):(TK l).getD i []=[.v (.int .i64 l[i].1),.v (.int .i64 l[i].2)]:=by
 rw[TK,List.getD_eq_getElem?_getD,List.getElem?_map,List.getElem?_eq_getElem h];rfl
@[simp] theorem Zb7 (f g:Nat→Bool) (l:List (Int×Int)):D.okss f g (TK l)=true:=D.okss_map _ l fun _ _=>rfl
set_option maxHeartbeats 2000000 in
theorem Fo:∀ (t:Tm) (n:Int),0≤n→n+t.full≤1000000→t.Fit→Zd Tryz.prog 114 [.ag (eTm t),.v (.int .i64 n)] (.sl 2 (TK (t.heads n)) none):=by
 intro t
 induction t using Tm.ind with
 | h b k i a ih=>
 intro n h0 hz hf
 obtain⟨f1,f2,f3⟩:=Tm.fit_iff.1 hf
 rw[Tm.full_eq] at hz
 have hal:=Sa a
 have hbl:=Ty.le_sizes b
 obtain⟨m,hm⟩:∃ m:Int,n+(b.length:Int)=m:=⟨_,rfl⟩
 rw[Tm.heads_eq _ _ _ _ _ _ hm,Zv]
 simp only[JO,FJ,J8,EO]
 obtain⟨hd,hhd⟩:∃ hd,(if k≠0 then [(k,i)] else if m≤i then [(0,i-m)] else [])=hd:=⟨_,rfl⟩
 have hdl:hd.length≤1:=by rw[←hhd];split <;> (try split) <;> simp
 rw[hhd]
 refine Zm 0 55 [ResultVar.tmp 4] ZM Tryz.func114 rfl Tryz.ntmps114 rfl fun cx hnt hn0=>?_
 ·skip
  refine Zz ?_;refine Zx [] ZM hnt fun _ z9=>z9 _ _ ?_;refine Zz ?_;refine Zx [] ZM hnt fun _ z9=>z9 _ _ ?_
  refine DW.vs (VS.rowT (x:=5) (by rw[hnt];decide) 28 2 rfl) ?_
  refine Zz ?_;refine Zx [(11,.v (.int .i64 (↑b.length))),(12,.v (.int .i64 (m)))] ZM hnt fun K hK=>?_;refine And.intro (Zq (by rw[Zr])) ?_;refine And.intro XR ?_;refine hK _ _ ?_;clear hK K
  refine XW (τ:=[(.t 2,.p 0 0),(.t 5,.sl 2 (TK hd) (some 3)),(.r 3,.rw 28 2 hd.length),(.t 6,.v (.int .i64 m)),(.c 0 3,.sl 4 (eTms a) none)]) (N1:=4) ?_ ?_
  ·by_cases hk:k=0
   ·by_cases hi:m≤i
    ·rw[if_neg (by simp[hk]),if_pos hi] at hhd
     subst hhd
     refine Zt ?_;refine Zz ?_;refine Zx [(17,.v (.bool false))] ZM hnt fun K hK=>?_;refine And.intro (Yy hk) ?_;refine hK _ _ ?_;clear hK K;refine Zy (t:=false) rfl ?_;rw[if_neg (by simp)];refine Zz ?_;refine Zx [(28,.v (.bool true))] ZM hnt fun K hK=>?_;refine And.intro YD ?_;refine hK _ _ ?_;clear hK K;refine Zy (t:=true) rfl ?_;rw[if_pos rfl]
     refine Zx [(34,.v (.int .i64 (i-m)))] ZM hnt fun K hK=>?_;refine And.intro XR ?_;refine And.intro (⟨rfl,by simp⟩) ?_;refine hK _ _ ?_;clear hK K
     exact Ym (VS.toK (by omega) (by repeat first | exact trivial | refine And.intro (And.intro (by first | rfl | simp[D.ok,D.oks,D.okss,D.okm,YM,Xx,TK]) (by first | exact Or.inl rfl | exact Or.inr ⟨_,rfl,(by repeat first | exact Zn.refl _ | exact Zn.nil _ | exact Zn.untag _ _ _ | refine Zn.ag ?_ | refine Zn.tu ?_ | refine ZS.cons ?_ ?_ | exact ZS.nil),trivial⟩ | simp[get,Key.eq,TK])) ?_))
    ·rw[if_neg (by simp[hk]),if_neg hi] at hhd
     subst hhd
     refine Zt ?_;refine Zz ?_;refine Zx [(17,.v (.bool false))] ZM hnt fun K hK=>?_;refine And.intro (Yy hk) ?_;refine hK _ _ ?_;clear hK K;refine Zy (t:=false) rfl ?_;rw[if_neg (by simp)];refine Zz ?_;refine Zx [(28,.v (.bool false))] ZM hnt fun K hK=>?_;refine And.intro Xq ?_;refine hK _ _ ?_;clear hK K;refine Zy (t:=false) rfl ?_;rw[if_neg (by simp)]
     refine Zw ?_
     exact Ym (VS.toK (by omega) (by repeat first | exact trivial | refine And.intro (And.intro (by first | rfl | simp[D.ok,D.oks,D.okss,D.okm,YM,Xx,TK]) (by first | exact Or.inl rfl | exact Or.inr ⟨_,rfl,(by repeat first | exact Zn.refl _ | exact Zn.nil _ | exact Zn.untag _ _ _ | refine Zn.ag ?_ | refine Zn.tu ?_ | refine ZS.cons ?_ ?_ | exact ZS.nil),trivial⟩ | simp[get,Key.eq,TK])) ?_))
   ·rw[if_pos hk] at hhd
    subst hhd
    refine Zt ?_;refine Zz ?_;refine Zx [(17,.v (.bool true))] ZM hnt fun K hK=>?_;refine And.intro (Y6 hk) ?_;refine hK _ _ ?_;clear hK K;refine Zy (t:=true) rfl ?_;rw[if_pos rfl];refine Zx [] ZM hnt fun K hK=>?_;refine And.intro (⟨rfl,by simp⟩) ?_;refine hK _ _ ?_;clear hK K
    exact Ym (VS.toK (by omega) (by repeat first | exact trivial | refine And.intro (And.intro (by first | rfl | simp[D.ok,D.oks,D.okss,D.okm,YM,Xx,TK]) (by first | exact Or.inl rfl | exact Or.inr ⟨_,rfl,(by repeat first | exact Zn.refl _ | exact Zn.nil _ | exact Zn.untag _ _ _ | refine Zn.ag ?_ | refine Zn.tu ?_ | refine ZS.cons ?_ ?_ | exact ZS.nil),trivial⟩ | simp[get,Key.eq,TK])) ?_))
  ·skip
   refine Zz ?_;refine Zz ?_;refine Zx [] ZM hnt fun _ z9=>z9 _ _ ?_;refine Zt ?_
   refine Z4 (ι:={ j:Nat // j≤a.length }) (fun j=>[(.t 2,.p 0 0),(.t 5,.sl 2 (TK (hd++Tm.headss (a.take j.1) m)) (some 3)),(.r 3,.rw 28 2 (hd++Tm.headss (a.take j.1) m).length),(.t 6,.v (.int .i64 m)),(.t 7,.v (.int .i64 ↑j.1)),(.c 0 3,.sl 4 (eTms a) none)]) 4 (fun j=>a.length-j.1) (⟨0,Nat.zero_le _⟩) ((by simp only[List.take_zero,Tm.headss,List.append_nil];exact VS.toA)) fun j=>?_
   obtain⟨j,hj⟩:=j
   dsimp only
   by_cases hlt:j<a.length
   ·have hmem:=List.getElem_mem hlt
    have hfm:=full_mem hmem
    have hih:=ih a[j] hmem m (by omega) (by omega) (f3 _ hmem)
    have hst:=Tm.headss_take a m j hlt
    have hl1:=Tm.heads_len a[j] m
    have hl2:=Tm.headss_len (a.take j) m
    have hl3:=Tm.fulls_take_le a (j+1)
    have hl5:=Tm.fulls_take a j hlt
    rw[Zv] at hih
    refine Zz ?_;refine Zz ?_;refine Zx [(41,.v (.int .i64 (↑a.length))),(42,.v (.bool true))] ZM hnt fun K hK=>?_;refine And.intro (Zq (by rw[Zs])) ?_;refine And.intro YD ?_;refine hK _ _ ?_;clear hK K;refine Zy (t:=true) rfl ?_;rw[if_pos rfl];refine Zw ?_;refine Zz ?_;refine Zt ?_;refine Zx [(49,.q [.sl 2 (eTys a[j].binds) none,.v (.int .i64 a[j].kind),.v (.int .i64 a[j].index),.sl 4 (eTms a[j].args) none]),(53,.sl 2 (TK (hd++Tm.headss (a.take (j+1)) m)) (some 3))] ZM hnt fun K hK=>?_
    refine And.intro (Xg (Zs a)) ?_;refine And.intro (Xh (ZX a j) (Zv _)) ?_;refine Ze (hih) ?_;refine And.intro (⟨by rw[YL],by rw[YL,YL,List.length_append];omega⟩) ?_;refine And.intro (Zn.of_eq (by rw[hst,←List.append_assoc,TQ (hd++_)])) ?_;refine hK _ _ ?_;clear hK K;refine Zx [(44,.v (.int .i64 (↑(j+1))))] ZM hnt fun K hK=>?_;refine And.intro XR ?_
    refine hK _ _ ?_;clear hK K
    have hl4:(TK (hd++Tm.headss (a.take j) m)++TK (a[j].heads m)).length=(hd++Tm.headss (a.take (j+1)) m).length:=by rw[←TQ,YL,hst,List.append_assoc]
    refine⟨⟨j+1,by omega⟩,by first | omega | (dsimp only;omega),(by try simp only[List.length_append,List.length_take,List.length_cons,List.length_nil,Nat.zero_add,hl4];exact VS.toA)⟩
   ·rw[List.take_of_length_le (by omega)]
    refine Zz ?_;refine Zz ?_;refine Zx [(41,.v (.int .i64 (↑a.length))),(42,.v (.bool false))] ZM hnt fun K hK=>?_;refine And.intro (Zq (by rw[Zs])) ?_;refine And.intro Xq ?_;refine hK _ _ ?_;clear hK K;refine Zy (t:=false) rfl ?_;rw[if_neg (by simp)];refine Zc ?_;refine Zz ?_;refine Zx [] ZM hnt fun _ z9=>z9 _ _ ?_
    refine Zu ?_
    exact Zj rfl
theorem Fb (t:Tm)(hz:t.full≤1000000)(hf:t.Fit):Zd Tryz.prog 91 [.ag (eTm t)] (.sl 2 (TK (t.heads 0)) none):=by
 have h:=Fo t 0 (by omega) (by omega) hf
 rw[Zv] at h ⊢
 refine Zm 0 5 [ResultVar.tmp 2] ZM Tryz.func91 rfl Tryz.ntmps91 rfl fun cx hnt hn0=>?_
 ·skip
  refine Zz ?_;refine Zx [] ZM hnt fun _ z9=>z9 _ _ ?_;refine Zz ?_;refine Zx [] ZM hnt fun K hK=>?_;refine Ze (h) ?_;refine hK _ _ ?_;clear hK K;refine Zu ?_
  exact Zj rfl
theorem Qs (o:List Int)(a:Nat):(Y4 o).take a=Y4 (o.take a):=by unfold Y4;rw[List.map_take]
theorem Qq (o:List Int)(a:Nat):((Y4 o).take (Y4 o).length).drop a=Y4 (o.drop a):=by rw[List.take_length];unfold Y4;rw[List.map_drop]
theorem PT (l:List (Int×Int)):(XE l).length≤l.length:=List.length_filterMap_le _ _
set_option maxHeartbeats 4000000 in
theorem Fc (l:List Tm)(hl:l.length≤9)(hz:∀ t∈l,t.full≤90000)(hf:∀ t∈l,t.Fit):Zd Tryz.prog 57 [.sl 4 (eTms l) none] (.sl 1 (Y4 (X3 (XX l))) none):=by
 have hml:=Tf l 90000 hz
 refine Zm 0 85 [ResultVar.tmp 2] ZM Tryz.func57 rfl Tryz.ntmps57 rfl fun cx hnt hn0=>?_
 ·skip
  refine Zz ?_;refine Zx [] ZM hnt fun _ z9=>z9 _ _ ?_;refine Zz ?_;refine Zx [(3,.sl 1 (Y4 []) none)] ZM hnt fun K hK=>?_;refine And.intro (Zn.nil _) ?_;refine hK _ _ ?_;clear hK K;refine Zz ?_;refine Zz ?_;refine Zx [] ZM hnt fun _ z9=>z9 _ _ ?_;refine Zt ?_
  refine Z4 (ι:={ q:Nat×List Int // q.1≤l.length∧Vf q.2 (XX (l.take q.1)) }) (fun q=>[(.t 0,.sl 4 (eTms l) none),(.t 3,.sl 1 (Y4 q.1.2) none),(.t 4,.v (.int .i64 ↑q.1.1))]) 3 (fun q=>l.length-q.1.1) (⟨(0,[]),Nat.zero_le _,by simpa[XX] using Jq⟩) (VS.toA) fun q=>?_
  obtain⟨⟨i,o⟩,hi,hr⟩:=q
  dsimp only at hi hr ⊢
  by_cases hlt:i<l.length
  ·have hmem:=List.getElem_mem hlt
   have hH:=Fb l[i] (by have:=hz _ hmem;omega) (hf _ hmem)
   have hhl:=Tm.heads_len l[i] 0
   have hzi:=hz _ hmem
   have hmt:=RV l i hlt
   have hS0:=Tf (l.take i) 90000 fun t ht=>hz t (List.mem_of_mem_take ht)
   rw[List.length_take] at hS0
   obtain⟨hs,hhs⟩:∃ hs,l[i].heads 0=hs:=⟨_,rfl⟩
   obtain⟨S,hS⟩:∃ S,XX (l.take i)=S:=⟨_,rfl⟩
   rw[hhs] at hH hhl hmt
   rw[hS] at hr hmt hS0
   have hS1:S.length≤810000:=by
    have:min i l.length * 90000≤9 * 90000:=Nat.mul_le_mul_right _ (by omega)
    omega
   rw[Zv] at hH
   refine Zz ?_;refine Zz ?_;refine Zx [(11,.v (.int .i64 (↑l.length))),(12,.v (.bool true))] ZM hnt fun K hK=>?_;refine And.intro (Zq (by rw[Zs])) ?_;refine And.intro YD ?_;refine hK _ _ ?_;clear hK K;refine Zy (t:=true) rfl ?_;rw[if_pos rfl];refine Zw ?_;refine Zz ?_;refine Zt ?_;refine Zz ?_;refine Zx [(17,.q [.sl 2 (eTys l[i].binds) none,.v (.int .i64 l[i].kind),.v (.int .i64 l[i].index),.sl 4 (eTms l[i].args) none])] ZM hnt fun K hK=>?_
   refine And.intro (Xg (Zs l)) ?_;refine And.intro (Xh (ZX l i) (Zv _)) ?_;refine Ze (hH) ?_;refine hK _ _ ?_;clear hK K;refine Zz ?_;refine Zx [] ZM hnt fun _ z9=>z9 _ _ ?_;refine Zt ?_
   refine Z4 (ι:={ q:Nat×List Int // q.1≤hs.length∧Vf q.2 (S++XE (hs.take q.1)) }) (fun q=>[(.t 0,.sl 4 (eTms l) none),(.t 3,.sl 1 (Y4 q.1.2) none),(.t 4,.v (.int .i64 ↑i)),(.t 5,.sl 2 (TK hs) none),(.t 6,.v (.int .i64 ↑q.1.1))]) 4 (fun q=>hs.length-q.1.1) (⟨(0,o),Nat.zero_le _,by simpa[XE] using hr⟩) (VS.toA) fun r=>?_
   obtain⟨⟨k,o⟩,hk,hr⟩:=r
   dsimp only at hk hr ⊢
   by_cases hlk:k<hs.length
   ·have hgk:=Ec hs k hlk
    have hmk:=RT hs k hlk
    have hol:=hr.2.2
    have hMl:=PT (hs.take k)
    rw[List.length_append] at hol
    rw[List.length_take] at hMl
    obtain⟨⟨hk1,x⟩,hx⟩:∃ h,hs[k]=h:=⟨_,rfl⟩
    rw[hx] at hgk hmk
    dsimp only at hgk hmk
    by_cases h2:hk1=2
    ·rw[if_pos h2] at hmk;refine Zz ?_;refine Zz ?_;refine Zx [(22,.v (.int .i64 (↑hs.length))),(23,.v (.bool true))] ZM hnt fun K hK=>?_;refine And.intro (Zq (by rw[YL])) ?_;refine And.intro YD ?_;refine hK _ _ ?_;clear hK K;refine Zy (t:=true) rfl ?_;rw[if_pos rfl];refine Zw ?_;refine Zz ?_;refine Zt ?_;refine Zz ?_;refine Zz ?_
     refine Zx [(28,.q [.v (.int .i64 hk1),.v (.int .i64 x)]),(31,.v (.bool false))] ZM hnt fun K hK=>?_;refine And.intro (⟨by omega,by rw[YL];omega⟩) ?_;refine And.intro (Zn.of_eq (by rw[Int.toNat_natCast,hgk])) ?_;refine And.intro (Yy h2) ?_;refine hK _ _ ?_;clear hK K;refine Zy (t:=false) rfl ?_;rw[if_neg (by simp)];refine Zw ?_;refine Zz ?_;refine Zx [] ZM hnt fun K hK=>?_
     refine hK _ _ ?_;clear hK K;refine Zz ?_;refine Zt ?_
     refine Z4 (ι:={ a:Nat // a≤o.length∧∀ q (h:q<o.length),q<a→o[q]<x }) (fun a=>[(.t 0,.sl 4 (eTms l) none),(.t 3,.sl 1 (Y4 o) none),(.t 4,.v (.int .i64 ↑i)),(.t 5,.sl 2 (TK hs) none),(.t 6,.v (.int .i64 ↑k)),(.t 7,.v (.int .i64 ↑a.1))]) 5 (fun a=>o.length-a.1) (⟨0,Nat.zero_le _,fun q h1 h2=>by omega⟩) (VS.toA) fun a=>?_
     obtain⟨a,ha,hax⟩:=a
     dsimp only
     by_cases hla:a<o.length
     ·by_cases hxa:o[a]<x
      ·skip
       refine Zz ?_;refine Zz ?_;refine ZP [(34,.v (.int .i64 (↑o.length))),(35,.v (.bool true)),(39,.q [.v (.int .i64 (o[a]))]),(43,.q [.v (.int .i64 hk1),.v (.int .i64 x)]),(46,.v (.bool true))] ZM hnt fun K hK=>?_;refine And.intro (Zq (by rw[Zi])) ?_;refine And.intro YD ?_;refine And.intro (Xg (Zi o)) ?_;refine And.intro (Xh (YU o a) rfl) ?_;refine And.intro (⟨by omega,by rw[YL];omega⟩) ?_
       refine And.intro (Zn.of_eq (by rw[Int.toNat_natCast,hgk])) ?_;refine And.intro YD ?_;refine hK _ _ (by kernel_rfl) ?_;clear hK K;refine Zy (t:=true) rfl ?_;rw[if_pos rfl];refine Zw ?_;refine Zt ?_;refine Zx [(49,.v (.int .i64 (↑(a+1))))] ZM hnt fun K hK=>?_;refine And.intro XR ?_;refine hK _ _ ?_;clear hK K
       refine⟨⟨a+1,hla,fun q h1 h2=>if e:q=a then by subst e;exact hxa else hax q h1 (by omega)⟩,by first | omega | (dsimp only;omega),VS.toA⟩
      ·by_cases hex:o[a]=x
       ·have hsk:=hr.skip (x:=x) (by rw[←hex];exact List.getElem_mem hla)
        refine Zz ?_;refine Zz ?_;refine ZP [(34,.v (.int .i64 (↑o.length))),(35,.v (.bool true)),(39,.q [.v (.int .i64 (o[a]))]),(43,.q [.v (.int .i64 hk1),.v (.int .i64 x)]),(46,.v (.bool false))] ZM hnt fun K hK=>?_;refine And.intro (Zq (by rw[Zi])) ?_;refine And.intro YD ?_;refine And.intro (Xg (Zi o)) ?_;refine And.intro (Xh (YU o a) rfl) ?_;refine And.intro (⟨by omega,by rw[YL];omega⟩) ?_
        refine And.intro (Zn.of_eq (by rw[Int.toNat_natCast,hgk])) ?_;refine And.intro Xq ?_;refine hK _ _ (by kernel_rfl) ?_;clear hK K;refine Zy (t:=false) rfl ?_;rw[if_neg (by simp)];refine Zc ?_;refine Zz ?_;refine Zz ?_;refine ZP [(52,.v (.int .i64 (↑o.length))),(53,.v (.bool true)),(57,.q [.v (.int .i64 (o[a]))]),(61,.q [.v (.int .i64 hk1),.v (.int .i64 x)]),(64,.v (.bool true))] ZM hnt fun K hK=>?_
        refine And.intro (Zq (by rw[Zi])) ?_;refine And.intro YD ?_;refine And.intro (Xg (Zi o)) ?_;refine And.intro (Xh (YU o a) rfl) ?_;refine And.intro (⟨by omega,by rw[YL];omega⟩) ?_;refine And.intro (Zn.of_eq (by rw[Int.toNat_natCast,hgk])) ?_;refine And.intro (XU hex) ?_;refine hK _ _ (by kernel_rfl) ?_;clear hK K;refine Zy (t:=true) rfl ?_;rw[if_pos rfl]
        refine Zc ?_;refine Zx [(25,.v (.int .i64 (↑(k+1))))] ZM hnt fun K hK=>?_;refine And.intro XR ?_;refine hK _ _ ?_;clear hK K
        refine⟨⟨(k+1,o),hlk,by rw[hmk,←List.append_assoc];exact hsk⟩,by first | omega | (dsimp only;omega),VS.toA⟩
       ·have hput:=hr.put (x:=x) (a:=a) ha (fun q h=>hax q (by omega) h) (fun h=>⟨hxa,hex⟩)
        refine Zz ?_;refine Zz ?_;refine ZP [(34,.v (.int .i64 (↑o.length))),(35,.v (.bool true)),(39,.q [.v (.int .i64 (o[a]))]),(43,.q [.v (.int .i64 hk1),.v (.int .i64 x)]),(46,.v (.bool false))] ZM hnt fun K hK=>?_;refine And.intro (Zq (by rw[Zi])) ?_;refine And.intro YD ?_;refine And.intro (Xg (Zi o)) ?_;refine And.intro (Xh (YU o a) rfl) ?_;refine And.intro (⟨by omega,by rw[YL];omega⟩) ?_
        refine And.intro (Zn.of_eq (by rw[Int.toNat_natCast,hgk])) ?_;refine And.intro Xq ?_;refine hK _ _ (by kernel_rfl) ?_;clear hK K;refine Zy (t:=false) rfl ?_;rw[if_neg (by simp)];refine Zc ?_;refine Zz ?_;refine Zz ?_;refine ZP [(52,.v (.int .i64 (↑o.length))),(53,.v (.bool true)),(57,.q [.v (.int .i64 (o[a]))]),(61,.q [.v (.int .i64 hk1),.v (.int .i64 x)]),(64,.v (.bool false))] ZM hnt fun K hK=>?_
        refine And.intro (Zq (by rw[Zi])) ?_;refine And.intro YD ?_;refine And.intro (Xg (Zi o)) ?_;refine And.intro (Xh (YU o a) rfl) ?_;refine And.intro (⟨by omega,by rw[YL];omega⟩) ?_;refine And.intro (Zn.of_eq (by rw[Int.toNat_natCast,hgk])) ?_;refine And.intro (XT hex) ?_;refine hK _ _ (by kernel_rfl) ?_;clear hK K;refine Zy (t:=false) rfl ?_;rw[if_neg (by simp)]
        refine Zw ?_;refine Zz ?_;refine Zx [(69,.sl 1 (Y4 (o.take a)) none)] ZM hnt fun K hK=>?_;refine And.intro (⟨by omega,by rw[Zi];omega⟩) ?_;refine And.intro (Zn.of_eq (congrArg (D.sl 1 · none) (Qs o a))) ?_;refine And.intro (⟨rfl,by simp[Zi];omega⟩) ?_;refine hK _ _ ?_;clear hK K;refine Zz ?_;refine Zx [(74,.q [.v (.int .i64 hk1),.v (.int .i64 x)])] ZM hnt fun K hK=>?_
        refine And.intro (⟨by omega,by rw[YL];omega⟩) ?_;refine And.intro (Zn.of_eq (by rw[Int.toNat_natCast,hgk])) ?_;refine And.intro (⟨by simp[Zi],by simp[Zi];omega⟩) ?_;refine hK _ _ ?_;clear hK K;refine Zx [(82,.sl 1 (Y4 (o.drop a)) none),(83,.sl 1 (Y4 (o.take a++[x]++o.drop a)) none)] ZM hnt fun K hK=>?_;refine And.intro (⟨by omega,by rw[Zi];omega⟩) ?_
        refine And.intro (Zn.of_eq (congrArg (D.sl 1 · none) (Qq o a))) ?_;refine And.intro (⟨by simp[Zi],by simp[Zi];omega⟩) ?_;refine And.intro ((by rw[Wk,Wk];exact Zn.untag _ _ _)) ?_;refine hK _ _ ?_;clear hK K;refine Zx [(25,.v (.int .i64 (↑(k+1))))] ZM hnt fun K hK=>?_;refine And.intro XR ?_;refine hK _ _ ?_;clear hK K
        refine⟨⟨(k+1,o.take a++[x]++o.drop a),hlk,by rw[hmk,←List.append_assoc];exact hput⟩,by first | omega | (dsimp only;omega),VS.toA⟩
     ·have hput:=hr.put (x:=x) (a:=a) ha (fun q h=>hax q (by omega) h) (fun h=>absurd h hla)
      refine Zz ?_;refine Zz ?_;refine ZP [(34,.v (.int .i64 (↑o.length))),(35,.v (.bool false))] ZM hnt fun K hK=>?_;refine And.intro (Zq (by rw[Zi])) ?_;refine And.intro Xq ?_;refine hK _ _ (by kernel_rfl) ?_;clear hK K;refine Zy (t:=false) rfl ?_;rw[if_neg (by simp)];refine Zc ?_;refine Zz ?_;refine Zz ?_;refine ZP [(52,.v (.int .i64 (↑o.length))),(53,.v (.bool false))] ZM hnt fun K hK=>?_
      refine And.intro (Zq (by rw[Zi])) ?_;refine And.intro Xq ?_;refine hK _ _ (by kernel_rfl) ?_;clear hK K;refine Zy (t:=false) rfl ?_;rw[if_neg (by simp)];refine Zw ?_;refine Zz ?_;refine Zx [(69,.sl 1 (Y4 (o.take a)) none)] ZM hnt fun K hK=>?_;refine And.intro (⟨by omega,by rw[Zi];omega⟩) ?_;refine And.intro (Zn.of_eq (congrArg (D.sl 1 · none) (Qs o a))) ?_
      refine And.intro (⟨rfl,by simp[Zi];omega⟩) ?_;refine hK _ _ ?_;clear hK K;refine Zz ?_;refine Zx [(74,.q [.v (.int .i64 hk1),.v (.int .i64 x)])] ZM hnt fun K hK=>?_;refine And.intro (⟨by omega,by rw[YL];omega⟩) ?_;refine And.intro (Zn.of_eq (by rw[Int.toNat_natCast,hgk])) ?_;refine And.intro (⟨by simp[Zi],by simp[Zi];omega⟩) ?_;refine hK _ _ ?_;clear hK K
      refine Zx [(82,.sl 1 (Y4 (o.drop a)) none),(83,.sl 1 (Y4 (o.take a++[x]++o.drop a)) none)] ZM hnt fun K hK=>?_;refine And.intro (⟨by omega,by rw[Zi];omega⟩) ?_;refine And.intro (Zn.of_eq (congrArg (D.sl 1 · none) (Qq o a))) ?_;refine And.intro (⟨by simp[Zi],by simp[Zi];omega⟩) ?_;refine And.intro ((by rw[Wk,Wk];exact Zn.untag _ _ _)) ?_
      refine hK _ _ ?_;clear hK K;refine Zx [(25,.v (.int .i64 (↑(k+1))))] ZM hnt fun K hK=>?_;refine And.intro XR ?_;refine hK _ _ ?_;clear hK K
      refine⟨⟨(k+1,o.take a++[x]++o.drop a),hlk,by rw[hmk,←List.append_assoc];exact hput⟩,by first | omega | (dsimp only;omega),VS.toA⟩
    ·rw[if_neg h2,List.append_nil] at hmk;refine Zz ?_;refine Zz ?_;refine Zx [(22,.v (.int .i64 (↑hs.length))),(23,.v (.bool true))] ZM hnt fun K hK=>?_;refine And.intro (Zq (by rw[YL])) ?_;refine And.intro YD ?_;refine hK _ _ ?_;clear hK K;refine Zy (t:=true) rfl ?_;rw[if_pos rfl];refine Zw ?_;refine Zz ?_;refine Zt ?_;refine Zz ?_
     refine Zz ?_;refine Zx [(28,.q [.v (.int .i64 hk1),.v (.int .i64 x)]),(31,.v (.bool true))] ZM hnt fun K hK=>?_;refine And.intro (⟨by omega,by rw[YL];omega⟩) ?_;refine And.intro (Zn.of_eq (by rw[Int.toNat_natCast,hgk])) ?_;refine And.intro (Y6 h2) ?_;refine hK _ _ ?_;clear hK K;refine Zy (t:=true) rfl ?_;rw[if_pos rfl];refine Zc ?_;refine Zx [(25,.v (.int .i64 (↑(k+1))))] ZM hnt fun K hK=>?_
     refine And.intro XR ?_;refine hK _ _ ?_;clear hK K
     refine⟨⟨(k+1,o),hlk,by rw[hmk];exact hr⟩,by first | omega | (dsimp only;omega),VS.toA⟩
   ·rw[List.take_of_length_le (by omega)] at hr
    refine Zz ?_;refine Zz ?_;refine Zx [(22,.v (.int .i64 (↑hs.length))),(23,.v (.bool false))] ZM hnt fun K hK=>?_;refine And.intro (Zq (by rw[YL])) ?_;refine And.intro Xq ?_;refine hK _ _ ?_;clear hK K;refine Zy (t:=false) rfl ?_;rw[if_neg (by simp)];refine Zc ?_;refine Zx [(14,.v (.int .i64 (↑(i+1))))] ZM hnt fun K hK=>?_;refine And.intro XR ?_
    refine hK _ _ ?_;clear hK K
    refine⟨⟨(i+1,o),hlt,by rw[hmt];exact hr⟩,by first | omega | (dsimp only;omega),VS.toA⟩
  ·rw[List.take_of_length_le (by omega)] at hr
   rw[←hr.eq]
   refine Zz ?_;refine Zz ?_;refine Zx [(11,.v (.int .i64 (↑l.length))),(12,.v (.bool false))] ZM hnt fun K hK=>?_;refine And.intro (Zq (by rw[Zs])) ?_;refine And.intro Xq ?_;refine hK _ _ ?_;clear hK K;refine Zy (t:=false) rfl ?_;rw[if_neg (by simp)];refine Zc ?_;refine Zz ?_;refine Zx [] ZM hnt fun _ z9=>z9 _ _ ?_
   refine Zu ?_
   exact Zj rfl
def DR (x y:Int):Int:=if x<y then -1 else if y<x then 1 else 0
def Rq (a b:Int):Int:=if a=0 then b else a
@[simp] theorem A2 (b:Int):Rq 0 b=b:=by simp[Rq]
@[simp] theorem F4 (a:Int):Rq a 0=a:=by unfold Rq;split <;> simp_all
namespace Ty
mutual
def cmp:Ty→Ty→Int
 | .mk l b,.mk l' b'=>Rq (Rq (Rq (DR (Ty.sizes l+1:Nat) (Ty.sizes l'+1:Nat)) (DR (l.length:Nat) (l'.length:Nat))) (cmps l l')) (DR b b')
def cmps:List Ty→List Ty→Int
 | [],_=>0
 | _ :: _,[]=>0
 | t :: l,u :: l'=>Rq (cmp t u) (cmps l l')
end
@[simp] theorem cmps_nil (l:List Ty):cmps [] l=0:=by rw[cmps]
end Ty
namespace Tm
def cmpB (l l':List Ty):Int:=Rq (DR (l.length:Nat) (l'.length:Nat)) (Ty.cmps l l')
mutual
def cmp:Tm→Tm→Int
 | .mk b k i a,.mk b' k' i' a'=>Rq (DR (Tm.sizes a+1:Nat) (Tm.sizes a'+1:Nat)) (Rq (cmpB b b') (Rq (DR k k') (Rq (DR i i') (Rq (DR (a.length:Nat) (a'.length:Nat)) (cmps a a')))))
def cmps:List Tm→List Tm→Int
 | [],_=>0
 | _ :: _,[]=>0
 | t :: l,u :: l'=>Rq (cmp t u) (cmps l l')
end
@[simp] theorem cmps_nil (l:List Tm):cmps [] l=0:=by rw[cmps]
end Tm
namespace Ty
end Ty
set_option maxRecDepth 100000 in
theorem Ka:∀ t:Tm,∀ {F:Nat→Prop} {w0:World} {b k i a:Value} (_:Xv F w0 b k i a t) (w:World),t.size≤1000000→Keep F w0 w→Calls Tryz.prog 75 #[.agg #[b,k,i,a]] w (AA t.size w):=Tm.ind fun binds k0 i0 args ih=>by
 intro F w0 b k i a ht w hsz hw
 obtain⟨pa,pc,qa,qc,rfl,rfl,rfl,rfl⟩:=ht.shape
 simp only[Tm.binds,Tm.kind,Tm.index,Tm.args] at ht ⊢
 obtain⟨_,_,_,hsl⟩:=ht.inv
 simp only[Tm.args] at hsl
 obtain⟨_,hm,bl,off,PA,A,PN,PC,N',C,Kd,Ix,ha,h1,h2,h3,h4,h5⟩:=Ub hsl
 clear ht hsl hm
 have hlen:args.length≤1000000:=by have:=Tm.len_sizes args;rw[Tm.size_eq] at hsz;omega
 have Hsz:Hid (∀ i (h:i<args.length),args[i].size≤1000000∧Tm.sizes (args.take i)+args[i].size≤1000000):=fun i h=>by
  have:=Tm.sizes_take args i h;have:=Tm.sizes_take_le args (i+1);rw[Tm.size_eq] at hsz;omega
 have Hend:Hid ((Tm.mk binds k0 i0 args).size=Tm.sizes args+1):=Tm.size_eq _ _ _ _
 have Hih:=Lib.hid ih;clear ih hsz
 go_enter Tryz.func75,Tryz.ntmps75
 go_wp2_with fail
 go_loopw [3,4] (fun x i wr=>∃ k:Nat,i=.int .i64 k∧x=.int .i64 ((Tm.sizes (args.take k):Int)+1)∧k≤args.length∧Below w.heap.size w wr∧Blk wr w.heap.size #[.slice pa binds.length pc,.int .i64 k0,.int .i64 i0,.slice qa args.length qc] 31) (fun _ i _=>args.length-(intOf i).toNat)
 case atStart=>exact⟨0,rfl,rfl,by omega,(Below.refl _ _).alloc (Nat.le_refl _) _,Blk.new _ _ _ rfl⟩
 case round=>
  obtain⟨k,rfl,rfl,hk,hb,hbox⟩:=hrel
  have c0:wr.cell? ⟨w.heap.size,3,none⟩=some (.slice qa args.length qc):=hbox.cell rfl
  have hlt0:=hbox.lt
  by_cases hlt:k<args.length
  ·obtain⟨rfl,hF⟩:=ha (by omega)
   have e1:=(hw.below hb) _ _ _ hF (h1 k hlt)
   have e2:=(hw.below hb) _ _ _ hF (h2 k hlt)
   have e3:=(hw.below hb) _ _ _ hF (h3 k hlt)
   have e4:=(hw.below hb) _ _ _ hF (h4 k hlt)
   have hs:Tm.sizes (args.take k)≤1000000∧args[k].size≤1000000:=by have:=Hsz.out k hlt;omega
   go_wp2_with fail
   refine(Hih.out _ (List.getElem_mem hlt) (h5 k hlt) _ (Hsz.out k hlt).1 (hw.below hb)).mono ?_
   rintro e w1 ⟨rfl,hb1⟩
   go_wp2_with fail
   go_roundw
   case rel=>exact⟨k+1,by go_num,by rw[Tm.sizes_take _ _ hlt];go_num,by omega,hb.trans (hb1.mono (by omega)),hbox.below hb1⟩
   case measure=>simp[intOf];omega
  ·go_wp2_with fail
   go_ret
   refine⟨?_,hb⟩
   rw[Hend.out,List.take_of_length_le (by omega)];rfl
theorem Yd.bel {α:Type}{r:Rp α}{F:Nat→Prop}{w w':World}{v:Value}{l:List α}(h:Yd r F w v l)(hb:Below w.heap.size w w'):Yd r F w' v l:=h.keep ((Keep.refl _ _).below hb)
set_option maxRecDepth 100000 in
theorem E1:∀ t:Tm,∀ {F:Nat→Prop} {w0:World} {b k i a:Value} (_:Xv F w0 b k i a t) (w:World),t.size≤1000000→Keep F w0 w→Calls Tryz.prog 94 #[.agg #[b,k,i,a]] w (AA t.depth w):=Tm.ind fun binds k0 i0 args ih=>by
 intro F w0 b k i a ht w hsz hw
 obtain⟨pa,pc,qa,qc,rfl,rfl,rfl,rfl⟩:=ht.shape
 simp only[Tm.binds,Tm.kind,Tm.index,Tm.args] at ht ⊢
 obtain⟨_,_,_,hsl⟩:=ht.inv
 simp only[Tm.args] at hsl
 obtain⟨_,hm,bl,off,PA,A,PN,PC,N',C,Kd,Ix,ha,h1,h2,h3,h4,h5⟩:=Ub hsl
 clear ht hsl hm
 have hlen:args.length≤1000000:=by have:=Tm.len_sizes args;rw[Tm.size_eq] at hsz;omega
 have Hsz:Hid (∀ i (h:i<args.length),args[i].size≤1000000∧args[i].depth≤1000000∧Tm.depths (args.take i)≤1000000):=fun i h=>by
  have:=Tm.size_mem (List.getElem_mem h);rw[Tm.size_eq] at hsz
  have:=Tm.depth_le_size args[i]
  have:=Tm.depths_take_le args i
  have:=Tm.depth_le_size (.mk binds k0 i0 args)
  rw[Tm.depth_eq,Tm.size_eq] at this
  omega
 have Hend:Hid ((Tm.mk binds k0 i0 args).depth=Tm.depths args+1):=Tm.depth_eq _ _ _ _
 have Hend2:Hid (Tm.depths args≤1000000):=by show _≤_;have:=Tm.depth_le_size (.mk binds k0 i0 args);rw[Tm.depth_eq] at this;omega
 have Hih:=Lib.hid ih;clear ih hsz
 go_enter Tryz.func94,Tryz.ntmps94
 go_wp2_with fail
 go_loopw [3,4,5] (fun x i _ wr=>∃ k:Nat,i=.int .i64 k∧x=.int .i64 (Tm.depths (args.take k):Int)∧k≤args.length∧Below w.heap.size w wr∧Blk wr w.heap.size #[.slice pa binds.length pc,.int .i64 k0,.int .i64 i0,.slice qa args.length qc] 31) (fun _ i _ _=>args.length-(intOf i).toNat)
 case atStart=>exact⟨0,rfl,rfl,by omega,(Below.refl _ _).alloc (Nat.le_refl _) _,Blk.new _ _ _ rfl⟩
 case round=>
  obtain⟨k,rfl,rfl,hk,hb,hbox⟩:=hrel
  have c0:wr.cell? ⟨w.heap.size,3,none⟩=some (.slice qa args.length qc):=hbox.cell rfl
  have hlt0:=hbox.lt
  by_cases hlt:k<args.length
  ·obtain⟨rfl,hF⟩:=ha (by omega)
   have e1:=(hw.below hb) _ _ _ hF (h1 k hlt)
   have e2:=(hw.below hb) _ _ _ hF (h2 k hlt)
   have e3:=(hw.below hb) _ _ _ hF (h3 k hlt)
   have e4:=(hw.below hb) _ _ _ hF (h4 k hlt)
   have Ht:=Lib.hid (Tm.depths_take args k hlt)
   go_wp2_with fail
   refine(Hih.out _ (List.getElem_mem hlt) (h5 k hlt) _ (Hsz.out k hlt).1 (hw.below hb)).mono ?_
   rintro e w1 ⟨rfl,hb1⟩
   by_cases hg:(args[k].depth:Int)>(Tm.depths (args.take k):Int)
   ·go_wp2_with fail
    go_roundw
    case rel=>exact⟨k+1,by go_num,by rw[Ht.out,Nat.max_eq_right (by omega)],by omega,hb.trans (hb1.mono (by omega)),hbox.below hb1⟩
    case measure=>simp[intOf];omega
   ·go_wp2_with fail
    go_roundw
    case rel=>exact⟨k+1,by go_num,by rw[Ht.out,Nat.max_eq_left (by omega)],by omega,hb.trans (hb1.mono (by omega)),hbox.below hb1⟩
    case measure=>simp[intOf];omega
  ·have Hd:Hid (Tm.depths (args.take k)=Tm.depths args):=by show _=_;rw[List.take_of_length_le (by omega)]
   have hd2:(Tm.depths (args.take k):Int)≤1000000:=by have:=Hd.out;have:=Hend2.out;omega
   go_wp2_with fail
   go_ret
   refine⟨?_,hb⟩
   rw[Hend.out,←Hd.out];rfl
set_option maxRecDepth 100000 in
theorem CW {F:Nat→Prop}{w:World}{b k i a:Value}{t:Tm}(ht:Xv F w b k i a t)(hz:t.size≤1000000):Calls Tryz.prog 61 #[.agg #[b,k,i,a]] w (Kg (t.size≤5000∧t.depth≤60) w):=by
 have Hs:=Lib.hid fun(w':World) (hb:Below w.heap.size w w')=>Ka t ht w' hz ((Keep.refl _ _).below hb)
 have Hd:=Lib.hid fun(w':World) (hb:Below w.heap.size w w')=>E1 t ht w' hz ((Keep.refl _ _).below hb)
 obtain⟨t_pa,t_pc,t_qa,t_qc,rfl,rfl,rfl,rfl⟩:=ht.shape
 obtain⟨t_n,ht_n⟩:∃ x,t.binds.length=x:=⟨_,rfl⟩
 obtain⟨t_m,ht_m⟩:∃ x,t.args.length=x:=⟨_,rfl⟩
 obtain⟨t_k,ht_k⟩:∃ x,t.kind=x:=⟨_,rfl⟩
 obtain⟨t_i,ht_i⟩:∃ x,t.index=x:=⟨_,rfl⟩
 rw[ht_n,ht_m,ht_k,ht_i] at ht ⊢
 have Et_n:=Lib.hid ht_n
 have Et_m:=Lib.hid ht_m
 have Et_k:=Lib.hid ht_k
 have Et_i:=Lib.hid ht_i
 clear ht_n ht_m ht_k ht_i
 clear ht
 obtain⟨z,hzz⟩:∃ z,t.size=z:=⟨_,rfl⟩
 obtain⟨d,hdd⟩:∃ d,t.depth=d:=⟨_,rfl⟩
 rw[hzz] at Hs ⊢
 rw[hdd] at Hd ⊢
 rw[Et_n.out,Et_m.out,Et_k.out,Et_i.out] at Hs Hd
 clear hzz hdd hz
 go_enter Tryz.func61,Tryz.ntmps61
 go_wp2_with fail
 have hb1:Below w.heap.size w (w.alloc (.cells #[.slice t_pa t_n t_pc,.int .i64 t_k,.int .i64 t_i,.slice t_qa t_m t_qc] 31)):=(Below.refl _ _).alloc (Nat.le_refl _) _
 have x1:Blk (w.alloc (.cells #[.slice t_pa t_n t_pc,.int .i64 t_k,.int .i64 t_i,.slice t_qa t_m t_qc] 31)) w.heap.size #[.slice t_pa t_n t_pc,.int .i64 t_k,.int .i64 t_i,.slice t_qa t_m t_qc] 31:=Blk.new _ _ _ rfl
 refine(Hs.out _ hb1).mono ?_
 rintro e w1 ⟨rfl,hb2⟩
 have B1:=hb1.trans (hb2.mono hb1.size)
 have x2:=x1.below hb2
 clear hb1 hb2 x1
 by_cases h:z≤5000
 ·have h':(z:Int)≤5000:=by omega
  have c0:w1.cell? ⟨w.heap.size,0,none⟩=some (.slice t_pa t_n t_pc):=x2.cell rfl
  have c1:w1.cell? ⟨w.heap.size,1,none⟩=some (.int .i64 t_k):=x2.cell rfl
  have c2:w1.cell? ⟨w.heap.size,2,none⟩=some (.int .i64 t_i):=x2.cell rfl
  have c3:w1.cell? ⟨w.heap.size,3,none⟩=some (.slice t_qa t_m t_qc):=x2.cell rfl
  have l0:=x2.lt
  go_wp2_with fail
  refine(Hd.out _ B1).mono ?_
  rintro e w2 ⟨rfl,hb3⟩
  go_wp2_with fail
  go_ret
  exact⟨_,by simp;omega,rfl,B1.trans (hb3.mono B1.size)⟩
 ·have h':¬ (z:Int)≤5000:=by omega
  have h2:decide ((z:Int)≤5000)=false:=by simpa using h'
  go_wp2_with fail
  go_ret
  exact⟨_,by simp;omega,rfl,B1⟩
def Yt (C M:List Ty)(t:Tm)(X:List Ty)(u:Ty)(c:Int):Prop:=(¬ (t.size≤5000∧t.depth≤60)∧c=2)∨((t.size≤5000∧t.depth≤60)∧¬ X1 C M t X u∧c=5)∨((t.size≤5000∧t.depth≤60)∧X1 C M t X u∧c=0)
theorem Uo (t:Tm)(hz:t.size≤1000000):Zd Tryz.prog 61 [.ag (eTm t)] (.v (.bool (Li.rt t))):=by
 refine Wn (by kernel_rfl) fun m Im w vs hv=>?_
 match vs,hv with
 | [x],hv=>
  obtain⟨b,k,i,a,rfl,ht⟩:=Ax hv.1
  refine(CW ht hz).mono ?_
  rintro e w' ⟨b,hb,rfl,h2⟩
  have:b=Li.rt t:=by
   unfold Li.rt
   by_cases hp:t.size≤5000∧t.depth≤60
   ·rw[hb.2 hp];simp[hp]
   ·have:b=false:=by
     cases b with
     | false=>rfl
     | true=>exact absurd (hb.1 rfl) hp
    rw[this];simp[hp]
  subst this
  exact⟨_,rfl,h2,fun Im' _ hI=>.v _⟩
theorem FZ (l:List Tm)(h:∀ t∈l,t.Fit):XX l=Yj l:=by
 unfold XX Yj
 induction l with
 | nil=>rfl
 | cons t l ih=>
  rw[List.flatMap_cons,List.flatMap_cons,ih fun u hu=>h u (by simp[hu]),PU t (h t (by simp))]
theorem Fq (l:List Tm)(hl:l.length≤9)(hz:∀ t∈l,t.full≤90000)(hf:∀ t∈l,t.Fit):Zd Tryz.prog 57 [.sl 4 (eTms l) none] (.sl 1 (Y4 (X3 (Yj l))) none):=by
 have h:=Fc l hl hz hf
 rw[FZ l hf] at h
 exact h
namespace Li
def bad (M:List Ty)(x:Int):Bool:=decide (x<0∨(M.length:Int)≤x)
end Li
def WB (bases:Int)(t:Ty):Prop:=t.size≤1000∧t.depth≤60∧Ty.Low bases t
set_option maxRecDepth 100000 in
theorem TF {F:Nat→Prop}{w:World}{s d:Value}{t:Ty}{b:Int}{B:Nat}(ht:Xi F w s d t)(hz:t.size≤400000)(hB:w.cell? ⟨B,0,none⟩=some (.int .i64 b)):
  Calls Tryz.prog 106 #[.agg #[s,d],.pointer (some ⟨B,0,none⟩)] w (Kg (¬ WB b t) w):=by
 have Hr:=Lib.hid fun(w':World) (hb:Below w.heap.size w w')=>DO (ht.bel hb) b (by omega)
 obtain⟨a,c,rfl,rfl⟩:=ht.shape
 clear ht
 obtain⟨n1,hn1⟩:∃ n,t.args.length=n:=⟨_,rfl⟩
 obtain⟨n2,hn2⟩:∃ n,t.base=n:=⟨_,rfl⟩
 rw[hn1,hn2] at Hr ⊢
 clear hn1 hn2
 have hl:=Keep.lt hB
 go_enter Tryz.func106,Tryz.ntmps106
 go_wp2_with fail
 have hb1:Below w.heap.size w (w.alloc (.cells #[.slice a n1 c,.int .i64 n2] 106)):=(Below.refl _ _).alloc (Nat.le_refl _) _
 refine(Hr.out _ hb1).mono ?_
 intro e w2 h
 obtain⟨r,Hq,rfl,hb2⟩:=Ti h
 clear h
 go_wp2_with fail
 go_ret
 exact⟨_,by have:=Hq.out;unfold WB;cases r <;> simp_all,rfl,hb1.trans (hb2.mono hb1.size)⟩
set_option maxRecDepth 100000 in
theorem RI {G F:Nat→Prop}{w:World}{v:Value}{l:List Ty}{b:Int}{B:Nat}(h:IsSl2 YO G F w v l)(hz:∀ t∈l,t.size≤400000)(hB:w.cell? ⟨B,0,none⟩=some (.int .i64 b)):
  Calls Tryz.prog 128 #[v,.func (.func 106) #[] #[.pointer (some ⟨B,0,none⟩)]] w fun e w'=>∃ i:Int,Hid (0≤i↔∃ t∈l,¬ WB b t)∧e=.returned (.int .i64 i)∧Below w.heap.size w w':=by
 obtain⟨a,c,rfl⟩:=h.shape
 have Hat:=Lib.hid (Ai h)
 have hl:(l.length:Int)≤9223372036854775807:=by obtain⟨_,_,_,_,_,_,hm,_⟩:=h;unfold maxLen at hm;omega
 clear h
 have Hz:=Lib.hid hz;clear hz
 go_enter Tryz.func128,Tryz.ntmps128
 go_wp2_with fail
 go_loopw [5,8] (fun _ i wr=>∃ k:Nat,i=.int .i64 k∧k≤l.length∧Hid (∀ m (h:m<l.length),m<k→WB b l[m])∧Below w.heap.size w wr) (fun _ i _=>l.length-(intOf i).toNat)
 case atStart=>exact⟨0,rfl,by omega,fun m _ h=>absurd h (by omega),Below.refl _ _⟩
 case round=>
  obtain⟨k,rfl,hk,hrel,hb⟩:=hrel
  by_cases hlt:k<l.length
  ·obtain⟨bl,off,A,N,C,Bb,rfl,_,e1,e2,hT⟩:=Hat.out k hlt
   have hkx:Keep (fun _=>True) w wr:=(Keep.refl _ _).below hb
   have e1:=hkx _ _ _ trivial e1
   have e2:=hkx _ _ _ trivial e2
   have HT:=Lib.hid (hT.bel hb);clear hT
   have i1:(k:Int)<(l.length:Int):=by omega
   have HB:=Lib.hid (hkx _ _ _ trivial hB)
   clear hkx
   go_wp2_with fail
   refine(TF HT.out (Hz.out _ (List.getElem_mem hlt)) HB.out).mono ?_
   intro e w2 h
   obtain⟨r,Hq,rfl,hb2⟩:=Ti h
   clear h e1 e2
   cases r
   ·have Hq2:=Lib.hid (A6 Hq.out)
    go_wp2_with fail
    go_roundw
    case rel=>exact⟨k+1,by go_num,by omega,fun m h hm=>by
     by_cases hmk:m<k
     ·exact hrel.out m h hmk
     ·obtain rfl:m=k:=by omega
      exact Classical.not_not.1 Hq2.out,hb.trans (hb2.mono hb.size)⟩
    case measure=>simp[intOf];omega
   ·have Hq2:=Lib.hid (CK Hq.out)
    go_wp2_with fail
    go_ret
    exact⟨_,⟨fun _=>⟨_,List.getElem_mem hlt,Hq2.out⟩,fun _=>by omega⟩,rfl,hb.trans (hb2.mono hb.size)⟩
  ·go_wp2_with fail
   go_ret
   refine⟨_,⟨fun h=>absurd h (by omega),fun⟨t,ht,hn⟩=>?_⟩,rfl,hb⟩
   obtain⟨m,hm,rfl⟩:=List.getElem_of_mem ht
   exact absurd (hrel.out m hm (by omega)) hn
set_option maxRecDepth 100000 in
theorem TO {G F:Nat→Prop}{w:World}{v:Value}{l:List Ty}{b:Int}{B:Nat}(h:IsSl2 YO G F w v l)(hz:∀ t∈l,t.size≤400000)(hB:w.cell? ⟨B,0,none⟩=some (.int .i64 b)):
  Calls Tryz.prog 104 #[v,.func (.func 106) #[] #[.pointer (some ⟨B,0,none⟩)]] w (Kg (∃ t∈l,¬ WB b t) w):=by
 have Hi:=Lib.hid (RI h hz hB)
 obtain⟨a,c,rfl⟩:=h.shape
 clear h hz hB
 go_enter Tryz.func104,Tryz.ntmps104
 go_wp2_with fail
 refine Hi.out.mono ?_
 rintro e w1 ⟨i,hi,rfl,hb⟩
 go_wp2_with fail
 go_ret
 exact⟨_,by rw[←hi.out];simp,rfl,hb⟩
def XH (b:Int)(C M:List Ty):Prop:=C.length+M.length≤1000∧∀ t∈C++M,WB b t
set_option maxRecDepth 100000 in
set_option maxHeartbeats 1000000 in
theorem Rr {F:Nat→Prop}{w:World}{b:Int}{cv mv:Value}{C M:List Ty}(hc:Yd YO F w cv C)(hm:Yd YO F w mv M)(hz:∀ t∈C++M,t.size≤400000):
  Calls Tryz.prog 80 #[.agg #[.int .i64 b,cv,mv]] w (Kg (XH b C M) w):=by
 obtain⟨ca,cc,rfl⟩:=hc.shape
 obtain⟨ma,mc,rfl⟩:=hm.shape
 have hlc:(C.length:Int)≤9223372036854775807:=by obtain⟨_,_,_,_,_,_,h,_⟩:=hc;unfold maxLen at h;omega
 have hlm:(M.length:Int)≤9223372036854775807:=by obtain⟨_,_,_,_,_,_,h,_⟩:=hm;unfold maxLen at h;omega
 have Hc:=Lib.hid hc;have Hm:=Lib.hid hm;have Hz:=Lib.hid hz
 clear hc hm hz
 by_cases g1:(1000:Int)<(C.length:Int)
 ·skip
  go_enter Tryz.func80,Tryz.ntmps80
  go_wp2_with fail
  go_ret
  exact⟨false,by unfold XH;simp;omega,rfl,(Below.refl _ _).alloc (Nat.le_refl _) _⟩
 have hq:IntKind.i64.wrap (1000-(C.length:Int))=1000-(C.length:Int):=IntWalk.i64_in _ (by omega)
 by_cases g2:1000-(C.length:Int)<(M.length:Int)
 ·skip
  go_enter Tryz.func80,Tryz.ntmps80
  go_wp2_with fail
  go_ret
  exact⟨false,by unfold XH;simp;omega,rfl,(Below.refl _ _).alloc (Nat.le_refl _) _⟩
 go_enter Tryz.func80,Tryz.ntmps80
 go_wp2_with fail
 obtain⟨w2,hw2⟩:∃ w2,(w.alloc (.cells #[.int .i64 b,.slice ca C.length cc,.slice ma M.length mc] 43)).alloc (.cells #[.slice ca C.length cc,.slice ma M.length mc] 41)=w2:=⟨_,rfl⟩
 have B2:Below w.heap.size w w2:=by rw[←hw2];exact((Below.refl _ _).alloc (Nat.le_refl _) _).alloc (by simp) _
 have x0:Blk w2 w.heap.size #[.int .i64 b,.slice ca C.length cc,.slice ma M.length mc] 43:=by rw[←hw2];exact(Blk.new _ _ _ rfl).alloc _
 have x1:Blk w2 (w.heap.size+1) #[.slice ca C.length cc,.slice ma M.length mc] 41:=by rw[←hw2];exact Blk.new _ _ _ (by simp)
 rw[hw2]
 clear hw2
 refine(Qo x1 (IsSl2.of (Hc.out.bel B2)) (IsSl2.of (Hm.out.bel B2)) (by omega)).mono ?_
 rintro e w3 ⟨a3,c3,rfl,hT,hb3⟩
 have HT:=Lib.hid hT;clear hT
 have x0':=x0.below hb3
 have B3:=B2.trans (hb3.mono B2.size)
 obtain⟨Y,hY⟩:∃ Y,C++M=Y:=⟨_,rfl⟩
 have HY:=Lib.hid hY
 rw[hY] at HT Hz ⊢
 clear hY
 go_wp2_with fail
 refine(TO HT.out Hz.out (x0'.cell rfl)).mono ?_
 intro e w4 h
 obtain⟨r,Hq,rfl,hb4⟩:=Ti h
 clear h
 go_wp2_with fail
 go_ret
 refine⟨_,?_,rfl,B3.trans (hb4.mono B3.size)⟩
 have h2:(r=true↔∃ t∈Y,¬ WB b t):=Hq.out
 have h3:C.length+M.length≤1000:=by omega
 unfold XH
 rw[HY.out]
 cases r
 ·simp only[Bool.not_false,true_iff]
  refine⟨h3,fun t ht=>Classical.not_not.1 fun hn=>?_⟩
  exact absurd (h2.2 ⟨t,ht,hn⟩) (by simp)
 ·simp only[Bool.not_true,Bool.false_eq_true,false_iff]
  rintro⟨_,h⟩
  obtain⟨t,ht,hn⟩:=h2.1 rfl
  exact hn (h t ht)
section
variable {w:World} {b:Int} {cv mv xv tb tk ti ta s ub:Value} {C M X:List Ty} {t:Tm} {u:Ty}
end
theorem BV {F:Nat→Prop}{w:World}{v:Value}{l:List Ty}(h:Yd YO F w v l):Yd YO (fun _=>True) w v l:=h.weaken (by decide) fun _ _ _=>trivial
theorem CT {m:Mp}{Im:Nat→Nat→Prop}{w:World}{v:Value}{l:List Ty}(h:ZD m Im w v (.sl 2 (eTys l) none)):Yd YO (fun _=>True) w v l:=
 BV (Uc (r:=YO) (e:=eTy) We (fun x t hx _=>TB t hx) (by decide) (by rw[Xw] at h;exact h))
theorem C8 {m:Mp}{Im:Nat→Nat→Prop}{w:World}{x:Value}{b:Int}{C M:List Ty}(h:ZD m Im w x (.ag [.v (.int .i64 b),.sl 2 (eTys C) none,.sl 2 (eTys M) none])):∃ cv mv,x=.agg #[.int .i64 b,cv,mv]∧Yd YO (fun _=>True) w cv C∧Yd YO (fun _=>True) w mv M:=by
 obtain⟨cs,rfl,hr⟩:=XY.1 h
 match cs,hr with
 | [x,y,z],hr=>
  have:=ZA.1 hr.1;subst this
  exact⟨y,z,rfl,CT hr.2.1,CT hr.2.2.1⟩
def TC9_3:TI:=⟨1,false,[Value.int IntKind.i64 0],[],none,8,2,none,false⟩
theorem Df:TypOk Tryz.prog 3 TC9_3:=by constructor <;> kernel_rfl
def TC9_104:TI:=⟨2,true,[Value.slice none 0 0,Value.int IntKind.i64 0],[(0,1,false),(1,1,false)],none,32,6,none,false⟩
theorem NB:TypOk Tryz.prog 104 TC9_104:=by constructor <;> kernel_rfl
def TC9_28:TI:=⟨2,true,[Value.int IntKind.i64 0,Value.int IntKind.i64 0],[(0,1,false),(1,1,false)],none,16,6,none,true⟩
theorem Gk:TypOk Tryz.prog 28 TC9_28:=by constructor <;> kernel_rfl
def TC9_22:TI:=⟨1,false,[Value.slice none 0 0],[],some 104,24,5,none,false⟩
theorem Gi:TypOk Tryz.prog 22 TC9_22:=by constructor <;> kernel_rfl
def TC9_24:TI:=⟨3,true,[Value.int IntKind.i64 0,Value.slice none 0 0,Value.slice none 0 0],[(0,1,false),(1,1,false),(2,1,false)],none,56,6,none,false⟩
theorem Gj:TypOk Tryz.prog 24 TC9_24:=by constructor <;> kernel_rfl
def TC9_72:TI:=⟨1,false,[Value.slice none 0 0],[],some 130,24,5,none,false⟩
theorem Gl:TypOk Tryz.prog 72 TC9_72:=by constructor <;> kernel_rfl
def TC9_130:TI:=⟨5,true,[Value.int IntKind.i64 0,Value.slice none 0 0,Value.int IntKind.i64 0,Value.int IntKind.i64 0,Value.slice none 0 0],[(0,1,false),(1,4,true)],none,72,6,none,false⟩
theorem NC:TypOk Tryz.prog 130 TC9_130:=by constructor <;> kernel_rfl
def TC9:List (Nat×TI):=[(3,TC9_3),(104,TC9_104),(28,TC9_28),(22,TC9_22),(24,TC9_24),(72,TC9_72),(130,TC9_130)]
theorem W5:Zh Tryz.prog TC9:=((((((((Zh.nil _).cons NC).cons Gl).cons Gj).cons Gi).cons Gk).cons NB).cons Df)
theorem Xe:eTy tyZ=[.sl 2 [] none,.v (.int .i64 0)]:=rfl
set_option maxHeartbeats 1000000 in
theorem Fw (l:List (Int×Tm))(hl:l.length≤1000000):Zd Tryz.prog 92 [.sl 5 (Z1 l) none] (.v (.bool (Sb.right l))):=by
 refine Z9 0 22 [ResultVar.tmp 2] W5 (by kernel_rfl) Tryz.func92 rfl Tryz.ntmps92 rfl (by simp) ?dwords ?dbody
 case dwords=>simp[ZF,D.ok,D.oks,ZQ,Yb]
 case dbody=>
  intro cx hnt hn0
  refine Zz ?_;refine Zx [] W5 hnt fun _ z9=>z9 _ _ ?_;refine Zz (Zz ?_);refine Zx [] W5 hnt fun _ z9=>z9 _ _ ?_;refine Zt ?_
  refine Z4 (ι:={ j:Nat // ∀ i (_:0<i) (h2:i<l.length),i<j+1→(l[i-1]'(by omega)).1<l[i].1 }) (fun j=>[(.t 0,.sl 5 (Z1 l) none),(.t 3,.v (.int .i64 ((j.1:Int)+1)))]) 2 (fun j=>l.length-j.1) ⟨0,fun i h1 h2 h3=>by omega⟩ VS.toA fun j=>?_
  obtain⟨j,hj⟩:=j
  dsimp only
  refine Zz (Zz ?_)
  by_cases hlt:j+1<l.length
  ·skip
   refine Zx [(7,.v (.bool true))] W5 hnt fun K hK=>?_;refine And.intro (ZZ (by rw[Zk];omega)) ?_;refine hK _ _ ?_;clear hK K;refine Zy (t:=true) rfl ?_;rw[if_pos rfl];refine Zw ?_;refine Zz (Zt (Zz ?_))
   by_cases hc:l[j].1<l[j+1].1
   ·skip
    refine ZP [(12,.v (.int .i64 (j:Int))),(13,.q [.v (.int .i64 l[j].1),.sl 2 (eTys l[j].2.binds) none,.v (.int .i64 l[j].2.kind),.v (.int .i64 l[j].2.index),.sl 4 (eTms l[j].2.args) none]),(18,.q [.v (.int .i64 l[j+1].1),.sl 2 (eTys l[j+1].2.binds) none,.v (.int .i64 l[j+1].2.kind),.v (.int .i64 l[j+1].2.index),.sl 4 (eTms l[j+1].2.args) none]),(21,.v (.bool false))] W5 hnt fun K hK=>?_
    refine And.intro (Zq (by rw[IntWalk.i64_in _ (by omega)];omega)) ?_;refine And.intro (⟨by omega,by rw[Zk];omega⟩) ?_;refine And.intro (Zn.of_eq (by rw[Int.toNat_natCast,ZT l j (by omega),ZK])) ?_;refine And.intro (⟨by omega,by rw[Zk];omega⟩) ?_;refine And.intro (Zn.of_eq (by rw[show ((j:Int)+1).toNat=j+1 by omega,ZT l (j+1) hlt,ZK])) ?_
    refine And.intro (Zf (by omega)) ?_;refine hK _ _ (by kernel_rfl) ?_;clear hK K;refine Zy (t:=false) rfl ?_;rw[if_neg (by simp)];refine Zw ?_;refine Zx [(9,.v (.int .i64 (((j+1:Nat):Int)+1)))] W5 hnt fun K hK=>?_;refine And.intro (Zq (by rw[IntWalk.i64_in _ (by omega)];omega)) ?_;refine hK _ _ ?_;clear hK K
    refine⟨⟨j+1,fun i h1 h2 h3=>?_⟩,by dsimp only;omega,VS.toA⟩
    by_cases he:i=j+1
    ·subst he;simpa using hc
    ·exact hj i h1 h2 (by omega)
   ·have hr:Sb.right l=false:=Sn (i:=j+1) (by omega) hlt (by simpa using hc)
    rw[hr]
    refine ZP [(12,.v (.int .i64 (j:Int))),(13,.q [.v (.int .i64 l[j].1),.sl 2 (eTys l[j].2.binds) none,.v (.int .i64 l[j].2.kind),.v (.int .i64 l[j].2.index),.sl 4 (eTms l[j].2.args) none]),(18,.q [.v (.int .i64 l[j+1].1),.sl 2 (eTys l[j+1].2.binds) none,.v (.int .i64 l[j+1].2.kind),.v (.int .i64 l[j+1].2.index),.sl 4 (eTms l[j+1].2.args) none]),(21,.v (.bool true))] W5 hnt fun K hK=>?_
    refine And.intro (Zq (by rw[IntWalk.i64_in _ (by omega)];omega)) ?_;refine And.intro (⟨by omega,by rw[Zk];omega⟩) ?_;refine And.intro (Zn.of_eq (by rw[Int.toNat_natCast,ZT l j (by omega),ZK])) ?_;refine And.intro (⟨by omega,by rw[Zk];omega⟩) ?_;refine And.intro (Zn.of_eq (by rw[show ((j:Int)+1).toNat=j+1 by omega,ZT l (j+1) hlt,ZK])) ?_
    refine And.intro (ZZ (by omega)) ?_;refine hK _ _ (by kernel_rfl) ?_;clear hK K;refine Zy (t:=true) rfl ?_;rw[if_pos rfl];refine Zz ?_;refine Zx [] W5 hnt fun _ z9=>z9 _ _ ?_;refine Zu ?_
    exact Yq (N:=0) (.inr rfl) rfl (Zn.refl _) trivial
  ·have hr:Sb.right l=true:=R5 fun i h1 h2=>hj i h1 h2 (by omega)
   rw[hr]
   refine Zx [(7,.v (.bool false))] W5 hnt fun K hK=>?_;refine And.intro (Zf (by rw[Zk];omega)) ?_;refine hK _ _ ?_;clear hK K;refine Zy (t:=false) rfl ?_;rw[if_neg (by simp)];refine Zc ?_;refine Zz ?_;refine Zx [] W5 hnt fun _ z9=>z9 _ _ ?_;refine Zu ?_
   exact Yq (N:=0) (.inr rfl) rfl (Zn.refl _) trivial
def TRT6_106:TI:=⟨2,true,[Value.slice none 0 0,Value.int IntKind.i64 0],[(0,1,false),(1,1,false)],none,32,6,none,false⟩
theorem Q0:TypOk Tryz.prog 106 TRT6_106:=by constructor <;> kernel_rfl
def TRT6_41:TI:=⟨1,false,[Value.slice none 0 0],[],some 106,24,5,none,false⟩
theorem OK:TypOk Tryz.prog 41 TRT6_41:=by constructor <;> kernel_rfl
def TRT6_3:TI:=⟨1,false,[Value.int IntKind.i64 0],[],none,8,2,none,false⟩
theorem I6:TypOk Tryz.prog 3 TRT6_3:=by constructor <;> kernel_rfl
def TRT6_62:TI:=⟨4,true,[Value.slice none 0 0,Value.int IntKind.i64 0,Value.int IntKind.i64 0,Value.slice none 0 0],[(0,1,false),(1,2,true),(3,1,false)],none,64,6,none,false⟩
theorem OO:TypOk Tryz.prog 62 TRT6_62:=by constructor <;> kernel_rfl
def TRT6_43:TI:=⟨3,true,[Value.int IntKind.i64 0,Value.slice none 0 0,Value.slice none 0 0],[(0,1,false),(1,1,false),(2,1,false)],none,56,6,none,false⟩
theorem OL:TypOk Tryz.prog 43 TRT6_43:=by constructor <;> kernel_rfl
def TRT6_59:TI:=⟨2,true,[Value.int IntKind.i64 0,Value.int IntKind.i64 0],[(0,1,false),(1,1,false)],none,16,6,none,true⟩
theorem OM:TypOk Tryz.prog 59 TRT6_59:=by constructor <;> kernel_rfl
def TRT6_60:TI:=⟨1,false,[Value.slice none 0 0],[],some 62,24,5,none,false⟩
theorem ON:TypOk Tryz.prog 60 TRT6_60:=by constructor <;> kernel_rfl
def TRT6_217:TI:=⟨1,false,[Value.slice none 0 0],[],some 41,24,5,none,false⟩
theorem Qb:TypOk Tryz.prog 217 TRT6_217:=by constructor <;> kernel_rfl
def TRT6_143:TI:=⟨1,false,[Value.nilFunc],[],none,8,8,none,false⟩
theorem Qa:TypOk Tryz.prog 143 TRT6_143:=by constructor <;> kernel_rfl
def TRT6:List (Nat×TI):=[(106,TRT6_106),(41,TRT6_41),(3,TRT6_3),(62,TRT6_62),(43,TRT6_43),(59,TRT6_59),(60,TRT6_60),(217,TRT6_217),(143,TRT6_143)]
theorem Zp:Zh Tryz.prog TRT6:=((((((((((Zh.nil _).cons Qa).cons Qb).cons ON).cons OM).cons OL).cons OO).cons I6).cons OK).cons Q0)
def GO (C M:List Ty)(t:Tm):Option Ty:=(Yg C M ([]++t.binds) t.kind t.index).map fun h=>.mk t.binds h.base
theorem KT {C M X:List Ty}{b:List Ty}{k i:Int}{a:List Tm}{u:Ty}(h:∀ x,Yg C M (X++b) k i=some x→b=u.args→x.base=u.base→x.args.length=a.length→False):¬ X1 C M (.mk b k i a) X u:=fun hi=>by
 obtain⟨h1,x,h2,h3,h4⟩:=SI.1 hi
 exact h x h2 h1 h3 (Wt.1 h4).1
theorem Rm (l r:List Ty)(h:l.length+r.length≤800000):Zd Tryz.prog 109 [.sl 2 (eTys l) none,.sl 2 (eTys r) none] (.sl 2 (eTys (l++r)) none):=by
 have hcat:=Qp [l,r] (by simp[lens];omega) (by simp)
 simp only[List.flatten_cons,List.flatten_nil,List.append_nil] at hcat
 refine Zm 0 9 [ResultVar.tmp 4] Zp Tryz.func109 rfl Tryz.ntmps109 rfl fun cx hnt hn0=>?_
 ·skip
  refine Zz ?_;refine Zx [] Zp hnt fun _ z9=>z9 _ _ ?_;refine Zz ?_;refine Zx [(7,.sl 1 (VR [l,r]) none)] Zp hnt fun K hK=>?_;refine And.intro (Zn.untag _ _ _) ?_;refine Ze (hcat) ?_;refine hK _ _ ?_;clear hK K;refine Zu ?_
  exact Zj rfl
set_option maxHeartbeats 2000000 in
theorem Rj (b:Int)(C M X:List Ty)(k i:Int)(hi:i≤9223372036854775807)(hC:C.length≤1000000)(hM:M.length≤1000000)(hX:X.length≤1000000):Zd Tryz.prog 108 [.ag [.v (.int .i64 b),.sl 2 (eTys C) none,.sl 2 (eTys M) none],.sl 2 (eTys X) none,.ag [.v (.int .i64 k),.v (.int .i64 i)]] (.tu [.ag (eTy ((Yg C M X k i).getD tyZ)),.v (.bool (Yg C M X k i).isSome)]):=by
 by_cases k1:k=1
 ·skip
  subst k1
  by_cases hn:i<0
  ·rw[WL hn]
   simp only[Option.getD_none,Option.isSome_none]
   rw[Xe]
   refine Zm 0 51 [ResultVar.cell 6 106,ResultVar.tmp 7] Zp Tryz.func108 rfl Tryz.ntmps108 rfl fun cx hnt hn0=>?_
   ·skip
    refine Zz ?_;refine Zx [] Zp hnt fun _ z9=>z9 _ _ ?_;refine Zz ?_;refine Zx [] Zp hnt fun _ z9=>z9 _ _ ?_;refine Zz ?_;refine Zx [] Zp hnt fun _ z9=>z9 _ _ ?_;refine Zz ?_;refine Zz ?_;refine Zx [] Zp hnt fun _ z9=>z9 _ _ ?_;refine Zt ?_;refine Zz ?_
    refine Zx [(21,.v (.bool true))] Zp hnt fun K hK=>?_;refine And.intro (Zn.refl _) ?_;refine hK _ _ ?_;clear hK K;refine Zy (t:=true) rfl ?_;rw[if_pos rfl];refine ZP [] Zp hnt fun K hK=>?_;refine hK _ _ (by kernel_rfl) ?_;clear hK K;refine Zz ?_;refine Zz ?_;refine Zx [(39,.v (.bool true))] Zp hnt fun K hK=>?_;refine And.intro YD ?_;refine hK _ _ ?_;clear hK K
    refine Zy (t:=true) rfl ?_;rw[if_pos rfl];refine Zz ?_;refine Zx [] Zp hnt fun _ z9=>z9 _ _ ?_;refine Zu ?_
    exact Zj rfl
  ·obtain⟨n,rfl⟩:=Int.eq_ofNat_of_zero_le (Int.not_lt.1 hn)
   rw[RC]
   by_cases hl:n<C.length
   ·rw[List.getElem?_eq_getElem hl]
    simp only[Option.getD_some,Option.isSome_some]
    rw[Zb]
    refine Zm 0 51 [ResultVar.cell 6 106,ResultVar.tmp 7] Zp Tryz.func108 rfl Tryz.ntmps108 rfl fun cx hnt hn0=>?_
    ·skip
     refine Zz ?_;refine Zx [] Zp hnt fun _ z9=>z9 _ _ ?_;refine Zz ?_;refine Zx [] Zp hnt fun _ z9=>z9 _ _ ?_;refine Zz ?_;refine Zx [] Zp hnt fun _ z9=>z9 _ _ ?_;refine Zz ?_;refine Zz ?_;refine Zx [] Zp hnt fun _ z9=>z9 _ _ ?_;refine Zt ?_;refine Zz ?_
     refine Zx [(21,.v (.bool true))] Zp hnt fun K hK=>?_;refine And.intro (Zn.refl _) ?_;refine hK _ _ ?_;clear hK K;refine Zy (t:=true) rfl ?_;rw[if_pos rfl];refine ZP [] Zp hnt fun K hK=>?_;refine hK _ _ (by kernel_rfl) ?_;clear hK K;refine Zz ?_;refine Zz ?_;refine Zx [(39,.v (.bool false)),(43,.v (.int .i64 (↑C.length))),(44,.v (.bool false))] Zp hnt fun K hK=>?_
     refine And.intro Xq ?_;refine And.intro (Zq (by rw[Zr])) ?_;refine And.intro Xq ?_;refine hK _ _ ?_;clear hK K;refine Zy (t:=false) rfl ?_;rw[if_neg (by simp)];refine Zw ?_;refine Zz ?_;refine Zx [(49,.q [.sl 2 (eTys C[n].args) none,.v (.int .i64 C[n].base)])] Zp hnt fun K hK=>?_;refine And.intro (Xg (Zr C)) ?_;refine And.intro (Xh (ZU C n) (Zb _)) ?_
     refine hK _ _ ?_;clear hK K;refine Zu ?_
     exact Zj rfl
   ·rw[List.getElem?_eq_none (by omega)]
    simp only[Option.getD_none,Option.isSome_none]
    rw[Xe]
    refine Zm 0 51 [ResultVar.cell 6 106,ResultVar.tmp 7] Zp Tryz.func108 rfl Tryz.ntmps108 rfl fun cx hnt hn0=>?_
    ·skip
     refine Zz ?_;refine Zx [] Zp hnt fun _ z9=>z9 _ _ ?_;refine Zz ?_;refine Zx [] Zp hnt fun _ z9=>z9 _ _ ?_;refine Zz ?_;refine Zx [] Zp hnt fun _ z9=>z9 _ _ ?_;refine Zz ?_;refine Zz ?_;refine Zx [] Zp hnt fun _ z9=>z9 _ _ ?_;refine Zt ?_;refine Zz ?_
     refine Zx [(21,.v (.bool true))] Zp hnt fun K hK=>?_;refine And.intro (Zn.refl _) ?_;refine hK _ _ ?_;clear hK K;refine Zy (t:=true) rfl ?_;rw[if_pos rfl];refine ZP [] Zp hnt fun K hK=>?_;refine hK _ _ (by kernel_rfl) ?_;clear hK K;refine Zz ?_;refine Zz ?_;refine Zx [(39,.v (.bool false)),(43,.v (.int .i64 (↑C.length))),(44,.v (.bool true))] Zp hnt fun K hK=>?_
     refine And.intro Xq ?_;refine And.intro (Zq (by rw[Zr])) ?_;refine And.intro YD ?_;refine hK _ _ ?_;clear hK K;refine Zy (t:=true) rfl ?_;rw[if_pos rfl];refine Zz ?_;refine Zx [] Zp hnt fun _ z9=>z9 _ _ ?_;refine Zu ?_
     exact Zj rfl
 by_cases k2:k=2
 ·skip
  subst k2
  by_cases hn:i<0
  ·rw[WL hn]
   simp only[Option.getD_none,Option.isSome_none]
   rw[Xe]
   refine Zm 0 51 [ResultVar.cell 6 106,ResultVar.tmp 7] Zp Tryz.func108 rfl Tryz.ntmps108 rfl fun cx hnt hn0=>?_
   ·skip
    refine Zz ?_;refine Zx [] Zp hnt fun _ z9=>z9 _ _ ?_;refine Zz ?_;refine Zx [] Zp hnt fun _ z9=>z9 _ _ ?_;refine Zz ?_;refine Zx [] Zp hnt fun _ z9=>z9 _ _ ?_;refine Zz ?_;refine Zz ?_;refine Zx [] Zp hnt fun _ z9=>z9 _ _ ?_;refine Zt ?_;refine Zz ?_
    refine Zx [(21,.v (.bool false))] Zp hnt fun K hK=>?_;refine And.intro (Zn.refl _) ?_;refine hK _ _ ?_;clear hK K;refine Zy (t:=false) rfl ?_;rw[if_neg (by simp)];refine Zz ?_;refine Zx [(27,.v (.bool true))] Zp hnt fun K hK=>?_;refine And.intro (Zn.refl _) ?_;refine hK _ _ ?_;clear hK K;refine Zy (t:=true) rfl ?_;rw[if_pos rfl];refine ZP [] Zp hnt fun K hK=>?_
    refine hK _ _ (by kernel_rfl) ?_;clear hK K;refine Zz ?_;refine Zz ?_;refine Zx [(39,.v (.bool true))] Zp hnt fun K hK=>?_;refine And.intro YD ?_;refine hK _ _ ?_;clear hK K;refine Zy (t:=true) rfl ?_;rw[if_pos rfl];refine Zz ?_;refine Zx [] Zp hnt fun _ z9=>z9 _ _ ?_;refine Zu ?_
    exact Zj rfl
  ·obtain⟨n,rfl⟩:=Int.eq_ofNat_of_zero_le (Int.not_lt.1 hn)
   rw[RD]
   by_cases hl:n<M.length
   ·rw[List.getElem?_eq_getElem hl]
    simp only[Option.getD_some,Option.isSome_some]
    rw[Zb]
    refine Zm 0 51 [ResultVar.cell 6 106,ResultVar.tmp 7] Zp Tryz.func108 rfl Tryz.ntmps108 rfl fun cx hnt hn0=>?_
    ·skip
     refine Zz ?_;refine Zx [] Zp hnt fun _ z9=>z9 _ _ ?_;refine Zz ?_;refine Zx [] Zp hnt fun _ z9=>z9 _ _ ?_;refine Zz ?_;refine Zx [] Zp hnt fun _ z9=>z9 _ _ ?_;refine Zz ?_;refine Zz ?_;refine Zx [] Zp hnt fun _ z9=>z9 _ _ ?_;refine Zt ?_;refine Zz ?_
     refine Zx [(21,.v (.bool false))] Zp hnt fun K hK=>?_;refine And.intro (Zn.refl _) ?_;refine hK _ _ ?_;clear hK K;refine Zy (t:=false) rfl ?_;rw[if_neg (by simp)];refine Zz ?_;refine Zx [(27,.v (.bool true))] Zp hnt fun K hK=>?_;refine And.intro (Zn.refl _) ?_;refine hK _ _ ?_;clear hK K;refine Zy (t:=true) rfl ?_;rw[if_pos rfl];refine ZP [] Zp hnt fun K hK=>?_
     refine hK _ _ (by kernel_rfl) ?_;clear hK K;refine Zz ?_;refine Zz ?_;refine Zx [(39,.v (.bool false)),(43,.v (.int .i64 (↑M.length))),(44,.v (.bool false))] Zp hnt fun K hK=>?_;refine And.intro Xq ?_;refine And.intro (Zq (by rw[Zr])) ?_;refine And.intro Xq ?_;refine hK _ _ ?_;clear hK K;refine Zy (t:=false) rfl ?_;rw[if_neg (by simp)];refine Zw ?_
     refine Zz ?_;refine Zx [(49,.q [.sl 2 (eTys M[n].args) none,.v (.int .i64 M[n].base)])] Zp hnt fun K hK=>?_;refine And.intro (Xg (Zr M)) ?_;refine And.intro (Xh (ZU M n) (Zb _)) ?_;refine hK _ _ ?_;clear hK K;refine Zu ?_
     exact Zj rfl
   ·rw[List.getElem?_eq_none (by omega)]
    simp only[Option.getD_none,Option.isSome_none]
    rw[Xe]
    refine Zm 0 51 [ResultVar.cell 6 106,ResultVar.tmp 7] Zp Tryz.func108 rfl Tryz.ntmps108 rfl fun cx hnt hn0=>?_
    ·skip
     refine Zz ?_;refine Zx [] Zp hnt fun _ z9=>z9 _ _ ?_;refine Zz ?_;refine Zx [] Zp hnt fun _ z9=>z9 _ _ ?_;refine Zz ?_;refine Zx [] Zp hnt fun _ z9=>z9 _ _ ?_;refine Zz ?_;refine Zz ?_;refine Zx [] Zp hnt fun _ z9=>z9 _ _ ?_;refine Zt ?_;refine Zz ?_
     refine Zx [(21,.v (.bool false))] Zp hnt fun K hK=>?_;refine And.intro (Zn.refl _) ?_;refine hK _ _ ?_;clear hK K;refine Zy (t:=false) rfl ?_;rw[if_neg (by simp)];refine Zz ?_;refine Zx [(27,.v (.bool true))] Zp hnt fun K hK=>?_;refine And.intro (Zn.refl _) ?_;refine hK _ _ ?_;clear hK K;refine Zy (t:=true) rfl ?_;rw[if_pos rfl];refine ZP [] Zp hnt fun K hK=>?_
     refine hK _ _ (by kernel_rfl) ?_;clear hK K;refine Zz ?_;refine Zz ?_;refine Zx [(39,.v (.bool false)),(43,.v (.int .i64 (↑M.length))),(44,.v (.bool true))] Zp hnt fun K hK=>?_;refine And.intro Xq ?_;refine And.intro (Zq (by rw[Zr])) ?_;refine And.intro YD ?_;refine hK _ _ ?_;clear hK K;refine Zy (t:=true) rfl ?_;rw[if_pos rfl];refine Zz ?_;refine Zx [] Zp hnt fun K hK=>?_
     refine hK _ _ ?_;clear hK K;refine Zu ?_
     exact Zj rfl
 by_cases k0:k=0
 ·subst k0
  by_cases hn:i<0
  ·rw[WL hn]
   simp only[Option.getD_none,Option.isSome_none]
   rw[Xe]
   refine Zm 0 51 [ResultVar.cell 6 106,ResultVar.tmp 7] Zp Tryz.func108 rfl Tryz.ntmps108 rfl fun cx hnt hn0=>?_
   ·skip
    refine Zz ?_;refine Zx [] Zp hnt fun _ z9=>z9 _ _ ?_;refine Zz ?_;refine Zx [] Zp hnt fun _ z9=>z9 _ _ ?_;refine Zz ?_;refine Zx [] Zp hnt fun _ z9=>z9 _ _ ?_;refine Zz ?_;refine Zz ?_;refine Zx [] Zp hnt fun _ z9=>z9 _ _ ?_;refine Zt ?_;refine Zz ?_
    refine Zx [(21,.v (.bool false))] Zp hnt fun K hK=>?_;refine And.intro (Zn.refl _) ?_;refine hK _ _ ?_;clear hK K;refine Zy (t:=false) rfl ?_;rw[if_neg (by simp)];refine Zz ?_;refine Zx [(27,.v (.bool false))] Zp hnt fun K hK=>?_;refine And.intro (Zn.refl _) ?_;refine hK _ _ ?_;clear hK K;refine Zy (t:=false) rfl ?_;rw[if_neg (by simp)];refine Zz ?_
    refine Zx [(33,.v (.bool true))] Zp hnt fun K hK=>?_;refine And.intro (Zn.refl _) ?_;refine hK _ _ ?_;clear hK K;refine Zy (t:=true) rfl ?_;rw[if_pos rfl];refine Zz ?_;refine Zx [(36,.v (.bool true))] Zp hnt fun K hK=>?_;refine And.intro YD ?_;refine hK _ _ ?_;clear hK K;refine Zy (t:=true) rfl ?_;rw[if_pos rfl];refine Zz ?_;refine Zx [] Zp hnt fun K hK=>?_
    refine hK _ _ ?_;clear hK K;refine Zu ?_
    exact Zj rfl
  ·obtain⟨n,rfl⟩:=Int.eq_ofNat_of_zero_le (Int.not_lt.1 hn)
   rw[RB]
   by_cases hl:n<X.length
   ·have hx:X.length-1-n<X.length:=by omega
    rw[List.getElem?_reverse (by omega),List.getElem?_eq_getElem hx]
    simp only[Option.getD_some,Option.isSome_some]
    rw[Zb]
    have hg:(eTys X).getD ((X.length:Int)-1-(n:Int)).toNat []=[.sl 2 (eTys (X[X.length-1-n]).args) none,.v (.int .i64 (X[X.length-1-n]).base)]:=by rw[show ((X.length:Int)-1-(n:Int)).toNat=X.length-1-n by omega,ZU X _ hx,Zb]
    refine Zm 0 51 [ResultVar.cell 6 106,ResultVar.tmp 7] Zp Tryz.func108 rfl Tryz.ntmps108 rfl fun cx hnt hn0=>?_
    ·skip
     refine Zz ?_;refine Zx [] Zp hnt fun _ z9=>z9 _ _ ?_;refine Zz ?_;refine Zx [] Zp hnt fun _ z9=>z9 _ _ ?_;refine Zz ?_;refine Zx [(12,.v (.int .i64 (↑X.length))),(13,.v (.int .i64 ((↑X.length-1)))),(16,.v (.int .i64 ((↑X.length-1 - ↑n))))] Zp hnt fun K hK=>?_;refine And.intro (Zq (by rw[Zr])) ?_
     refine And.intro XR ?_;refine And.intro XR ?_;refine hK _ _ ?_;clear hK K;refine Zz ?_;refine Zz ?_;refine Zx [] Zp hnt fun _ z9=>z9 _ _ ?_;refine Zt ?_;refine Zz ?_;refine Zx [(21,.v (.bool false))] Zp hnt fun K hK=>?_;refine And.intro (Zn.refl _) ?_;refine hK _ _ ?_;clear hK K;refine Zy (t:=false) rfl ?_;rw[if_neg (by simp)]
     refine Zz ?_;refine Zx [(27,.v (.bool false))] Zp hnt fun K hK=>?_;refine And.intro (Zn.refl _) ?_;refine hK _ _ ?_;clear hK K;refine Zy (t:=false) rfl ?_;rw[if_neg (by simp)];refine Zz ?_;refine Zx [(33,.v (.bool true))] Zp hnt fun K hK=>?_;refine And.intro (Zn.refl _) ?_;refine hK _ _ ?_;clear hK K;refine Zy (t:=true) rfl ?_;rw[if_pos rfl]
     refine Zz ?_;refine Zx [(36,.v (.bool false))] Zp hnt fun K hK=>?_;refine And.intro Xq ?_;refine hK _ _ ?_;clear hK K;refine Zy (t:=false) rfl ?_;rw[if_neg (by simp)];refine Zw ?_;refine Zz ?_;refine Zz ?_;refine Zx [(39,.v (.bool false)),(43,.v (.int .i64 (↑X.length))),(44,.v (.bool false))] Zp hnt fun K hK=>?_;refine And.intro Xq ?_;refine And.intro (Zq (by rw[Zr])) ?_
     refine And.intro Xq ?_;refine hK _ _ ?_;clear hK K;refine Zy (t:=false) rfl ?_;rw[if_neg (by simp)];refine Zw ?_;refine Zz ?_;refine Zx [(49,.q [.sl 2 (eTys (X[X.length-1-n]).args) none,.v (.int .i64 (X[X.length-1-n]).base)])] Zp hnt fun K hK=>?_;refine And.intro (⟨by omega,by rw[Zr];omega⟩) ?_;refine And.intro (Zn.of_eq (by rw[hg])) ?_;refine hK _ _ ?_;clear hK K
     refine Zu ?_
     exact Zj rfl
   ·rw[List.getElem?_eq_none (by simp;omega)]
    simp only[Option.getD_none,Option.isSome_none]
    rw[Xe]
    refine Zm 0 51 [ResultVar.cell 6 106,ResultVar.tmp 7] Zp Tryz.func108 rfl Tryz.ntmps108 rfl fun cx hnt hn0=>?_
    ·skip
     refine Zz ?_;refine Zx [] Zp hnt fun _ z9=>z9 _ _ ?_;refine Zz ?_;refine Zx [] Zp hnt fun _ z9=>z9 _ _ ?_;refine Zz ?_;refine Zx [(12,.v (.int .i64 (↑X.length))),(13,.v (.int .i64 ((↑X.length-1)))),(16,.v (.int .i64 ((↑X.length-1 - ↑n))))] Zp hnt fun K hK=>?_;refine And.intro (Zq (by rw[Zr])) ?_
     refine And.intro XR ?_;refine And.intro XR ?_;refine hK _ _ ?_;clear hK K;refine Zz ?_;refine Zz ?_;refine Zx [] Zp hnt fun _ z9=>z9 _ _ ?_;refine Zt ?_;refine Zz ?_;refine Zx [(21,.v (.bool false))] Zp hnt fun K hK=>?_;refine And.intro (Zn.refl _) ?_;refine hK _ _ ?_;clear hK K;refine Zy (t:=false) rfl ?_;rw[if_neg (by simp)]
     refine Zz ?_;refine Zx [(27,.v (.bool false))] Zp hnt fun K hK=>?_;refine And.intro (Zn.refl _) ?_;refine hK _ _ ?_;clear hK K;refine Zy (t:=false) rfl ?_;rw[if_neg (by simp)];refine Zz ?_;refine Zx [(33,.v (.bool true))] Zp hnt fun K hK=>?_;refine And.intro (Zn.refl _) ?_;refine hK _ _ ?_;clear hK K;refine Zy (t:=true) rfl ?_;rw[if_pos rfl]
     refine Zz ?_;refine Zx [(36,.v (.bool false))] Zp hnt fun K hK=>?_;refine And.intro Xq ?_;refine hK _ _ ?_;clear hK K;refine Zy (t:=false) rfl ?_;rw[if_neg (by simp)];refine Zw ?_;refine Zz ?_;refine Zz ?_;refine Zx [(39,.v (.bool true))] Zp hnt fun K hK=>?_;refine And.intro YD ?_;refine hK _ _ ?_;clear hK K;refine Zy (t:=true) rfl ?_
     rw[if_pos rfl];refine Zz ?_;refine Zx [] Zp hnt fun _ z9=>z9 _ _ ?_;refine Zu ?_
     exact Zj rfl
 ·rw[RE k0 k1 k2]
  simp only[Option.getD_none,Option.isSome_none]
  rw[Xe]
  refine Zm 0 51 [ResultVar.cell 6 106,ResultVar.tmp 7] Zp Tryz.func108 rfl Tryz.ntmps108 rfl fun cx hnt hn0=>?_
  ·skip
   refine Zz ?_;refine Zx [] Zp hnt fun _ z9=>z9 _ _ ?_;refine Zz ?_;refine Zx [] Zp hnt fun _ z9=>z9 _ _ ?_;refine Zz ?_;refine Zx [] Zp hnt fun _ z9=>z9 _ _ ?_;refine Zz ?_;refine Zz ?_;refine Zx [] Zp hnt fun _ z9=>z9 _ _ ?_;refine Zt ?_;refine Zz ?_
   refine Zx [(21,.v (.bool false))] Zp hnt fun K hK=>?_;refine And.intro (XT k1) ?_;refine hK _ _ ?_;clear hK K;refine Zy (t:=false) rfl ?_;rw[if_neg (by simp)];refine Zz ?_;refine Zx [(27,.v (.bool false))] Zp hnt fun K hK=>?_;refine And.intro (XT k2) ?_;refine hK _ _ ?_;clear hK K;refine Zy (t:=false) rfl ?_;rw[if_neg (by simp)];refine Zz ?_
   refine Zx [(33,.v (.bool false))] Zp hnt fun K hK=>?_;refine And.intro (XT k0) ?_;refine hK _ _ ?_;clear hK K;refine Zy (t:=false) rfl ?_;rw[if_neg (by simp)];refine Zz ?_;refine Zx [] Zp hnt fun _ z9=>z9 _ _ ?_;refine Zu ?_
   exact Zj rfl
theorem D9 (b:Int)(C M:List Ty)(t:Tm)(hi:t.index≤9223372036854775807)(hC:C.length≤1000000)(hM:M.length≤1000000)(hz:t.full≤780000):
  Zd Tryz.prog 81 [.ag [.v (.int .i64 b),.sl 2 (eTys C) none,.sl 2 (eTys M) none],.v (.slice none 0 0),.ag (eTm t)] (.tu [.ag (eTy ((GO C M t).getD tyZ)),.v (.int .i64 (if (GO C M t).isSome then 0 else 10))]):=by
 have hbl:=Ty.le_sizes t.binds
 have hfl:=X6 t
 have hbe:Zd Tryz.prog 109 [.v (.slice none 0 0),.sl 2 (eTys t.binds) none] (.sl 2 (eTys ([]++t.binds)) none):=ZE.vle (Rm [] t.binds (by simp;omega)) (.cons (Zn.nil _) (.cons (Zn.refl _) .nil)) (Zn.refl _)
 have hh:=Rj b C M ([]++t.binds) t.kind t.index hi hC hM (by simp;omega)
 unfold GO
 obtain⟨o,ho⟩:∃ o,Yg C M ([]++t.binds) t.kind t.index=o:=⟨_,rfl⟩
 obtain⟨X,hX⟩:∃ X,[]++t.binds=X:=⟨_,rfl⟩
 rw[hX] at hh hbe ho ⊢
 rw[ho] at hh ⊢
 rw[Zv]
 cases o with
 | none=>
  simp only[Option.map_none,Option.getD_none,Option.isSome_none,Bool.false_eq_true,if_false] at hh ⊢
  rw[Xe] at hh ⊢
  refine Zm 0 29 [ResultVar.cell 6 106,ResultVar.tmp 7] Zp Tryz.func81 rfl Tryz.ntmps81 rfl fun cx hnt hn0=>?_
  ·skip
   refine Zz ?_;refine Zx [] Zp hnt fun _ z9=>z9 _ _ ?_;refine Zz ?_;refine ZP [] Zp hnt fun K hK=>?_;refine Ze (hbe) ?_;refine Ze (hh) ?_;refine hK _ _ (by kernel_rfl) ?_;clear hK K;refine Zz ?_;refine Zz ?_;refine Zx [] Zp hnt fun _ z9=>z9 _ _ ?_;refine Zy (t:=true) rfl ?_;rw[if_pos rfl];refine Zz ?_
   refine Zx [] Zp hnt fun _ z9=>z9 _ _ ?_;refine Zu ?_
   exact Zj rfl
 | some h=>
  simp only[Option.map_some,Option.getD_some,Option.isSome_some,if_true] at hh ⊢
  have hk:=Ey h.base t.binds (by omega)
  rw[Zb] at hh hk ⊢
  simp only[Xc,XS] at hk ⊢
  refine Zm 0 29 [ResultVar.cell 6 106,ResultVar.tmp 7] Zp Tryz.func81 rfl Tryz.ntmps81 rfl fun cx hnt hn0=>?_
  ·skip
   refine Zz ?_;refine Zx [] Zp hnt fun _ z9=>z9 _ _ ?_;refine Zz ?_;refine ZP [] Zp hnt fun K hK=>?_;refine Ze (hbe) ?_;refine Ze (hh) ?_;refine hK _ _ (by kernel_rfl) ?_;clear hK K;refine Zz ?_;refine Zz ?_;refine Zx [] Zp hnt fun _ z9=>z9 _ _ ?_;refine Zy (t:=false) rfl ?_;rw[if_neg (by simp)]
   refine Zw ?_;refine Zz ?_;refine Zx [] Zp hnt fun K hK=>?_;refine Ze (hk) ?_;refine hK _ _ ?_;clear hK K;refine Zu ?_
   exact Zj rfl
set_option maxHeartbeats 4000000 in
theorem CE (b:Int)(C M:List Ty)(hC:C.length≤1000000)(hM:M.length≤1000000):∀ (t:Tm) (X:List Ty) (u:Ty) (c:Bool),(c=true↔X1 C M t X u)→X.length+t.full≤780000→t.Fit →
  Zd Tryz.prog 110 [.ag [.v (.int .i64 b),.sl 2 (eTys C) none,.sl 2 (eTys M) none],.sl 2 (eTys X) none,.ag (eTm t),.ag (eTy u)] (.v (.bool c)):=by
 intro t
 induction t using Tm.ind with
 | h bs k i a ih=>
 intro X u c hc hz hf
 obtain⟨_,f2,f3⟩:=Tm.fit_iff.1 hf
 rw[Tm.full_eq] at hz
 have hal:=VF a
 have hbl:=Ty.le_sizes bs
 have hbe:=Rm X bs (by omega)
 have hh:=Rj b C M (X++bs) k i f2 hC hM (by simp;omega)
 obtain⟨o,ho⟩:∃ o,Yg C M (X++bs) k i=o:=⟨_,rfl⟩
 obtain⟨Y,hY⟩:∃ Y,X++bs=Y:=⟨_,rfl⟩
 have hYl:Y.length=X.length+bs.length:=by rw[←hY];simp
 have hty:=SC bs u.args 67 rfl
 have no:∀ (h:∀ x,Yg C M (X++bs) k i=some x→bs=u.args→x.base=u.base→x.args.length=a.length→False),c=false:=fun h=>by
  rw[Bool.eq_false_iff];exact fun hc1=>KT h (hc.1 hc1)
 rw[ho] at hh no
 rw[Zv,Zb]
 simp only[VE,T0,VK,Vh]
 rw[hY] at hbe hh
 by_cases hb:bs=u.args
 ·rw[decide_eq_true hb] at hty
  cases o with
  | none=>
   simp only[Option.getD_none,Option.isSome_none] at hh
   rw[Xe] at hh
   rw[no (fun x h=>by cases h)]
   refine Zm 0 69 [ResultVar.tmp 8] Zp Tryz.func110 rfl Tryz.ntmps110 rfl fun cx hnt hn0=>?_
   ·skip
    refine Zz ?_;refine Zx [] Zp hnt fun _ z9=>z9 _ _ ?_;refine Zz ?_;refine Zz ?_;refine Zx [] Zp hnt fun K hK=>?_;refine Ze (hty) ?_;refine hK _ _ ?_;clear hK K;refine Zy (t:=false) rfl ?_;rw[if_neg (by simp)];refine Zw ?_;refine Zz ?_;refine Zx [] Zp hnt fun K hK=>?_;refine Ze (hbe) ?_;refine hK _ _ ?_;clear hK K
    refine Zz ?_;refine Zx [] Zp hnt fun K hK=>?_;refine Ze (hh) ?_;refine hK _ _ ?_;clear hK K;refine Zz ?_;refine Zz ?_;refine Zx [] Zp hnt fun _ z9=>z9 _ _ ?_;refine Zy (t:=true) rfl ?_;rw[if_pos rfl];refine Zz ?_;refine Zx [] Zp hnt fun _ z9=>z9 _ _ ?_;refine Zu ?_
    exact Zj rfl
  | some h=>
  simp only[Option.getD_some,Option.isSome_some] at hh
  rw[Zb] at hh
  by_cases hbs:h.base=u.base
  ·by_cases hln:h.args.length=a.length
   ·have hIff:c=true↔∀ j (h1:j<a.length) (h2:j<h.args.length),X1 C M a[j] Y h.args[j]:=by
     rw[hc,SI,hY]
     constructor
     ·rintro⟨_,x,h2,_,h4⟩ j j1 j2
      rw[←hY,ho] at h2;cases h2
      exact(Wt.1 h4).2 j j1 j2
     ·intro hall
      exact⟨hb,h,by rw[←hY,ho],hbs,Wt.2 ⟨hln,hall⟩⟩
    have hI:∀ j (h1:j<a.length) (h2:j<h.args.length) (d:Bool),(d=true↔X1 C M a[j] Y h.args[j])→Zd Tryz.prog 110 [.ag [.v (.int .i64 b),.sl 2 (eTys C) none,.sl 2 (eTys M) none],.sl 2 (eTys Y) none,.ag (eTm a[j]),.ag (eTy h.args[j])] (.v (.bool d)):=fun j h1 h2 d hd=>ih _ (List.getElem_mem h1) Y _ d hd (by have:=Tm.full_mem (List.getElem_mem h1);omega) (f3 _ (List.getElem_mem h1))
    clear ih no hc
    refine Zm 0 69 [ResultVar.tmp 8] Zp Tryz.func110 rfl Tryz.ntmps110 rfl fun cx hnt hn0=>?_
    ·skip
     refine Zz ?_;refine Zx [] Zp hnt fun _ z9=>z9 _ _ ?_;refine Zz ?_;refine Zz ?_;refine Zx [] Zp hnt fun K hK=>?_;refine Ze (hty) ?_;refine hK _ _ ?_;clear hK K;refine Zy (t:=false) rfl ?_;rw[if_neg (by simp)];refine Zw ?_;refine Zz ?_;refine Zx [] Zp hnt fun K hK=>?_;refine Ze (hbe) ?_;refine hK _ _ ?_;clear hK K
     refine Zz ?_;refine Zx [] Zp hnt fun K hK=>?_;refine Ze (hh) ?_;refine hK _ _ ?_;clear hK K;refine Zz ?_;refine Zz ?_;refine Zx [(39,.v (.bool false)),(44,.v (.int .i64 (↑h.args.length))),(47,.v (.int .i64 (↑a.length))),(48,.v (.bool false))] Zp hnt fun K hK=>?_;refine And.intro (Yy hbs) ?_;refine And.intro (Zq (by rw[Zr])) ?_;refine And.intro (Zq (by rw[Zs])) ?_
     refine And.intro (Yy (by omega)) ?_;refine hK _ _ ?_;clear hK K;refine Zy (t:=false) rfl ?_;rw[if_neg (by simp)];refine Zw ?_;refine Zz ?_;refine Zz ?_;refine Zx [(52,.v (.int .i64 (↑a.length)))] Zp hnt fun K hK=>?_;refine And.intro (Zq (by rw[Zs])) ?_;refine hK _ _ ?_;clear hK K;refine Zt ?_
     refine Z4 (ι:={ j:Nat // ∀ i (h1:i<a.length) (h2:i<h.args.length),i<j→X1 C M a[i] Y h.args[i] }) (fun j=>[(.t 4,.p 0 0),(.t 6,.p 1 0),(.t 7,.p 2 0),(.t 9,.sl 2 (eTys Y) none),(.t 10,.p 23 0),(.t 51,.sl 4 (eTms a) none),(.t 52,.v (.int .i64 ↑a.length)),(.t 53,.v (.int .i64 ↑j.1)),(.c 0 0,.v (.int .i64 b)),(.c 0 1,.sl 2 (eTys C) none),(.c 0 2,.sl 2 (eTys M) none),(.c 23 0,.sl 2 (eTys h.args) none),(.c 23 1,.v (.int .i64 h.base))]) 24 (fun j=>a.length-j.1) (⟨0,fun i h1 h2 h3=>by omega⟩) (VS.toA) fun j=>?_
     obtain⟨j,hj⟩:=j
     dsimp only
     by_cases hlt:j<a.length
     ·have hlt2:j<h.args.length:=by omega
      by_cases hio:X1 C M a[j] Y h.args[j]
      ·have hi:=hI j hlt hlt2 true (by simp[hio])
       rw[Zv,Zb] at hi
       refine Zz ?_;refine Zx [(54,.v (.bool true))] Zp hnt fun K hK=>?_;refine And.intro YD ?_;refine hK _ _ ?_;clear hK K;refine Zz ?_;refine Zy (t:=true) rfl ?_;rw[if_pos rfl];refine Zw ?_;refine Zz ?_;refine Zt ?_;refine Zz ?_;refine Zx [(56,.q [.sl 2 (eTys a[j].binds) none,.v (.int .i64 a[j].kind),.v (.int .i64 a[j].index),.sl 4 (eTms a[j].args) none])] Zp hnt fun K hK=>?_
       refine And.intro (Xg (Zs a)) ?_;refine And.intro (Xh (ZX a j) (Zv _)) ?_;refine hK _ _ ?_;clear hK K;refine Zz ?_;refine ZP [(64,.q [.sl 2 (eTys h.args[j].args) none,.v (.int .i64 h.args[j].base)])] Zp hnt fun K hK=>?_;refine And.intro (Xg (Zr h.args)) ?_;refine And.intro (Xh (ZU h.args j) (Zb _)) ?_;refine Ze (hi) ?_;refine hK _ _ (by kernel_rfl) ?_;clear hK K
       refine Zy (t:=false) rfl ?_;rw[if_neg (by simp)];refine Zw ?_;refine Zx [(68,.v (.int .i64 (↑(j+1))))] Zp hnt fun K hK=>?_;refine And.intro XR ?_;refine hK _ _ ?_;clear hK K
       refine⟨⟨j+1,fun q h1 h2 h3=>if e:q=j then by subst e;exact hio else hj q h1 h2 (by omega)⟩,by first | omega | (dsimp only;omega),VS.toA⟩
      ·have hi:=hI j hlt hlt2 false (by simp[hio])
       rw[Zv,Zb] at hi
       have hcf:c=false:=by rw[Bool.eq_false_iff];exact fun h1=>hio (hIff.1 h1 j hlt hlt2)
       rw[hcf]
       refine Zz ?_;refine Zx [(54,.v (.bool true))] Zp hnt fun K hK=>?_;refine And.intro YD ?_;refine hK _ _ ?_;clear hK K;refine Zz ?_;refine Zy (t:=true) rfl ?_;rw[if_pos rfl];refine Zw ?_;refine Zz ?_;refine Zt ?_;refine Zz ?_;refine Zx [(56,.q [.sl 2 (eTys a[j].binds) none,.v (.int .i64 a[j].kind),.v (.int .i64 a[j].index),.sl 4 (eTms a[j].args) none])] Zp hnt fun K hK=>?_
       refine And.intro (Xg (Zs a)) ?_;refine And.intro (Xh (ZX a j) (Zv _)) ?_;refine hK _ _ ?_;clear hK K;refine Zz ?_;refine ZP [(64,.q [.sl 2 (eTys h.args[j].args) none,.v (.int .i64 h.args[j].base)])] Zp hnt fun K hK=>?_;refine And.intro (Xg (Zr h.args)) ?_;refine And.intro (Xh (ZU h.args j) (Zb _)) ?_;refine Ze (hi) ?_;refine hK _ _ (by kernel_rfl) ?_;clear hK K
       refine Zy (t:=true) rfl ?_;rw[if_pos rfl];refine Zz ?_;refine Zx [] Zp hnt fun _ z9=>z9 _ _ ?_;refine Zu ?_
       exact Zj rfl
     ·rw[hIff.2 fun q h1 h2=>hj q h1 h2 (by omega)]
      refine Zz ?_;refine Zx [(54,.v (.bool false))] Zp hnt fun K hK=>?_;refine And.intro Xq ?_;refine hK _ _ ?_;clear hK K;refine Zz ?_;refine Zy (t:=false) rfl ?_;rw[if_neg (by simp)];refine Zc ?_;refine Zz ?_;refine Zx [] Zp hnt fun _ z9=>z9 _ _ ?_;refine Zu ?_
      exact Zj rfl
   ·rw[no (fun x h1 _ _ h4=>by cases h1;exact hln h4)]
    refine Zm 0 69 [ResultVar.tmp 8] Zp Tryz.func110 rfl Tryz.ntmps110 rfl fun cx hnt hn0=>?_
    ·skip
     refine Zz ?_;refine Zx [] Zp hnt fun _ z9=>z9 _ _ ?_;refine Zz ?_;refine Zz ?_;refine Zx [] Zp hnt fun K hK=>?_;refine Ze (hty) ?_;refine hK _ _ ?_;clear hK K;refine Zy (t:=false) rfl ?_;rw[if_neg (by simp)];refine Zw ?_;refine Zz ?_;refine Zx [] Zp hnt fun K hK=>?_;refine Ze (hbe) ?_;refine hK _ _ ?_;clear hK K
     refine Zz ?_;refine Zx [] Zp hnt fun K hK=>?_;refine Ze (hh) ?_;refine hK _ _ ?_;clear hK K;refine Zz ?_;refine Zz ?_;refine Zx [(39,.v (.bool false)),(44,.v (.int .i64 (↑h.args.length))),(47,.v (.int .i64 (↑a.length))),(48,.v (.bool true))] Zp hnt fun K hK=>?_;refine And.intro (Yy hbs) ?_;refine And.intro (Zq (by rw[Zr])) ?_;refine And.intro (Zq (by rw[Zs])) ?_
     refine And.intro (Y6 (by omega)) ?_;refine hK _ _ ?_;clear hK K;refine Zy (t:=true) rfl ?_;rw[if_pos rfl];refine Zz ?_;refine Zx [] Zp hnt fun _ z9=>z9 _ _ ?_;refine Zu ?_
     exact Zj rfl
  ·rw[no (fun x h1 _ h3 _=>by cases h1;exact hbs h3)]
   refine Zm 0 69 [ResultVar.tmp 8] Zp Tryz.func110 rfl Tryz.ntmps110 rfl fun cx hnt hn0=>?_
   ·skip
    refine Zz ?_;refine Zx [] Zp hnt fun _ z9=>z9 _ _ ?_;refine Zz ?_;refine Zz ?_;refine Zx [] Zp hnt fun K hK=>?_;refine Ze (hty) ?_;refine hK _ _ ?_;clear hK K;refine Zy (t:=false) rfl ?_;rw[if_neg (by simp)];refine Zw ?_;refine Zz ?_;refine Zx [] Zp hnt fun K hK=>?_;refine Ze (hbe) ?_;refine hK _ _ ?_;clear hK K
    refine Zz ?_;refine Zx [] Zp hnt fun K hK=>?_;refine Ze (hh) ?_;refine hK _ _ ?_;clear hK K;refine Zz ?_;refine Zz ?_;refine Zx [(39,.v (.bool true))] Zp hnt fun K hK=>?_;refine And.intro (Y6 hbs) ?_;refine hK _ _ ?_;clear hK K;refine Zy (t:=true) rfl ?_;rw[if_pos rfl];refine Zz ?_;refine Zx [] Zp hnt fun _ z9=>z9 _ _ ?_
    refine Zu ?_
    exact Zj rfl
 ·rw[decide_eq_false hb] at hty
  rw[no (fun x _ h2 _ _=>hb h2)]
  refine Zm 0 69 [ResultVar.tmp 8] Zp Tryz.func110 rfl Tryz.ntmps110 rfl fun cx hnt hn0=>?_
  ·skip
   refine Zz ?_;refine Zx [] Zp hnt fun _ z9=>z9 _ _ ?_;refine Zz ?_;refine Zz ?_;refine Zx [] Zp hnt fun K hK=>?_;refine Ze (hty) ?_;refine hK _ _ ?_;clear hK K;refine Zy (t:=true) rfl ?_;rw[if_pos rfl];refine Zz ?_;refine Zx [] Zp hnt fun _ z9=>z9 _ _ ?_;refine Zu ?_
   exact Zj rfl
theorem Sy (b:Int)(C M X:List Ty)(t:Tm)(u:Ty)(c:Int)(hC:C.length≤1000000)(hM:M.length≤1000000)(hc:Yt C M t X u c)(hz:X.length+t.full≤780000)(hf:t.Fit):
  Zd Tryz.prog 83 [.ag [.v (.int .i64 b),.sl 2 (eTys C) none,.sl 2 (eTys M) none],.sl 2 (eTys X) none,.ag (eTm t),.ag (eTy u)] (.v (.int .i64 c)):=by
 have hr:=WR t (by omega)
 have hi:=fun d hd=>CE b C M hC hM t X u d hd hz hf
 rw[Zv,Zb] at hi
 rw[Zv] at hr
 rw[Zv,Zb]
 rcases hc with⟨h1,rfl⟩ | ⟨h1,h2,rfl⟩ | ⟨h1,h2,rfl⟩
 ·rw[decide_eq_false h1] at hr
  refine Zm 0 20 [ResultVar.tmp 8] Zp Tryz.func83 rfl Tryz.ntmps83 rfl fun cx hnt hn0=>?_
  ·skip
   refine Zz ?_;refine Zx [] Zp hnt fun _ z9=>z9 _ _ ?_;refine Zz ?_;refine Zt ?_;refine Zz ?_;refine Zx [] Zp hnt fun K hK=>?_;refine Ze (hr) ?_;refine hK _ _ ?_;clear hK K;refine Zy (t:=true) rfl ?_;rw[if_pos rfl];refine Zz ?_;refine Zx [] Zp hnt fun _ z9=>z9 _ _ ?_;refine Zu ?_
   exact Zj rfl
 ·rw[decide_eq_true h1] at hr
  have hi:=hi false (by simp[h2])
  refine Zm 0 20 [ResultVar.tmp 8] Zp Tryz.func83 rfl Tryz.ntmps83 rfl fun cx hnt hn0=>?_
  ·skip
   refine Zz ?_;refine Zx [] Zp hnt fun _ z9=>z9 _ _ ?_;refine Zz ?_;refine Zt ?_;refine Zz ?_;refine Zx [] Zp hnt fun K hK=>?_;refine Ze (hr) ?_;refine hK _ _ ?_;clear hK K;refine Zy (t:=false) rfl ?_;rw[if_neg (by simp)];refine Zz ?_;refine Zx [] Zp hnt fun K hK=>?_;refine Ze (hi) ?_;refine hK _ _ ?_;clear hK K
   refine Zy (t:=true) rfl ?_;rw[if_pos rfl];refine Zz ?_;refine Zx [] Zp hnt fun _ z9=>z9 _ _ ?_;refine Zu ?_
   exact Zj rfl
 ·rw[decide_eq_true h1] at hr
  have hi:=hi true (by simp[h2])
  refine Zm 0 20 [ResultVar.tmp 8] Zp Tryz.func83 rfl Tryz.ntmps83 rfl fun cx hnt hn0=>?_
  ·skip
   refine Zz ?_;refine Zx [] Zp hnt fun _ z9=>z9 _ _ ?_;refine Zz ?_;refine Zt ?_;refine Zz ?_;refine Zx [] Zp hnt fun K hK=>?_;refine Ze (hr) ?_;refine hK _ _ ?_;clear hK K;refine Zy (t:=false) rfl ?_;rw[if_neg (by simp)];refine Zz ?_;refine Zx [] Zp hnt fun K hK=>?_;refine Ze (hi) ?_;refine hK _ _ ?_;clear hK K
   refine Zy (t:=false) rfl ?_;rw[if_neg (by simp)];refine Zw ?_;refine Zz ?_;refine Zx [] Zp hnt fun _ z9=>z9 _ _ ?_;refine Zu ?_
   exact Zj rfl
theorem GI (b:Int)(C M:List Ty)(t:Tm)(u:Ty)(c:Int)(hC:C.length≤1000000)(hM:M.length≤1000000)(hc:Yt C M t [] u c)(hz:t.full≤780000)(hfit:t.Fit):
  Zd Tryz.prog 83 [.ag [.v (.int .i64 b),.sl 2 (eTys C) none,.sl 2 (eTys M) none],.v (.slice none 0 0),.ag (eTm t),.ag (eTy u)] (.v (.int .i64 c)):=
 ZE.vle (Sy b C M [] t u c hC hM hc (by simp;omega) hfit) (.cons (Zn.refl _) (.cons (Zn.nil _) (.cons (Zn.refl _) (.cons (Zn.refl _) .nil)))) (Zn.refl _)
def TRE_104:TI:=⟨2,true,[Value.slice none 0 0,Value.int IntKind.i64 0],[(0,1,false),(1,1,false)],none,32,6,none,false⟩
theorem Nb:TypOk Tryz.prog 104 TRE_104:=by constructor <;> kernel_rfl
def TRE_22:TI:=⟨1,false,[Value.slice none 0 0],[],some 104,24,5,none,false⟩
theorem Hj:TypOk Tryz.prog 22 TRE_22:=by constructor <;> kernel_rfl
def TRE_3:TI:=⟨1,false,[Value.int IntKind.i64 0],[],none,8,2,none,false⟩
theorem Dx:TypOk Tryz.prog 3 TRE_3:=by constructor <;> kernel_rfl
def TRE_28:TI:=⟨2,true,[Value.int IntKind.i64 0,Value.int IntKind.i64 0],[(0,1,false),(1,1,false)],none,16,6,none,true⟩
theorem Hn:TypOk Tryz.prog 28 TRE_28:=by constructor <;> kernel_rfl
def TRE_24:TI:=⟨3,true,[Value.int IntKind.i64 0,Value.slice none 0 0,Value.slice none 0 0],[(0,1,false),(1,1,false),(2,1,false)],none,56,6,none,false⟩
theorem Hk:TypOk Tryz.prog 24 TRE_24:=by constructor <;> kernel_rfl
def TRE_31:TI:=⟨4,true,[Value.slice none 0 0,Value.int IntKind.i64 0,Value.int IntKind.i64 0,Value.slice none 0 0],[(0,1,false),(1,2,true),(3,1,false)],none,64,6,none,false⟩
theorem Hu:TypOk Tryz.prog 31 TRE_31:=by constructor <;> kernel_rfl
def TRE_29:TI:=⟨1,false,[Value.slice none 0 0],[],some 31,24,5,none,false⟩
theorem Ho:TypOk Tryz.prog 29 TRE_29:=by constructor <;> kernel_rfl
def TRE:List (Nat×TI):=[(104,TRE_104),(22,TRE_22),(3,TRE_3),(28,TRE_28),(24,TRE_24),(31,TRE_31),(29,TRE_29)]
theorem Z2:Zh Tryz.prog TRE:=((((((((Zh.nil _).cons Ho).cons Hu).cons Hk).cons Hn).cons Dx).cons Hj).cons Nb)
theorem GN (b:Int)(C M:List Ty)(c:Bool)(hc:c=true↔XH b C M)(hz:∀ t∈C++M,t.size≤400000):Zd Tryz.prog 80 [.ag [.v (.int .i64 b),.sl 2 (eTys C) none,.sl 2 (eTys M) none]] (.v (.bool c)):=by
 refine Wn (by kernel_rfl) fun m Im w vs hv=>?_
 match vs,hv with
 | [x1],hv=>
  obtain⟨cv,mv,rfl,h1,h2⟩:=C8 hv.1
  refine(Rr h1 h2 hz).mono ?_
  rintro e w' ⟨c',hc',rfl,hb⟩
  have:c'=c:=by rw[Bool.eq_iff_iff,hc',hc]
  subst this
  exact⟨_,rfl,hb,fun _ _ _=>.v _⟩
set_option maxHeartbeats 2000000 in
theorem Fm (b:Int)(C M X:List Ty)(k i:Int)(hC:C.length≤1000000)(hM:M.length≤1000000)(hX:X.length≤1000000):Zd Tryz.prog 112 [.ag [.v (.int .i64 b),.sl 2 (eTys C) none,.sl 2 (eTys M) none],.sl 2 (eTys X) none,.ag [.v (.int .i64 k),.v (.int .i64 i)]] (.tu [.ag (eTy ((Yg C M X k i).getD tyZ)),.v (.bool (Yg C M X k i).isSome)]):=by
 by_cases hi:i<0
 ·rw[WL hi]
  simp only[Option.getD_none,Option.isSome_none]
  rw[Xe]
  refine Zm 0 70 [ResultVar.cell 6 104,ResultVar.tmp 7] Z2 Tryz.func112 rfl Tryz.ntmps112 rfl fun cx hnt hn0=>?_
  ·skip
   refine Zz ?_;refine Zx [] Z2 hnt fun _ z9=>z9 _ _ ?_;refine Zz ?_;refine Zt ?_;refine Zz ?_;refine Zx [(11,.v (.bool true))] Z2 hnt fun K hK=>?_;refine And.intro YD ?_;refine hK _ _ ?_;clear hK K;refine Zy (t:=true) rfl ?_;rw[if_pos rfl];refine Zz ?_;refine Zx [] Z2 hnt fun _ z9=>z9 _ _ ?_
   refine Zu ?_
   exact Zj rfl
 ·obtain⟨n,rfl⟩:=Int.eq_ofNat_of_zero_le (Int.not_lt.1 hi)
  by_cases k0:k=0
  ·subst k0
   rw[RB]
   by_cases hl:n<X.length
   ·have hx:X.length-1-n<X.length:=by omega
    rw[List.getElem?_reverse (by omega),List.getElem?_eq_getElem hx]
    simp only[Option.getD_some,Option.isSome_some]
    rw[Zb]
    have hg:(eTys X).getD ((X.length:Int)-1-(n:Int)).toNat []=[.sl 2 (eTys (X[X.length-1-n]).args) none,.v (.int .i64 (X[X.length-1-n]).base)]:=by rw[show ((X.length:Int)-1-(n:Int)).toNat=X.length-1-n by omega,ZU X _ hx,Zb]
    refine Zm 0 70 [ResultVar.cell 6 104,ResultVar.tmp 7] Z2 Tryz.func112 rfl Tryz.ntmps112 rfl fun cx hnt hn0=>?_
    ·skip
     refine Zz ?_;refine Zx [] Z2 hnt fun _ z9=>z9 _ _ ?_;refine Zz ?_;refine Zt ?_;refine Zz ?_;refine Zx [(11,.v (.bool false))] Z2 hnt fun K hK=>?_;refine And.intro Xq ?_;refine hK _ _ ?_;clear hK K;refine Zy (t:=false) rfl ?_;rw[if_neg (by simp)];refine Zz ?_;refine Zx [(16,.v (.bool true)),(21,.v (.int .i64 (↑X.length))),(22,.v (.bool true))] Z2 hnt fun K hK=>?_
     refine And.intro (Zn.refl _) ?_;refine And.intro (Zq (by rw[Zr])) ?_;refine And.intro YD ?_;refine hK _ _ ?_;clear hK K;refine Zy (t:=true) rfl ?_;rw[if_pos rfl];refine Zz ?_;refine Zx [(26,.v (.int .i64 (↑X.length))),(27,.v (.int .i64 ((↑X.length-1)))),(30,.v (.int .i64 ((↑X.length-1 - ↑n)))),(31,.q [.sl 2 (eTys (X[X.length-1-n]).args) none,.v (.int .i64 (X[X.length-1-n]).base)])] Z2 hnt fun K hK=>?_
     refine And.intro (Zq (by rw[Zr])) ?_;refine And.intro XR ?_;refine And.intro XR ?_;refine And.intro (⟨by omega,by rw[Zr];omega⟩) ?_;refine And.intro (Zn.of_eq (by rw[hg])) ?_;refine hK _ _ ?_;clear hK K;refine Zu ?_
     exact Zj rfl
   ·rw[List.getElem?_eq_none (by simp;omega)]
    simp only[Option.getD_none,Option.isSome_none]
    rw[Xe]
    refine Zm 0 70 [ResultVar.cell 6 104,ResultVar.tmp 7] Z2 Tryz.func112 rfl Tryz.ntmps112 rfl fun cx hnt hn0=>?_
    ·skip
     refine Zz ?_;refine Zx [] Z2 hnt fun _ z9=>z9 _ _ ?_;refine Zz ?_;refine Zt ?_;refine Zz ?_;refine Zx [(11,.v (.bool false))] Z2 hnt fun K hK=>?_;refine And.intro Xq ?_;refine hK _ _ ?_;clear hK K;refine Zy (t:=false) rfl ?_;rw[if_neg (by simp)];refine Zz ?_;refine Zx [(16,.v (.bool true)),(21,.v (.int .i64 (↑X.length))),(22,.v (.bool false))] Z2 hnt fun K hK=>?_
     refine And.intro (Zn.refl _) ?_;refine And.intro (Zq (by rw[Zr])) ?_;refine And.intro Xq ?_;refine hK _ _ ?_;clear hK K;refine Zy (t:=false) rfl ?_;rw[if_neg (by simp)];refine Zz ?_;refine Zx [(36,.v (.bool false))] Z2 hnt fun K hK=>?_;refine And.intro (Zn.refl _) ?_;refine hK _ _ ?_;clear hK K;refine Zy (t:=false) rfl ?_;rw[if_neg (by simp)];refine Zz ?_
     refine Zx [(54,.v (.bool false))] Z2 hnt fun K hK=>?_;refine And.intro (Zn.refl _) ?_;refine hK _ _ ?_;clear hK K;refine Zy (t:=false) rfl ?_;rw[if_neg (by simp)];refine Zw ?_;refine Zz ?_;refine Zx [] Z2 hnt fun _ z9=>z9 _ _ ?_;refine Zu ?_
     exact Zj rfl
  ·by_cases k1:k=1
   ·subst k1
    rw[RC]
    by_cases hl:n<C.length
    ·rw[List.getElem?_eq_getElem hl]
     simp only[Option.getD_some,Option.isSome_some]
     rw[Zb]
     refine Zm 0 70 [ResultVar.cell 6 104,ResultVar.tmp 7] Z2 Tryz.func112 rfl Tryz.ntmps112 rfl fun cx hnt hn0=>?_
     ·skip
      refine Zz ?_;refine Zx [] Z2 hnt fun _ z9=>z9 _ _ ?_;refine Zz ?_;refine Zt ?_;refine Zz ?_;refine Zx [(11,.v (.bool false))] Z2 hnt fun K hK=>?_;refine And.intro Xq ?_;refine hK _ _ ?_;clear hK K;refine Zy (t:=false) rfl ?_;rw[if_neg (by simp)];refine Zz ?_;refine Zx [(16,.v (.bool false))] Z2 hnt fun K hK=>?_
      refine And.intro (Zn.refl _) ?_;refine hK _ _ ?_;clear hK K;refine Zy (t:=false) rfl ?_;rw[if_neg (by simp)];refine Zz ?_;refine Zx [(36,.v (.bool true)),(42,.v (.int .i64 (↑C.length))),(43,.v (.bool true))] Z2 hnt fun K hK=>?_;refine And.intro (Zn.refl _) ?_;refine And.intro (Zq (by rw[Zr])) ?_;refine And.intro YD ?_;refine hK _ _ ?_;clear hK K;refine Zy (t:=true) rfl ?_
      rw[if_pos rfl];refine Zz ?_;refine Zx [(49,.q [.sl 2 (eTys C[n].args) none,.v (.int .i64 C[n].base)])] Z2 hnt fun K hK=>?_;refine And.intro (Xg (Zr C)) ?_;refine And.intro (Xh (ZU C n) (Zb _)) ?_;refine hK _ _ ?_;clear hK K;refine Zu ?_
      exact Zj rfl
    ·rw[List.getElem?_eq_none (by omega)]
     simp only[Option.getD_none,Option.isSome_none]
     rw[Xe]
     refine Zm 0 70 [ResultVar.cell 6 104,ResultVar.tmp 7] Z2 Tryz.func112 rfl Tryz.ntmps112 rfl fun cx hnt hn0=>?_
     ·skip
      refine Zz ?_;refine Zx [] Z2 hnt fun _ z9=>z9 _ _ ?_;refine Zz ?_;refine Zt ?_;refine Zz ?_;refine Zx [(11,.v (.bool false))] Z2 hnt fun K hK=>?_;refine And.intro Xq ?_;refine hK _ _ ?_;clear hK K;refine Zy (t:=false) rfl ?_;rw[if_neg (by simp)];refine Zz ?_;refine Zx [(16,.v (.bool false))] Z2 hnt fun K hK=>?_
      refine And.intro (Zn.refl _) ?_;refine hK _ _ ?_;clear hK K;refine Zy (t:=false) rfl ?_;rw[if_neg (by simp)];refine Zz ?_;refine Zx [(36,.v (.bool true)),(42,.v (.int .i64 (↑C.length))),(43,.v (.bool false))] Z2 hnt fun K hK=>?_;refine And.intro (Zn.refl _) ?_;refine And.intro (Zq (by rw[Zr])) ?_;refine And.intro Xq ?_;refine hK _ _ ?_;clear hK K;refine Zy (t:=false) rfl ?_
      rw[if_neg (by simp)];refine Zz ?_;refine Zx [(54,.v (.bool false))] Z2 hnt fun K hK=>?_;refine And.intro (Zn.refl _) ?_;refine hK _ _ ?_;clear hK K;refine Zy (t:=false) rfl ?_;rw[if_neg (by simp)];refine Zw ?_;refine Zz ?_;refine Zx [] Z2 hnt fun _ z9=>z9 _ _ ?_;refine Zu ?_
      exact Zj rfl
   ·by_cases k2:k=2
    ·subst k2
     rw[RD]
     by_cases hl:n<M.length
     ·rw[List.getElem?_eq_getElem hl]
      simp only[Option.getD_some,Option.isSome_some]
      rw[Zb]
      refine Zm 0 70 [ResultVar.cell 6 104,ResultVar.tmp 7] Z2 Tryz.func112 rfl Tryz.ntmps112 rfl fun cx hnt hn0=>?_
      ·skip
       refine Zz ?_;refine Zx [] Z2 hnt fun _ z9=>z9 _ _ ?_;refine Zz ?_;refine Zt ?_;refine Zz ?_;refine Zx [(11,.v (.bool false))] Z2 hnt fun K hK=>?_;refine And.intro Xq ?_;refine hK _ _ ?_;clear hK K;refine Zy (t:=false) rfl ?_;rw[if_neg (by simp)];refine Zz ?_;refine Zx [(16,.v (.bool false))] Z2 hnt fun K hK=>?_
       refine And.intro (Zn.refl _) ?_;refine hK _ _ ?_;clear hK K;refine Zy (t:=false) rfl ?_;rw[if_neg (by simp)];refine Zz ?_;refine Zx [(36,.v (.bool false))] Z2 hnt fun K hK=>?_;refine And.intro (Zn.refl _) ?_;refine hK _ _ ?_;clear hK K;refine Zy (t:=false) rfl ?_;rw[if_neg (by simp)];refine Zz ?_;refine Zx [(54,.v (.bool true)),(60,.v (.int .i64 (↑M.length))),(61,.v (.bool true))] Z2 hnt fun K hK=>?_
       refine And.intro (Zn.refl _) ?_;refine And.intro (Zq (by rw[Zr])) ?_;refine And.intro YD ?_;refine hK _ _ ?_;clear hK K;refine Zy (t:=true) rfl ?_;rw[if_pos rfl];refine Zz ?_;refine Zx [(67,.q [.sl 2 (eTys M[n].args) none,.v (.int .i64 M[n].base)])] Z2 hnt fun K hK=>?_;refine And.intro (Xg (Zr M)) ?_;refine And.intro (Xh (ZU M n) (Zb _)) ?_
       refine hK _ _ ?_;clear hK K;refine Zu ?_
       exact Zj rfl
     ·rw[List.getElem?_eq_none (by omega)]
      simp only[Option.getD_none,Option.isSome_none]
      rw[Xe]
      refine Zm 0 70 [ResultVar.cell 6 104,ResultVar.tmp 7] Z2 Tryz.func112 rfl Tryz.ntmps112 rfl fun cx hnt hn0=>?_
      ·skip
       refine Zz ?_;refine Zx [] Z2 hnt fun _ z9=>z9 _ _ ?_;refine Zz ?_;refine Zt ?_;refine Zz ?_;refine Zx [(11,.v (.bool false))] Z2 hnt fun K hK=>?_;refine And.intro Xq ?_;refine hK _ _ ?_;clear hK K;refine Zy (t:=false) rfl ?_;rw[if_neg (by simp)];refine Zz ?_;refine Zx [(16,.v (.bool false))] Z2 hnt fun K hK=>?_
       refine And.intro (Zn.refl _) ?_;refine hK _ _ ?_;clear hK K;refine Zy (t:=false) rfl ?_;rw[if_neg (by simp)];refine Zz ?_;refine Zx [(36,.v (.bool false))] Z2 hnt fun K hK=>?_;refine And.intro (Zn.refl _) ?_;refine hK _ _ ?_;clear hK K;refine Zy (t:=false) rfl ?_;rw[if_neg (by simp)];refine Zz ?_;refine Zx [(54,.v (.bool true)),(60,.v (.int .i64 (↑M.length))),(61,.v (.bool false))] Z2 hnt fun K hK=>?_
       refine And.intro (Zn.refl _) ?_;refine And.intro (Zq (by rw[Zr])) ?_;refine And.intro Xq ?_;refine hK _ _ ?_;clear hK K;refine Zy (t:=false) rfl ?_;rw[if_neg (by simp)];refine Zw ?_;refine Zz ?_;refine Zx [] Z2 hnt fun _ z9=>z9 _ _ ?_;refine Zu ?_
       exact Zj rfl
    ·rw[RE k0 k1 k2]
     simp only[Option.getD_none,Option.isSome_none]
     rw[Xe]
     refine Zm 0 70 [ResultVar.cell 6 104,ResultVar.tmp 7] Z2 Tryz.func112 rfl Tryz.ntmps112 rfl fun cx hnt hn0=>?_
     ·skip
      refine Zz ?_;refine Zx [] Z2 hnt fun _ z9=>z9 _ _ ?_;refine Zz ?_;refine Zt ?_;refine Zz ?_;refine Zx [(11,.v (.bool false))] Z2 hnt fun K hK=>?_;refine And.intro Xq ?_;refine hK _ _ ?_;clear hK K;refine Zy (t:=false) rfl ?_;rw[if_neg (by simp)];refine Zz ?_;refine Zx [(16,.v (.bool false))] Z2 hnt fun K hK=>?_
      refine And.intro (XT k0) ?_;refine hK _ _ ?_;clear hK K;refine Zy (t:=false) rfl ?_;rw[if_neg (by simp)];refine Zz ?_;refine Zx [(36,.v (.bool false))] Z2 hnt fun K hK=>?_;refine And.intro (XT k1) ?_;refine hK _ _ ?_;clear hK K;refine Zy (t:=false) rfl ?_;rw[if_neg (by simp)];refine Zz ?_;refine Zx [(54,.v (.bool false))] Z2 hnt fun K hK=>?_
      refine And.intro (XT k2) ?_;refine hK _ _ ?_;clear hK K;refine Zy (t:=false) rfl ?_;rw[if_neg (by simp)];refine Zw ?_;refine Zz ?_;refine Zx [] Z2 hnt fun _ z9=>z9 _ _ ?_;refine Zu ?_
      exact Zj rfl
set_option maxHeartbeats 4000000 in
theorem Bu (b:Int)(C M:List Ty)(hC:C.length≤1000000)(hM:M.length≤1000000):∀ (t:Tm) (X:List Ty) (u:Ty) (c:Bool),(c=true↔X1 C M t X u)→X.length+t.full≤900000 →
  Zd Tryz.prog 87 [.ag [.v (.int .i64 b),.sl 2 (eTys C) none,.sl 2 (eTys M) none],.sl 2 (eTys X) none,.ag (eTm t),.ag (eTy u)] (.v (.bool c)):=by
 intro t
 induction t using Tm.ind with
 | h bs k i a ih=>
 intro X u c hc hz
 rw[Tm.full_eq] at hz
 have hal:=VF a
 have hbl:=Ty.le_sizes bs
 have hbe:=Vc X bs (by omega)
 have hh:=Fm b C M (X++bs) k i hC hM (by simp;omega)
 obtain⟨o,ho⟩:∃ o,Yg C M (X++bs) k i=o:=⟨_,rfl⟩
 obtain⟨Y,hY⟩:∃ Y,X++bs=Y:=⟨_,rfl⟩
 have hYl:Y.length=X.length+bs.length:=by rw[←hY];simp
 have hty:=Tn bs u.args
 have no:∀ (h:∀ x,Yg C M (X++bs) k i=some x→bs=u.args→x.base=u.base→x.args.length=a.length→False),c=false:=fun h=>by
  rw[Bool.eq_false_iff];exact fun hc1=>KT h (hc.1 hc1)
 rw[ho] at hh no
 rw[Zv,Zb]
 simp only[VE,T0,VK,Vh]
 rw[hY] at hbe hh
 cases o with
 | none=>
  simp only[Option.getD_none,Option.isSome_none] at hh
  rw[Xe] at hh
  rw[no (fun x h=>by cases h)]
  refine Zm 0 72 [ResultVar.tmp 8] Z2 Tryz.func87 rfl Tryz.ntmps87 rfl fun cx hnt hn0=>?_
  ·skip
   refine Zz ?_;refine Zx [] Z2 hnt fun _ z9=>z9 _ _ ?_;refine Zz ?_;refine Zx [] Z2 hnt fun K hK=>?_;refine Ze (hbe) ?_;refine hK _ _ ?_;clear hK K;refine Zz ?_;refine Zx [] Z2 hnt fun K hK=>?_;refine Ze (hh) ?_;refine hK _ _ ?_;clear hK K;refine Zz ?_;refine Zz ?_;refine Zx [] Z2 hnt fun _ z9=>z9 _ _ ?_
   refine Zy (t:=true) rfl ?_;rw[if_pos rfl];refine Zz ?_;refine Zx [] Z2 hnt fun _ z9=>z9 _ _ ?_;refine Zu ?_
   exact Zj rfl
 | some h=>
 simp only[Option.getD_some,Option.isSome_some] at hh
 rw[Zb] at hh
 by_cases hb:bs=u.args
 ·rw[decide_eq_true hb] at hty
  by_cases hbs:h.base=u.base
  ·by_cases hln:h.args.length=a.length
   ·have hIff:c=true↔∀ j (h1:j<a.length) (h2:j<h.args.length),X1 C M a[j] Y h.args[j]:=by
     rw[hc,SI,hY]
     constructor
     ·rintro⟨_,x,h2,_,h4⟩ j j1 j2
      rw[←hY,ho] at h2;cases h2
      exact(Wt.1 h4).2 j j1 j2
     ·intro hall
      exact⟨hb,h,by rw[←hY,ho],hbs,Wt.2 ⟨hln,hall⟩⟩
    have hI:∀ j (h1:j<a.length) (h2:j<h.args.length) (d:Bool),(d=true↔X1 C M a[j] Y h.args[j])→Zd Tryz.prog 87 [.ag [.v (.int .i64 b),.sl 2 (eTys C) none,.sl 2 (eTys M) none],.sl 2 (eTys Y) none,.ag (eTm a[j]),.ag (eTy h.args[j])] (.v (.bool d)):=fun j h1 h2 d hd=>ih _ (List.getElem_mem h1) Y _ d hd (by have:=Tm.full_mem (List.getElem_mem h1);omega)
    clear ih no hc
    refine Zm 0 72 [ResultVar.tmp 8] Z2 Tryz.func87 rfl Tryz.ntmps87 rfl fun cx hnt hn0=>?_
    ·skip
     refine Zz ?_;refine Zx [] Z2 hnt fun _ z9=>z9 _ _ ?_;refine Zz ?_;refine Zx [] Z2 hnt fun K hK=>?_;refine Ze (hbe) ?_;refine hK _ _ ?_;clear hK K;refine Zz ?_;refine Zx [] Z2 hnt fun K hK=>?_;refine Ze (hh) ?_;refine hK _ _ ?_;clear hK K;refine Zz ?_;refine Zz ?_;refine Zx [(40,.v (.bool false)),(45,.v (.int .i64 (↑h.args.length))),(48,.v (.int .i64 (↑a.length))),(49,.v (.bool false))] Z2 hnt fun K hK=>?_
     refine Ze (hty) ?_;refine And.intro (Yy hbs) ?_;refine And.intro (Zq (by rw[Zr])) ?_;refine And.intro (Zq (by rw[Zs])) ?_;refine And.intro (Yy (by omega)) ?_;refine hK _ _ ?_;clear hK K;refine Zy (t:=false) rfl ?_;rw[if_neg (by simp)];refine Zw ?_;refine Zz ?_;refine Zz ?_;refine Zx [] Z2 hnt fun _ z9=>z9 _ _ ?_
     refine Zt ?_
     refine Z4 (ι:={ j:Nat // ∀ i (h1:i<a.length) (h2:i<h.args.length),i<j→X1 C M a[i] Y h.args[i] }) (fun j=>[(.t 4,.p 0 0),(.t 6,.p 1 0),(.t 7,.p 2 0),(.t 9,.sl 2 (eTys Y) none),(.t 10,.p 17 0),(.t 12,.v (.int .i64 ↑j.1)),(.c 0 0,.v (.int .i64 b)),(.c 0 1,.sl 2 (eTys C) none),(.c 0 2,.sl 2 (eTys M) none),(.c 1 0,.sl 2 (eTys bs) none),(.c 1 1,.v (.int .i64 k)),(.c 1 2,.v (.int .i64 i)),(.c 1 3,.sl 4 (eTms a) none),(.c 17 0,.sl 2 (eTys h.args) none),(.c 17 1,.v (.int .i64 h.base))]) 18 (fun j=>a.length-j.1) (⟨0,fun i h1 h2 h3=>by omega⟩) (VS.toA) fun j=>?_
     obtain⟨j,hj⟩:=j
     dsimp only
     by_cases hlt:j<a.length
     ·have hlt2:j<h.args.length:=by omega
      by_cases hio:X1 C M a[j] Y h.args[j]
      ·have hi:=hI j hlt hlt2 true (by simp[hio])
       rw[Zv,Zb] at hi
       refine Zz ?_;refine Zz ?_;refine Zx [(54,.v (.int .i64 (↑a.length))),(55,.v (.bool true))] Z2 hnt fun K hK=>?_;refine And.intro (Zq (by rw[Zs])) ?_;refine And.intro YD ?_;refine hK _ _ ?_;clear hK K;refine Zy (t:=true) rfl ?_;rw[if_pos rfl];refine Zw ?_;refine Zz ?_;refine Zt ?_;refine Zz ?_;refine ZP [(63,.q [.sl 2 (eTys a[j].binds) none,.v (.int .i64 a[j].kind),.v (.int .i64 a[j].index),.sl 4 (eTms a[j].args) none]),(68,.q [.sl 2 (eTys h.args[j].args) none,.v (.int .i64 h.args[j].base)])] Z2 hnt fun K hK=>?_
       refine And.intro (Xg (Zs a)) ?_;refine And.intro (Xh (ZX a j) (Zv _)) ?_;refine And.intro (Xg (Zr h.args)) ?_;refine And.intro (Xh (ZU h.args j) (Zb _)) ?_;refine Ze (hi) ?_;refine hK _ _ (by kernel_rfl) ?_;clear hK K;refine Zy (t:=false) rfl ?_;rw[if_neg (by simp)];refine Zw ?_;refine Zx [(57,.v (.int .i64 (↑(j+1))))] Z2 hnt fun K hK=>?_
       refine And.intro XR ?_;refine hK _ _ ?_;clear hK K
       refine⟨⟨j+1,fun q h1 h2 h3=>if e:q=j then by subst e;exact hio else hj q h1 h2 (by omega)⟩,by first | omega | (dsimp only;omega),VS.toA⟩
      ·have hi:=hI j hlt hlt2 false (by simp[hio])
       rw[Zv,Zb] at hi
       have hcf:c=false:=by rw[Bool.eq_false_iff];exact fun h1=>hio (hIff.1 h1 j hlt hlt2)
       rw[hcf]
       refine Zz ?_;refine Zz ?_;refine Zx [(54,.v (.int .i64 (↑a.length))),(55,.v (.bool true))] Z2 hnt fun K hK=>?_;refine And.intro (Zq (by rw[Zs])) ?_;refine And.intro YD ?_;refine hK _ _ ?_;clear hK K;refine Zy (t:=true) rfl ?_;rw[if_pos rfl];refine Zw ?_;refine Zz ?_;refine Zt ?_;refine Zz ?_;refine ZP [(63,.q [.sl 2 (eTys a[j].binds) none,.v (.int .i64 a[j].kind),.v (.int .i64 a[j].index),.sl 4 (eTms a[j].args) none]),(68,.q [.sl 2 (eTys h.args[j].args) none,.v (.int .i64 h.args[j].base)])] Z2 hnt fun K hK=>?_
       refine And.intro (Xg (Zs a)) ?_;refine And.intro (Xh (ZX a j) (Zv _)) ?_;refine And.intro (Xg (Zr h.args)) ?_;refine And.intro (Xh (ZU h.args j) (Zb _)) ?_;refine Ze (hi) ?_;refine hK _ _ (by kernel_rfl) ?_;clear hK K;refine Zy (t:=true) rfl ?_;rw[if_pos rfl];refine Zz ?_;refine Zx [] Z2 hnt fun _ z9=>z9 _ _ ?_
       refine Zu ?_
       exact Zj rfl
     ·rw[hIff.2 fun q h1 h2=>hj q h1 h2 (by omega)]
      refine Zz ?_;refine Zz ?_;refine Zx [(54,.v (.int .i64 (↑a.length))),(55,.v (.bool false))] Z2 hnt fun K hK=>?_;refine And.intro (Zq (by rw[Zs])) ?_;refine And.intro Xq ?_;refine hK _ _ ?_;clear hK K;refine Zy (t:=false) rfl ?_;rw[if_neg (by simp)];refine Zc ?_;refine Zz ?_;refine Zx [] Z2 hnt fun _ z9=>z9 _ _ ?_
      refine Zu ?_
      exact Zj rfl
   ·rw[no (fun x h1 _ _ h4=>by cases h1;exact hln h4)]
    refine Zm 0 72 [ResultVar.tmp 8] Z2 Tryz.func87 rfl Tryz.ntmps87 rfl fun cx hnt hn0=>?_
    ·skip
     refine Zz ?_;refine Zx [] Z2 hnt fun _ z9=>z9 _ _ ?_;refine Zz ?_;refine Zx [] Z2 hnt fun K hK=>?_;refine Ze (hbe) ?_;refine hK _ _ ?_;clear hK K;refine Zz ?_;refine Zx [] Z2 hnt fun K hK=>?_;refine Ze (hh) ?_;refine hK _ _ ?_;clear hK K;refine Zz ?_;refine Zz ?_;refine Zx [(40,.v (.bool false)),(45,.v (.int .i64 (↑h.args.length))),(48,.v (.int .i64 (↑a.length))),(49,.v (.bool true))] Z2 hnt fun K hK=>?_
     refine Ze (hty) ?_;refine And.intro (Yy hbs) ?_;refine And.intro (Zq (by rw[Zr])) ?_;refine And.intro (Zq (by rw[Zs])) ?_;refine And.intro (Y6 (by omega)) ?_;refine hK _ _ ?_;clear hK K;refine Zy (t:=true) rfl ?_;rw[if_pos rfl];refine Zz ?_;refine Zx [] Z2 hnt fun _ z9=>z9 _ _ ?_;refine Zu ?_
     exact Zj rfl
  ·rw[no (fun x h1 _ h3 _=>by cases h1;exact hbs h3)]
   refine Zm 0 72 [ResultVar.tmp 8] Z2 Tryz.func87 rfl Tryz.ntmps87 rfl fun cx hnt hn0=>?_
   ·skip
    refine Zz ?_;refine Zx [] Z2 hnt fun _ z9=>z9 _ _ ?_;refine Zz ?_;refine Zx [] Z2 hnt fun K hK=>?_;refine Ze (hbe) ?_;refine hK _ _ ?_;clear hK K;refine Zz ?_;refine Zx [] Z2 hnt fun K hK=>?_;refine Ze (hh) ?_;refine hK _ _ ?_;clear hK K;refine Zz ?_;refine Zz ?_;refine Zx [(40,.v (.bool true))] Z2 hnt fun K hK=>?_
    refine Ze (hty) ?_;refine And.intro (Y6 hbs) ?_;refine hK _ _ ?_;clear hK K;refine Zy (t:=true) rfl ?_;rw[if_pos rfl];refine Zz ?_;refine Zx [] Z2 hnt fun _ z9=>z9 _ _ ?_;refine Zu ?_
    exact Zj rfl
 ·rw[decide_eq_false hb] at hty
  rw[no (fun x _ h2 _ _=>hb h2)]
  refine Zm 0 72 [ResultVar.tmp 8] Z2 Tryz.func87 rfl Tryz.ntmps87 rfl fun cx hnt hn0=>?_
  ·skip
   refine Zz ?_;refine Zx [] Z2 hnt fun _ z9=>z9 _ _ ?_;refine Zz ?_;refine Zx [] Z2 hnt fun K hK=>?_;refine Ze (hbe) ?_;refine hK _ _ ?_;clear hK K;refine Zz ?_;refine Zx [] Z2 hnt fun K hK=>?_;refine Ze (hh) ?_;refine hK _ _ ?_;clear hK K;refine Zz ?_;refine Zz ?_;refine Zx [] Z2 hnt fun K hK=>?_;refine Ze (hty) ?_
   refine hK _ _ ?_;clear hK K;refine Zy (t:=true) rfl ?_;rw[if_pos rfl];refine Zz ?_;refine Zx [] Z2 hnt fun _ z9=>z9 _ _ ?_;refine Zu ?_
   exact Zj rfl
def TRF_24:TI:=⟨3,true,[Value.int IntKind.i64 0,Value.slice none 0 0,Value.slice none 0 0],[(0,1,false),(1,1,false),(2,1,false)],none,56,6,none,false⟩
theorem Hw:TypOk Tryz.prog 24 TRF_24:=by constructor <;> kernel_rfl
def TRF_62:TI:=⟨4,true,[Value.slice none 0 0,Value.int IntKind.i64 0,Value.int IntKind.i64 0,Value.slice none 0 0],[(0,1,false),(1,2,true),(3,1,false)],none,64,6,none,false⟩
theorem IE:TypOk Tryz.prog 62 TRF_62:=by constructor <;> kernel_rfl
def TRF_43:TI:=⟨3,true,[Value.int IntKind.i64 0,Value.slice none 0 0,Value.slice none 0 0],[(0,1,false),(1,1,false),(2,1,false)],none,56,6,none,false⟩
theorem IC:TypOk Tryz.prog 43 TRF_43:=by constructor <;> kernel_rfl
def TRF_33:TI:=⟨9,true,[Value.slice none 0 0,Value.int IntKind.i64 0,Value.int IntKind.i64 0,Value.slice none 0 0,Value.slice none 0 0,Value.int IntKind.i64 0,Value.int IntKind.i64 0,Value.slice none 0 0,Value.slice none 0 0],[(0,4,true),(4,4,true),(8,1,false)],none,152,6,none,false⟩
theorem IA:TypOk Tryz.prog 33 TRF_33:=by constructor <;> kernel_rfl
def TRF_31:TI:=⟨4,true,[Value.slice none 0 0,Value.int IntKind.i64 0,Value.int IntKind.i64 0,Value.slice none 0 0],[(0,1,false),(1,2,true),(3,1,false)],none,64,6,none,false⟩
theorem Hy:TypOk Tryz.prog 31 TRF_31:=by constructor <;> kernel_rfl
def TRF_64:TI:=⟨9,true,[Value.slice none 0 0,Value.int IntKind.i64 0,Value.int IntKind.i64 0,Value.slice none 0 0,Value.slice none 0 0,Value.int IntKind.i64 0,Value.int IntKind.i64 0,Value.slice none 0 0,Value.slice none 0 0],[(0,4,true),(4,4,true),(8,1,false)],none,152,6,none,false⟩
theorem IF:TypOk Tryz.prog 64 TRF_64:=by constructor <;> kernel_rfl
def TRF_22:TI:=⟨1,false,[Value.slice none 0 0],[],some 104,24,5,none,false⟩
theorem Hv:TypOk Tryz.prog 22 TRF_22:=by constructor <;> kernel_rfl
def TRF_104:TI:=⟨2,true,[Value.slice none 0 0,Value.int IntKind.i64 0],[(0,1,false),(1,1,false)],none,32,6,none,false⟩
theorem Nc:TypOk Tryz.prog 104 TRF_104:=by constructor <;> kernel_rfl
def TRF_41:TI:=⟨1,false,[Value.slice none 0 0],[],some 106,24,5,none,false⟩
theorem IB:TypOk Tryz.prog 41 TRF_41:=by constructor <;> kernel_rfl
def TRF_106:TI:=⟨2,true,[Value.slice none 0 0,Value.int IntKind.i64 0],[(0,1,false),(1,1,false)],none,32,6,none,false⟩
theorem Nd:TypOk Tryz.prog 106 TRF_106:=by constructor <;> kernel_rfl
def TRF_3:TI:=⟨1,false,[Value.int IntKind.i64 0],[],none,8,2,none,false⟩
theorem Dy:TypOk Tryz.prog 3 TRF_3:=by constructor <;> kernel_rfl
def TRF_50:TI:=⟨1,false,[Value.int IntKind.i64 0],[],none,8,2,none,false⟩
theorem ID:TypOk Tryz.prog 50 TRF_50:=by constructor <;> kernel_rfl
def TRF:List (Nat×TI):=[(24,TRF_24),(62,TRF_62),(43,TRF_43),(33,TRF_33),(31,TRF_31),(64,TRF_64),(22,TRF_22),(104,TRF_104),(41,TRF_41),(106,TRF_106),(3,TRF_3),(50,TRF_50)]
theorem Nf:Zh Tryz.prog TRF:=(((((((((((((Zh.nil _).cons ID).cons Dy).cons Nd).cons IB).cons Nc).cons Hv).cons IF).cons Hy).cons IA).cons IC).cons IE).cons Hw)
namespace Ru
structure Good (b:Int) (C:List Ty) (p:Li.Pr):Prop where
 w:XH b C p.m
 l:Li.rt p.l=true
 r:Li.rt p.r=true
 u:∃ u,GO C p.m p.l=some u∧u.args=[]∧X1 C p.m p.l [] u∧X1 C p.m p.r [] u
end Ru
theorem Us (b:Int)(C M:List Ty)(u:Ty)(t:Tm)(c:Int)(hC:C.length≤1000000)(hM:M.length≤1000000)(hc:Yt C M t [] u c)(hz:t.full≤90000)(hf:t.Fit):
  ZE Tryz.prog 82 [.ag (eTm t),.p 10 0,.p 34 0] [(.c 10 0,.v (.int .i64 b)),(.c 10 1,.sl 2 (eTys C) none),(.c 10 2,.sl 2 (eTys M) none),(.c 34 0,.sl 2 (eTys u.args) none),(.c 34 1,.v (.int .i64 u.base))] [(.c 10 0,.v (.int .i64 b)),(.c 10 1,.sl 2 (eTys C) none),(.c 10 2,.sl 2 (eTys M) none),(.c 34 0,.sl 2 (eTys u.args) none),(.c 34 1,.v (.int .i64 u.base))] (.v (.bool (decide (c=0)))):=by
 have h:=GI b C M t u c hC hM hc (by omega) hf
 rw[Zv,Zb] at h
 rw[Zv]
 refine Zm 35 10 [ResultVar.tmp 4] Nf Tryz.func82 rfl Tryz.ntmps82 rfl fun cx hnt hn0=>?_
 ·skip
  refine Zz ?_;refine Zx [] Nf hnt fun _ z9=>z9 _ _ ?_;refine Zz ?_;refine Zx [(9,.v (.bool (decide (c=0))))] Nf hnt fun K hK=>?_;refine Ze (h) ?_;refine And.intro (Zn.of_eq (by by_cases h:c=0 <;> simp[h])) ?_;refine hK _ _ ?_;clear hK K;refine Zu ?_
  exact Zj rfl
theorem Qj {C M:List Ty}{t:Tm}{u:Ty}(h1:Li.rt t=true)(h2:X1 C M t [] u):Yt C M t [] u 0:=by
 unfold Li.rt at h1;rw[decide_eq_true_eq] at h1
 exact .inr (.inr ⟨h1,h2,rfl⟩)
theorem KF {C M:List Ty}{t:Tm}{u:Ty}(h1:Li.rt t=true)(h2:¬ X1 C M t [] u):Yt C M t [] u 5:=by
 unfold Li.rt at h1;rw[decide_eq_true_eq] at h1
 exact .inr (.inl ⟨h1,h2,rfl⟩)
namespace Ru
end Ru
namespace Ru
def kA:Ty:=.mk [] 0
end Ru
namespace Ru
structure Sm (p:Li.Pr):Prop where
 l:p.l.full≤150∧p.l.Fit
 r:p.r.full≤150∧p.r.Fit
 ml:p.m.length≤300
 m:∀ t∈p.m,t.size≤60
theorem mt_size {M:List Ty}(h:∀ t∈M,t.size≤60)(x:Int):(mt M x).size≤60:=by
 unfold mt
 rw[List.getD_eq_getElem?_getD]
 cases hx:M[x.toNat]? with
 | none=>simp[Ty.size,Ty.sizes]
 | some t=>exact h t (List.mem_of_getElem? hx)
theorem Sm.own {p:Li.Pr}(h:Sm p):Sm (own p).1:=by
 by_cases hb:(tr p.r (tr p.l []).1).1.any (bad p.m)=true
 ·have:Ru.own p=(.z,10):=by unfold Ru.own;rw[if_pos hb]
  rw[this]
  exact⟨⟨by decide,Tm.fit_iff.2 ⟨by decide,by decide,nofun⟩⟩,⟨by decide,Tm.fit_iff.2 ⟨by decide,by decide,nofun⟩⟩,by decide,nofun⟩
 ·have e:Ru.own p=(⟨(tr p.l []).2,(tr p.r (tr p.l []).1).2,(tr p.r (tr p.l []).1).1.map (mt p.m)⟩,0):=by unfold Ru.own;rw[if_neg hb]
  rw[e]
  have g1:=tr_grow p.l []
  have g2:=tr_grow p.r (tr p.l []).1
  have:=h.l.1
  have:=h.r.1
  simp only[List.length_nil,Nat.zero_add] at g1
  refine⟨⟨?_,?_⟩,⟨?_,?_⟩,?_,fun t ht=>?_⟩
  ·show (tr p.l []).2.full≤150
   rw[tr_full];exact h.l.1
  ·exact tr_fit p.l [] (by simp;omega) h.l.2
  ·show (tr p.r (tr p.l []).1).2.full≤150
   rw[tr_full];exact h.r.1
  ·exact tr_fit p.r _ (by omega) h.r.2
  ·show (List.map _ _).length≤300
   rw[List.length_map];omega
  ·obtain⟨x,_,rfl⟩:=List.mem_map.1 ht
   exact mt_size h.m x
theorem Sm.sizes {p:Li.Pr}(h:Sm p):Ty.sizes p.m≤18000:=by
 have:=VP h.m
 have:=h.ml
 omega
end Ru
namespace Ru
/-! typed -/
variable {C M:List Ty} {o:List Int}
/-! which metavariables -/
def g (f:List Int)(x:Int):Int:=if x∈f then (ix x f:Int) else x
end Ru
namespace Ru
variable {C M:List Ty}
end Ru
def swR (kw kb:Nat)(l:List (Int×Tm))(s:Nm.St):List (Key×D):=[(.c kw 0,.o kb),(.c kw 1,.sl 5 (Z1 l) none),(.c kw 2,.v (.int .i64 s.e)),(.o kb,.ob (Ve s.left s.dry))]
theorem DV (kw kb:Nat)(hk:kw≠kb)(l:List (Int×Tm))(hl:l.length≤1000000)(t:Tm)(ht:ZB t)(ins:Int)(s:Nm.St)(hs:VC s)(ho:Tv l t ins s):
  ZE Tryz.prog 149 [.p kw 0,.ag (eTm t),.v (.int .i64 ins)] (swR kw kb l s) (swR kw kb l (Sb.through l t ins s).2) (.ag (eTm (Sb.through l t ins s).1)):=by
 have h:=(CC l hl t ht ins s hs ho).ren (SS kw kb) (by simp[Vq,DY,D.ok,D.oks,ZQ,YF,XC,Y5,Yk,Yw,Yb]) (by
  intro k h1 k' h2
  simp[ZQ,DY] at h1 h2
  rcases h1 with rfl | rfl <;> rcases h2 with rfl | rfl <;> simp[SS,hk,hk.symm])
 simpa[D.ren,WK,Vj,WI,DY,swR,Wy,Key.ren,SS] using h
theorem AB {l:List (Int×Tm)}{t:Tm}{left:Int}{dry:Bool}(h:Sb.right l=false):Sb.apply l t left dry=(Nm.tz,⟨left,dry,0,1⟩):=if_pos h
theorem AC {l:List (Int×Tm)}{t:Tm}{left:Int}{dry:Bool}(h:Sb.right l=true):Sb.apply l t left dry =
  (let r:=Sb.through l t 0 ⟨left,dry,0,0⟩;let s:Nm.St:=if r.2.e=0∧¬ (r.1.size≤5000∧r.1.depth≤60) then { r.2 with e:=2 } else r.2;if s.e≠0 then (Nm.tz,s) else (r.1,s)):=if_neg (by rw[h];simp)
def PE (t:Tm)(s:Nm.St):Tm×Nm.St:=let s':Nm.St:=if s.e=0∧¬ (t.size≤5000∧t.depth≤60) then { s with e:=2 } else s;if s'.e≠0 then (Nm.tz,s') else (t,s')
theorem AP {t:Tm}(h:t.size≤5000∧t.depth≤60)(l:Int)(d:Bool)(c:Int):PE t ⟨l,d,c,0⟩=(t,⟨l,d,c,0⟩):=by
 have:¬ ((0:Int)=0∧¬ (t.size≤5000∧t.depth≤60)):=fun h'=>h'.2 h
 unfold PE;dsimp only;rw[if_neg this];simp
theorem AQ {t:Tm}(h:¬ (t.size≤5000∧t.depth≤60))(l:Int)(d:Bool)(c:Int):PE t ⟨l,d,c,0⟩=(Nm.tz,⟨l,d,c,2⟩):=by
 have:(0:Int)=0∧¬ (t.size≤5000∧t.depth≤60):=⟨rfl,h⟩
 unfold PE;dsimp only;rw[if_pos this];rfl
theorem AR {t:Tm}{e:Int}(h:e≠0)(l:Int)(d:Bool)(c:Int):PE t ⟨l,d,c,e⟩=(Nm.tz,⟨l,d,c,e⟩):=by
 have:¬ (e=0∧¬ (t.size≤5000∧t.depth≤60)):=fun h'=>h h'.1
 unfold PE;dsimp only;rw[if_neg this];exact if_pos h
set_option maxHeartbeats 1000000 in
theorem C6 (l:List (Int×Tm))(hl:l.length≤1000000)(t:Tm)(ht:ZB t)(left:Int)(dry:Bool)(h0:0≤left∧left≤1000000000)(ho:Sb.right l=true→Tv l t 0 ⟨left,dry,0,0⟩∧((Sb.through l t 0 ⟨left,dry,0,0⟩).2.e=0→WA (Sb.through l t 0 ⟨left,dry,0,0⟩).1)):
  ZE Tryz.prog 140 [.sl 5 (Z1 l) none,.ag (eTm t),.o 1] [(.o 1,.ob (Ve left dry))] [(.o 1,.ob (Ve (Sb.apply l t left dry).2.left (Sb.apply l t left dry).2.dry))] (.tu [.ag (eTm (Sb.apply l t left dry).1),.v (.int .i64 (Sb.apply l t left dry).2.e)]):=by
 obtain⟨p,hp⟩:∃ p,Sb.apply l t left dry=p:=⟨_,rfl⟩
 rw[hp]
 have hrt:=Rh l hl
 have hth:=fun h=>DV 15 1 (by decide) l hl t ht 0 ⟨left,dry,0,0⟩ h0 (ho h).1
 rw[Zv t] at hth ⊢
 refine Z9 2 50 [ResultVar.cell 6 62,ResultVar.tmp 7] ZR (by kernel_rfl) Tryz.func140 rfl Tryz.ntmps140 rfl (by simp) ?dwords ?dbody
 case dwords=>simp[ZF,D.ok,D.oks,ZQ,YF,XC,Y5,Yk,Yw,Yb]
 case dbody=>
  intro cx hnt hn0
  refine Zz ?_;refine Zx [] ZR hnt fun _ z9=>z9 _ _ ?_;refine Zz (Zz ?_)
  cases hr:Sb.right l with
  | false=>
   rw[hr] at hrt
   rw[AB hr] at hp
   subst hp
   refine Zx [] ZR hnt fun K hK=>?_;refine Ze (hrt) ?_;refine hK _ _ ?_;clear hK K;refine Zy (t:=true) rfl ?_;rw[if_pos rfl];refine Zz ?_;refine Zx [] ZR hnt fun _ z9=>z9 _ _ ?_;refine Zu ?_
   rw[Xy]
   exact Yq (N:=0) (.inr rfl) rfl (by repeat first | exact Zn.refl _ | exact Zn.nil _ | exact Zn.untag _ _ _ | refine Zn.ag ?_ | refine Zn.tu ?_ | refine ZS.cons ?_ ?_ | exact ZS.nil) (by repeat first | exact trivial | refine And.intro rfl ?_)
  | true=>
   rw[hr] at hrt
   have ho:=(ho hr).2
   have hth:=hth hr
   rw[AC hr] at hp
   obtain⟨r,hrr⟩:∃ r,Sb.through l t 0 ⟨left,dry,0,0⟩=r:=⟨_,rfl⟩
   rw[hrr] at hp ho hth
   have hp:PE r.1 r.2=p:=hp
   clear hrr
   obtain⟨u,s1⟩:=r
   obtain⟨left',dry',count,er⟩:=s1
   dsimp only at hp ho hth
   refine Zx [] ZR hnt fun K hK=>?_;refine Ze (hrt) ?_;refine hK _ _ ?_;clear hK K;refine Zy (t:=false) rfl ?_;rw[if_neg (by simp)];refine Zw ?_;refine Zz ?_;refine Zx [] ZR hnt fun _ z9=>z9 _ _ ?_;refine Zz ?_
   have hru:er=0→Zd Tryz.prog 34 [.ag (eTm u)] (.v (.bool (decide (u.size≤5000∧u.depth≤60)))):=fun h=>WR u (by have:=(ho h).right;omega)
   have hcu:er=0→(u.size≤5000∧u.depth≤60)→Zd Tryz.prog 96 [.ag (eTm u)] (.ag (eTm u)):=fun h h'=>WG u ((ho h).copy h').1 ((ho h).copy h').2
   rw[Zv u] at hth hru hcu
   refine Zx [] ZR hnt fun K hK=>?_;refine Ze (hth) ?_;refine hK _ _ ?_;clear hK K;refine Zz (Zz ?_)
   by_cases he:er=0
   ·subst he
    have hru:=hru rfl
    by_cases hR:u.size≤5000∧u.depth≤60
    ·have hcu:=hcu rfl hR
     rw[AP hR] at hp
     subst hp
     rw[decide_eq_true hR] at hru
     refine Zx [(29,.v (.bool true))] ZR hnt fun K hK=>?_;refine And.intro (Zn.refl _) ?_;refine Ze (hru) ?_;refine hK _ _ ?_;clear hK K;refine Zy (t:=false) rfl ?_;rw[if_neg (by simp)];refine Zw ?_;refine Zz (Zz ?_);refine Zx [(42,.v (.bool false))] ZR hnt fun K hK=>?_;refine And.intro (Zn.refl _) ?_;refine hK _ _ ?_;clear hK K;refine Zy (t:=false) rfl ?_
     rw[if_neg (by simp)];refine Zw ?_;refine Zz ?_;refine Zx [] ZR hnt fun K hK=>?_;refine Ze (hcu) ?_;refine hK _ _ ?_;clear hK K;refine Zu ?_
     rw[Zv]
     exact Yq (N:=0) (.inr rfl) rfl (by repeat first | exact Zn.refl _ | exact Zn.nil _ | exact Zn.untag _ _ _ | refine Zn.ag ?_ | refine Zn.tu ?_ | refine ZS.cons ?_ ?_ | exact ZS.nil) (by repeat first | exact trivial | refine And.intro rfl ?_)
    ·rw[AQ hR] at hp
     subst hp
     rw[decide_eq_false hR] at hru
     refine Zx [(29,.v (.bool true))] ZR hnt fun K hK=>?_;refine And.intro (Zn.refl _) ?_;refine Ze (hru) ?_;refine hK _ _ ?_;clear hK K;refine Zy (t:=true) rfl ?_;rw[if_pos rfl];refine Zx [] ZR hnt fun _ z9=>z9 _ _ ?_;refine Zz (Zz ?_);refine Zx [(42,.v (.bool true))] ZR hnt fun K hK=>?_;refine And.intro (Zn.refl _) ?_;refine hK _ _ ?_;clear hK K
     refine Zy (t:=true) rfl ?_;rw[if_pos rfl];refine Zz ?_;refine ZP [] ZR hnt fun K hK=>?_;refine hK _ _ (by kernel_rfl) ?_;clear hK K;refine Zu ?_
     rw[Xy]
     exact Yq (N:=0) (.inr rfl) rfl (by repeat first | exact Zn.refl _ | exact Zn.nil _ | exact Zn.untag _ _ _ | refine Zn.ag ?_ | refine Zn.tu ?_ | refine ZS.cons ?_ ?_ | exact ZS.nil) (by repeat first | exact trivial | refine And.intro rfl ?_)
   ·rw[AR he] at hp
    subst hp
    refine Zx [(29,.v (.bool false))] ZR hnt fun K hK=>?_;refine And.intro (Zn.of_eq (by simp[he])) ?_;refine hK _ _ ?_;clear hK K;refine Zy (t:=false) rfl ?_;rw[if_neg (by simp)];refine Zw ?_;refine Zz (Zz ?_);refine Zx [(42,.v (.bool true))] ZR hnt fun K hK=>?_;refine And.intro (Zn.of_eq (by simp[he])) ?_;refine hK _ _ ?_;clear hK K;refine Zy (t:=true) rfl ?_
    rw[if_pos rfl];refine Zz ?_;refine ZP [] ZR hnt fun K hK=>?_;refine hK _ _ (by kernel_rfl) ?_;clear hK K;refine Zu ?_
    rw[Xy]
    exact Yq (N:=0) (.inr rfl) rfl (by repeat first | exact Zn.refl _ | exact Zn.nil _ | exact Zn.untag _ _ _ | refine Zn.ag ?_ | refine Zn.tu ?_ | refine ZS.cons ?_ ?_ | exact ZS.nil) (by repeat first | exact trivial | refine And.intro rfl ?_)
theorem EM (kb:Nat)(l:List (Int×Tm))(hl:l.length≤1000000)(t:Tm)(ht:ZB t)(left:Int)(dry:Bool)(h0:0≤left∧left≤1000000000)(ho:Sb.right l=true→Tv l t 0 ⟨left,dry,0,0⟩∧((Sb.through l t 0 ⟨left,dry,0,0⟩).2.e=0→WA (Sb.through l t 0 ⟨left,dry,0,0⟩).1)):
  ZE Tryz.prog 140 [.sl 5 (Z1 l) none,.ag (eTm t),.o kb] [(.o kb,.ob (Ve left dry))] [(.o kb,.ob (Ve (Sb.apply l t left dry).2.left (Sb.apply l t left dry).2.dry))] (.tu [.ag (eTm (Sb.apply l t left dry).1),.v (.int .i64 (Sb.apply l t left dry).2.e)]):=by
 have h:=(C6 l hl t ht left dry h0 ho).ren (fun _=>kb) (by simp[Vq,D.ok,D.oks,ZQ,YF,XC,Y5,Yb]) (by
  intro k h1 k' h2 _
  simp[ZQ] at h1 h2
  rw[h1,h2])
 simpa[D.ren,D.rens,WK,WI,Wy,Key.ren] using h
namespace Ru
end Ru
theorem Om {l:List (Int×Tm)}{t:Tm}{left:Int}{dry:Bool}{B:Nat}(hl:∀ p∈l,Bnd B p.2)(ht:Bnd B t)(h:0≤left∧left≤1000000000):(Sb.apply l t left dry).2.e=0→(Sb.apply l t left dry).2.left≤left∧((Sb.apply l t left dry).1.size≤5000∧(Sb.apply l t left dry).1.depth≤60)∧Bnd B (Sb.apply l t left dry).1:=by
 unfold Sb.apply
 by_cases hr:Sb.right l=false
 ·rw[if_pos hr];intro e;cases e
 ·rw[if_neg hr]
  have h1:=Sb.grow l hl t ht 0 ⟨left,dry,0,0⟩ h
  dsimp only
  generalize Sb.through l t 0 ⟨left,dry,0,0⟩=r at h1
  by_cases hc:r.2.e=0∧¬ (r.1.size≤5000∧r.1.depth≤60)
  ·rw[if_pos hc]
   rw[if_pos (by show (2:Int)≠0;decide)]
   intro e;cases e
  ·rw[if_neg hc]
   by_cases hp:r.2.e=0
   ·rw[if_neg (fun h=>h hp)]
    intro _
    have h2:=h1 hp
    have h3:=Tm.size_pos r.1
    refine⟨by have:=h2.2.1;dsimp only at this ⊢;omega,?_,h2.2.2⟩
    by_cases h5:r.1.size≤5000∧r.1.depth≤60
    ·exact h5
    ·exact absurd ⟨hp,h5⟩ hc
   ·rw[if_pos hp]
    intro e;exact absurd e hp
def TAUB_62:TI:=⟨4,true,[Value.slice none 0 0,Value.int IntKind.i64 0,Value.int IntKind.i64 0,Value.slice none 0 0],[(0,1,false),(1,2,true),(3,1,false)],none,64,6,none,false⟩
theorem Km:TypOk Tryz.prog 62 TAUB_62:=by constructor <;> kernel_rfl
def TAUB_50:TI:=⟨1,false,[Value.int IntKind.i64 0],[],none,8,2,none,false⟩
theorem Kk:TypOk Tryz.prog 50 TAUB_50:=by constructor <;> kernel_rfl
def TAUB_3:TI:=⟨1,false,[Value.int IntKind.i64 0],[],none,8,2,none,false⟩
theorem GV:TypOk Tryz.prog 3 TAUB_3:=by constructor <;> kernel_rfl
def TAUB_110:TI:=⟨5,true,[Value.int IntKind.i64 0,Value.slice none 0 0,Value.int IntKind.i64 0,Value.int IntKind.i64 0,Value.slice none 0 0],[(0,1,false),(1,4,true)],none,72,6,none,false⟩
theorem Pd:TypOk Tryz.prog 110 TAUB_110:=by constructor <;> kernel_rfl
def TAUB_84:TI:=⟨1,false,[Value.slice none 0 0],[],some 110,24,5,none,false⟩
theorem Kq:TypOk Tryz.prog 84 TAUB_84:=by constructor <;> kernel_rfl
def TAUB_140:TI:=⟨5,true,[Value.int IntKind.i64 0,Value.slice none 0 0,Value.slice none 0 0,Value.slice none 0 0,Value.int IntKind.i64 0],[(0,3,true),(3,1,false),(4,1,false)],none,88,6,none,false⟩
theorem Pf:TypOk Tryz.prog 140 TAUB_140:=by constructor <;> kernel_rfl
def TAUB_64:TI:=⟨9,true,[Value.slice none 0 0,Value.int IntKind.i64 0,Value.int IntKind.i64 0,Value.slice none 0 0,Value.slice none 0 0,Value.int IntKind.i64 0,Value.int IntKind.i64 0,Value.slice none 0 0,Value.slice none 0 0],[(0,4,true),(4,4,true),(8,1,false)],none,152,6,none,false⟩
theorem Kn:TypOk Tryz.prog 64 TAUB_64:=by constructor <;> kernel_rfl
def TAUB_41:TI:=⟨1,false,[Value.slice none 0 0],[],some 106,24,5,none,false⟩
theorem Ki:TypOk Tryz.prog 41 TAUB_41:=by constructor <;> kernel_rfl
def TAUB_138:TI:=⟨1,false,[Value.pointer none],[],none,8,4,none,false⟩
theorem Pe:TypOk Tryz.prog 138 TAUB_138:=by constructor <;> kernel_rfl
def TAUB_4:TI:=⟨1,false,[Value.bool false],[],none,1,1,none,false⟩
theorem GW:TypOk Tryz.prog 4 TAUB_4:=by constructor <;> kernel_rfl
def TAUB_60:TI:=⟨1,false,[Value.slice none 0 0],[],some 62,24,5,none,false⟩
theorem Kl:TypOk Tryz.prog 60 TAUB_60:=by constructor <;> kernel_rfl
def TAUB_43:TI:=⟨3,true,[Value.int IntKind.i64 0,Value.slice none 0 0,Value.slice none 0 0],[(0,1,false),(1,1,false),(2,1,false)],none,56,6,none,false⟩
theorem Kj:TypOk Tryz.prog 43 TAUB_43:=by constructor <;> kernel_rfl
def TAUB_106:TI:=⟨2,true,[Value.slice none 0 0,Value.int IntKind.i64 0],[(0,1,false),(1,1,false)],none,32,6,none,false⟩
theorem Pc:TypOk Tryz.prog 106 TAUB_106:=by constructor <;> kernel_rfl
def TAUB_71:TI:=⟨1,false,[Value.slice none 0 0],[],some 3,24,5,none,false⟩
theorem Ko:TypOk Tryz.prog 71 TAUB_71:=by constructor <;> kernel_rfl
def TAUB_233:TI:=⟨1,false,[Value.pointer none],[],none,8,4,none,false⟩
theorem Pg:TypOk Tryz.prog 233 TAUB_233:=by constructor <;> kernel_rfl
def TAUB:List (Nat×TI):=[(62,TAUB_62),(50,TAUB_50),(3,TAUB_3),(110,TAUB_110),(84,TAUB_84),(140,TAUB_140),(64,TAUB_64),(41,TAUB_41),(138,TAUB_138),(4,TAUB_4),(60,TAUB_60),(43,TAUB_43),(106,TAUB_106),(71,TAUB_71),(233,TAUB_233)]
theorem Ye:Zh Tryz.prog TAUB:=((((((((((((((((Zh.nil _).cons Pg).cons Ko).cons Pc).cons Kj).cons Kl).cons GW).cons Pe).cons Ki).cons Kn).cons Pf).cons Kq).cons Pd).cons GV).cons Kk).cons Km)
namespace Au
def ck (b:Int)(C Mw:List Ty)(eqs:List Li.Pr)(e:Int):List (Key×D):=[(.c 0 0,.v (.int .i64 b)),(.c 0 1,.sl 2 (eTys C) none),(.c 0 2,.sl 2 (eTys Mw) none),(.c 0 3,.sl 9 (Yp eqs) none),(.c 0 4,.v (.int .i64 e))]
end Au
theorem XN (b:Int)(C Mw:List Ty)(eqs:List Li.Pr)(e c:Int)(is:Bool):ZE Tryz.prog 120 [.p 0 0,.v (.bool is),.v (.int .i64 c)] (Au.ck b C Mw eqs e) (Au.ck b C Mw eqs (Au.must e is c)) (.tu []):=by
 unfold Au.must Au.ck
 by_cases he:e=0
 ·subst he
  cases is with
  | true=>
   rw[if_neg (by simp)]
   refine Zm 2 19 [] Ye Tryz.func120 rfl Tryz.ntmps120 rfl fun cx hnt hn0=>?_
   ·skip
    refine Zz ?_;refine Zx [(10,.v (.bool true))] Ye hnt fun K hK=>?_;refine And.intro (XU rfl) ?_;refine hK _ _ ?_;clear hK K;refine Zy (t:=false) rfl ?_;rw[if_neg (by simp)];refine Zw ?_
    exact Zj rfl
  | false=>
   rw[if_pos ⟨rfl,rfl⟩]
   refine Zm 2 19 [] Ye Tryz.func120 rfl Tryz.ntmps120 rfl fun cx hnt hn0=>?_
   ·skip
    refine Zz ?_;refine Zx [(10,.v (.bool true))] Ye hnt fun K hK=>?_;refine And.intro (XU rfl) ?_;refine hK _ _ ?_;clear hK K;refine Zy (t:=true) rfl ?_;rw[if_pos rfl];refine Zx [] Ye hnt fun _ z9=>z9 _ _ ?_
    exact Zj rfl
 ·rw[if_neg (fun h=>he h.1)]
  refine Zm 2 19 [] Ye Tryz.func120 rfl Tryz.ntmps120 rfl fun cx hnt hn0=>?_
  ·skip
   refine Zz ?_;refine Zx [(10,.v (.bool false))] Ye hnt fun K hK=>?_;refine And.intro (XT he) ?_;refine hK _ _ ?_;clear hK K;refine Zy (t:=false) rfl ?_;rw[if_neg (by simp)];refine Zw ?_
   exact Zj rfl
set_option maxHeartbeats 2000000 in
theorem UE (b:Int)(C Mw:List Ty)(eqs:List Li.Pr)(e:Int)(s:List (Int×Tm))(t:Tm)(hl:s.length≤1000)(hs:∀ q∈s,Bnd 150 q.2∧ZB q.2)(ht:Bnd 150 t)(htz:t.size≤5000):
  ZE Tryz.prog 123 [.p 0 0,.sl 5 (Z1 s) none,.ag (eTm t)] (Au.ck b C Mw eqs e) (Au.ck b C Mw eqs (Au.img s t e).2) (.ag (eTm (Au.img s t e).1)):=by
 by_cases he:e=0
 ·subst he
  have hA:=fun kb=>EM kb s (by omega) t (Bnd.wide t ht (by omega) (by decide)) 100000 false ⟨by decide,by decide⟩ fun _=>Sb.apply_ok (B:=150) 100000 (by decide) (by decide) (by decide) s hs t ht 100000 ⟨by decide,by decide⟩ false
  have e0:Au.img s t 0=((Sb.apply s t 100000 false).1,Au.must 0 (decide ((Sb.apply s t 100000 false).2.e=0)) (Sb.apply s t 100000 false).2.e):=by
   unfold Au.img;rw[if_neg (fun h=>h rfl)]
  rw[e0]
  obtain⟨⟨z,st⟩,hz⟩:∃ r,Sb.apply s t 100000 false=r:=⟨_,rfl⟩
  simp only[hz] at hA ⊢
  simp only[Zv] at hA
  have hm:=XN b C Mw eqs 0 st.e (decide (st.e=0))
  rw[Zv,Zv]
  by_cases h0:st.e=0
  ·rw[decide_eq_true h0,Au.must_true] at hm ⊢
   unfold Au.ck at hm ⊢
   refine Zm 2 28 [ResultVar.cell 6 62] Ye Tryz.func123 rfl Tryz.ntmps123 rfl fun cx hnt hn0=>?_
   ·skip
    refine Zz ?_;refine Zx [] Ye hnt fun _ z9=>z9 _ _ ?_;refine Zz ?_;refine Zz ?_;refine Zx [(13,.v (.bool false))] Ye hnt fun K hK=>?_;refine And.intro (Yy rfl) ?_;refine hK _ _ ?_;clear hK K;refine Zy (t:=false) rfl ?_;rw[if_neg (by simp)];refine Zw ?_;refine Zz ?_;refine ZP [] Ye hnt fun K hK=>?_;refine Al ((CQ 100000 (by decide)) _) ?_
    refine Ze (hA _) ?_;refine hK _ _ (by kernel_rfl) ?_;clear hK K;refine Zz ?_;refine Zx [(24,.v (.bool true))] Ye hnt fun K hK=>?_;refine And.intro (XU h0) ?_;refine Ze (hm) ?_;refine hK _ _ ?_;clear hK K;refine Zz ?_;refine Zx [] Ye hnt fun _ z9=>z9 _ _ ?_;refine Zu ?_
    exact Zj rfl
  ·rw[decide_eq_false h0] at hm ⊢
   unfold Au.ck at hm ⊢
   refine Zm 2 28 [ResultVar.cell 6 62] Ye Tryz.func123 rfl Tryz.ntmps123 rfl fun cx hnt hn0=>?_
   ·skip
    refine Zz ?_;refine Zx [] Ye hnt fun _ z9=>z9 _ _ ?_;refine Zz ?_;refine Zz ?_;refine Zx [(13,.v (.bool false))] Ye hnt fun K hK=>?_;refine And.intro (Yy rfl) ?_;refine hK _ _ ?_;clear hK K;refine Zy (t:=false) rfl ?_;rw[if_neg (by simp)];refine Zw ?_;refine Zz ?_;refine ZP [] Ye hnt fun K hK=>?_;refine Al ((CQ 100000 (by decide)) _) ?_
    refine Ze (hA _) ?_;refine hK _ _ (by kernel_rfl) ?_;clear hK K;refine Zz ?_;refine Zx [(24,.v (.bool false))] Ye hnt fun K hK=>?_;refine And.intro (XT h0) ?_;refine Ze (hm) ?_;refine hK _ _ ?_;clear hK K;refine Zz ?_;refine Zx [] Ye hnt fun _ z9=>z9 _ _ ?_;refine Zu ?_
    exact Zj rfl
 ·have e0:Au.img s t e=(Tm.zero,e):=by unfold Au.img;rw[if_pos he]
  rw[e0]
  unfold Au.ck
  dsimp only
  rw[Zv t,show eTm Tm.zero=[.sl 2 [] none,.v (.int .i64 0),.v (.int .i64 0),.sl 4 [] none] from rfl]
  refine Zm 2 28 [ResultVar.cell 6 62] Ye Tryz.func123 rfl Tryz.ntmps123 rfl fun cx hnt hn0=>?_
  ·skip
   refine Zz ?_;refine Zx [] Ye hnt fun _ z9=>z9 _ _ ?_;refine Zz ?_;refine Zz ?_;refine Zx [(13,.v (.bool true))] Ye hnt fun K hK=>?_;refine And.intro (Y6 he) ?_;refine hK _ _ ?_;clear hK K;refine Zy (t:=true) rfl ?_;rw[if_pos rfl];refine Zz ?_;refine Zx [] Ye hnt fun _ z9=>z9 _ _ ?_;refine Zu ?_
   exact Zj rfl
def TAUD_3:TI:=⟨1,false,[Value.int IntKind.i64 0],[],none,8,2,none,false⟩
theorem GY:TypOk Tryz.prog 3 TAUD_3:=by constructor <;> kernel_rfl
def TAUD_110:TI:=⟨5,true,[Value.int IntKind.i64 0,Value.slice none 0 0,Value.int IntKind.i64 0,Value.int IntKind.i64 0,Value.slice none 0 0],[(0,1,false),(1,4,true)],none,72,6,none,false⟩
theorem Pj:TypOk Tryz.prog 110 TAUD_110:=by constructor <;> kernel_rfl
def TAUD_71:TI:=⟨1,false,[Value.slice none 0 0],[],some 3,24,5,none,false⟩
theorem LD:TypOk Tryz.prog 71 TAUD_71:=by constructor <;> kernel_rfl
def TAUD_84:TI:=⟨1,false,[Value.slice none 0 0],[],some 110,24,5,none,false⟩
theorem LE:TypOk Tryz.prog 84 TAUD_84:=by constructor <;> kernel_rfl
def TAUD_50:TI:=⟨1,false,[Value.int IntKind.i64 0],[],none,8,2,none,false⟩
theorem Kz:TypOk Tryz.prog 50 TAUD_50:=by constructor <;> kernel_rfl
def TAUD_64:TI:=⟨9,true,[Value.slice none 0 0,Value.int IntKind.i64 0,Value.int IntKind.i64 0,Value.slice none 0 0,Value.slice none 0 0,Value.int IntKind.i64 0,Value.int IntKind.i64 0,Value.slice none 0 0,Value.slice none 0 0],[(0,4,true),(4,4,true),(8,1,false)],none,152,6,none,false⟩
theorem LC:TypOk Tryz.prog 64 TAUD_64:=by constructor <;> kernel_rfl
def TAUD_41:TI:=⟨1,false,[Value.slice none 0 0],[],some 106,24,5,none,false⟩
theorem Kx:TypOk Tryz.prog 41 TAUD_41:=by constructor <;> kernel_rfl
def TAUD_62:TI:=⟨4,true,[Value.slice none 0 0,Value.int IntKind.i64 0,Value.int IntKind.i64 0,Value.slice none 0 0],[(0,1,false),(1,2,true),(3,1,false)],none,64,6,none,false⟩
theorem LB:TypOk Tryz.prog 62 TAUD_62:=by constructor <;> kernel_rfl
def TAUD_138:TI:=⟨1,false,[Value.pointer none],[],none,8,4,none,false⟩
theorem Pk:TypOk Tryz.prog 138 TAUD_138:=by constructor <;> kernel_rfl
def TAUD_4:TI:=⟨1,false,[Value.bool false],[],none,1,1,none,false⟩
theorem GZ:TypOk Tryz.prog 4 TAUD_4:=by constructor <;> kernel_rfl
def TAUD_60:TI:=⟨1,false,[Value.slice none 0 0],[],some 62,24,5,none,false⟩
theorem LA:TypOk Tryz.prog 60 TAUD_60:=by constructor <;> kernel_rfl
def TAUD_140:TI:=⟨5,true,[Value.int IntKind.i64 0,Value.slice none 0 0,Value.slice none 0 0,Value.slice none 0 0,Value.int IntKind.i64 0],[(0,3,true),(3,1,false),(4,1,false)],none,88,6,none,false⟩
theorem Pl:TypOk Tryz.prog 140 TAUD_140:=by constructor <;> kernel_rfl
def TAUD_43:TI:=⟨3,true,[Value.int IntKind.i64 0,Value.slice none 0 0,Value.slice none 0 0],[(0,1,false),(1,1,false),(2,1,false)],none,56,6,none,false⟩
theorem Ky:TypOk Tryz.prog 43 TAUD_43:=by constructor <;> kernel_rfl
def TAUD_106:TI:=⟨2,true,[Value.slice none 0 0,Value.int IntKind.i64 0],[(0,1,false),(1,1,false)],none,32,6,none,false⟩
theorem Pi:TypOk Tryz.prog 106 TAUD_106:=by constructor <;> kernel_rfl
def TAUD:List (Nat×TI):=[(3,TAUD_3),(110,TAUD_110),(71,TAUD_71),(84,TAUD_84),(50,TAUD_50),(64,TAUD_64),(41,TAUD_41),(62,TAUD_62),(138,TAUD_138),(4,TAUD_4),(60,TAUD_60),(140,TAUD_140),(43,TAUD_43),(106,TAUD_106)]
theorem ZY:Zh Tryz.prog TAUD:=(((((((((((((((Zh.nil _).cons Pi).cons Ky).cons Pl).cons LA).cons GZ).cons Pk).cons LB).cons Kx).cons LC).cons Kz).cons LE).cons LD).cons Pj).cons GY)
theorem Em (l r:List Int)(hl:l.length≤1000000)(hr:r.length≤1000000):Zd Tryz.prog 138 [.sl 1 (Y4 l) none,.sl 1 (Y4 r) none] (.v (.bool (decide (l=r)))):=by
 by_cases hlen:l.length=r.length
 ·skip
  refine Zm 0 26 [ResultVar.tmp 4] ZY Tryz.func138 rfl Tryz.ntmps138 rfl fun cx hnt hn0=>?_
  ·skip
   refine Zz ?_;refine Zx [] ZY hnt fun _ z9=>z9 _ _ ?_;refine Zz ?_;refine Zz ?_;refine Zx [(7,.v (.int .i64 (↑l.length))),(9,.v (.int .i64 (↑r.length))),(10,.v (.bool false))] ZY hnt fun K hK=>?_;refine And.intro (Zq (by rw[Zi])) ?_;refine And.intro (Zq (by rw[Zi])) ?_;refine And.intro (Yy (by omega)) ?_;refine hK _ _ ?_;clear hK K
   refine Zy (t:=false) rfl ?_;rw[if_neg (by simp)];refine Zw ?_;refine Zz ?_;refine Zz ?_;refine Zx [(12,.v (.int .i64 (↑l.length)))] ZY hnt fun K hK=>?_;refine And.intro (Zq (by rw[Zi])) ?_;refine hK _ _ ?_;clear hK K;refine Zt ?_
   refine Z4 (ι:={ j:Nat // j≤l.length∧∀ i (h:i<l.length) (h':i<r.length),i<j→l[i]=r[i] }) (fun j=>[(.t 0,.sl 1 (Y4 l) none),(.t 1,.sl 1 (Y4 r) none),(.t 12,.v (.int .i64 ↑l.length)),(.t 13,.v (.int .i64 ↑j.1))]) 1 (fun j=>l.length-j.1) (⟨0,Nat.zero_le _,fun i h h' h2=>by omega⟩) (VS.toA) fun j=>?_
   obtain⟨j,hj,hj2⟩:=j
   dsimp only
   by_cases hlt:j<l.length
   ·have hlt2:j<r.length:=by omega
    by_cases he:l[j]=r[j]
    ·skip
     refine Zz ?_;refine Zx [(14,.v (.bool true))] ZY hnt fun K hK=>?_;refine And.intro YD ?_;refine hK _ _ ?_;clear hK K;refine Zz ?_;refine Zy (t:=true) rfl ?_;rw[if_pos rfl];refine Zw ?_;refine Zz ?_;refine Zt ?_;refine Zz ?_;refine Zx [] ZY hnt fun _ z9=>z9 _ _ ?_;refine Zz ?_;refine ZP [(18,.q [.v (.int .i64 (l[j]))]),(22,.q [.v (.int .i64 (r[j]))]),(24,.v (.bool false))] ZY hnt fun K hK=>?_
     refine And.intro (Xg (Zi l)) ?_;refine And.intro (Xh (YU l j) rfl) ?_;refine And.intro (Xg (Zi r)) ?_;refine And.intro (Xh (YU r j) rfl) ?_;refine And.intro (Yy he) ?_;refine hK _ _ (by kernel_rfl) ?_;clear hK K;refine Zy (t:=false) rfl ?_;rw[if_neg (by simp)];refine Zw ?_;refine Zx [(25,.v (.int .i64 (↑(j+1))))] ZY hnt fun K hK=>?_;refine And.intro XR ?_
     refine hK _ _ ?_;clear hK K
     refine⟨⟨j+1,hlt,fun i h h' h2=>if hij:i=j then by subst hij;exact he else hj2 i h h' (by omega)⟩,by first | omega | (dsimp only;omega),VS.toA⟩
    ·have hne:l≠r:=fun h=>he (by subst h;rfl)
     rw[decide_eq_false hne]
     refine Zz ?_;refine Zx [(14,.v (.bool true))] ZY hnt fun K hK=>?_;refine And.intro YD ?_;refine hK _ _ ?_;clear hK K;refine Zz ?_;refine Zy (t:=true) rfl ?_;rw[if_pos rfl];refine Zw ?_;refine Zz ?_;refine Zt ?_;refine Zz ?_;refine Zx [] ZY hnt fun _ z9=>z9 _ _ ?_;refine Zz ?_;refine ZP [(18,.q [.v (.int .i64 (l[j]))]),(22,.q [.v (.int .i64 (r[j]))]),(24,.v (.bool true))] ZY hnt fun K hK=>?_
     refine And.intro (Xg (Zi l)) ?_;refine And.intro (Xh (YU l j) rfl) ?_;refine And.intro (Xg (Zi r)) ?_;refine And.intro (Xh (YU r j) rfl) ?_;refine And.intro (Y6 he) ?_;refine hK _ _ (by kernel_rfl) ?_;clear hK K;refine Zy (t:=true) rfl ?_;rw[if_pos rfl];refine Zz ?_;refine Zx [] ZY hnt fun _ z9=>z9 _ _ ?_;refine Zu ?_
     exact Zj rfl
   ·have heq:l=r:=List.ext_getElem hlen fun i h h'=>hj2 i h h' (by omega)
    rw[decide_eq_true heq]
    refine Zz ?_;refine Zx [(14,.v (.bool false))] ZY hnt fun K hK=>?_;refine And.intro Xq ?_;refine hK _ _ ?_;clear hK K;refine Zz ?_;refine Zy (t:=false) rfl ?_;rw[if_neg (by simp)];refine Zc ?_;refine Zz ?_;refine Zx [] ZY hnt fun _ z9=>z9 _ _ ?_;refine Zu ?_
    exact Zj rfl
 ·have hne:l≠r:=fun h=>hlen (by rw[h])
  rw[decide_eq_false hne]
  refine Zm 0 26 [ResultVar.tmp 4] ZY Tryz.func138 rfl Tryz.ntmps138 rfl fun cx hnt hn0=>?_
  ·skip
   refine Zz ?_;refine Zx [] ZY hnt fun _ z9=>z9 _ _ ?_;refine Zz ?_;refine Zz ?_;refine Zx [(7,.v (.int .i64 (↑l.length))),(9,.v (.int .i64 (↑r.length))),(10,.v (.bool true))] ZY hnt fun K hK=>?_;refine And.intro (Zq (by rw[Zi])) ?_;refine And.intro (Zq (by rw[Zi])) ?_;refine And.intro (Y6 (by omega)) ?_;refine hK _ _ ?_;clear hK K
   refine Zy (t:=true) rfl ?_;rw[if_pos rfl];refine Zz ?_;refine Zx [] ZY hnt fun _ z9=>z9 _ _ ?_;refine Zu ?_
   exact Zj rfl
namespace Au
def f1 (q:Li.Pr)(e:Int)(p:Int×Tm):Int:=must e (decide (0≤p.1∧p.1<(q.m.length:Int))) 1
def f2 (code:List Ty→Tm→Ty→Int)(q:Li.Pr)(ar:List Ty)(e:Int)(p:Int×Tm):Int:=if e=0 then must e (decide (code ar p.2 (q.m.getD p.1.toNat (.mk [] 0))=0)) 5 else e
theorem fold1_0 (q:Li.Pr):∀ (s:List (Int×Tm)) (e:Int),s.foldl (f1 q) e=0→e=0∧∀ p∈s,0≤p.1∧p.1<(q.m.length:Int)
 | [],e,h=>⟨h,fun p hp=>by cases hp⟩
 | p :: s,e,h=>by
  rw[List.foldl_cons] at h
  obtain⟨h1,h2⟩:=fold1_0 q s _ h
  obtain⟨h3,h4⟩:=must_0 (by decide) h1
  exact⟨h3,fun x hx=>by
   rcases List.mem_cons.1 hx with rfl | hx
   ·exact of_decide_eq_true h4
   ·exact h2 x hx⟩
theorem fold2_0 (code:List Ty→Tm→Ty→Int)(q:Li.Pr)(ar:List Ty):∀ (s:List (Int×Tm)) (e:Int),s.foldl (f2 code q ar) e=0→e=0
 | [],e,h=>h
 | p :: s,e,h=>by
  rw[List.foldl_cons] at h
  have h1:=fold2_0 code q ar s _ h
  unfold f2 at h1
  by_cases he:e=0
  ·exact he
  ·rw[if_neg he] at h1;exact h1
theorem fold_snoc {α β:Type}(f:β→α→β)(l:List α)(e:β)(j:Nat)(h:j<l.length):(l.take (j+1)).foldl f e=f ((l.take j).foldl f e) l[j]:=by
 rw[List.take_add_one,List.getElem?_eq_getElem h,List.foldl_append];rfl
end Au
set_option maxHeartbeats 4000000 in
theorem Tu (b:Int)(C Mw:List Ty)(eqs:List Li.Pr)(e:Int)(q:Li.Pr)(s:List (Int×Tm))(ar:List Ty)(code:List Ty→Tm→Ty→Int)(hc:∀ X t u,Yt C Mw t X u (code X t u))(hCl:C.length≤1000000)(hMl:Mw.length≤1000000) 
  (hq:q.l.full≤90000∧q.r.full≤90000) (hqm:q.m.length≤900000) (hsl:s.length≤1000) (hs:∀ p∈s,p.2.full≤10000∧p.2.Fit) (har:ar.length≤770000) :
  ZE Tryz.prog 122 [.p 0 0,.ag (VG q),.sl 5 (Z1 s) none,.sl 2 (eTys ar) none] (Au.ck b C Mw eqs e) (Au.ck b C Mw eqs (Au.subS code q s ar e)) (.tu []):=by
 have hMe:=DD [q.l,q.r] (by simp) (fun t ht=>by
  rcases List.mem_cons.1 ht with rfl | ht
  ·exact hq.1
  ·rw[List.mem_singleton] at ht;subst ht;exact hq.2)
 have eQ:eTms [q.l,q.r]=[[.sl 2 (eTys q.l.binds) none,.v (.int .i64 q.l.kind),.v (.int .i64 q.l.index),.sl 4 (eTms q.l.args) none],[.sl 2 (eTys q.r.binds) none,.v (.int .i64 q.r.kind),.v (.int .i64 q.r.index),.sl 4 (eTms q.r.args) none]]:=by rw[←Zv,←Zv];rfl
 obtain⟨U,hU⟩:∃ U,X3 (Yj [q.l,q.r])=U:=⟨_,rfl⟩
 have hUl:U.length≤1000000:=by
  rw[←hU]
  have h1:=RX (X3 (Yj [q.l,q.r])) (Yj [q.l,q.r]) ((YC _).1.imp fun h=>Int.ne_of_lt h) fun x hx=>((YC _).2 x).1 hx
  have h2:=VN [q.l,q.r] 90000 (fun t ht=>by
   rcases List.mem_cons.1 ht with rfl | ht
   ·exact hq.1
   ·rw[List.mem_singleton] at ht;subst ht;exact hq.2)
  simp at h2;omega
 rw[hU] at hMe
 have hR:=Rh s (by omega)
 have hD:=Eb s (by omega)
 have hE:=Em (s.map (·.1)) U (by simp;omega) hUl
 obtain⟨e1,he1⟩:∃ e1,Au.must e (Sb.right s&&decide (s.map (·.1)=U)) 1=e1:=⟨_,rfl⟩
 have hm0:=XN b C Mw eqs e 1 (Sb.right s&&decide (s.map (·.1)=U))
 rw[he1] at hm0
 obtain⟨F,hF⟩:∃ F:Nat→Int,∀ j,(s.take j).foldl (Au.f1 q) e1=F j:=⟨_,fun _=>rfl⟩
 have hF0:F 0=e1:=by rw[←hF];rfl
 have hFn:∀ j (h:j<s.length),F (j+1)=Au.must (F j) (decide (0≤s[j].1∧s[j].1<(q.m.length:Int))) 1:=fun j h=>by rw[←hF,Au.fold_snoc _ _ _ _ h,hF];rfl
 have hFs:s.foldl (Au.f1 q) e1=F s.length:=by rw[←hF,List.take_length]
 obtain⟨G,hG⟩:∃ G:Nat→Int,∀ j,(s.take j).foldl (Au.f2 code q ar) (F s.length)=G j:=⟨_,fun _=>rfl⟩
 have hG0:G 0=F s.length:=by rw[←hG];rfl
 have hGn:∀ j (h:j<s.length),G (j+1)=if G j=0 then Au.must (G j) (decide (code ar s[j].2 (q.m.getD s[j].1.toNat (.mk [] 0))=0)) 5 else G j:=fun j h=>by rw[←hG,Au.fold_snoc _ _ _ _ h,hG];rfl
 have hGr:∀ j,G j=0→∀ p∈s,0≤p.1∧p.1<(q.m.length:Int):=fun j h=>by
  rw[←hG] at h
  have:=Au.fold2_0 code q ar _ _ h
  rw[←hFs] at this
  exact(Au.fold1_0 q s e1 this).2
 have hsub:Au.subS code q s ar e=G s.length:=by
  have:Au.subS code q s ar e=s.foldl (Au.f2 code q ar) (s.foldl (Au.f1 q) (Au.must e (Sb.right s&&decide (s.map (·.1)=X3 (Yj [q.l,q.r]))) 1)):=rfl
  rw[this,hU,he1,hFs,←hG,List.take_length]
 rw[hsub]
 rw[Yf]
 unfold Au.ck at hm0 ⊢
 have hm1:=fun j is=>XN b C Mw eqs (F j) 1 is
 have hm2:=fun j is=>XN b C Mw eqs (G j) 5 is
 unfold Au.ck at hm1 hm2
 refine Zm 2 78 [] ZY Tryz.func122 rfl Tryz.ntmps122 rfl fun cx hnt hn0=>?_
 ·skip
  refine Zz ?_;refine Zx [] ZY hnt fun _ z9=>z9 _ _ ?_;refine Zz ?_;refine Zx [(17,.sl 4 (eTms [q.l,q.r]) none)] ZY hnt fun K hK=>?_;refine And.intro ((by rw[eQ];exact Zn.untag _ _ _)) ?_;refine Ze (hMe) ?_;refine hK _ _ ?_;clear hK K
  refine XW (τ:=[(.t 0,.p 0 0),(.t 2,.sl 5 (Z1 s) none),(.t 3,.sl 2 (eTys ar) none),(.t 5,.p 2 0),(.c 2 8,.sl 2 (eTys q.m) none),(.c 0 0,.v (.int .i64 b)),(.c 0 1,.sl 2 (eTys C) none),(.c 0 2,.sl 2 (eTys Mw) none),(.c 0 3,.sl 9 (Yp eqs) none),(.c 0 4,.v (.int .i64 (e1)))]) (N1:=60) ?_ ?_
  ·cases hr:Sb.right s with
   | false=>
    rw[hr] at hR hm0
    refine Zx [] ZY hnt fun K hK=>?_;refine Ze (hR) ?_;refine Ze (hm0) ?_;refine hK _ _ ?_;clear hK K
    exact Ym VS.toA
   | true=>
    rw[hr] at hR hm0
    refine Zx [] ZY hnt fun K hK=>?_;refine Ze (hR) ?_;refine Ze (hD) ?_;refine Ze (hE) ?_;refine Ze (hm0) ?_;refine hK _ _ ?_;clear hK K
    exact Ym VS.toA
  ·skip
   refine Zz ?_;refine Zz ?_;refine Zx [(30,.v (.int .i64 (↑s.length)))] ZY hnt fun K hK=>?_;refine And.intro (Zq (by rw[Zk])) ?_;refine hK _ _ ?_;clear hK K;refine Zt ?_
   refine Z4 (ι:={ j:Nat // j≤s.length }) (fun j=>[(.t 0,.p 0 0),(.t 2,.sl 5 (Z1 s) none),(.t 3,.sl 2 (eTys ar) none),(.t 5,.p 2 0),(.t 29,.sl 5 (Z1 s) none),(.t 30,.v (.int .i64 ↑s.length)),(.t 31,.v (.int .i64 ↑j.1)),(.c 2 8,.sl 2 (eTys q.m) none),(.c 0 0,.v (.int .i64 b)),(.c 0 1,.sl 2 (eTys C) none),(.c 0 2,.sl 2 (eTys Mw) none),(.c 0 3,.sl 9 (Yp eqs) none),(.c 0 4,.v (.int .i64 (F j.1)))]) 70 (fun j=>s.length-j.1) (⟨0,Nat.zero_le _⟩) ((by try simp only[List.length_append,List.length_take,List.length_cons,List.length_nil,Nat.zero_add,hF0];exact VS.toA)) fun j=>?_
   obtain⟨j,hj⟩:=j
   dsimp only
   by_cases hlt:j<s.length
   ·have hn:=hFn j hlt
    by_cases h0:0≤s[j].1
    ·by_cases h1:s[j].1<(q.m.length:Int)
     ·rw[decide_eq_true ⟨h0,h1⟩] at hn
      have hm:=hm1 j true
      rw[←hn] at hm
      refine Zz ?_;refine Zx [(32,.v (.bool true))] ZY hnt fun K hK=>?_;refine And.intro YD ?_;refine hK _ _ ?_;clear hK K;refine Zz ?_;refine Zy (t:=true) rfl ?_;rw[if_pos rfl];refine Zw ?_;refine Zz ?_;refine Zt ?_;refine Zz ?_;refine Zx [(33,.q [.v (.int .i64 s[j].1),.sl 2 (eTys s[j].2.binds) none,.v (.int .i64 s[j].2.kind),.v (.int .i64 s[j].2.index),.sl 4 (eTms s[j].2.args) none])] ZY hnt fun K hK=>?_
      refine And.intro (Xg (Zk s)) ?_;refine And.intro (Xh (ZT s j) (ZK _)) ?_;refine hK _ _ ?_;clear hK K;refine Zx [(38,.v (.bool true)),(44,.v (.int .i64 (↑q.m.length))),(45,.v (.bool true))] ZY hnt fun K hK=>?_;refine And.intro (ZZ (by omega)) ?_;refine And.intro (Zq (by rw[Zr])) ?_;refine And.intro (ZZ h1) ?_;refine Ze (hm) ?_;refine hK _ _ ?_;clear hK K
      refine Zx [(48,.v (.int .i64 (↑(j+1))))] ZY hnt fun K hK=>?_;refine And.intro XR ?_;refine hK _ _ ?_;clear hK K
      refine⟨⟨j+1,hlt⟩,by first | omega | (dsimp only;omega),VS.toA⟩
     ·rw[decide_eq_false (fun h=>h1 h.2)] at hn
      have hm:=hm1 j false
      rw[←hn] at hm
      refine Zz ?_;refine Zx [(32,.v (.bool true))] ZY hnt fun K hK=>?_;refine And.intro YD ?_;refine hK _ _ ?_;clear hK K;refine Zz ?_;refine Zy (t:=true) rfl ?_;rw[if_pos rfl];refine Zw ?_;refine Zz ?_;refine Zt ?_;refine Zz ?_;refine Zx [(33,.q [.v (.int .i64 s[j].1),.sl 2 (eTys s[j].2.binds) none,.v (.int .i64 s[j].2.kind),.v (.int .i64 s[j].2.index),.sl 4 (eTms s[j].2.args) none])] ZY hnt fun K hK=>?_
      refine And.intro (Xg (Zk s)) ?_;refine And.intro (Xh (ZT s j) (ZK _)) ?_;refine hK _ _ ?_;clear hK K;refine Zx [(38,.v (.bool true)),(44,.v (.int .i64 (↑q.m.length))),(45,.v (.bool false))] ZY hnt fun K hK=>?_;refine And.intro (ZZ (by omega)) ?_;refine And.intro (Zq (by rw[Zr])) ?_;refine And.intro (Zf h1) ?_;refine Ze (hm) ?_;refine hK _ _ ?_;clear hK K
      refine Zx [(48,.v (.int .i64 (↑(j+1))))] ZY hnt fun K hK=>?_;refine And.intro XR ?_;refine hK _ _ ?_;clear hK K
      refine⟨⟨j+1,hlt⟩,by first | omega | (dsimp only;omega),VS.toA⟩
    ·rw[decide_eq_false (fun h=>h0 h.1)] at hn
     have hm:=hm1 j false
     rw[←hn] at hm
     refine Zz ?_;refine Zx [(32,.v (.bool true))] ZY hnt fun K hK=>?_;refine And.intro YD ?_;refine hK _ _ ?_;clear hK K;refine Zz ?_;refine Zy (t:=true) rfl ?_;rw[if_pos rfl];refine Zw ?_;refine Zz ?_;refine Zt ?_;refine Zz ?_;refine Zx [(33,.q [.v (.int .i64 s[j].1),.sl 2 (eTys s[j].2.binds) none,.v (.int .i64 s[j].2.kind),.v (.int .i64 s[j].2.index),.sl 4 (eTms s[j].2.args) none])] ZY hnt fun K hK=>?_
     refine And.intro (Xg (Zk s)) ?_;refine And.intro (Xh (ZT s j) (ZK _)) ?_;refine hK _ _ ?_;clear hK K;refine Zx [(38,.v (.bool false))] ZY hnt fun K hK=>?_;refine And.intro (Zf (by omega)) ?_;refine Ze (hm) ?_;refine hK _ _ ?_;clear hK K;refine Zx [(48,.v (.int .i64 (↑(j+1))))] ZY hnt fun K hK=>?_;refine And.intro XR ?_;refine hK _ _ ?_;clear hK K
     refine⟨⟨j+1,hlt⟩,by first | omega | (dsimp only;omega),VS.toA⟩
   ·have hje:j=s.length:=by omega
    subst hje
    refine Zz ?_;refine Zx [(32,.v (.bool false))] ZY hnt fun K hK=>?_;refine And.intro Xq ?_;refine hK _ _ ?_;clear hK K;refine Zz ?_;refine Zy (t:=false) rfl ?_;rw[if_neg (by simp)];refine Zc ?_;refine Zz ?_;refine Zx [(50,.v (.int .i64 (↑s.length)))] ZY hnt fun K hK=>?_;refine And.intro (Zq (by rw[Zk])) ?_;refine hK _ _ ?_;clear hK K
    refine Zt ?_
    refine Z4 (ι:={ n:Nat // n≤s.length }) (fun n=>[(.t 0,.p 0 0),(.t 3,.sl 2 (eTys ar) none),(.t 5,.p 2 0),(.t 49,.sl 5 (Z1 s) none),(.t 50,.v (.int .i64 ↑s.length)),(.t 51,.v (.int .i64 ↑n.1)),(.c 2 8,.sl 2 (eTys q.m) none),(.c 0 0,.v (.int .i64 b)),(.c 0 1,.sl 2 (eTys C) none),(.c 0 2,.sl 2 (eTys Mw) none),(.c 0 3,.sl 9 (Yp eqs) none),(.c 0 4,.v (.int .i64 (G n.1)))]) 120 (fun n=>s.length-n.1) (⟨0,Nat.zero_le _⟩) ((by try simp only[List.length_append,List.length_take,List.length_cons,List.length_nil,Nat.zero_add,hG0];exact VS.toA)) fun n=>?_
    obtain⟨n,hn0⟩:=n
    dsimp only
    by_cases hlt:n<s.length
    ·have hn:=hGn n hlt
     by_cases hg:G n=0
     ·rw[if_pos hg] at hn
      obtain⟨r1,r2⟩:=hGr n hg _ (List.getElem_mem hlt)
      obtain⟨z,hz⟩:∃ z:Nat,s[n].1=z:=⟨s[n].1.toNat,by omega⟩
      have hzl:z<q.m.length:=by omega
      have hgd:q.m.getD s[n].1.toNat (.mk [] 0)=q.m[z]:=by rw[hz,Int.toNat_natCast,List.getD_eq_getElem?_getD,List.getElem?_eq_getElem hzl];rfl
      rw[hgd] at hn
      have hck:=Sy b C Mw ar s[n].2 q.m[z] (code ar s[n].2 q.m[z]) hCl hMl (hc _ _ _) (by have:=(hs _ (List.getElem_mem hlt)).1;omega) (hs _ (List.getElem_mem hlt)).2
      rw[Zv,Zb] at hck
      by_cases hcd:code ar s[n].2 q.m[z]=0
      ·rw[decide_eq_true hcd] at hn
       have hm:=hm2 n true
       rw[←hn] at hm
       refine Zz ?_;refine Zx [(52,.v (.bool true))] ZY hnt fun K hK=>?_;refine And.intro YD ?_;refine hK _ _ ?_;clear hK K;refine Zz ?_;refine Zy (t:=true) rfl ?_;rw[if_pos rfl];refine Zw ?_;refine Zz ?_;refine Zt ?_;refine Zz ?_;refine Zx [(53,.q [.v (.int .i64 s[n].1),.sl 2 (eTys s[n].2.binds) none,.v (.int .i64 s[n].2.kind),.v (.int .i64 s[n].2.index),.sl 4 (eTms s[n].2.args) none])] ZY hnt fun K hK=>?_
       refine And.intro (Xg (Zk s)) ?_;refine And.intro (Xh (ZT s n) (ZK _)) ?_;refine hK _ _ ?_;clear hK K;refine Zz ?_;refine Zx [(59,.v (.bool true))] ZY hnt fun K hK=>?_;refine And.intro (XU hg) ?_;refine hK _ _ ?_;clear hK K;refine Zy (t:=true) rfl ?_;rw[if_pos rfl];refine ZP [(71,.v (.int .i64 (↑z))),(72,.q [.sl 2 (eTys q.m[z].args) none,.v (.int .i64 q.m[z].base)]),(75,.v (.bool true))] ZY hnt fun K hK=>?_
       refine And.intro (Zq (by exact hz)) ?_;refine And.intro (Xg (Zr q.m)) ?_;refine And.intro (Xh (ZU q.m z) (Zb _)) ?_;refine Ze (hck) ?_;refine And.intro (XU hcd) ?_;refine Ze (hm) ?_;refine hK _ _ (by kernel_rfl) ?_;clear hK K;refine Zx [(77,.v (.int .i64 (↑(n+1))))] ZY hnt fun K hK=>?_;refine And.intro XR ?_;refine hK _ _ ?_;clear hK K
       refine⟨⟨n+1,hlt⟩,by first | omega | (dsimp only;omega),VS.toA⟩
      ·rw[decide_eq_false hcd] at hn
       have hm:=hm2 n false
       rw[←hn] at hm
       refine Zz ?_;refine Zx [(52,.v (.bool true))] ZY hnt fun K hK=>?_;refine And.intro YD ?_;refine hK _ _ ?_;clear hK K;refine Zz ?_;refine Zy (t:=true) rfl ?_;rw[if_pos rfl];refine Zw ?_;refine Zz ?_;refine Zt ?_;refine Zz ?_;refine Zx [(53,.q [.v (.int .i64 s[n].1),.sl 2 (eTys s[n].2.binds) none,.v (.int .i64 s[n].2.kind),.v (.int .i64 s[n].2.index),.sl 4 (eTms s[n].2.args) none])] ZY hnt fun K hK=>?_
       refine And.intro (Xg (Zk s)) ?_;refine And.intro (Xh (ZT s n) (ZK _)) ?_;refine hK _ _ ?_;clear hK K;refine Zz ?_;refine Zx [(59,.v (.bool true))] ZY hnt fun K hK=>?_;refine And.intro (XU hg) ?_;refine hK _ _ ?_;clear hK K;refine Zy (t:=true) rfl ?_;rw[if_pos rfl];refine ZP [(71,.v (.int .i64 (↑z))),(72,.q [.sl 2 (eTys q.m[z].args) none,.v (.int .i64 q.m[z].base)]),(75,.v (.bool false))] ZY hnt fun K hK=>?_
       refine And.intro (Zq (by exact hz)) ?_;refine And.intro (Xg (Zr q.m)) ?_;refine And.intro (Xh (ZU q.m z) (Zb _)) ?_;refine Ze (hck) ?_;refine And.intro (XT hcd) ?_;refine Ze (hm) ?_;refine hK _ _ (by kernel_rfl) ?_;clear hK K;refine Zx [(77,.v (.int .i64 (↑(n+1))))] ZY hnt fun K hK=>?_;refine And.intro XR ?_;refine hK _ _ ?_;clear hK K
       refine⟨⟨n+1,hlt⟩,by first | omega | (dsimp only;omega),VS.toA⟩
     ·rw[if_neg hg] at hn;refine Zz ?_;refine Zx [(52,.v (.bool true))] ZY hnt fun K hK=>?_;refine And.intro YD ?_;refine hK _ _ ?_;clear hK K;refine Zz ?_;refine Zy (t:=true) rfl ?_;rw[if_pos rfl];refine Zw ?_;refine Zz ?_;refine Zt ?_;refine Zz ?_;refine Zx [(53,.q [.v (.int .i64 s[n].1),.sl 2 (eTys s[n].2.binds) none,.v (.int .i64 s[n].2.kind),.v (.int .i64 s[n].2.index),.sl 4 (eTms s[n].2.args) none])] ZY hnt fun K hK=>?_
      refine And.intro (Xg (Zk s)) ?_;refine And.intro (Xh (ZT s n) (ZK _)) ?_;refine hK _ _ ?_;clear hK K;refine Zz ?_;refine Zx [(59,.v (.bool false))] ZY hnt fun K hK=>?_;refine And.intro (XT hg) ?_;refine hK _ _ ?_;clear hK K;refine Zy (t:=false) rfl ?_;rw[if_neg (by simp)]
      rw[←hn]
      refine Zw ?_;refine Zx [(77,.v (.int .i64 (↑(n+1))))] ZY hnt fun K hK=>?_;refine And.intro XR ?_;refine hK _ _ ?_;clear hK K
      refine⟨⟨n+1,hlt⟩,by first | omega | (dsimp only;omega),VS.toA⟩
    ·have hne:n=s.length:=by omega
     subst hne
     refine Zz ?_;refine Zx [(52,.v (.bool false))] ZY hnt fun K hK=>?_;refine And.intro Xq ?_;refine hK _ _ ?_;clear hK K;refine Zz ?_;refine Zy (t:=false) rfl ?_;rw[if_neg (by simp)];refine Zc ?_
     exact Zj rfl
end Go.Proofs.YtclihnccilkohaaGreat
