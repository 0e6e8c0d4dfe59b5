/-
  Parts of the proof.
-/
import Derived.Test.YtclihnccilkohaaGreatRowAuditChecksp1
import Derived.Test.YtclihnccilkohaaGreatRowAuditChecksp5
import Derived.Test.YtclihnccilkohaaGreatRowAuditChecksp4
set_option maxRecDepth 100000
set_option maxHeartbeats 1000000
set_option linter.unusedVariables false
set_option linter.unusedSimpArgs false
namespace Go.Proofs.YtclihnccilkohaaGreat
open Go.RowKit Go.ChangeShapes Go.WideShapes Go.ChangeAt
def KK:Rp (Int×Tm) where
 n:=5
 R:=λ F w x p=>∃ b k i a,x=[.int .i64 p.1,b,k,i,a]/\XS F w b k i a p.2
 len:=fun⟨_,_,_,_,e,_⟩=>by rw[e];rfl
 one:=fun⟨b,k,i,a,e,h⟩ v hv=>by
  have h1:=U6.one (F:=_) (w:=_) (x:=[b,k,i,a]) (a:=_) ⟨b,k,i,a,rfl,h⟩
  rw[e] at hv
  rcases List.mem_cons.1 hv with rfl | hv
  ·rfl
  exact h1 v hv
 keep:=fun⟨b,k,i,a,e,h⟩ hk=>⟨b,k,i,a,e,h.keep hk⟩
 weaken:=fun⟨b,k,i,a,e,h⟩ hf=>⟨b,k,i,a,e,h.weaken hf⟩
theorem RJ:Tryz.prog.cellsOf 130=5:=by kernel_rfl
theorem Jl {α:Type}{cs:List α}(h:cs.length=5):∃ a b c d e,cs=[a,b,c,d,e]:=by
 match cs,h with
 | [a,b,c,d,e],_=>exact⟨a,b,c,d,e,rfl⟩
theorem GR {H:Type}(enc:TypeId×Value->H)(W:World)(base:Nat)(sp:Nat->Bool)(hd:Bool):∀ n,Rd enc W base sp hd 130 KK (λ _ p=>p.2.Fit/\-9223372036854775808<=p.1/\p.1<=9223372036854775807) n:=by
 intro n cs x h
 obtain⟨xs,m,rfl,rfl,hl,hlen,hf⟩:=DataW.trod_struct Tryz.underlying130 h
 rw[RJ] at hl
 obtain⟨v0,v1,v2,v3,v4,rfl⟩:=Jl hl
 have h0:DataW.trod enc Tryz.prog W base sp hd m 3 ([v0,v1,v2,v3,v4].take (Tryz.prog.cellsOf 3))=xs[0]?:=hf 0 _ rfl
 have h1:DataW.trod enc Tryz.prog W base sp hd m 31 ([v1,v2,v3,v4].take (Tryz.prog.cellsOf 31))=xs[1]?:=hf 1 _ rfl
 rw[V6] at h0
 rw[V5] at h1
 have hlen:xs.length=2:=hlen
 rw[List.getElem?_eq_getElem (by omega)] at h0 h1
 obtain⟨i,hi,_,hw⟩:=DataW.trod_int Tryz.underlying3 h0
 have e0:[v0]=[.int .i64 i]:=hi
 simp only[List.cons.injEq,and_true] at e0
 subst e0
 obtain⟨t,⟨b,k,j,a,hx,ht⟩,hfit⟩:=HP enc W base sp hd m _ _ h1
 have e1:[v1,v2,v3,v4]=[b,k,j,a]:=hx
 simp only[List.cons.injEq,and_true] at e1
 obtain⟨rfl,rfl,rfl,rfl⟩:=e1
 exact⟨(i,t),⟨_,_,_,_,rfl,ht⟩,hfit,RC hw⟩
theorem VW {α H:Type}{l:List α}{d:DataW H}{Q:α->Prop}(h:∀ i (h:i<l.length),∃ x es spare,d=.slice es spare/\x∈es/\Q l[i]):∀ p∈l,Q p:=λ p hp=>by
 obtain⟨i,hi,rfl⟩:=List.getElem_of_mem hp
 obtain⟨_,_,_,_,_,h⟩:=h i hi
 exact h
theorem Y6.len1 {α:Type}{r:Rp α}{F:Nat->Prop}{w:World}{v:Value}{l:List α}(h:Y6 r F w v l):l.length<=9223372036854775807:=by
 obtain⟨a,c,bl,off,X,_,h1,_⟩:=h
 have:maxLen=9223372036854775807:=rfl
 omega
section
variable {m:Mp} {w:World} {F:Nat->Prop}
theorem Sg {v:Value}{l:List Ty}(h:Y6 YD F w v l):Yz m (Uk F w) w v (.sl 2 (eTys l) none):=by
 rw[X8]
 exact X9 (r:=YD) (e:=eTy) Xt Vq (λ x t hx=>by
  obtain⟨s,b,rfl,ht⟩:=hx
  exact Rc Xt t ht) h
theorem MD {v:Value}{l:List (Int×Tm)}(h:Y6 KK F w v l):Yz m (Uk F w) w v (.sl 5 (Z5 l) none):=
 X9 (r:=KK) (e:=Vp) Xt (λ p=>by rw[ZG];rfl) (λ x p hx=>by
  obtain⟨b,k,i,a,rfl,ht⟩:=hx
  exact⟨.v _,Wb Xt p.2 ht⟩) h
theorem ME {cv mv:Value}{b:Int}{C M:List Ty}(h1:Y6 YD F w cv C)(h2:Y6 YD F w mv M):Yz m (Uk F w) w (.agg #[.int .i64 b,cv,mv]) (.ag [.v (.int .i64 b),.sl 2 (eTys C) none,.sl 2 (eTys M) none]):=
 Wa.2 ⟨[.int .i64 b,cv,mv],rfl,.v _,Sg h1,Sg h2,trivial⟩
end
theorem QP {f:FuncId}{ds:List D}(h:Zh Tryz.prog f ds (.v (.bool true))){w:World}{vs:List Value}(hv:YU m00 (Uk (λ _=>True) w) w vs ds):
  Calls Tryz.prog f vs.toArray w λ e w'=>e=.returned (.bool true)/\Below w.heap.size w w':=by
 refine(Rr h Km hv).mono ?_
 rintro e w' ⟨v,Im',rfl,h1,h2,_⟩
 have:=Yr.1 h2;subst this
 exact⟨rfl,h1⟩
end Go.Proofs.YtclihnccilkohaaGreat
namespace Go.Proofs.YtclihnccilkohaaGreat
open Go.RowKit
def TTM_31:TI:=⟨4,true,[Value.slice none 0 0,Value.int IntKind.i64 0,Value.int IntKind.i64 0,Value.slice none 0 0],[(0,1,false),(1,2,true),(3,1,false)],none,64,6,none,false⟩
theorem Yl:TypOk Tryz.prog 31 TTM_31:=by constructor <;> kernel_rfl
def TTM_29:TI:=⟨1,false,[Value.slice none 0 0],[],some 31,24,5,none,false⟩
theorem Y5:TypOk Tryz.prog 29 TTM_29:=by constructor <;> kernel_rfl
def TTM_28:TI:=⟨2,true,[Value.int IntKind.i64 0,Value.int IntKind.i64 0],[(0,1,false),(1,1,false)],none,16,6,none,true⟩
theorem Xz:TypOk Tryz.prog 28 TTM_28:=by constructor <;> kernel_rfl
def TTM_94:TI:=⟨1,false,[Value.nilFunc],[],none,8,8,none,false⟩
theorem M2:TypOk Tryz.prog 94 TTM_94:=by constructor <;> kernel_rfl
def TTM:List (Nat×TI):=[(62,TG_62),(31,TTM_31),(29,TTM_29),(60,TG_60),(3,TG_3),(41,TG_41),(22,TTY_22),(59,TG_59),(28,TTM_28),(143,TTY_143),(94,TTM_94),(104,TTY_104),(106,TG_106)]
theorem ZF:Zd Tryz.prog TTM:=((((((((((((((Zd.nil _).cons Yx).cons Yy).cons M2).cons Vw).cons Xz).cons XI).cons Yo).cons Ym).cons ZW).cons Xs).cons Y5).cons Yl).cons Yu)
theorem UO (b:List Ty)(k i:Int)(a:List Tm):(Tm.mk b k i a).binds=b:=rfl
theorem S4 (b:List Ty)(k i:Int)(a:List Tm):(Tm.mk b k i a).kind=k:=rfl
theorem UT (b:List Ty)(k i:Int)(a:List Tm):(Tm.mk b k i a).index=i:=rfl
theorem Ui (b:List Ty)(k i:Int)(a:List Tm):(Tm.mk b k i a).args=a:=rfl
theorem IK (l r:List Tm)(h:∀ t∈l,∀ u,Zh Tryz.prog 33 [.ag (eTm t),.ag (eTm u)] (.v (.bool (decide (t=u))))):Zh Tryz.prog 68 [.sl 4 (eTms l) none,.sl 4 (eTms r) none,.fn 33 []] (.v (.bool (decide (l=r)))):=ZB.lens λ hlen=>by
 have hl:l.length<=9223372036854775807:=by have:=hlen _ (List.mem_cons_self ..);simp only[slOk,sl1,Zq] at this;exact this
 by_cases hlr:l.length=r.length
 ·skip
  refine Zn 0 32 [ResultVar.tmp 6] ZF Tryz.func68 rfl Tryz.ntmps68 rfl λ cx hnt hn0=>?_
  skip
  refine Zz ?_;refine Zx [] ZF hnt λ _ z9=>z9 _ _ ?_;refine Zz ?_;refine Zz ?_;refine Zx [(11,.v (.int .i64 (↑l.length))),(13,.v (.int .i64 (↑r.length))),(14,.v (.bool false))] ZF hnt λ K hK=>?_;refine And.intro (Zr (by rw[Zq])) ?_;refine And.intro (Zr (by rw[Zq])) ?_;refine And.intro (Yq (by omega)) ?_;refine hK _ _ ?_;clear hK K
  refine Zy (t:=false) rfl ?_;rw[if_neg (by simp)];refine Zw ?_;refine Zz ?_;refine Zz ?_;refine Zx [(16,.v (.int .i64 (↑l.length)))] ZF hnt λ K hK=>?_;refine And.intro (Zr (by rw[Zq])) ?_;refine hK _ _ ?_;clear hK K;refine Zt ?_
  refine Z6 (ι:={ j:Nat // l.take j=r.take j }) (λ j=>[(.t 1,.sl 4 (eTms r) none),(.t 2,.fn 33 []),(.t 15,.sl 4 (eTms l) none),(.t 16,.v (.int .i64 ↑l.length)),(.t 17,.v (.int .i64 ↑j.1))]) 0 (λ j=>l.length-j.1) (⟨0,rfl⟩) (VS.toA) λ j=>?_
  obtain⟨j,hj⟩:=j
  dsimp only
  by_cases hlt:j<l.length
  ·have hlt2:j<r.length:=by omega
   have hq:=h l[j] (List.getElem_mem hlt) r[j]
   rw[Zu,Zu] at hq
   by_cases he:l[j]=r[j]
   ·rw[decide_eq_true he] at hq
    refine Zz ?_;refine Zx [(18,.v (.bool true))] ZF hnt λ K hK=>?_;refine And.intro Xd ?_;refine hK _ _ ?_;clear hK K;refine Zz ?_;refine Zy (t:=true) rfl ?_;rw[if_pos rfl];refine Zw ?_;refine Zz ?_;refine Zt ?_;refine Zz ?_;refine Zx [(20,.q [.sl 2 (eTys l[j].binds) none,.v (.int .i64 l[j].kind),.v (.int .i64 l[j].index),.sl 4 (eTms l[j].args) none])] ZF hnt λ K hK=>?_
    refine And.intro (XQ (Zq l)) ?_;refine And.intro (XR (ZT l j) (Zu _)) ?_;refine hK _ _ ?_;clear hK K;refine Zz ?_;refine Zx [(24,.q [.sl 2 (eTys r[j].binds) none,.v (.int .i64 r[j].kind),.v (.int .i64 r[j].index),.sl 4 (eTms r[j].args) none])] ZF hnt λ K hK=>?_;refine And.intro (XQ (Zq r)) ?_;refine And.intro (XR (ZT r j) (Zu _)) ?_;refine hK _ _ ?_;clear hK K
    refine Zz ?_;refine Zx [] ZF hnt λ K hK=>?_;refine Zk (hq) ?_;refine hK _ _ ?_;clear hK K;refine Zy (t:=false) rfl ?_;rw[if_neg (by simp)];refine Zw ?_;refine Zx [(31,.v (.int .i64 (↑(j+1))))] ZF hnt λ K hK=>?_;refine And.intro Ww ?_;refine hK _ _ ?_;clear hK K
    refine⟨⟨j+1,XG hj hlt hlt2 he⟩,by first | omega | (dsimp only;omega),VS.toA⟩
   rw[decide_eq_false he] at hq
   rw[decide_eq_false (R4 hlt hlt2 he)]
   refine Zz ?_;refine Zx [(18,.v (.bool true))] ZF hnt λ K hK=>?_;refine And.intro Xd ?_;refine hK _ _ ?_;clear hK K;refine Zz ?_;refine Zy (t:=true) rfl ?_;rw[if_pos rfl];refine Zw ?_;refine Zz ?_;refine Zt ?_;refine Zz ?_;refine Zx [(20,.q [.sl 2 (eTys l[j].binds) none,.v (.int .i64 l[j].kind),.v (.int .i64 l[j].index),.sl 4 (eTms l[j].args) none])] ZF hnt λ K hK=>?_
   refine And.intro (XQ (Zq l)) ?_;refine And.intro (XR (ZT l j) (Zu _)) ?_;refine hK _ _ ?_;clear hK K;refine Zz ?_;refine Zx [(24,.q [.sl 2 (eTys r[j].binds) none,.v (.int .i64 r[j].kind),.v (.int .i64 r[j].index),.sl 4 (eTms r[j].args) none])] ZF hnt λ K hK=>?_;refine And.intro (XQ (Zq r)) ?_;refine And.intro (XR (ZT r j) (Zu _)) ?_;refine hK _ _ ?_;clear hK K
   refine Zz ?_;refine Zx [] ZF hnt λ K hK=>?_;refine Zk (hq) ?_;refine hK _ _ ?_;clear hK K;refine Zy (t:=true) rfl ?_;rw[if_pos rfl];refine Zz ?_;refine Zx [] ZF hnt λ _ z9=>z9 _ _ ?_;refine Zv ?_
   exact Zi rfl
  rw[decide_eq_true (W7 hj (by omega) (by omega))]
  refine Zz ?_;refine Zx [(18,.v (.bool false))] ZF hnt λ K hK=>?_;refine And.intro X5 ?_;refine hK _ _ ?_;clear hK K;refine Zz ?_;refine Zy (t:=false) rfl ?_;rw[if_neg (by simp)];refine Zg ?_;refine Zz ?_;refine Zx [] ZF hnt λ _ z9=>z9 _ _ ?_;refine Zv ?_
  exact Zi rfl
 rw[decide_eq_false (λ e=>hlr (by rw[e]))]
 refine Zn 0 32 [ResultVar.tmp 6] ZF Tryz.func68 rfl Tryz.ntmps68 rfl λ cx hnt hn0=>?_
 skip
 refine Zz ?_;refine Zx [] ZF hnt λ _ z9=>z9 _ _ ?_;refine Zz ?_;refine Zz ?_;refine Zx [(11,.v (.int .i64 (↑l.length))),(13,.v (.int .i64 (↑r.length))),(14,.v (.bool true))] ZF hnt λ K hK=>?_;refine And.intro (Zr (by rw[Zq])) ?_;refine And.intro (Zr (by rw[Zq])) ?_;refine And.intro (YO (by omega)) ?_;refine hK _ _ ?_;clear hK K
 refine Zy (t:=true) rfl ?_;rw[if_pos rfl];refine Zz ?_;refine Zx [] ZF hnt λ _ z9=>z9 _ _ ?_;refine Zv ?_
 exact Zi rfl
theorem M5 {t u:Tm}:t=u↔(t.kind=u.kind/\t.index=u.index)/\t.binds=u.binds/\t.args=u.args:=by
 obtain⟨b,k,i,a⟩:=t
 obtain⟨b',k',i',a'⟩:=u
 simp only[UO,S4,UT,Ui,Tm.mk.injEq]
 exact⟨fun⟨h1,h2,h3,h4⟩=>⟨⟨h2,h3⟩,h1,h4⟩,fun⟨⟨h1,h2⟩,h3,h4⟩=>⟨h3,h1,h2,h4⟩⟩
theorem Um:∀ t u:Tm,Zh Tryz.prog 33 [.ag (eTm t),.ag (eTm u)] (.v (.bool (decide (t=u)))):=by
 intro t
 induction t using Tm.ind with
 | h b k i a ih=>
 intro u
 have hq:=IK a u.args ih
 have hb:=Qh b u.binds 67 rfl
 rw[Zu,Zu]
 simp only[UO,S4,UT,Ui]
 by_cases h1:k=u.kind/\i=u.index
 ·by_cases h2:b=u.binds
  ·rw[show decide (Tm.mk b k i a=u)=decide (a=u.args) by rw[Bool.eq_iff_iff,decide_eq_true_iff,decide_eq_true_iff,M5];simp[UO,S4,UT,Ui,h1,h2]]
   rw[decide_eq_true h2] at hb
   refine Zn 0 24 [ResultVar.tmp 4] ZF Tryz.func33 rfl Tryz.ntmps33 rfl λ cx hnt hn0=>?_
   skip
   refine Zz ?_;refine Zx [] ZF hnt λ _ z9=>z9 _ _ ?_;refine Zz ?_;refine Zx [(9,.v (.bool true))] ZF hnt λ K hK=>?_;refine And.intro (Zm.of_eq (by congr 2;simp[h1])) ?_;refine Zk (hb) ?_;refine Zk (hq) ?_;refine hK _ _ ?_;clear hK K;refine Zv ?_
   exact Zi rfl
  rw[show decide (Tm.mk b k i a=u)=false from decide_eq_false λ e=>h2 (by rw[<-e];rfl)]
  rw[decide_eq_false h2] at hb
  refine Zn 0 24 [ResultVar.tmp 4] ZF Tryz.func33 rfl Tryz.ntmps33 rfl λ cx hnt hn0=>?_
  skip
  refine Zz ?_;refine Zx [] ZF hnt λ _ z9=>z9 _ _ ?_;refine Zz ?_;refine Zx [(9,.v (.bool true))] ZF hnt λ K hK=>?_;refine And.intro (Zm.of_eq (by congr 2;simp[h1])) ?_;refine Zk (hb) ?_;refine hK _ _ ?_;clear hK K;refine Zv ?_
  exact Zi rfl
 rw[show decide (Tm.mk b k i a=u)=false from decide_eq_false λ e=>h1 (by rw[<-e];exact⟨rfl,rfl⟩)]
 refine Zn 0 24 [ResultVar.tmp 4] ZF Tryz.func33 rfl Tryz.ntmps33 rfl λ cx hnt hn0=>?_
 skip
 refine Zz ?_;refine Zx [] ZF hnt λ _ z9=>z9 _ _ ?_;refine Zz ?_;refine Zx [(9,.v (.bool false))] ZF hnt λ K hK=>?_;refine And.intro (Zm.of_eq (by congr 2;by_cases h3:k=u.kind <;> by_cases h4:i=u.index <;> simp_all)) ?_;refine hK _ _ ?_;clear hK K;refine Zv ?_
 exact Zi rfl
theorem TJ:∀ t u:Tm,Zh Tryz.prog 30 [.ag (eTm t),.ag (eTm u)] (.v (.bool (decide (t=u)))):=by
 intro t
 induction t using Tm.ind with
 | h b k i a ih=>
 intro u
 refine ZB.lens λ hlen=>?_
 have hl:a.length<=9223372036854775807:=by
  have:=hlen _ (List.mem_cons_self ..)
  rw[Zu] at this
  have:=this (.sl 4 (eTms a) none) (by simp[Ui])
  simp only[sl1,Zq] at this;exact this
 have hb:=Sj b u.binds
 rw[Zu,Zu]
 simp only[UO,S4,UT,Ui]
 by_cases h1:k=u.kind/\i=u.index
 ·by_cases hlr:a.length=u.args.length
  ·by_cases h2:b=u.binds
   ·rw[show decide (Tm.mk b k i a=u)=decide (a=u.args) by rw[Bool.eq_iff_iff,decide_eq_true_iff,decide_eq_true_iff,M5];simp[UO,S4,UT,Ui,h1,h2]]
    rw[decide_eq_true h2] at hb
    refine Zn 0 47 [ResultVar.tmp 4] ZF Tryz.func30 rfl Tryz.ntmps30 rfl λ cx hnt hn0=>?_
    skip
    refine Zz ?_;refine Zx [] ZF hnt λ _ z9=>z9 _ _ ?_;refine Zz ?_;refine Zz ?_;refine Zx [(10,.v (.bool false)),(14,.v (.int .i64 (↑a.length))),(17,.v (.int .i64 (↑u.args.length))),(18,.v (.bool false))] ZF hnt λ K hK=>?_;refine And.intro (Zm.of_eq (by congr 2;simp[h1])) ?_;refine And.intro (Zr (by rw[Zq])) ?_;refine And.intro (Zr (by rw[Zq])) ?_
    refine And.intro (Yq (by omega)) ?_;refine Zk (hb) ?_;refine hK _ _ ?_;clear hK K;refine Zy (t:=false) rfl ?_;rw[if_neg (by simp)];refine Zw ?_;refine Zz ?_;refine Zz ?_;refine Zx [] ZF hnt λ _ z9=>z9 _ _ ?_;refine Zt ?_
    refine Z6 (ι:={ j:Nat // a.take j=u.args.take j }) (λ j=>[(.t 2,.p 0 0),(.t 3,.p 1 0),(.t 5,.v (.int .i64 ↑j.1)),(.c 0 3,.sl 4 (eTms a) none),(.c 1 3,.sl 4 (eTms u.args) none)]) 2 (λ j=>a.length-j.1) (⟨0,rfl⟩) (VS.toA) λ j=>?_
    obtain⟨j,hj⟩:=j
    dsimp only
    by_cases hlt:j<a.length
    ·have hlt2:j<u.args.length:=by omega
     have hq:=ih a[j] (List.getElem_mem hlt) u.args[j]
     rw[Zu,Zu] at hq
     by_cases he:a[j]=u.args[j]
     ·rw[decide_eq_true he] at hq
      refine Zz ?_;refine Zz ?_;refine Zx [(31,.v (.int .i64 (↑a.length))),(32,.v (.bool true))] ZF hnt λ K hK=>?_;refine And.intro (Zr (by rw[Zq])) ?_;refine And.intro Xd ?_;refine hK _ _ ?_;clear hK K;refine Zy (t:=true) rfl ?_;rw[if_pos rfl];refine Zw ?_;refine Zz ?_;refine Zt ?_;refine Zz ?_;refine ZQ [(38,.q [.sl 2 (eTys a[j].binds) none,.v (.int .i64 a[j].kind),.v (.int .i64 a[j].index),.sl 4 (eTms a[j].args) none]),(43,.q [.sl 2 (eTys u.args[j].binds) none,.v (.int .i64 u.args[j].kind),.v (.int .i64 u.args[j].index),.sl 4 (eTms u.args[j].args) none])] ZF hnt λ K hK=>?_
      refine And.intro (XQ (Zq a)) ?_;refine And.intro (XR (ZT a j) (Zu _)) ?_;refine And.intro (XQ (Zq u.args)) ?_;refine And.intro (XR (ZT u.args j) (Zu _)) ?_;refine Zk (hq) ?_;refine hK _ _ (by kernel_rfl) ?_;clear hK K;refine Zy (t:=false) rfl ?_;rw[if_neg (by simp)];refine Zw ?_;refine Zx [(34,.v (.int .i64 (↑(j+1))))] ZF hnt λ K hK=>?_
      refine And.intro Ww ?_;refine hK _ _ ?_;clear hK K
      refine⟨⟨j+1,XG hj hlt hlt2 he⟩,by first | omega | (dsimp only;omega),VS.toA⟩
     rw[decide_eq_false he] at hq
     rw[decide_eq_false (R4 hlt hlt2 he)]
     refine Zz ?_;refine Zz ?_;refine Zx [(31,.v (.int .i64 (↑a.length))),(32,.v (.bool true))] ZF hnt λ K hK=>?_;refine And.intro (Zr (by rw[Zq])) ?_;refine And.intro Xd ?_;refine hK _ _ ?_;clear hK K;refine Zy (t:=true) rfl ?_;rw[if_pos rfl];refine Zw ?_;refine Zz ?_;refine Zt ?_;refine Zz ?_;refine ZQ [(38,.q [.sl 2 (eTys a[j].binds) none,.v (.int .i64 a[j].kind),.v (.int .i64 a[j].index),.sl 4 (eTms a[j].args) none]),(43,.q [.sl 2 (eTys u.args[j].binds) none,.v (.int .i64 u.args[j].kind),.v (.int .i64 u.args[j].index),.sl 4 (eTms u.args[j].args) none])] ZF hnt λ K hK=>?_
     refine And.intro (XQ (Zq a)) ?_;refine And.intro (XR (ZT a j) (Zu _)) ?_;refine And.intro (XQ (Zq u.args)) ?_;refine And.intro (XR (ZT u.args j) (Zu _)) ?_;refine Zk (hq) ?_;refine hK _ _ (by kernel_rfl) ?_;clear hK K;refine Zy (t:=true) rfl ?_;rw[if_pos rfl];refine Zz ?_;refine Zx [] ZF hnt λ _ z9=>z9 _ _ ?_
     refine Zv ?_
     exact Zi rfl
    rw[decide_eq_true (W7 hj (by omega) (by omega))]
    refine Zz ?_;refine Zz ?_;refine Zx [(31,.v (.int .i64 (↑a.length))),(32,.v (.bool false))] ZF hnt λ K hK=>?_;refine And.intro (Zr (by rw[Zq])) ?_;refine And.intro X5 ?_;refine hK _ _ ?_;clear hK K;refine Zy (t:=false) rfl ?_;rw[if_neg (by simp)];refine Zg ?_;refine Zz ?_;refine Zx [] ZF hnt λ _ z9=>z9 _ _ ?_
    refine Zv ?_
    exact Zi rfl
   rw[show decide (Tm.mk b k i a=u)=false from decide_eq_false λ e=>h2 (by rw[<-e];rfl)]
   rw[decide_eq_false h2] at hb
   refine Zn 0 47 [ResultVar.tmp 4] ZF Tryz.func30 rfl Tryz.ntmps30 rfl λ cx hnt hn0=>?_
   skip
   refine Zz ?_;refine Zx [] ZF hnt λ _ z9=>z9 _ _ ?_;refine Zz ?_;refine Zz ?_;refine Zx [(10,.v (.bool false)),(14,.v (.int .i64 (↑a.length))),(17,.v (.int .i64 (↑u.args.length))),(18,.v (.bool false))] ZF hnt λ K hK=>?_;refine And.intro (Zm.of_eq (by congr 2;simp[h1])) ?_;refine And.intro (Zr (by rw[Zq])) ?_;refine And.intro (Zr (by rw[Zq])) ?_
   refine And.intro (Yq (by omega)) ?_;refine Zk (hb) ?_;refine hK _ _ ?_;clear hK K;refine Zy (t:=true) rfl ?_;rw[if_pos rfl];refine Zz ?_;refine Zx [] ZF hnt λ _ z9=>z9 _ _ ?_;refine Zv ?_
   exact Zi rfl
  rw[show decide (Tm.mk b k i a=u)=false from decide_eq_false λ e=>hlr (by rw[<-e];rfl)]
  refine Zn 0 47 [ResultVar.tmp 4] ZF Tryz.func30 rfl Tryz.ntmps30 rfl λ cx hnt hn0=>?_
  skip
  refine Zz ?_;refine Zx [] ZF hnt λ _ z9=>z9 _ _ ?_;refine Zz ?_;refine Zz ?_;refine Zx [(10,.v (.bool false)),(14,.v (.int .i64 (↑a.length))),(17,.v (.int .i64 (↑u.args.length))),(18,.v (.bool true))] ZF hnt λ K hK=>?_;refine And.intro (Zm.of_eq (by congr 2;simp[h1])) ?_;refine And.intro (Zr (by rw[Zq])) ?_;refine And.intro (Zr (by rw[Zq])) ?_
  refine And.intro (YO (by omega)) ?_;refine hK _ _ ?_;clear hK K;refine Zy (t:=true) rfl ?_;rw[if_pos rfl];refine Zz ?_;refine Zx [] ZF hnt λ _ z9=>z9 _ _ ?_;refine Zv ?_
  exact Zi rfl
 rw[show decide (Tm.mk b k i a=u)=false from decide_eq_false λ e=>h1 (by rw[<-e];exact⟨rfl,rfl⟩)]
 refine Zn 0 47 [ResultVar.tmp 4] ZF Tryz.func30 rfl Tryz.ntmps30 rfl λ cx hnt hn0=>?_
 skip
 refine Zz ?_;refine Zx [] ZF hnt λ _ z9=>z9 _ _ ?_;refine Zz ?_;refine Zz ?_;refine Zx [(10,.v (.bool true))] ZF hnt λ K hK=>?_;refine And.intro (Zm.of_eq (by congr 2;by_cases h3:k=u.kind <;> by_cases h4:i=u.index <;> simp_all)) ?_;refine hK _ _ ?_;clear hK K;refine Zy (t:=true) rfl ?_;rw[if_pos rfl];refine Zz ?_
 refine Zx [] ZF hnt λ _ z9=>z9 _ _ ?_;refine Zv ?_
 exact Zi rfl
/-! long forms -/
theorem RQ (l:List Tm)(j:Nat)(h:j<l.length):eTms (l.take j)++[[.sl 2 (eTys l[j].binds) none,.v (.int .i64 l[j].kind),.v (.int .i64 l[j].index),.sl 4 (eTms l[j].args) none]]=eTms (l.take (j+1)):=by
 rw[<-Zu,List.take_add_one,List.getElem?_eq_getElem h,Option.toList_some,Xw,Xw,List.map_append];rfl
end Go.Proofs.YtclihnccilkohaaGreat
namespace Go.Proofs.YtclihnccilkohaaGreat
open Go.RowKit Go.Shelf
attribute [local go_sem] Oper.semAt_some
end Go.Proofs.YtclihnccilkohaaGreat
namespace Go.Proofs.YtclihnccilkohaaGreat
open Go.RowKit
/-! ints -/
def YJ (l:List Int):List (List D):=l.map λ i=>[.v (.int .i64 i)]
theorem Zb (l:List Int):(YJ l).length=l.length:=List.length_map ..
theorem Vx (l r:List Int):YJ (l++r)=YJ l++YJ r:=List.map_append ..
theorem Xu (l:List Int)(i:Nat)(h:i<l.length):(YJ l).getD i []=[.v (.int .i64 l[i])]:=by
 rw[YJ,List.getD_eq_getElem?_getD,List.getElem?_map,List.getElem?_eq_getElem h];rfl
@[simp] theorem Kx (f g:Nat->Bool) (l:List Int):D.okss f g (YJ l)=true:=D.okss_map _ l λ _ _=>rfl
theorem Kr (m:Mp):(m.cut (λ _=>false) Vt).le m00:=⟨λ k b h=>by simp[Mp.cut] at h,λ g R h=>by simp[Mp.cut,Vt] at h,λ k b h=>by simp[Mp.cut] at h⟩
theorem IJ {cx:Cx}{Fr:Nat->Prop}{m:Mp}{Im:Nat->Nat->Prop}{w:World}{vs:List Value}{args:List D}(hm:We cx Fr m Im w)(hr:YU m Im w vs args)(ha:args.all (λ d=>d.ok (λ _=>false) Vt)=true)(nt:Nat)(hnt:args.length<=nt){n:Nat}(hn:n=nt):
  ∃ cx':Cx,cx'.nt=nt/\cx'.n0=0/\cx'.w0=w/\(∀ b,¬ cx'.C b)/\cx'.Im0=Im/\St cx' (λ k=>0<=k) m00 Im w { tmps:=vs.toArray++Array.replicate (n-vs.toArray.size) undef,defers:=[] } (YQ 0 args []):=by
 subst hn
 have hvl:vs.length=args.length:=(ZS.1 hr).1
 refine⟨{ w0:=w,C:=λ _=>False,Im0:=Im,m0:=m00,nt:=n,n0:=0,h0:=(λ k b hk=>by cases hk),h0o:=(λ k b hk=>by cases hk) },rfl,rfl,rfl,λ _ h=>h,rfl,?_⟩
 refine⟨{
  off:=Off.refl _ _,im:=hm.im,imb:=λ b o h=>.inl h,im0:=λ b o h=>h
  own:=λ k b hk=>by cases hk
  lt:=λ k b hk=>by cases hk
  free:=λ k b o hk=>by cases hk
  nim:=λ k b o hk=>by cases hk
  inj:=λ k k' b hk=>by cases hk
  row:=λ g R hg=>by cases hg
  k0:=Z8.refl _ _
  rown:=λ g R b hg=>by cases hg
  m0r:=λ g R hg=>by cases hg
  rIm:=λ g R b o hg=>by cases hg
  rblk:=λ g R b k hg=>by cases hg
  rinj:=λ g g' R R' b hg=>by cases hg
  fr:=λ k hk=>⟨rfl,rfl,rfl⟩
  m0:=λ k b hk=>by cases hk
  m0o:=λ k b hk=>by cases hk
  oown:=λ k b hk=>by cases hk
  olt:=λ k b hk=>by cases hk
  onim:=λ k b o hk=>by cases hk
  oinj:=λ k k' b hk=>by cases hk
  oblk:=λ k k' b hk=>by cases hk
  orow:=λ k g R b hk=>by cases hk
  dis:=λ k b hk=>by cases hk },rfl,by simp[hvl];omega,λ x d hx=>?_,λ k off d hx=>?_,λ g d hx=>?_,λ d hx=>?_,λ k d hx=>?_⟩
 ·rcases T6 args 0 x hx with⟨j,h1,h2⟩ | hx
  ·have hj:j<args.length:=by
    rcases Nat.lt_or_ge j args.length with h' | h'
    ·exact h'
    rw[List.getElem?_eq_none h'] at h2;cases h2
   rw[List.getElem?_eq_getElem hj] at h2
   cases h2
   have hr:=(ZS.1 hr).2 j hj
   have hx':x=j:=by omega
   subst hx'
   have:(vs.toArray++Array.replicate (n-vs.toArray.size) undef).getD x undef=vs.getD x undef:=by
    have hx2:x<vs.length:=by omega
    rw[Array.getD_eq_getD_getElem?,Array.getElem?_append_left (by simpa using hx2),List.getD_eq_getElem?_getD]
    simp
   show Yz _ _ _ ((vs.toArray++Array.replicate (n-vs.toArray.size) undef).getD x undef) _
   rw[this]
   exact(hr.cut (List.all_eq_true.1 ha _ (List.getElem_mem hj))).mono (Kr m) (Z8.refl _ _) λ _ _ h=>h
  ·cases hx
 ·rw[XE (λ x=>by simp) args 0] at hx;cases hx
 ·rw[XE (λ x=>by simp) args 0] at hx;cases hx
 ·rw[XE (λ x=>by simp) args 0] at hx;cases hx
 rw[XE (λ x=>by simp) args 0] at hx;cases hx
def Ft (l:List (Int×Value)):List (Int×D):=l.map λ p=>(p.1,.v p.2)
theorem full_mem {l:List Tm}{t:Tm}(h:t∈l):t.full<=Tm.fulls l:=by
 induction l with
 | nil=>cases h
 | cons u l ih=>
  simp only[Tm.fulls]
  rcases List.mem_cons.1 h with rfl | h
  ·omega
  have:=ih h;omega
theorem RU (l : List Tm) : l.length <= Tm.fulls l := by
  induction l with
  | nil => simp
  | cons u l ih => have : 1 <= u.full := by obtain ⟨b, k, i, a⟩ := u; rw [Tm.full_eq]; omega
                   simp only [Tm.fulls, List.length_cons]; omega
theorem XD (t:Tm):t.full=Ty.sizes t.binds+Tm.fulls t.args+1:=by obtain⟨b,k,i,a⟩:=t;exact Tm.full_eq ..
namespace Pn
end Pn
def GH (l:List Int):List (Int×D):=l.map λ i=>(i,.v (.bool true))
theorem Qw {f g:Nat->Bool}{α:Type}(e:α->Int×D)(l:List α)(h:∀ x∈l,(e x).2.ok f g=true):D.okm f g (l.map e)=true:=by
 induction l with
 | nil=>rfl
 | cons x l ih=>
  have h1:=h x (by simp)
  have h2:=ih λ y hy=>h y (by simp[hy])
  simp only[List.map_cons]
  generalize e x=p at h1 ⊢
  obtain⟨i,d⟩:=p
  simp only[D.okm,Bool.and_eq_true];exact⟨h1,h2⟩
@[simp] theorem GX (f g:Nat->Bool) (l:List Int):D.okm f g (GH l)=true:=Qw _ l λ _ _=>rfl
namespace Pn
def atL:List Int->Nat->List (Int×Value)
 | [],_=>[]
 | v :: l,k=>(v,.int .i64 k) :: atL l (k+1)
end Pn
@[simp] theorem GC (f g:Nat->Bool) (l:List Int) (k:Nat):D.okm f g (Ft (Pn.atL l k))=true:=Qw _ _ λ _ _=>rfl
def TL8:List (Nat×TI):=[(29,TTM_29),(3,TG_3),(31,TTM_31),(28,TTM_28)]
theorem Wx:Zd Tryz.prog TL8:=(((((Zd.nil _).cons Xz).cons Yl).cons ZW).cons Y5)
def TL9_72:TI:=⟨1,false,[Value.slice none 0 0],[],some 130,24,5,none,false⟩
theorem Wm:TypOk Tryz.prog 72 TL9_72:=by constructor <;> kernel_rfl
def TL9_130:TI:=⟨5,true,[Value.int IntKind.i64 0,Value.slice none 0 0,Value.int IntKind.i64 0,Value.int IntKind.i64 0,Value.slice none 0 0],[(0,1,false),(1,4,true)],none,72,6,none,false⟩
theorem XJ:TypOk Tryz.prog 130 TL9_130:=by constructor <;> kernel_rfl
def TL9:List (Nat×TI):=[(84,TS1_84),(3,TG_3),(72,TL9_72),(110,TS1_110),(62,TG_62),(130,TL9_130)]
theorem VH:Zd Tryz.prog TL9:=(((((((Zd.nil _).cons XJ).cons Yu).cons YG).cons Wm).cons ZW).cons Xb)
mutual
def Qs:Tm->Bool
 | .mk _ k i a=>!(decide (k=0)&&decide (900000<i))&&lowsB a
def lowsB:List Tm->Bool
 | []=>true
 | t :: l=>Qs t&&lowsB l
end
theorem T4:∀ l:List Tm,lowsB l=l.all Qs
 | []=>rfl
 | t :: l=>by rw[lowsB,T4 l];rfl
theorem Jv (t:Tm):Qs t=(!(decide (t.kind=0)&&decide (900000<t.index))&&lowsB t.args):=by cases t;rfl
theorem TY {l:List Tm}{j:Nat}(h:j<l.length)(hf:Qs l[j]=false):lowsB l=false:=by
 rw[T4,List.all_eq_false];exact⟨l[j],List.getElem_mem h,by rw[hf];simp⟩
set_option maxHeartbeats 1000000 in
theorem QB (l:List Tm)(hl:l.length<=1000000)(ih:∀ t∈l,Zh Tryz.prog 23 [.sl 4 (eTms t.args) none] (.v (.bool (lowsB t.args)))):Zh Tryz.prog 23 [.sl 4 (eTms l) none] (.v (.bool (lowsB l))):=by
 refine ZX 0 35 [ResultVar.tmp 2] Wx (by kernel_rfl) Tryz.func23 rfl Tryz.ntmps23 rfl (by simp) ?dwords ?dbody
 case dwords=>simp[ZA,D.ok,D.oks,ZM,Y8]
 case dbody=>
  intro cx hnt hn0
  refine Zz ?_;refine Zx [] Wx hnt λ _ z9=>z9 _ _ ?_;refine Zz (Zz ?_);refine Zx [] Wx hnt λ _ z9=>z9 _ _ ?_;refine Zt ?_
  refine Z6 (ι:={ j:Nat // ∀ i (h:i<l.length),i<j->Qs l[i]=true }) (λ j=>[(.t 0,.sl 4 (eTms l) none),(.t 3,.v (.int .i64 (j.1:Int)))]) 1 (λ j=>l.length-j.1) ⟨0,λ i h1 h2=>by omega⟩ VS.toA λ j=>?_
  obtain⟨j,hj⟩:=j
  dsimp only
  refine Zz (Zz ?_)
  by_cases hlt:j<l.length
  ·have hi:=ih l[j] (List.getElem_mem hlt)
   have hlo:=Jv l[j]
   refine Zx [(7,.v (.bool true))] Wx hnt λ K hK=>?_;refine And.intro (Z7 (by rw[Zq];omega)) ?_;refine hK _ _ ?_;clear hK K;refine Zy (t:=true) rfl ?_;rw[if_pos rfl];refine Zw ?_;refine Zz (Zt (Zz ?_))
   have hq:(eTms l).getD (j:Int).toNat []=[.sl 2 (eTys l[j].binds) none,.v (.int .i64 l[j].kind),.v (.int .i64 l[j].index),.sl 4 (eTms l[j].args) none]:=by rw[Int.toNat_natCast,ZT l j hlt,Zu]
   have hb:(0:Int)<=(j:Int)/\(j:Int)<((eTms l).length:Int):=⟨by omega,by rw[Zq];omega⟩
   have hret:Qs l[j]=false->∀ σ N,DW Tryz.prog cx (.ret) σ N (TN TL8 [ResultVar.tmp 2] (.v (.bool (lowsB l))) [])->True:=λ _ _ _ _=>trivial
   by_cases hk:l[j].kind=0
   ·by_cases hx:900000<l[j].index
    ·have hf:lowsB l=false:=TY hlt (by rw[hlo];simp[hk,hx])
     rw[hf]
     refine Zx [(12,.q [.sl 2 (eTys l[j].binds) none,.v (.int .i64 l[j].kind),.v (.int .i64 l[j].index),.sl 4 (eTms l[j].args) none]),(16,.v (.bool true)),(20,.q [.sl 2 (eTys l[j].binds) none,.v (.int .i64 l[j].kind),.v (.int .i64 l[j].index),.sl 4 (eTms l[j].args) none]),(24,.v (.bool true))] Wx hnt λ K hK=>?_;refine And.intro (hb) ?_;refine And.intro (Zm.of_eq (by rw[hq])) ?_
     refine And.intro (Zm.of_eq (by simp[hk])) ?_;refine And.intro (hb) ?_;refine And.intro (Zm.of_eq (by rw[hq])) ?_;refine And.intro (Z7 hx) ?_;refine hK _ _ ?_;clear hK K;refine Zy (t:=true) rfl ?_;rw[if_pos rfl];refine Zz ?_;refine Zx [] Wx hnt λ _ z9=>z9 _ _ ?_;refine Zv ?_
     exact Yd (N:=0) (.inr rfl) rfl (Zm.refl _) trivial
    cases hla:lowsB l[j].args with
    | false=>
     have hf:lowsB l=false:=TY hlt (by rw[hlo,hla];simp)
     rw[hf]
     rw[hla] at hi
     refine Zx [(12,.q [.sl 2 (eTys l[j].binds) none,.v (.int .i64 l[j].kind),.v (.int .i64 l[j].index),.sl 4 (eTms l[j].args) none]),(16,.v (.bool true)),(20,.q [.sl 2 (eTys l[j].binds) none,.v (.int .i64 l[j].kind),.v (.int .i64 l[j].index),.sl 4 (eTms l[j].args) none]),(24,.v (.bool false)),(29,.q [.sl 2 (eTys l[j].binds) none,.v (.int .i64 l[j].kind),.v (.int .i64 l[j].index),.sl 4 (eTms l[j].args) none])] Wx hnt λ K hK=>?_
     refine And.intro (hb) ?_;refine And.intro (Zm.of_eq (by rw[hq])) ?_;refine And.intro (Zm.of_eq (by simp[hk])) ?_;refine And.intro (hb) ?_;refine And.intro (Zm.of_eq (by rw[hq])) ?_;refine And.intro (Ze hx) ?_;refine And.intro (hb) ?_;refine And.intro (Zm.of_eq (by rw[hq])) ?_;refine Zk (hi) ?_;refine hK _ _ ?_;clear hK K;refine Zy (t:=true) rfl ?_;rw[if_pos rfl];refine Zz ?_
     refine Zx [] Wx hnt λ _ z9=>z9 _ _ ?_;refine Zv ?_
     exact Yd (N:=0) (.inr rfl) rfl (Zm.refl _) trivial
    | true=>
     rw[hla] at hi
     refine Zx [(12,.q [.sl 2 (eTys l[j].binds) none,.v (.int .i64 l[j].kind),.v (.int .i64 l[j].index),.sl 4 (eTms l[j].args) none]),(16,.v (.bool true)),(20,.q [.sl 2 (eTys l[j].binds) none,.v (.int .i64 l[j].kind),.v (.int .i64 l[j].index),.sl 4 (eTms l[j].args) none]),(24,.v (.bool false)),(29,.q [.sl 2 (eTys l[j].binds) none,.v (.int .i64 l[j].kind),.v (.int .i64 l[j].index),.sl 4 (eTms l[j].args) none])] Wx hnt λ K hK=>?_
     refine And.intro (hb) ?_;refine And.intro (Zm.of_eq (by rw[hq])) ?_;refine And.intro (Zm.of_eq (by simp[hk])) ?_;refine And.intro (hb) ?_;refine And.intro (Zm.of_eq (by rw[hq])) ?_;refine And.intro (Ze hx) ?_;refine And.intro (hb) ?_;refine And.intro (Zm.of_eq (by rw[hq])) ?_;refine Zk (hi) ?_;refine hK _ _ ?_;clear hK K;refine Zy (t:=false) rfl ?_;rw[if_neg (by simp)]
     refine Zw ?_;refine Zx [(9,.v (.int .i64 ((j+1:Nat):Int)))] Wx hnt λ K hK=>?_;refine And.intro (Zr (by rw[IntWalk.i64_in _ (by omega)];omega)) ?_;refine hK _ _ ?_;clear hK K
     refine⟨⟨j+1,λ i h1 h2=>?_⟩,by dsimp only;omega,VS.toA⟩
     by_cases he:i=j
     ·subst he;rw[hlo,hla];simp[hx]
     exact hj i h1 (by omega)
   cases hla:lowsB l[j].args with
   | false=>
    have hf:lowsB l=false:=TY hlt (by rw[hlo,hla];simp)
    rw[hf]
    rw[hla] at hi
    refine Zx [(12,.q [.sl 2 (eTys l[j].binds) none,.v (.int .i64 l[j].kind),.v (.int .i64 l[j].index),.sl 4 (eTms l[j].args) none]),(16,.v (.bool false)),(29,.q [.sl 2 (eTys l[j].binds) none,.v (.int .i64 l[j].kind),.v (.int .i64 l[j].index),.sl 4 (eTms l[j].args) none])] Wx hnt λ K hK=>?_;refine And.intro (hb) ?_;refine And.intro (Zm.of_eq (by rw[hq])) ?_;refine And.intro (Zm.of_eq (by simp[hk])) ?_
    refine And.intro (hb) ?_;refine And.intro (Zm.of_eq (by rw[hq])) ?_;refine Zk (hi) ?_;refine hK _ _ ?_;clear hK K;refine Zy (t:=true) rfl ?_;rw[if_pos rfl];refine Zz ?_;refine Zx [] Wx hnt λ _ z9=>z9 _ _ ?_;refine Zv ?_
    exact Yd (N:=0) (.inr rfl) rfl (Zm.refl _) trivial
   | true=>
    rw[hla] at hi
    refine Zx [(12,.q [.sl 2 (eTys l[j].binds) none,.v (.int .i64 l[j].kind),.v (.int .i64 l[j].index),.sl 4 (eTms l[j].args) none]),(16,.v (.bool false)),(29,.q [.sl 2 (eTys l[j].binds) none,.v (.int .i64 l[j].kind),.v (.int .i64 l[j].index),.sl 4 (eTms l[j].args) none])] Wx hnt λ K hK=>?_;refine And.intro (hb) ?_;refine And.intro (Zm.of_eq (by rw[hq])) ?_;refine And.intro (Zm.of_eq (by simp[hk])) ?_
    refine And.intro (hb) ?_;refine And.intro (Zm.of_eq (by rw[hq])) ?_;refine Zk (hi) ?_;refine hK _ _ ?_;clear hK K;refine Zy (t:=false) rfl ?_;rw[if_neg (by simp)];refine Zw ?_;refine Zx [(9,.v (.int .i64 ((j+1:Nat):Int)))] Wx hnt λ K hK=>?_;refine And.intro (Zr (by rw[IntWalk.i64_in _ (by omega)];omega)) ?_;refine hK _ _ ?_;clear hK K
    refine⟨⟨j+1,λ i h1 h2=>?_⟩,by dsimp only;omega,VS.toA⟩
    by_cases he:i=j
    ·subst he;rw[hlo,hla];simp[hk]
    exact hj i h1 (by omega)
  have hf:lowsB l=true:=by
   rw[T4,List.all_eq_true]
   intro t ht
   obtain⟨i,hi,rfl⟩:=List.getElem_of_mem ht
   exact hj i hi (by omega)
  rw[hf]
  refine Zx [(7,.v (.bool false))] Wx hnt λ K hK=>?_;refine And.intro (Ze (by rw[Zq];omega)) ?_;refine hK _ _ ?_;clear hK K;refine Zy (t:=false) rfl ?_;rw[if_neg (by simp)];refine Zg ?_;refine Zz ?_;refine Zx [] Wx hnt λ _ z9=>z9 _ _ ?_;refine Zv ?_
  exact Yd (N:=0) (.inr rfl) rfl (Zm.refl _) trivial
theorem Lg:∀ (t:Tm),Yv t->Zh Tryz.prog 23 [.sl 4 (eTms t.args) none] (.v (.bool (lowsB t.args))):=by
 intro t
 induction t using Tm.ind with
 | h bs k i a ih=>
  intro hw
  obtain⟨_,w2,w3⟩:=hw.inv
  exact QB a (by omega) λ u hu=>ih u hu (w3 u hu)
theorem JK (l:List Tm)(hl:l.length<=1000000)(hw:∀ t∈l,Yv t):Zh Tryz.prog 23 [.sl 4 (eTms l) none] (.v (.bool (lowsB l))):=QB l hl λ t ht=>Lg t (hw t ht)
theorem Wd:∀ t:Tm,t.full<=100000->Yv t:=by
 intro t
 induction t using Tm.ind with
 | h bs k i a ih=>
  intro h
  rw[Tm.full_eq] at h
  have h1:=Ty.le_sizes bs
  have key:∀ l:List Tm,l.length<=Tm.fulls l/\∀ u∈l,u.full<=Tm.fulls l:=by
   intro l
   induction l with
   | nil=>exact⟨by simp,nofun⟩
   | cons t l ihl=>
    have ht:1<=t.full:=by obtain⟨_,_,_,_⟩:=t;rw[Tm.full_eq];omega
    simp only[Tm.fulls,List.length_cons]
    refine⟨by omega,λ u hu=>?_⟩
    rcases List.mem_cons.1 hu with rfl | hu
    ·omega
    have:=ihl.2 u hu;omega
  have h2:=key a
  exact .mk _ _ _ _ (by omega) (by omega) λ t ht=>ih t ht (by have:=h2.2 t ht;omega)
namespace Pn
end Pn
namespace Pn
end Pn
def HS (R:List (Key×D)):List Nat:=R.filterMap λ p=>match p.1 with | .r g=>some g | _=>none
def NQ (R:List (Key×D)):Nat->Bool:=λ g=>(HS R).contains g
theorem NE {R:List (Key×D)}{g:Nat}{d:D}(h:(Key.r g,d)∈R):NQ R g=true:=by
 unfold NQ;rw[List.contains_iff_mem];exact List.mem_filterMap.2 ⟨_,h,rfl⟩
def Gj (u:Pn.Use):List D:=[.v (.int .i64 u.mt),.sl 1 (YJ u.vars) none,.sl 2 (eTys u.binds) none,.sl 1 (YJ u.path) none]
def Gk (l:List Pn.Use):List (List D):=l.map Gj
@[simp] theorem Gl (f g:Nat->Bool) (l:List Pn.Use):D.okss f g (Gk l)=true:=D.okss_map _ l λ u _=>by simp[Gj,D.oks,D.ok,Kx,Yi]
namespace Pn
end Pn
theorem Zm.ps0 (n g:Nat):Zm (.sl n [] (some g)) (.ps g 0):=λ m Im w x h=>by
 cases h with
 | sl a c bl off n X l r h1 ha hc hn ho hr hg=>exact .ps a c g 0 (λ h=>absurd h (by omega)) (Nat.zero_le _) (hg g rfl)
section
variable {P:Program} {T:List (Nat×TI)} {cx:Cx} {Fr Fr':Nat->Prop} {m m':Mp} {Im Im':Nat->Nat->Prop} {w w':World} {a:Act} {σ σ' τ:List (Key×D)} {N N':Nat} {Q:Exit->List (Key×D)->Nat->Prop}
theorem VS.thaw {g E n:Nat}(h:get σ (.r g)=some (.rw E n 0)):VS cx σ N (XW (.r g) (.rp E n []) σ) N:=λ m Im w a hs=>by
 obtain⟨R,hR,hro⟩:=hs.ro g _ h
 have e:=hro.rwi
 injection e with e1 e2 e3
 obtain⟨xs,hx⟩:=hs.mem.row g R hR
 have hxs:xs=[]:=by
  have:=hx.1
  rw[<-e3,Nat.zero_mul] at this
  exact List.length_eq_zero_iff.1 this
 subst hxs
 refine⟨m,hs.putro hR ?_⟩
 rw[e1,e2]
 refine .rp (R:=R) [] [] (by rw[<-e3];rfl) (λ i h=>absurd h (by simp)) hx (λ u h=>absurd h (by simp)) (λ i h=>absurd h (by simp)) λ b o hb hi=>?_
 have:=hs.mem.rIm g R b o hR hb hi
 rw[<-e3,Nat.zero_mul] at this
 omega
theorem VS.rowPT {x:Nat}(hx:x<cx.nt)(E n:Nat)(h:get σ (.t x)=some (.v (.slice none 0 0))):VS cx σ N (XW (.r N) (.rp E n []) (XW (.t x) (.ps N 0) σ)) (N+1):=λ m Im w a hs=>by
 obtain⟨m',h'⟩:=((VS.rowT (N:=N) hx E n h).trans (VS.thaw (g:=N) (E:=E) (n:=n) (by rw[Zo,if_pos (Key.eq_refl _)]))) m Im w a hs
 refine⟨m',{ h' with tm:=λ y d hy=>?_,ce:=λ k off d hy=>?_,ro:=λ g d hy=>?_,jk:=λ d hy=>?_,ok:=λ k d hy=>?_ }⟩
 ·rw[Zo,if_neg (by simp[Key.eq]),Zo] at hy
  by_cases e:Key.eq (.t x) (.t y)=true
  ·rw[if_pos e] at hy
   have:=Key.eq_iff.1 e;cases this
   cases hy
   exact Zm.ps0 n N _ _ _ _ (h'.tm x _ (by rw[Zo,if_neg (by simp[Key.eq]),Zo,if_neg (by simp[Key.eq]),Zo,if_pos (Key.eq_refl _)]))
  rw[if_neg e] at hy
  exact h'.tm y d (by rw[Zo,if_neg (by simp[Key.eq]),Zo,if_neg (by simp[Key.eq]),Zo,if_neg e];exact hy)
 ·rw[Zo,if_neg (by simp[Key.eq]),Zo,if_neg (by simp[Key.eq])] at hy
  exact h'.ce k off d (by rw[Zo,if_neg (by simp[Key.eq]),Zo,if_neg (by simp[Key.eq]),Zo,if_neg (by simp[Key.eq])];exact hy)
 ·refine h'.ro g d ?_
  rw[Zo] at hy ⊢
  split
  ·rename_i e;rw[if_pos e] at hy;exact hy
  rename_i e
  rw[if_neg e,Zo,if_neg (by simp[Key.eq])] at hy
  rw[Zo,if_neg e,Zo,if_neg (by simp[Key.eq])];exact hy
 ·rw[Zo,if_neg (by simp[Key.eq]),Zo,if_neg (by simp[Key.eq])] at hy
  exact h'.jk d (by rw[Zo,if_neg (by simp[Key.eq]),Zo,if_neg (by simp[Key.eq]),Zo,if_neg (by simp[Key.eq])];exact hy)
 rw[Zo,if_neg (by simp[Key.eq]),Zo,if_neg (by simp[Key.eq])] at hy
 exact h'.ok k d (by rw[Zo,if_neg (by simp[Key.eq]),Zo,if_neg (by simp[Key.eq]),Zo,if_neg (by simp[Key.eq])];exact hy)
theorem St.freeze (h:St cx Fr m Im w a σ){g E n:Nat}{l:List (List D)}(hg:get σ (.r g)=some (.rp E n l)):
  ∃ Im',(∀ b o,Im b o->Im' b o)/\St cx Fr m Im' w a (XW (.r g) (.rw E n l.length) σ)/\∀ x,Yz m Im w x (.ps g l.length)->Yz m Im' w x (.sl n l (some g)):=by
 obtain⟨R,hR,hro⟩:=h.ro g _ hg
 cases hro with
 | rp _ xs hl hn hown h1 hrr hni=>
 have hi:∀ b o,Im b o->Im b o∨(R.hv.ownBlock=some b/\o<R.len * R.n):=λ _ _ h=>.inl h
 have hmono:∀ {x d},Yz m Im w x d->Yz m (λ b o=>Im b o∨(R.hv.ownBlock=some b/\o<R.len * R.n)) w x d:=λ hx=>hx.mono (Mp.le.refl m) (Z8.refl _ _) hi
 have hcell:∀ b o,R.hv.ownBlock=some b->o<R.len * R.n->∃ v,xs[o]?=some v/\w.cell? ⟨b,o,none⟩=some v:=λ b o hb ho=>by
  have hlt:o<xs.length:=by rw[hown.1];exact ho
  have:=hown.cells hb o _ (List.getElem?_eq_getElem hlt)
  rw[XB] at this
  exact⟨_,List.getElem?_eq_getElem hlt,this⟩
 refine⟨λ b o=>Im b o∨(R.hv.ownBlock=some b/\o<R.len * R.n),hi,?_,λ x hx=>?_⟩
 ·have hs:St cx Fr m (λ b o=>Im b o∨(R.hv.ownBlock=some b/\o<R.len * R.n)) w a (σ.filter λ p=>!Key.eq (.r g) p.1):=by
   have hf:∀ k d,get (σ.filter λ p=>!Key.eq (.r g) p.1) k=some d->Key.eq (.r g) k=false/\get σ k=some d:=λ k d hk=>by
    rw[W6 (λ k=>!Key.eq (.r g) k)] at hk
    split at hk
    ·rename_i e;exact⟨by simpa using e,hk⟩
    cases hk
   refine⟨{ h.mem with im:=?_,imb:=?_,im0:=?_,nim:=?_,rIm:=?_,onim:=?_ },h.df,h.nt,λ x d hx=>hmono (h.tm x d (hf _ _ hx).2),λ k off d hx=>?_,λ x d hx=>?_,λ d hd=>?_,λ k d hx=>?_⟩
   ·rintro b o (hh | ⟨hb,ho⟩)
    ·exact h.mem.im b o hh
    obtain⟨v,_,hv⟩:=hcell b o hb ho;exact⟨v,hv⟩
   ·rintro b o (hh | ⟨hb,ho⟩)
    ·exact h.mem.imb b o hh
    exact .inr (h.mem.rown g R b hR hb)
   ·intro b o hh;exact .inl (h.mem.im0 b o hh)
   ·rintro k b o hk (hh | ⟨hb,ho⟩)
    ·exact h.mem.nim k b o hk hh
    exact h.mem.rblk g R b k hR hb hk
   ·rintro x R0 b o hx hb0 (hh | ⟨hb,ho⟩)
    ·exact h.mem.rIm x R0 b o hx hb0 hh
    have:=h.mem.rinj x g R0 R b hx hR hb0 hb
    subst this
    rw[hR] at hx;cases hx;exact ho
   ·rintro k b o hk (hh | ⟨hb,ho⟩)
    ·exact h.mem.onim k b o hk hh
    exact h.mem.orow k g R b hk hR hb
   ·obtain⟨b,v,q1,q2,q3⟩:=h.ce k off d (hf _ _ hx).2
    exact⟨b,v,q1,q2,hmono q3⟩
   ·obtain⟨e,hx⟩:=hf _ _ hx
    obtain⟨R0,q1,q2⟩:=h.ro x d hx
    have hne:x≠g:=λ e2=>by subst e2;rw[Key.eq_refl] at e;cases e
    refine⟨R0,q1,q2.mono (λ _ _=>rfl) (Mp.le.refl m) (Z8.refl _ _) hi ?_⟩
    rintro b o hb0 (hh | ⟨hb,ho⟩)
    ·exact hh
    exact absurd (h.mem.rinj x g R0 R b q1 hR hb0 hb) hne
   ·obtain⟨X,J,e,hX⟩:=h.jk d (hf _ _ hd).2
    refine⟨X,J,e,{ hX with nim:=?_ }⟩
    rintro b o hb (hh | ⟨hb2,ho⟩)
    ·exact hX.nim b o hb hh
    exact hX.row b g R hb hR hb2
   obtain⟨b,q1,q2⟩:=h.ok k d (hf _ _ hx).2
   exact⟨b,q1,q2.mono rfl (Mp.le.refl m) (Z8.refl _ _) hi⟩
  have h2:=hs.putro hR (WW.rw (m:=m) (Im:=λ b o=>Im b o∨(R.hv.ownBlock=some b/\o<R.len * R.n)) (w:=w) (R:=R))
  rw[hl]
  refine h2.sub λ k d hk=>?_
  rw[Zo] at hk ⊢
  split
  ·rename_i e;rw[if_pos e] at hk;exact hk
  rename_i e;rw[if_neg e] at hk
  rw[W6 (λ k=>!Key.eq (.r g) k),if_pos (by simpa using e)];exact hk
 ·cases hx with
  | ps a0 c0 _ _ ha _ hh=>
  obtain⟨R0,p1,p2,p3⟩:=hh
  rw[hR] at p1;cases p1
  have hv:=p3 hl
  have hc:l.length<=maxLen/\l.length<=c0:=by
   rcases hown.2 with⟨e,h0⟩ | ⟨g',cap,cur,e,_,_,hnc,hcm,_⟩
   ·rw[hl,h0];omega
   rw[e] at hv;injection hv with _ _ q;rw[hl,<-q];exact⟨by omega,hnc⟩
  have hij:∀ i j,i<l.length->j<R.n->i * R.n+j<R.len * R.n:=λ i j hi2 hj=>by
   have:(i+1) * R.n<=R.len * R.n:=Nat.mul_le_mul_right _ (by omega)
   rw[Nat.succ_mul] at this;omega
  have hgd:∀ i j,i<l.length->j<R.n->xs[i * R.n+j]?=some (xs.getD (i * R.n+j) undef):=λ i j hi2 hj=>by
   have:i * R.n+j<xs.length:=by rw[hown.1];exact hij i j hi2 hj
   rw[List.getD_eq_getElem?_getD,List.getElem?_eq_getElem this];rfl
  obtain⟨bl,hbl⟩:∃ bl,0<l.length->a0=some ⟨bl,0,none⟩:=by
   by_cases h0:0<l.length
   ·obtain⟨b,hb⟩:=ha h0;exact⟨b,λ _=>hb⟩
   exact⟨0,λ h=>absurd h h0⟩
  have hob:0<l.length->R.hv.ownBlock=some bl:=λ h0=>by rw[hv,hbl h0];rfl
  refine .sl a0 c0 bl 0 R.n (λ i j=>xs.getD (i * R.n+j) undef) l (some g) hc hbl (λ i j hi2 hj=>?_) hn (λ i j hi2 hj=>?_) (λ i hi2 j hj=>?_) λ r e=>?_
  ·have h0:=hob (by omega)
   obtain⟨v,q1,q2⟩:=hcell bl _ h0 (hij i j hi2 hj)
   rw[hgd i j hi2 hj] at q1;cases q1
   rw[Nat.zero_add]
   exact⟨q2,.inr ⟨h0,hij i j hi2 hj⟩⟩
  ·exact h1 _ (List.mem_of_getElem? (hgd i j hi2 hj))
  ·exact hmono (hrr i hi2 j hj)
  cases e;exact⟨R,hR,by omega,λ _=>hv⟩
theorem RM {c:Code}{x g E n len:Nat}{l:List (List D)}(hx:get σ (.t x)=some (.ps g len))(hg:get σ (.r g)=some (.rp E n l))(hl:l.length=len)(h:DW P cx c (XW (.t x) (.sl n l (some g)) (XW (.r g) (.rw E n l.length) σ)) N Q):DW P cx c σ N Q:=λ m Im w a hs=>by
 obtain⟨Im',hi,h2,h3⟩:=hs.freeze hg
 subst hl
 have hr:=h3 _ (hs.tm x _ hx)
 refine h m Im' w a { h2 with tm:=λ y d hy=>?_,ce:=λ k off d hy=>?_,ro:=λ k d hy=>?_,jk:=λ d hy=>?_,ok:=λ k d hy=>?_ }
 ·rw[Zo] at hy
  by_cases e:Key.eq (.t x) (.t y)=true
  ·rw[if_pos e] at hy
   have:=Key.eq_iff.1 e;cases this
   cases hy;exact hr
  rw[if_neg e] at hy
  exact h2.tm y d hy
 ·rw[Zo,if_neg (by simp[Key.eq])] at hy;exact h2.ce k off d hy
 ·rw[Zo,if_neg (by simp[Key.eq])] at hy;exact h2.ro k d hy
 ·rw[Zo,if_neg (by simp[Key.eq])] at hy;exact h2.jk d hy
 rw[Zo,if_neg (by simp[Key.eq])] at hy;exact h2.ok k d hy
theorem Jb (m m':Mp):(m.cut (λ _=>false) Vt).le m':=⟨λ k b h=>by simp[Mp.cut] at h,λ g R h=>by simp[Mp.cut,Vt] at h,λ k b h=>by simp[Mp.cut] at h⟩
theorem St.adopt {cx':Cx}{a':Act}(hs:St cx Fr m Im w a σ){nm:Nat}(hnm:Fr nm)(hs':St cx' Fr' m' Im' w' a' σ')(c3:cx'.w0=w)(c4:∀ b,¬ cx'.C b)(c5:cx'.Im0=Im){g:Nat}{R:Vi}{d:D}(hR:m'.row g=some R)(hro:WW m' Im' w' R d)(hd:d.ok (λ _=>false) Vt=true):
  St cx (WM Fr nm) (m.setR nm R) Im' w' a (XW (.r nm) d σ)/\m.le (m.setR nm R)/\Z8 Im w w'/\∀ b o,Im b o->Im' b o:=by
 have hbl:Below w.heap.size w w':=by
  have ho:=hs'.mem.off
  rw[c3] at ho
  exact⟨ho.os,ho.tape,ho.output,ho.size,λ b hb=>ho.block b hb (c4 b)⟩
 have hi:∀ b o,Im b o->Im' b o:=λ b o h=>hs'.mem.im0 b o (by rw[c5];exact h)
 have hib:∀ b o,Im' b o->Im b o∨w.heap.size<=b:=λ b o h=>by
  rcases hs'.mem.imb b o h with h1 | h1 | h1
  ·left;rw[c5] at h1;exact h1
  ·right;rw[c3] at h1;exact h1
  exact absurd (cx'.hCR b h1) (c4 b)
 have h1:=hs.below hbl hi hib hs'.mem.im
 have hle:m.le (m.setR nm R):=Mp.setR_le λ R0 h0=>by rw[(hs.mem.fr nm hnm).2.1] at h0;cases h0
 have hnew:∀ b,R.hv.ownBlock=some b->w.heap.size<=b:=λ b hb=>by
  rcases hs'.mem.rown g R b hR hb with h1 | h1
  ·rw[c3] at h1;exact h1
  exact absurd (cx'.hCR b h1) (c4 b)
 have hcase:∀ {x R0},(m.setR nm R).row x=some R0->(x=nm/\R0=R)∨(x≠nm/\m.row x=some R0):=λ {x R0} hx=>by
  by_cases e:x=nm
  ·left;simp[Mp.setR,e] at hx;exact⟨e,hx.symm⟩
  right;simp[Mp.setR,e] at hx;exact⟨e,hx⟩
 have hro2:WW (m.setR nm R) Im' w' R d:=(hro.cut hd).mono (λ _ _=>rfl) (Jb _ _) (Z8.refl _ _) (λ _ _ h=>h) λ _ _ _ h=>h
 refine⟨?_,hle,Z8.below hbl,hi⟩
 refine⟨{ h1.mem with row:=?_,rIm:=?_,rblk:=?_,rinj:=?_,fr:=?_,rown:=?_,m0r:=hs.mem.m0r_le hle,orow:=?_ },h1.df,h1.nt,λ x d hx=>(h1.tm x d (by rw[Zo,if_neg (by simp[Key.eq])] at hx;exact hx)).mono hle (Z8.refl _ _) (λ _ _ h=>h),λ x off d hx=>?_,λ x d hx=>?_,λ d hd=>?_,λ x d hd=>?_⟩
 ·intro x R0 hx
  rcases hcase hx with⟨_,rfl⟩ | ⟨_,hx⟩
  ·exact hs'.mem.row g R0 hR
  exact h1.mem.row x R0 hx
 ·intro x R0 b o hx
  rcases hcase hx with⟨_,rfl⟩ | ⟨_,hx⟩
  ·exact hs'.mem.rIm g R0 b o hR
  exact h1.mem.rIm x R0 b o hx
 ·intro x R0 b k hx
  rcases hcase hx with⟨_,rfl⟩ | ⟨_,hx⟩
  ·intro e hk;have:=hs.mem.lt k _ hk;have:=hnew b e;omega
  exact h1.mem.rblk x R0 b k hx
 ·intro x y R0 R1 b hx hy ho ho'
  rcases hcase hx with⟨e1,e2⟩ | ⟨_,hx⟩ <;> rcases hcase hy with⟨e3,e4⟩ | ⟨_,hy⟩
  ·rw[e1,e3]
  ·rw[e2] at ho;have:=hnew b ho;have:=hs.mem.rlt hy ho';omega
  ·rw[e4] at ho';have:=hnew b ho';have:=hs.mem.rlt hx ho;omega
  exact h1.mem.rinj x y R0 R1 b hx hy ho ho'
 ·intro x hx;refine⟨(hs.mem.fr x hx.1).1,?_,(hs.mem.fr x hx.1).2.2⟩;simp[Mp.setR,hx.2,(hs.mem.fr x hx.1).2.1]
 ·intro x y R0 b hx hy
  rcases hcase hy with⟨_,rfl⟩ | ⟨_,hy⟩
  ·intro e;have:=hs.mem.olt x _ hx;have:=hnew b e;omega
  exact h1.mem.orow x y R0 b hx hy
 ·intro x R0 b hx ho
  rcases hcase hx with⟨_,rfl⟩ | ⟨_,hx⟩
  ·exact .inl (Nat.le_trans hs.mem.off.size (hnew b ho))
  exact h1.mem.rown x R0 b hx ho
 ·rw[Zo,if_neg (by simp[Key.eq])] at hx
  obtain⟨c,v,q1,q2,q3⟩:=h1.ce x off d hx
  exact⟨c,v,q1,q2,q3.mono hle (Z8.refl _ _) (λ _ _ h=>h)⟩
 ·rw[Zo] at hx
  by_cases he:Key.eq (.r nm) (.r x)=true
  ·rw[if_pos he] at hx
   cases hx
   have:=Key.eq_iff.1 he
   cases this
   exact⟨R,by simp[Mp.setR],hro2⟩
  rw[if_neg he] at hx
  obtain⟨R0,q1,q2⟩:=h1.ro x d hx
  have hne:x≠nm:=λ e=>he (by rw[e];exact Key.eq_refl _)
  exact⟨R0,by simp[Mp.setR,hne,q1],q2.mono (λ _ _=>rfl) hle (Z8.refl _ _) (λ _ _ h=>h) λ _ _ _ h=>h⟩
 ·rw[Zo,if_neg (by simp[Key.eq])] at hd
  obtain⟨X,J,e,hX⟩:=h1.jk d hd
  obtain⟨X0,J0,e0,hX0⟩:=hs.jk d hd
  rw[e] at e0;cases e0
  refine⟨X,J,e,{ hX with row:=λ b x R0 hb hx ho=>?_ }⟩
  rcases hcase hx with⟨_,rfl⟩ | ⟨_,hx⟩
  ·have:=hX0.lt b hb;have:=hnew b ho;omega
  exact hX.row b x R0 hb hx ho
 rw[Zo,if_neg (by simp[Key.eq])] at hd
 obtain⟨b,q1,q2⟩:=h1.ok x d hd
 exact⟨b,q1,q2.mono rfl hle (Z8.refl _ _) λ _ _ h=>h⟩
theorem Xe {f:FuncId}{fn:Func}{c:Code}{args:List D}{n E len:Nat}{l:List (List D)}(nt:Nat)(rs:List ResultVar)(hT:Zd P T)(hen:WV P f=true)(hf:P.funcs[f]?=some fn)(hb:fn.body=some c)(hnt:fn.ntmps=nt)(hrs:fn.results.toList=rs) 
  (hal:args.length<=nt) (ha:args.all (λ d=>d.ok (λ _=>false) Vt)=true) (hlo:D.okss (λ _=>false) Vt l=true)
  (h:∀ cx:Cx,cx.nt=nt->cx.n0=0->DW P cx c (YQ 0 args []) 0 (λ e σ _=>(e=.normal∨e=.ret)/\∃ g,PH T σ rs=some (.ps g len)/\get σ (.r g)=some (.rp E n l))) (nm:Nat) :
  Vn P f args [] nm [(.r nm,.rp E n l)] (.ps nm len):=by
 refine⟨hen,λ cx Fr m Im w a σ vs hnm hs hargs _=>?_⟩
 refine calls_of_wp hf hb ?_
 obtain⟨cx',c1,c2,c3,c4,c5,hst⟩:=IJ hs.mem hargs ha nt hal hnt
 refine Code.wp_mono (λ e a' w' ⟨σ',N',m',Im',⟨hq1,g,hq2,hq3⟩,hs'⟩=>?_) (h cx' c1 c2 _ Im w _ hst)
 obtain⟨v,r1,r2⟩:=QM (P:=P) (fn:=fn) hT hs' (by rw[hrs];exact hq2)
 obtain⟨R,hR,hro⟩:=hs'.ro g _ hq3
 obtain⟨s1,s2,s3,s4⟩:=hs.adopt hnm hs' c3 c4 c5 hR hro (by simpa only[D.ok] using hlo)
 have hv:Yz (m.setR nm R) Im' w' v (.ps nm len):=by
  cases r2 with
  | ps a0 c0 _ _ ha hcp hh=>
   obtain⟨R0,q1,q2,q3⟩:=hh
   rw[hR] at q1;cases q1
   exact .ps a0 c0 nm len ha hcp ⟨R,by simp[Mp.setR],q2,q3⟩
 have hfin:∃ v' m2 Im2,Ending.returned v=.returned v'/\St cx (WM Fr nm) m2 Im2 w' a (YC (Wy [] σ) [(.r nm,.rp E n l)])/\Yz m2 Im2 w' v' (.ps nm len):=by
  rw[XY]
  exact⟨v,_,Im',rfl,s1,hv⟩
 rcases hq1 with rfl | rfl
 ·exact⟨hs'.df,v,r1,hfin⟩
 exact⟨hs'.df,v,r1,hfin⟩
end
namespace So
variable {α:Type} {l l' r r':List (Int×α)}
def Same (l l':List (Int×α)):Prop:=∀ k:Int,l.filter (λ a=>a.1==k)=l'.filter (λ a=>a.1==k)
theorem Same.symm (h:Same l l'):Same l' l:=λ k=>(h k).symm
theorem Same.trans {l'':List (Int×α)}(h:Same l l')(h':Same l' l''):Same l l'':=λ k=>(h k).trans (h' k)
theorem Same.mem (h:Same l l'){x:Int×α}(hx:x∈l):x∈l':=by
 have:x∈l.filter (λ a=>a.1==x.1):=List.mem_filter.2 ⟨hx,by simp⟩
 rw[h x.1] at this
 exact(List.mem_filter.1 this).1
def ins (x:Int×α):List (Int×α)->List (Int×α)
 | []=>[x]
 | y :: l=>if y.1<=x.1 then y :: ins x l else x :: y :: l
def ssr:List (Int×α)->List (Int×α)
 | []=>[]
 | x :: l=>ins x (ssr l)
def ss (l:List (Int×α)):List (Int×α):=ssr l.reverse
end So
theorem M0 (b:List Ty)(k i:Int)(a:List Tm):(Tm.mk b k i a).binds=b:=rfl
theorem L6 (b:List Ty)(k i:Int)(a:List Tm):(Tm.mk b k i a).kind=k:=rfl
theorem Mn (b:List Ty)(k i:Int)(a:List Tm):(Tm.mk b k i a).index=i:=rfl
theorem Kb (b:List Ty)(k i:Int)(a:List Tm):(Tm.mk b k i a).args=a:=rfl
namespace Pn
def atP:List Int->Tm->Option (Tm×List Ty)
 | [],t=>some (t,t.binds)
 | j :: p,t=>if 0<=j/\j<(t.args.length:Int) then (atP p (t.args.getD j.toNat Tm.zero)).map λ r=>(r.1,t.binds++r.2) else none
theorem atP_app:∀ (p q:List Int) (T:Tm),atP (p++q) T=(atP p T).bind λ r=>(atP q r.1).map λ r'=>(r'.1,r.2++r'.2.drop r.1.binds.length)
 | [],q,T=>by
  rw[List.nil_append,atP]
  show _=(atP q T).map _
  cases h:atP q T with
  | none=>rfl
  | some r=>
   obtain⟨x,l⟩:=r
   have:∃ l',l=T.binds++l':=by
    cases q with
    | nil=>rw[atP] at h;cases h;exact⟨[],by simp⟩
    | cons j q=>
     rw[atP] at h
     split at h
     ·cases h2:atP q (T.args.getD j.toNat Tm.zero) with
      | none=>rw[h2] at h;cases h
      | some r=>rw[h2] at h;cases h;exact⟨_,rfl⟩
     ·cases h
   obtain⟨l',rfl⟩:=this
   simp
 | j :: p,q,T=>by
  rw[List.cons_append,atP,atP]
  split
  ·rw[atP_app p q]
   cases h:atP p (T.args.getD j.toNat Tm.zero) with
   | none=>rfl
   | some r=>
    show ((atP q r.1).map _).map _=(atP q r.1).map _
    cases h2:atP q r.1 with
    | none=>rfl
    | some r'=>simp
  rfl
end Pn
namespace So
end So
namespace So
end So
namespace So
variable {α:Type} {f:α->Bool} {l:List α} {j:Nat}
end So
def TRP:List (Nat×TI):=[(31,TTM_31),(22,TTY_22),(71,TTY_71),(3,TG_3),(29,TTM_29),(104,TTY_104)]
theorem Yj:Zd Tryz.prog TRP:=(((((((Zd.nil _).cons Yy).cons Y5).cons ZW).cons YV).cons Yo).cons Yl)
namespace Pn
end Pn
def IF (l:List (List Int)):List (List D):=l.map λ p=>[.sl 1 (YJ p) none]
@[simp] theorem H5 (f g:Nat->Bool) (l:List (List Int)):D.okss f g (IF l)=true:=D.okss_map _ l λ l _=>by simp[D.oks,D.ok,Kx]
theorem Vf (l r:List Ty)(h:l.length+r.length<=900000):Zh Tryz.prog 38 [.sl 2 (eTys l) none,.sl 2 (eTys r) none] (.sl 2 (eTys (l++r)) none):=by
 rw[Wn]
 have e1:=Zs l
 have e2:=Zs r
 refine ZX 0 12 [ResultVar.tmp 4] Yj (by kernel_rfl) Tryz.func38 rfl Tryz.ntmps38 rfl (by simp) ?dwords ?dbody
 case dwords=>simp[ZA,D.ok,D.oks,D.okss,ZM,Xa,WO,Yi,<-Wn]
 case dbody=>
  intro cx hnt hn0
  refine Zz ?_;refine Zx [] Yj hnt λ _ z9=>z9 _ _ ?_;refine Zz ?_;refine Zx [] Yj hnt λ _ z9=>z9 _ _ ?_;refine Zz ?_;refine Zx [] Yj hnt λ K hK=>?_;refine And.intro (by omega) ?_;refine hK _ _ ?_;clear hK K;refine Zz ?_;refine Zx [] Yj hnt λ K hK=>?_;refine And.intro (⟨rfl,by omega⟩) ?_;refine hK _ _ ?_;clear hK K
  refine Zv ?_
  exact Zi rfl
def Hu (r:Option (Tm×List Ty)):D:=match r with
 | some r=>.tu [.ag (eTm r.1),.sl 2 (eTys r.2) none,.v (.bool true)]
 | none=>.tu [.ag (eTm Tm.zero),.sl 2 [] none,.v (.bool false)]
theorem WB:∀ (p:List Int) (t:Tm) (r:Tm×List Ty),Pn.atP p t=some r->r.2.length+r.1.full<=t.full+r.1.binds.length/\r.1.full<=t.full/\r.2.length<=t.full/\Ty.sizes r.2<=t.full
 | [],t,r,h=>by
  rw[Pn.atP] at h;cases h
  have:=XD t
  have h2:=Ty.le_sizes t.binds
  dsimp only;omega
 | j :: p,t,r,h=>by
  rw[Pn.atP] at h
  split at h
  ·rename_i hj
   cases h2:Pn.atP p (t.args.getD j.toNat Tm.zero) with
   | none=>rw[h2] at h;cases h
   | some r'=>
    rw[h2] at h;cases h
    have hlt:j.toNat<t.args.length:=by omega
    have e:t.args.getD j.toNat Tm.zero=t.args[j.toNat]:=by rw[List.getD_eq_getElem?_getD,List.getElem?_eq_getElem hlt];rfl
    rw[e] at h2
    have ih:=WB p _ r' h2
    have hm:=full_mem (List.getElem_mem hlt)
    have:=XD t
    have h3:=Ty.le_sizes t.binds
    dsimp only
    rw[List.length_append,Ty.sizes_append]
    omega
  cases h
set_option maxHeartbeats 1000000 in
theorem MC:∀ (p:List Int) (t:Tm),t.full<=800000->p.length<=100000->Zh Tryz.prog 56 [.ag (eTm t),.sl 1 (YJ p) none] (Hu (Pn.atP p t))
 | [],t,hz,hp=>by
  rw[Pn.atP]
  unfold Hu
  dsimp only
  rw[Zu]
  refine Zn 0 50 [ResultVar.cell 4 31,ResultVar.tmp 5,ResultVar.tmp 6] Yj Tryz.func56 rfl Tryz.ntmps56 rfl λ cx hnt hn0=>?_
  skip
  refine Zz ?_;refine Zx [] Yj hnt λ _ z9=>z9 _ _ ?_;refine Zz ?_;refine Zz ?_;refine Zx [(13,.v (.bool true))] Yj hnt λ K hK=>?_;refine And.intro (Zm.refl _) ?_;refine hK _ _ ?_;clear hK K;refine Zy (t:=true) rfl ?_;rw[if_pos rfl];refine Zz ?_;refine ZQ [] Yj hnt λ K hK=>?_;refine hK _ _ (by kernel_rfl) ?_;clear hK K
  refine Zv ?_
  exact Zi rfl
 | j :: q,t,hz,hp=>by
  rw[Pn.atP]
  by_cases hc:0<=j/\j<(t.args.length:Int)
  ·rw[if_pos hc]
   have hlt:j.toNat<t.args.length:=by omega
   have e:t.args.getD j.toNat Tm.zero=t.args[j.toNat]:=by rw[List.getD_eq_getElem?_getD,List.getElem?_eq_getElem hlt];rfl
   rw[e]
   have hm:=full_mem (List.getElem_mem hlt)
   have hft:=XD t
   have hih:=MC q t.args[j.toNat] (by omega) (by simp at hp;omega)
   have hsz:=WB q t.args[j.toNat]
   have hbl:=Ty.le_sizes t.binds
   obtain⟨n,hn⟩:∃ n:Nat,j=n:=⟨j.toNat,by omega⟩
   subst hn
   rw[Int.toNat_natCast] at hlt
   obtain⟨u,hu⟩:∃ u,t.args[(n:Int).toNat]=u:=⟨_,rfl⟩
   have hu':t.args[n]=u:=by rw[<-hu];simp
   rw[hu] at hih hsz hm ⊢
   cases ha:Pn.atP q u with
   | none=>
    rw[ha] at hih
    unfold Hu at hih ⊢
    dsimp only[Option.map_none] at hih ⊢
    rw[Zu,Zu] at hih
    rw[Zu,Zu]
    refine Zn 0 50 [ResultVar.cell 4 31,ResultVar.tmp 5,ResultVar.tmp 6] Yj Tryz.func56 rfl Tryz.ntmps56 rfl λ cx hnt hn0=>?_
    skip
    refine Zz ?_;refine Zx [] Yj hnt λ _ z9=>z9 _ _ ?_;refine Zz ?_;refine Zz ?_;refine Zx [(12,.v (.int .i64 (↑(q.length+1)))),(13,.v (.bool false))] Yj hnt λ K hK=>?_;refine And.intro (Zr (by rw[Zb];rfl)) ?_;refine And.intro (XM (by omega)) ?_;refine hK _ _ ?_;clear hK K;refine Zy (t:=false) rfl ?_;rw[if_neg (by simp)]
    refine Zw ?_;refine Zz ?_;refine Zx [(18,.q [.v (.int .i64 ↑n)])] Yj hnt λ K hK=>?_;refine And.intro (⟨by omega,by rw[Zb,List.length_cons];omega⟩) ?_;refine And.intro (Zm.of_eq (by simp[YJ])) ?_;refine hK _ _ ?_;clear hK K;refine Zz ?_;refine Zz ?_;refine Zx [(21,.v (.bool false)),(26,.v (.int .i64 (↑t.args.length))),(27,.v (.bool false))] Yj hnt λ K hK=>?_
    refine And.intro X5 ?_;refine And.intro (Zr (by rw[Zq])) ?_;refine And.intro X5 ?_;refine hK _ _ ?_;clear hK K;refine Zy (t:=false) rfl ?_;rw[if_neg (by simp)];refine Zw ?_;refine Zz ?_;refine ZQ [(34,.q [.sl 2 (eTys u.binds) none,.v (.int .i64 u.kind),.v (.int .i64 u.index),.sl 4 (eTms u.args) none]),(37,.sl 1 (YJ q) none)] Yj hnt λ K hK=>?_;refine And.intro (⟨by omega,by rw[Zq];omega⟩) ?_
    refine And.intro (Zm.of_eq (by rw[Int.toNat_natCast,ZT t.args n hlt,hu',Zu])) ?_;refine And.intro (⟨by decide,by rw[Zb];simp;omega⟩) ?_;refine And.intro (Zm.of_eq (by simp[YJ,List.take_of_length_le])) ?_;refine Zk (hih) ?_;refine hK _ _ (by kernel_rfl) ?_;clear hK K;refine Zz ?_;refine Zz ?_;refine Zx [] Yj hnt λ _ z9=>z9 _ _ ?_
    refine Zy (t:=true) rfl ?_;rw[if_pos rfl];refine Zz ?_;refine Zx [] Yj hnt λ _ z9=>z9 _ _ ?_;refine Zv ?_
    exact Zi rfl
   | some r=>
    obtain⟨x,l⟩:=r
    have hsz:=hsz _ ha
    have hbh:=Vf t.binds l (by dsimp only at hsz;omega)
    rw[ha] at hih
    unfold Hu at hih ⊢
    dsimp only[Option.map_some] at hih ⊢
    rw[Zu,Zu] at hih
    rw[Zu,Zu]
    refine Zn 0 50 [ResultVar.cell 4 31,ResultVar.tmp 5,ResultVar.tmp 6] Yj Tryz.func56 rfl Tryz.ntmps56 rfl λ cx hnt hn0=>?_
    skip
    refine Zz ?_;refine Zx [] Yj hnt λ _ z9=>z9 _ _ ?_;refine Zz ?_;refine Zz ?_;refine Zx [(12,.v (.int .i64 (↑(q.length+1)))),(13,.v (.bool false))] Yj hnt λ K hK=>?_;refine And.intro (Zr (by rw[Zb];rfl)) ?_;refine And.intro (XM (by omega)) ?_;refine hK _ _ ?_;clear hK K;refine Zy (t:=false) rfl ?_;rw[if_neg (by simp)]
    refine Zw ?_;refine Zz ?_;refine Zx [(18,.q [.v (.int .i64 ↑n)])] Yj hnt λ K hK=>?_;refine And.intro (⟨by omega,by rw[Zb,List.length_cons];omega⟩) ?_;refine And.intro (Zm.of_eq (by simp[YJ])) ?_;refine hK _ _ ?_;clear hK K;refine Zz ?_;refine Zz ?_;refine Zx [(21,.v (.bool false)),(26,.v (.int .i64 (↑t.args.length))),(27,.v (.bool false))] Yj hnt λ K hK=>?_
    refine And.intro X5 ?_;refine And.intro (Zr (by rw[Zq])) ?_;refine And.intro X5 ?_;refine hK _ _ ?_;clear hK K;refine Zy (t:=false) rfl ?_;rw[if_neg (by simp)];refine Zw ?_;refine Zz ?_;refine ZQ [(34,.q [.sl 2 (eTys u.binds) none,.v (.int .i64 u.kind),.v (.int .i64 u.index),.sl 4 (eTms u.args) none]),(37,.sl 1 (YJ q) none)] Yj hnt λ K hK=>?_;refine And.intro (⟨by omega,by rw[Zq];omega⟩) ?_
    refine And.intro (Zm.of_eq (by rw[Int.toNat_natCast,ZT t.args n hlt,hu',Zu])) ?_;refine And.intro (⟨by decide,by rw[Zb];simp;omega⟩) ?_;refine And.intro (Zm.of_eq (by simp[YJ,List.take_of_length_le])) ?_;refine Zk (hih) ?_;refine hK _ _ (by kernel_rfl) ?_;clear hK K;refine Zz ?_;refine Zz ?_;refine Zx [] Yj hnt λ _ z9=>z9 _ _ ?_
    refine Zy (t:=false) rfl ?_;rw[if_neg (by simp)];refine Zw ?_;refine Zz ?_;refine ZQ [] Yj hnt λ K hK=>?_;refine Zk (hbh) ?_;refine hK _ _ (by kernel_rfl) ?_;clear hK K;refine Zv ?_
    exact Zi rfl
  rw[if_neg hc]
  unfold Hu
  dsimp only
  rw[Zu,Zu]
  by_cases h0:j<0
  ·skip
   refine Zn 0 50 [ResultVar.cell 4 31,ResultVar.tmp 5,ResultVar.tmp 6] Yj Tryz.func56 rfl Tryz.ntmps56 rfl λ cx hnt hn0=>?_
   skip
   refine Zz ?_;refine Zx [] Yj hnt λ _ z9=>z9 _ _ ?_;refine Zz ?_;refine Zz ?_;refine Zx [(12,.v (.int .i64 (↑(q.length+1)))),(13,.v (.bool false))] Yj hnt λ K hK=>?_;refine And.intro (Zr (by rw[Zb];rfl)) ?_;refine And.intro (XM (by omega)) ?_;refine hK _ _ ?_;clear hK K;refine Zy (t:=false) rfl ?_;rw[if_neg (by simp)]
   refine Zw ?_;refine Zz ?_;refine Zx [(18,.q [.v (.int .i64 j)])] Yj hnt λ K hK=>?_;refine And.intro (⟨by omega,by rw[Zb,List.length_cons];omega⟩) ?_;refine And.intro (Zm.of_eq (by simp[YJ])) ?_;refine hK _ _ ?_;clear hK K;refine Zz ?_;refine Zz ?_;refine Zx [(21,.v (.bool true))] Yj hnt λ K hK=>?_;refine And.intro Xd ?_;refine hK _ _ ?_;clear hK K
   refine Zy (t:=true) rfl ?_;rw[if_pos rfl];refine Zz ?_;refine Zx [] Yj hnt λ _ z9=>z9 _ _ ?_;refine Zv ?_
   exact Zi rfl
  skip
  refine Zn 0 50 [ResultVar.cell 4 31,ResultVar.tmp 5,ResultVar.tmp 6] Yj Tryz.func56 rfl Tryz.ntmps56 rfl λ cx hnt hn0=>?_
  skip
  refine Zz ?_;refine Zx [] Yj hnt λ _ z9=>z9 _ _ ?_;refine Zz ?_;refine Zz ?_;refine Zx [(12,.v (.int .i64 (↑(q.length+1)))),(13,.v (.bool false))] Yj hnt λ K hK=>?_;refine And.intro (Zr (by rw[Zb];rfl)) ?_;refine And.intro (XM (by omega)) ?_;refine hK _ _ ?_;clear hK K;refine Zy (t:=false) rfl ?_;rw[if_neg (by simp)]
  refine Zw ?_;refine Zz ?_;refine Zx [(18,.q [.v (.int .i64 j)])] Yj hnt λ K hK=>?_;refine And.intro (⟨by omega,by rw[Zb,List.length_cons];omega⟩) ?_;refine And.intro (Zm.of_eq (by simp[YJ])) ?_;refine hK _ _ ?_;clear hK K;refine Zz ?_;refine Zz ?_;refine Zx [(21,.v (.bool false)),(26,.v (.int .i64 (↑t.args.length))),(27,.v (.bool true))] Yj hnt λ K hK=>?_
  refine And.intro X5 ?_;refine And.intro (Zr (by rw[Zq])) ?_;refine And.intro Xd ?_;refine hK _ _ ?_;clear hK K;refine Zy (t:=true) rfl ?_;rw[if_pos rfl];refine Zz ?_;refine Zx [] Yj hnt λ _ z9=>z9 _ _ ?_;refine Zv ?_
  exact Zi rfl
def TF4:List (Nat×TI):=[(3,TG_3),(104,TTY_104),(22,TTY_22)]
theorem YP:Zd Tryz.prog TF4:=((((Zd.nil _).cons Yo).cons Yy).cons ZW)
mutual
def WU (most:Int):Ty->Int->Int
 | .mk a _,d=>if d<=0 then most+1 else fewTs most a (d-1) 1
def fewTs (most:Int):List Ty->Int->Int->Int
 | [],_,n=>n
 | t :: l,d,n=>if n<=most then fewTs most l d (n+WU most t d) else n
end
theorem Pd {most:Int}(hm:0<=most){B:Int}(hB:0<=B):∀ (l:List Ty) (d n:Int),(∀ t∈l,1<=WU most t d/\WU most t d<=B)->1<=n->n<=most+B->1<=fewTs most l d n/\fewTs most l d n<=most+B
 | [],d,n,_,h0,h1=>by rw[fewTs];exact⟨h0,h1⟩
 | t :: l,d,n,h,h0,h1=>by
  rw[fewTs]
  split
  ·have:=h t (by simp)
   exact Pd hm hB l d _ (λ u hu=>h u (by simp[hu])) (by omega) (by omega)
  exact⟨h0,h1⟩
theorem Tk {most:Int}(hm:1<=most):∀ (k:Nat) (t:Ty) (d:Int),d<=k->1<=WU most t d/\WU most t d<=most * k+most+1
 | 0,.mk a b,d,hd=>by
  rw[WU,if_pos (by omega)]
  have e:most * ((0:Nat):Int)=0:=Int.mul_zero _
  rw[e];omega
 | k+1,.mk a b,d,hd=>by
  rw[WU]
  have e:most * ((k+1:Nat):Int)=most * (k:Int)+most:=by rw[Int.natCast_add,Int.mul_add];simp
  have h0:0<=most * (k:Int):=Int.mul_nonneg (by omega) (by omega)
  split
  ·rw[e];omega
  have:=Pd (most:=most) (by omega) (B:=most * k+most+1) (by omega) a (d-1) 1 (λ t _=>Tk hm k t (d-1) (by omega)) (by omega) (by omega)
  rw[e];omega
set_option maxHeartbeats 1000000 in
theorem IL (most:Int)(h1:1<=most)(h2:most<=1000):∀ (t:Ty) (d:Int),-1000<=d->d<=1000->Zh Tryz.prog 76 [.ag (eTy t),.v (.int .i64 most),.v (.int .i64 d)] (.v (.int .i64 (WU most t d))):=by
 intro t
 induction t using Ty.ind with
 | h a b ih=>
 intro d hd1 hd2
 refine ZX 0 37 [ResultVar.tmp 6] YP (by kernel_rfl) Tryz.func76 rfl Tryz.ntmps76 rfl (by simp) ?dwords ?dbody
 case dwords=>simp[ZA,D.ok,D.oks,ZM,Oa]
 case dbody=>
  intro cx hnt hn0
  refine Zz ?_;refine Zx [] YP hnt λ _ z9=>z9 _ _ ?_;refine Zz (Zz ?_)
  by_cases hd:d<=0
  ·have hf:WU most (.mk a b) d=most+1:=by rw[WU,if_pos hd]
   rw[hf]
   refine Zx [(10,.v (.bool true))] YP hnt λ K hK=>?_;refine And.intro (Z7 hd) ?_;refine hK _ _ ?_;clear hK K;refine Zy (t:=true) rfl ?_;rw[if_pos rfl];refine Zz ?_;refine Zx [(12,.v (.int .i64 (most+1)))] YP hnt λ K hK=>?_;refine And.intro (Zr (IntWalk.i64_in _ (by omega))) ?_;refine hK _ _ ?_;clear hK K;refine Zv ?_
   exact Yd (N:=0) (.inr rfl) rfl (Zm.refl _) trivial
  have hf:WU most (.mk a b) d=fewTs most a (d-1) 1:=by rw[WU,if_neg hd]
  rw[hf]
  refine Zx [(10,.v (.bool false))] YP hnt λ K hK=>?_;refine And.intro (Ze hd) ?_;refine hK _ _ ?_;clear hK K;refine Zy (t:=false) rfl ?_;rw[if_neg (by simp)];refine Zw ?_;refine Zz ?_;refine Zx [] YP hnt λ _ z9=>z9 _ _ ?_;refine Zz (Zz ?_);refine Zx [] YP hnt λ _ z9=>z9 _ _ ?_;refine Zt ?_
  refine Z6 (ι:={ p:Nat×Int // fewTs most (a.drop p.1) (d-1) p.2=fewTs most a (d-1) 1/\(p.1:Int)+1<=p.2/\p.2<=2000000/\p.1<=a.length }) (λ p=>[(.t 1,.v (.int .i64 most)),(.t 2,.v (.int .i64 d)),(.t 3,.p 0 0),(.t 7,.v (.int .i64 p.1.2)),(.t 8,.v (.int .i64 (p.1.1:Int))),(.c 0 0,.sl 2 (eTys a) none),(.c 0 1,.v (.int .i64 b))]) 1 (λ p=>a.length-p.1.1) ⟨(0,1),by simp,by simp,by simp,by simp⟩ VS.toA λ p=>?_
  obtain⟨⟨j,n⟩,hj1,hj2,hj3,hj4⟩:=p
  dsimp only at hj1 hj2 hj3 hj4 ⊢
  refine Zz (Zz ?_)
  by_cases hlt:j<a.length
  ·have hdr:a.drop j=a[j] :: a.drop (j+1):=List.drop_eq_getElem_cons hlt
   rw[hdr,fewTs] at hj1
   by_cases hn:n<=most
   ·rw[if_pos hn] at hj1
    have hih:=ih a[j] (List.getElem_mem hlt) (d-1) (by omega) (by omega)
    rw[Zc] at hih
    have hbd:=Tk h1 1000 a[j] (d-1) (by omega)
    have hbd2:most * ((1000:Nat):Int)<=1000000:=by
     have:most * ((1000:Nat):Int)=1000 * most:=by rw[Int.mul_comm];rfl
     omega
    refine Zx [(17,.v (.bool true)),(21,.v (.bool true))] YP hnt λ K hK=>?_;refine And.intro (Z7 (by rw[Zs];omega)) ?_;refine And.intro (Z7 hn) ?_;refine hK _ _ ?_;clear hK K;refine Zy (t:=true) rfl ?_;rw[if_pos rfl];refine Zw ?_;refine Zz (Zt ?_);refine Zx [(29,.q [.sl 2 (eTys a[j].args) none,.v (.int .i64 a[j].base)]),(33,.v (.int .i64 (d-1))),(35,.v (.int .i64 (n+WU most a[j] (d-1))))] YP hnt λ K hK=>?_
    refine And.intro (⟨by omega,by rw[Zs];omega⟩) ?_;refine And.intro (Zm.of_eq (by rw[Int.toNat_natCast,ZV a j hlt,Zc])) ?_;refine And.intro (Zr (IntWalk.i64_in _ (by omega))) ?_;refine Zk (hih) ?_;refine And.intro (Zr (IntWalk.i64_in _ (by omega))) ?_;refine hK _ _ ?_;clear hK K;refine Zx [(24,.v (.int .i64 ((j+1:Nat):Int)))] YP hnt λ K hK=>?_;refine And.intro (Zr (by rw[IntWalk.i64_in _ (by omega)];omega)) ?_
    refine hK _ _ ?_;clear hK K
    exact⟨⟨(j+1,n+WU most a[j] (d-1)),hj1,by dsimp only;omega,by dsimp only;omega,hlt⟩,by dsimp only;omega,VS.toA⟩
   rw[if_neg hn] at hj1
   rw[<-hj1]
   refine Zx [(17,.v (.bool true)),(21,.v (.bool false))] YP hnt λ K hK=>?_;refine And.intro (Z7 (by rw[Zs];omega)) ?_;refine And.intro (Ze hn) ?_;refine hK _ _ ?_;clear hK K;refine Zy (t:=false) rfl ?_;rw[if_neg (by simp)];refine Zg ?_;refine Zz ?_;refine Zx [] YP hnt λ _ z9=>z9 _ _ ?_;refine Zv ?_
   exact Yd (N:=0) (.inr rfl) rfl (Zm.refl _) trivial
  rw[List.drop_eq_nil_of_le (by omega),fewTs] at hj1
  rw[<-hj1]
  refine Zx [(17,.v (.bool false))] YP hnt λ K hK=>?_;refine And.intro (Ze (by rw[Zs];omega)) ?_;refine hK _ _ ?_;clear hK K;refine Zy (t:=false) rfl ?_;rw[if_neg (by simp)];refine Zg ?_;refine Zz ?_;refine Zx [] YP hnt λ _ z9=>z9 _ _ ?_;refine Zv ?_
  exact Yd (N:=0) (.inr rfl) rfl (Zm.refl _) trivial
theorem SV {most:Int}:∀ (l:List Ty) (d n:Int),(∀ t∈l,WU most t d<=most->(t.size:Int)=WU most t d)->(∀ t∈l,1<=WU most t d)->1<=n->fewTs most l d n<=most->fewTs most l d n=n+Ty.sizes l
 | [],d,n,_,_,_,_=>by rw[fewTs];simp[Ty.sizes]
 | t :: l,d,n,h,h1,hn,hf=>by
  rw[fewTs] at hf ⊢
  split at hf
  ·rename_i hm
   rw[if_pos hm]
   have h2:=h1 t (by simp)
   have h3:=SV l d _ (λ u hu=>h u (by simp[hu])) (λ u hu=>h1 u (by simp[hu])) (by omega) hf
   have h4:WU most t d<=most:=by omega
   have h5:=h t (by simp) h4
   rw[h3,Ty.sizes];omega
  rename_i hm;omega
theorem U1 {most:Int}(hm:1<=most):∀ (k:Nat) (t:Ty) (d:Int),d<=k->WU most t d<=most->(t.size:Int)=WU most t d
 | 0,.mk a b,d,hd,h=>by rw[WU,if_pos (by omega)] at h;omega
 | k+1,.mk a b,d,hd,h=>by
  rw[WU] at h ⊢
  split at h
  ·omega
  rename_i hp
  rw[if_neg hp]
  have:=SV a (d-1) 1 (λ t _=>U1 hm k t (d-1) (by omega)) (λ t _=>(Tk hm k t (d-1) (by omega)).1) (by omega) h
  rw[this,Ty.size_eq];omega
theorem K4 (most:Int)(h1:1<=most)(h2:most<=1000)(t:Ty)(d:Int)(h3:-1000<=d)(h4:d<=1000):Zh Tryz.prog 39 [.ag (eTy t),.v (.int .i64 most),.v (.int .i64 d)] (.v (.bool (decide (WU most t d<=most)))):=by
 have h:=IL most h1 h2 t d h3 h4
 rw[Zc] at h ⊢
 refine ZX 0 13 [ResultVar.tmp 6] YP (by kernel_rfl) Tryz.func39 rfl Tryz.ntmps39 rfl (by simp) ?dwords ?dbody
 case dwords=>simp[ZA,D.ok,D.oks,ZM,Yi]
 case dbody=>
  intro cx hnt hn0
  refine Zz ?_;refine Zx [] YP hnt λ _ z9=>z9 _ _ ?_;refine Zz ?_;refine Zx [] YP hnt λ K hK=>?_;refine Zk (h) ?_;refine hK _ _ ?_;clear hK K;refine Zv ?_
  exact Yd (N:=0) (.inr rfl) rfl (Zm.refl _) trivial
set_option maxHeartbeats 1000000 in
theorem JW:∀ (t:Ty) (_:t.size<=1000000),Zh Tryz.prog 90 [.ag (eTy t)] (.v (.int .i64 (t.size:Int))):=by
 intro t
 induction t using Ty.ind with
 | h a b ih=>
 intro hsz
 have hsz2:=Ty.size_eq a b
 refine ZX 0 21 [ResultVar.tmp 2] YP (by kernel_rfl) Tryz.func90 rfl Tryz.ntmps90 rfl (by simp) ?dwords ?dbody
 case dwords=>simp[ZA,D.ok,D.oks,ZM,Oa]
 case dbody=>
  intro cx hnt hn0
  refine Zz ?_;refine Zx [] YP hnt λ _ z9=>z9 _ _ ?_;refine Zz ?_;refine Zx [] YP hnt λ _ z9=>z9 _ _ ?_;refine Zz (Zz ?_);refine Zx [] YP hnt λ _ z9=>z9 _ _ ?_;refine Zt ?_
  refine Z6 (ι:={ j:Nat // j<=a.length }) (λ j=>[(.t 1,.p 0 0),(.t 3,.v (.int .i64 ((Ty.sizes (a.take j.1):Int)+1))),(.t 4,.v (.int .i64 (j.1:Int))),(.c 0 0,.sl 2 (eTys a) none),(.c 0 1,.v (.int .i64 b))]) 1 (λ j=>a.length-j.1) ⟨0,Nat.zero_le _⟩ VS.toA λ j=>?_
  obtain⟨j,hj⟩:=j
  dsimp only
  have hst:=Ty.sizes_take_le a j
  have hst2:=Ty.sizes_take_le a (j+1)
  have hla:=Ty.le_sizes a
  refine Zz (Zz ?_)
  by_cases hlt:j<a.length
  ·have hih:=ih a[j] (List.getElem_mem hlt) (by have:=Ty.size_get (b:=b) j hlt;omega)
   rw[Zc] at hih
   have htk:=Ty.sizes_take a j hlt
   refine Zx [(9,.v (.bool true))] YP hnt λ K hK=>?_;refine And.intro (Z7 (by rw[Zs];omega)) ?_;refine hK _ _ ?_;clear hK K;refine Zy (t:=true) rfl ?_;rw[if_pos rfl];refine Zw ?_;refine Zz (Zt ?_);refine Zx [(16,.q [.sl 2 (eTys a[j].args) none,.v (.int .i64 a[j].base)]),(19,.v (.int .i64 ((Ty.sizes (a.take (j+1)):Int)+1)))] YP hnt λ K hK=>?_
   refine And.intro (⟨by omega,by rw[Zs];omega⟩) ?_;refine And.intro (Zm.of_eq (by rw[Int.toNat_natCast,ZV a j hlt,Zc])) ?_;refine Zk (hih) ?_;refine And.intro (Zr (by rw[IntWalk.i64_in _ (by omega),htk];omega)) ?_;refine hK _ _ ?_;clear hK K;refine Zx [(11,.v (.int .i64 ((j+1:Nat):Int)))] YP hnt λ K hK=>?_;refine And.intro (Zr (by rw[IntWalk.i64_in _ (by omega)];omega)) ?_
   refine hK _ _ ?_;clear hK K
   exact⟨⟨j+1,hlt⟩,by dsimp only;omega,VS.toA⟩
  skip
  refine Zx [(9,.v (.bool false))] YP hnt λ K hK=>?_;refine And.intro (Ze (by rw[Zs];omega)) ?_;refine hK _ _ ?_;clear hK K;refine Zy (t:=false) rfl ?_;rw[if_neg (by simp)];refine Zg ?_;refine Zz ?_
  have hsz3:((Ty.mk a b).size:Int)=(Ty.sizes (a.take j):Int)+1:=by rw[List.take_of_length_le (by omega),hsz2];omega
  rw[hsz3]
  refine Zx [] YP hnt λ _ z9=>z9 _ _ ?_;refine Zv ?_
  exact Yd (N:=0) (.inr rfl) rfl (Zm.refl _) trivial
def TF6:List (Nat×TI):=[(3,TG_3),(31,TTM_31),(22,TTY_22),(29,TTM_29),(104,TTY_104)]
theorem Yg:Zd Tryz.prog TF6:=((((((Zd.nil _).cons Yy).cons Y5).cons Yo).cons Yl).cons ZW)
def Vr (most d:Int):List Ty->Int->Option Int
 | [],n=>some n
 | t :: l,n=>if n<=most then (if WU most t d<=most then Vr most d l (n+t.size) else none) else some n
mutual
def Vl (most:Int):Tm->Int->Int
 | .mk bs _ _ a,d=>if d<=0 then most+1 else match Vr most d bs 1 with
  | none=>most+1
  | some n=>fewMs most a (d-1) n
def fewMs (most:Int):List Tm->Int->Int->Int
 | [],_,n=>n
 | t :: l,d,n=>if n<=most then fewMs most l d (n+Vl most t d) else n
end
theorem SS {most d:Int}(hm:1<=most)(hd:d<=1000):∀ (l:List Ty) (n:Int),1<=n->n<=2 * most->∀ r,Vr most d l n=some r->1<=r/\r<=2 * most
 | [],n,h0,h1,r,h=>by rw[Vr] at h;cases h;exact⟨h0,h1⟩
 | t :: l,n,h0,h1,r,h=>by
  rw[Vr] at h
  split at h
  ·split at h
   ·rename_i h2
    have:=U1 hm 1000 t d hd h2
    have:=(Tk hm 1000 t d hd).1
    exact SS hm hd l _ (by omega) (by omega) r h
   cases h
  cases h;exact⟨h0,h1⟩
theorem Pa {most:Int}(hm:1<=most){B:Int}(hB:most<=B):∀ (l:List Tm) (d n:Int),(∀ t∈l,1<=Vl most t d/\Vl most t d<=B)->1<=n->n<=most+B->1<=fewMs most l d n/\fewMs most l d n<=most+B
 | [],d,n,_,h0,h1=>by rw[fewMs];exact⟨h0,h1⟩
 | t :: l,d,n,h,h0,h1=>by
  rw[fewMs]
  split
  ·have:=h t (by simp)
   exact Pa hm hB l d _ (λ u hu=>h u (by simp[hu])) (by omega) (by omega)
  exact⟨h0,h1⟩
theorem Qj {most:Int}(hm:1<=most):∀ (k:Nat) (t:Tm) (d:Int),k<=1000->d<=k->1<=Vl most t d/\Vl most t d<=most * k+most+1
 | 0,.mk bs kd i a,d,hk,hd=>by
  rw[Vl,if_pos (by omega)]
  have e:most * ((0:Nat):Int)=0:=Int.mul_zero _
  rw[e];omega
 | k+1,.mk bs kd i a,d,hk,hd=>by
  rw[Vl]
  have e:most * ((k+1:Nat):Int)=most * (k:Int)+most:=by rw[Int.natCast_add,Int.mul_add];simp
  have h0:0<=most * (k:Int):=Int.mul_nonneg (by omega) (by omega)
  rw[e]
  split
  ·omega
  cases hb:Vr most d bs 1 with
  | none=>dsimp only;omega
  | some n=>
   have hn:=SS hm (by omega) bs 1 (by omega) (by omega) n hb
   have:=Pa hm (B:=most * k+most+1) (by omega) a (d-1) n (λ t _=>Qj hm k t (d-1) (by omega) (by omega)) hn.1 (by omega)
   dsimp only
   omega
set_option maxHeartbeats 4000000 in
theorem IM (most:Int)(h1:1<=most)(h2:most<=1000):∀ (t:Tm) (d:Int),-1000<=d->d<=1000->Zh Tryz.prog 53 [.ag (eTm t),.v (.int .i64 most),.v (.int .i64 d)] (.v (.int .i64 (Vl most t d))):=by
 intro t
 induction t using Tm.ind with
 | h bs k i a ih=>
 intro d hd1 hd2
 obtain⟨V,hV⟩:∃ V,Vl most (.mk bs k i a) d=V:=⟨_,rfl⟩
 rw[hV]
 rw[Vl] at hV
 refine ZX 0 69 [ResultVar.tmp 6] Yg (by kernel_rfl) Tryz.func53 rfl Tryz.ntmps53 rfl (by simp) ?dwords ?dbody
 case dwords=>simp[ZA,D.ok,D.oks,ZM,YK]
 case dbody=>
  intro cx hnt hn0
  refine Zz ?_;refine Zx [] Yg hnt λ _ z9=>z9 _ _ ?_;refine Zz (Zz ?_)
  by_cases hd:d<=0
  ·rw[if_pos hd] at hV
   subst hV
   refine Zx [(11,.v (.bool true))] Yg hnt λ K hK=>?_;refine And.intro (Z7 hd) ?_;refine hK _ _ ?_;clear hK K;refine Zy (t:=true) rfl ?_;rw[if_pos rfl];refine Zz ?_;refine Zx [(13,.v (.int .i64 (most+1)))] Yg hnt λ K hK=>?_;refine And.intro (Zr (IntWalk.i64_in _ (by omega))) ?_;refine hK _ _ ?_;clear hK K;refine Zv ?_
   exact Yd (N:=0) (.inr rfl) rfl (Zm.refl _) trivial
  rw[if_neg hd] at hV;refine Zx [(11,.v (.bool false))] Yg hnt λ K hK=>?_;refine And.intro (Ze hd) ?_;refine hK _ _ ?_;clear hK K;refine Zy (t:=false) rfl ?_;rw[if_neg (by simp)];refine Zw ?_;refine Zz ?_;refine Zx [] Yg hnt λ _ z9=>z9 _ _ ?_
  refine Jf (ι:={ n:Int // 1<=n/\n<=2 * most/\V=fewMs most a (d-1) n }) (λ n=>[(.t 1,.v (.int .i64 most)),(.t 2,.v (.int .i64 d)),(.t 3,.p 0 0),(.t 7,.v (.int .i64 n.1)),(.c 0 0,.sl 2 (eTys bs) none),(.c 0 1,.v (.int .i64 k)),(.c 0 2,.v (.int .i64 i)),(.c 0 3,.sl 4 (eTms a) none)]) 1 ?_ λ n=>?_
  ·refine Zz ?_;refine Zx [] Yg hnt λ _ z9=>z9 _ _ ?_;refine Zt ?_
   refine Z6 (ι:={ p:Nat×Int // Vr most d (bs.drop p.1) p.2=Vr most d bs 1/\(p.1:Int)+1<=p.2/\p.2<=2 * most/\p.1<=bs.length }) (λ p=>[(.t 1,.v (.int .i64 most)),(.t 2,.v (.int .i64 d)),(.t 3,.p 0 0),(.t 7,.v (.int .i64 p.1.2)),(.t 8,.v (.int .i64 (p.1.1:Int))),(.c 0 0,.sl 2 (eTys bs) none),(.c 0 1,.v (.int .i64 k)),(.c 0 2,.v (.int .i64 i)),(.c 0 3,.sl 4 (eTms a) none)]) 1 (λ p=>bs.length-p.1.1) ⟨(0,1),by simp,by simp,by dsimp only;omega,by simp⟩ VS.toA λ p=>?_
   obtain⟨⟨j,n⟩,hj1,hj2,hj3,hj4⟩:=p
   dsimp only at hj1 hj2 hj3 hj4 ⊢
   refine Zz (Zz ?_)
   by_cases hlt:j<bs.length
   ·have hdr:bs.drop j=bs[j] :: bs.drop (j+1):=List.drop_eq_getElem_cons hlt
    rw[hdr,Vr] at hj1
    by_cases hn:n<=most
    ·rw[if_pos hn] at hj1
     have hF:=K4 most h1 h2 bs[j] d hd1 hd2
     rw[Zc] at hF
     have hq:(eTys bs).getD (j:Int).toNat []=[.sl 2 (eTys bs[j].args) none,.v (.int .i64 bs[j].base)]:=by rw[Int.toNat_natCast,ZV bs j hlt,Zc]
     have hb:(0:Int)<=(j:Int)/\(j:Int)<((eTys bs).length:Int):=⟨by omega,by rw[Zs];omega⟩
     refine Zx [(18,.v (.bool true)),(22,.v (.bool true))] Yg hnt λ K hK=>?_;refine And.intro (Z7 (by rw[Zs];omega)) ?_;refine And.intro (Z7 hn) ?_;refine hK _ _ ?_;clear hK K;refine Zy (t:=true) rfl ?_;rw[if_pos rfl];refine Zw ?_;refine Zz (Zt ?_);refine Zz (Zz ?_)
     by_cases hff:WU most bs[j] d<=most
     ·rw[if_pos hff] at hj1
      rw[decide_eq_true hff] at hF
      have hs1:=U1 h1 1000 bs[j] d (by omega) hff
      have hs2:=(Tk h1 1000 bs[j] d (by omega)).1
      have hS:=JW bs[j] (by omega)
      rw[Zc] at hS
      refine Zx [(29,.q [.sl 2 (eTys bs[j].args) none,.v (.int .i64 bs[j].base)])] Yg hnt λ K hK=>?_;refine And.intro (hb) ?_;refine And.intro (Zm.of_eq (by rw[hq])) ?_;refine Zk (hF) ?_;refine hK _ _ ?_;clear hK K;refine Zy (t:=false) rfl ?_;rw[if_neg (by simp)];refine Zw ?_;refine Zx [(41,.q [.sl 2 (eTys bs[j].args) none,.v (.int .i64 bs[j].base)]),(44,.v (.int .i64 (n+(bs[j].size:Int))))] Yg hnt λ K hK=>?_
      refine And.intro (hb) ?_;refine And.intro (Zm.of_eq (by rw[hq])) ?_;refine Zk (hS) ?_;refine And.intro (Zr (IntWalk.i64_in _ (by omega))) ?_;refine hK _ _ ?_;clear hK K;refine Zx [(25,.v (.int .i64 ((j+1:Nat):Int)))] Yg hnt λ K hK=>?_;refine And.intro (Zr (by rw[IntWalk.i64_in _ (by omega)];omega)) ?_;refine hK _ _ ?_;clear hK K
      exact⟨⟨(j+1,n+(bs[j].size:Int)),hj1,by dsimp only;omega,by dsimp only;omega,hlt⟩,by dsimp only;omega,VS.toA⟩
     rw[if_neg hff] at hj1
     rw[decide_eq_false hff] at hF
     rw[<-hj1] at hV
     dsimp only at hV
     subst hV
     refine Zx [(29,.q [.sl 2 (eTys bs[j].args) none,.v (.int .i64 bs[j].base)])] Yg hnt λ K hK=>?_;refine And.intro (hb) ?_;refine And.intro (Zm.of_eq (by rw[hq])) ?_;refine Zk (hF) ?_;refine hK _ _ ?_;clear hK K;refine Zy (t:=true) rfl ?_;rw[if_pos rfl];refine Zz ?_;refine Zx [(36,.v (.int .i64 (most+1)))] Yg hnt λ K hK=>?_;refine And.intro (Zr (IntWalk.i64_in _ (by omega))) ?_
     refine hK _ _ ?_;clear hK K;refine Zv ?_
     exact Yd (N:=0) (.inr rfl) rfl (Zm.refl _) trivial
    rw[if_neg hn] at hj1
    rw[<-hj1] at hV
    dsimp only at hV
    refine Zx [(18,.v (.bool true)),(22,.v (.bool false))] Yg hnt λ K hK=>?_;refine And.intro (Z7 (by rw[Zs];omega)) ?_;refine And.intro (Ze hn) ?_;refine hK _ _ ?_;clear hK K;refine Zy (t:=false) rfl ?_;rw[if_neg (by simp)];refine Zg ?_
    exact Ni (Q:=TN TF6 [ResultVar.tmp 6] (.v (.int .i64 V)) []) ⟨n,by omega,hj3,hV.symm⟩ VS.toA
   rw[List.drop_eq_nil_of_le (by omega),Vr] at hj1
   rw[<-hj1] at hV
   dsimp only at hV
   refine Zx [(18,.v (.bool false))] Yg hnt λ K hK=>?_;refine And.intro (Ze (by rw[Zs];omega)) ?_;refine hK _ _ ?_;clear hK K;refine Zy (t:=false) rfl ?_;rw[if_neg (by simp)];refine Zg ?_
   exact Ni (Q:=TN TF6 [ResultVar.tmp 6] (.v (.int .i64 V)) []) ⟨n,by omega,hj3,hV.symm⟩ VS.toA
  obtain⟨n0,hn1,hn2,hVn⟩:=n
  dsimp only
  rw[hVn]
  refine Zz (Zz ?_);refine Zx [] Yg hnt λ _ z9=>z9 _ _ ?_;refine Zt ?_
  refine Z6 (ι:={ p:Nat×Int // fewMs most (a.drop p.1) (d-1) p.2=fewMs most a (d-1) n0/\(p.1:Int)+1<=p.2/\p.2<=2000000/\p.1<=a.length }) (λ p=>[(.t 1,.v (.int .i64 most)),(.t 2,.v (.int .i64 d)),(.t 3,.p 0 0),(.t 7,.v (.int .i64 p.1.2)),(.t 9,.v (.int .i64 (p.1.1:Int))),(.c 0 0,.sl 2 (eTys bs) none),(.c 0 1,.v (.int .i64 k)),(.c 0 2,.v (.int .i64 i)),(.c 0 3,.sl 4 (eTms a) none)]) 1 (λ p=>a.length-p.1.1) ⟨(0,n0),by simp,by dsimp only;omega,by dsimp only;omega,by simp⟩ VS.toA λ p=>?_
  obtain⟨⟨j,n⟩,hj1,hj2,hj3,hj4⟩:=p
  dsimp only at hj1 hj2 hj3 hj4 ⊢
  refine Zz (Zz ?_)
  by_cases hlt:j<a.length
  ·have hdr:a.drop j=a[j] :: a.drop (j+1):=List.drop_eq_getElem_cons hlt
   rw[hdr,fewMs] at hj1
   by_cases hn:n<=most
   ·rw[if_pos hn] at hj1
    have hih:=ih a[j] (List.getElem_mem hlt) (d-1) (by omega) (by omega)
    rw[Zu] at hih
    have hbd:=Qj h1 1000 a[j] (d-1) (by omega) (by omega)
    have hbd2:most * ((1000:Nat):Int)<=1000000:=by
     have:most * ((1000:Nat):Int)=1000 * most:=by rw[Int.mul_comm];rfl
     omega
    refine Zx [(49,.v (.bool true)),(53,.v (.bool true))] Yg hnt λ K hK=>?_;refine And.intro (Z7 (by rw[Zq];omega)) ?_;refine And.intro (Z7 hn) ?_;refine hK _ _ ?_;clear hK K;refine Zy (t:=true) rfl ?_;rw[if_pos rfl];refine Zw ?_;refine Zz (Zt ?_);refine Zx [(61,.q [.sl 2 (eTys a[j].binds) none,.v (.int .i64 a[j].kind),.v (.int .i64 a[j].index),.sl 4 (eTms a[j].args) none]),(65,.v (.int .i64 (d-1))),(67,.v (.int .i64 (n+Vl most a[j] (d-1))))] Yg hnt λ K hK=>?_
    refine And.intro (⟨by omega,by rw[Zq];omega⟩) ?_;refine And.intro (Zm.of_eq (by rw[Int.toNat_natCast,ZT a j hlt,Zu])) ?_;refine And.intro (Zr (IntWalk.i64_in _ (by omega))) ?_;refine Zk (hih) ?_;refine And.intro (Zr (IntWalk.i64_in _ (by omega))) ?_;refine hK _ _ ?_;clear hK K;refine Zx [(56,.v (.int .i64 ((j+1:Nat):Int)))] Yg hnt λ K hK=>?_;refine And.intro (Zr (by rw[IntWalk.i64_in _ (by omega)];omega)) ?_
    refine hK _ _ ?_;clear hK K
    exact⟨⟨(j+1,n+Vl most a[j] (d-1)),hj1,by dsimp only;omega,by dsimp only;omega,hlt⟩,by dsimp only;omega,VS.toA⟩
   rw[if_neg hn] at hj1
   rw[<-hj1]
   refine Zx [(49,.v (.bool true)),(53,.v (.bool false))] Yg hnt λ K hK=>?_;refine And.intro (Z7 (by rw[Zq];omega)) ?_;refine And.intro (Ze hn) ?_;refine hK _ _ ?_;clear hK K;refine Zy (t:=false) rfl ?_;rw[if_neg (by simp)];refine Zg ?_;refine Zz ?_;refine Zx [] Yg hnt λ _ z9=>z9 _ _ ?_;refine Zv ?_
   exact Yd (N:=0) (.inr rfl) rfl (Zm.refl _) trivial
  rw[List.drop_eq_nil_of_le (by omega),fewMs] at hj1
  rw[<-hj1]
  refine Zx [(49,.v (.bool false))] Yg hnt λ K hK=>?_;refine And.intro (Ze (by rw[Zq];omega)) ?_;refine hK _ _ ?_;clear hK K;refine Zy (t:=false) rfl ?_;rw[if_neg (by simp)];refine Zg ?_;refine Zz ?_;refine Zx [] Yg hnt λ _ z9=>z9 _ _ ?_;refine Zv ?_
  exact Yd (N:=0) (.inr rfl) rfl (Zm.refl _) trivial
theorem He (most:Int)(h1:1<=most)(h2:most<=1000)(t:Tm)(d:Int)(h3:-1000<=d)(h4:d<=1000):Zh Tryz.prog 22 [.ag (eTm t),.v (.int .i64 most),.v (.int .i64 d)] (.v (.bool (decide (Vl most t d<=most)))):=by
 have h:=IM most h1 h2 t d h3 h4
 rw[Zu] at h ⊢
 refine ZX 0 13 [ResultVar.tmp 6] Yg (by kernel_rfl) Tryz.func22 rfl Tryz.ntmps22 rfl (by simp) ?dwords ?dbody
 case dwords=>simp[ZA,D.ok,D.oks,ZM,Yi,Y8]
 case dbody=>
  intro cx hnt hn0
  refine Zz ?_;refine Zx [] Yg hnt λ _ z9=>z9 _ _ ?_;refine Zz ?_;refine Zx [] Yg hnt λ K hK=>?_;refine Zk (h) ?_;refine hK _ _ ?_;clear hK K;refine Zv ?_
  exact Yd (N:=0) (.inr rfl) rfl (Zm.refl _) trivial
def Uz (t:Tm):Bool:=decide (Vl 150 t 70<=150)
set_option maxHeartbeats 1000000 in
theorem S0 (l:List Tm)(hl:l.length<=1000000):Zh Tryz.prog 40 [.sl 4 (eTms l) none] (.v (.bool (l.all Uz))):=by
 refine ZX 0 16 [ResultVar.tmp 2] Yg (by kernel_rfl) Tryz.func40 rfl Tryz.ntmps40 rfl (by simp) ?dwords ?dbody
 case dwords=>simp[ZA,D.ok,D.oks,ZM,Y8]
 case dbody=>
  intro cx hnt hn0
  refine Zz ?_;refine Zx [] Yg hnt λ _ z9=>z9 _ _ ?_;refine Zz (Zz ?_);refine Zx [] Yg hnt λ _ z9=>z9 _ _ ?_;refine Zt ?_
  refine Z6 (ι:={ j:Nat // ∀ i (h:i<l.length),i<j->Uz l[i]=true }) (λ j=>[(.t 0,.sl 4 (eTms l) none),(.t 3,.v (.int .i64 (j.1:Int)))]) 1 (λ j=>l.length-j.1) ⟨0,λ i h1 h2=>by omega⟩ VS.toA λ j=>?_
  obtain⟨j,hj⟩:=j
  dsimp only
  refine Zz (Zz ?_)
  by_cases hlt:j<l.length
  ·have hi:=He 150 (by decide) (by decide) l[j] 70 (by decide) (by decide)
   rw[Zu] at hi
   have hq:(eTms l).getD (j:Int).toNat []=[.sl 2 (eTys l[j].binds) none,.v (.int .i64 l[j].kind),.v (.int .i64 l[j].index),.sl 4 (eTms l[j].args) none]:=by rw[Int.toNat_natCast,ZT l j hlt,Zu]
   have hb:(0:Int)<=(j:Int)/\(j:Int)<((eTms l).length:Int):=⟨by omega,by rw[Zq];omega⟩
   refine Zx [(7,.v (.bool true))] Yg hnt λ K hK=>?_;refine And.intro (Z7 (by rw[Zq];omega)) ?_;refine hK _ _ ?_;clear hK K;refine Zy (t:=true) rfl ?_;rw[if_pos rfl];refine Zw ?_;refine Zz (Zt (Zz ?_))
   cases hf:Uz l[j] with
   | true=>
    have hf2:=hf
    unfold Uz at hf2
    rw[hf2] at hi
    refine Zx [(12,.q [.sl 2 (eTys l[j].binds) none,.v (.int .i64 l[j].kind),.v (.int .i64 l[j].index),.sl 4 (eTms l[j].args) none])] Yg hnt λ K hK=>?_;refine And.intro (hb) ?_;refine And.intro (Zm.of_eq (by rw[hq])) ?_;refine Zk (hi) ?_;refine hK _ _ ?_;clear hK K;refine Zy (t:=false) rfl ?_;rw[if_neg (by simp)];refine Zw ?_;refine Zx [(9,.v (.int .i64 ((j+1:Nat):Int)))] Yg hnt λ K hK=>?_
    refine And.intro (Zr (by rw[IntWalk.i64_in _ (by omega)];omega)) ?_;refine hK _ _ ?_;clear hK K
    refine⟨⟨j+1,λ i h1 h2=>?_⟩,by dsimp only;omega,VS.toA⟩
    by_cases he:i=j
    ·subst he;exact hf
    exact hj i h1 (by omega)
   | false=>
    have hf2:=hf
    unfold Uz at hf2
    rw[hf2] at hi
    have ha:l.all Uz=false:=by rw[List.all_eq_false];exact⟨l[j],List.getElem_mem hlt,by rw[hf];simp⟩
    rw[ha]
    refine Zx [(12,.q [.sl 2 (eTys l[j].binds) none,.v (.int .i64 l[j].kind),.v (.int .i64 l[j].index),.sl 4 (eTms l[j].args) none])] Yg hnt λ K hK=>?_;refine And.intro (hb) ?_;refine And.intro (Zm.of_eq (by rw[hq])) ?_;refine Zk (hi) ?_;refine hK _ _ ?_;clear hK K;refine Zy (t:=true) rfl ?_;rw[if_pos rfl];refine Zz ?_;refine Zx [] Yg hnt λ _ z9=>z9 _ _ ?_
    refine Zv ?_
    exact Yd (N:=0) (.inr rfl) rfl (Zm.refl _) trivial
  have ha:l.all Uz=true:=by
   rw[List.all_eq_true]
   intro t ht
   obtain⟨i,hi,rfl⟩:=List.getElem_of_mem ht
   exact hj i hi (by omega)
  rw[ha]
  refine Zx [(7,.v (.bool false))] Yg hnt λ K hK=>?_;refine And.intro (Ze (by rw[Zq];omega)) ?_;refine hK _ _ ?_;clear hK K;refine Zy (t:=false) rfl ?_;rw[if_neg (by simp)];refine Zg ?_;refine Zz ?_;refine Zx [] Yg hnt λ _ z9=>z9 _ _ ?_;refine Zv ?_
  exact Yd (N:=0) (.inr rfl) rfl (Zm.refl _) trivial
theorem SR {most d:Int}(hm:1<=most)(hd:d<=1000):∀ (l:List Ty) (n r:Int),Vr most d l n=some r->r<=most->r=n+Ty.sizes l
 | [],n,r,h,_=>by rw[Vr] at h;cases h;simp[Ty.sizes]
 | t :: l,n,r,h,hr=>by
  rw[Vr] at h
  split at h
  ·split at h
   ·have:=SR hm hd l _ r h hr
    rw[this,Ty.sizes];omega
   cases h
  cases h;omega
theorem ST {most:Int}:∀ (l:List Tm) (d n:Int),(∀ t∈l,Vl most t d<=most->(t.full:Int)=Vl most t d/\(t.depth:Int)<=d)->(∀ t∈l,1<=Vl most t d)->1<=n->fewMs most l d n<=most->fewMs most l d n=n+Tm.fulls l/\(∀ t∈l,(t.depth:Int)<=d)/\n<=most
 | [],d,n,_,_,_,h=>by rw[fewMs] at h ⊢;exact⟨by simp[Tm.fulls],nofun,h⟩
 | t :: l,d,n,h,h1,hn,hf=>by
  rw[fewMs] at hf ⊢
  split at hf
  ·rename_i hm
   rw[if_pos hm]
   have h2:=h1 t (by simp)
   obtain⟨h3,h4,h5⟩:=ST l d _ (λ u hu=>h u (by simp[hu])) (λ u hu=>h1 u (by simp[hu])) (by omega) hf
   obtain⟨h6,h7⟩:=h t (by simp) (by omega)
   refine⟨by rw[h3,Tm.fulls];omega,λ u hu=>?_,hm⟩
   rcases List.mem_cons.1 hu with rfl | hu
   ·exact h7
   exact h4 u hu
  rename_i hm;omega
theorem SK {d:Int}(hd:0<=d):∀ (l:List Tm),(∀ t∈l,(t.depth:Int)<=d)->(Tm.depths l:Int)<=d
 | [],_=>by simp[Tm.depths];exact hd
 | t :: l,h=>by
  have h1:=h t (by simp)
  have h2:=SK hd l λ u hu=>h u (by simp[hu])
  simp only[Tm.depths];omega
theorem RR {most:Int}(hm:1<=most):∀ (k:Nat) (t:Tm) (d:Int),k<=1000->d<=k->Vl most t d<=most->(t.full:Int)=Vl most t d/\(t.depth:Int)<=d
 | 0,.mk bs kd i a,d,hk,hd,h=>by rw[Vl,if_pos (by omega)] at h;omega
 | k+1,.mk bs kd i a,d,hk,hd,h=>by
  rw[Vl] at h ⊢
  split at h
  ·omega
  rename_i hp
  rw[if_neg hp]
  cases hb:Vr most d bs 1 with
  | none=>rw[hb] at h;dsimp only at h;omega
  | some n=>
   rw[hb] at h
   dsimp only at h ⊢
   have hn:=SS hm (by omega) bs 1 (by omega) (by omega) n hb
   obtain⟨h3,h4,h5⟩:=ST a (d-1) n (λ t _=>RR hm k t (d-1) (by omega) (by omega)) (λ t _=>(Qj hm k t (d-1) (by omega) (by omega)).1) hn.1 h
   have h6:=SR hm (by omega) bs 1 n hb h5
   have h7:=SK (by omega) a h4
   rw[Tm.full_eq,Tm.depth_eq]
   constructor
   ·omega
   omega
theorem Wp {t:Tm}(h:Uz t=true):t.full<=150/\t.depth<=70:=by
 unfold Uz at h
 rw[decide_eq_true_eq] at h
 obtain⟨h1,h2⟩:=RR (by decide) 1000 t 70 (by decide) (by decide) h
 omega
def TS9_24:TI:=⟨3,true,[Value.int IntKind.i64 0,Value.slice none 0 0,Value.slice none 0 0],[(0,1,false),(1,1,false),(2,1,false)],none,56,6,none,false⟩
theorem Xy:TypOk Tryz.prog 24 TS9_24:=by constructor <;> kernel_rfl
def TS9:List (Nat×TI):=[(22,TTY_22),(3,TG_3),(24,TS9_24),(104,TTY_104)]
theorem Xc:Zd Tryz.prog TS9:=(((((Zd.nil _).cons Yy).cons Xy).cons ZW).cons Yo)
def Vy (t:Ty):Bool:=decide (WU 60 t 60<=60)
theorem Og {t:Ty}(h:Vy t=true):t.size<=60:=by
 unfold Vy at h
 rw[decide_eq_true_eq] at h
 have:=U1 (by decide) 1000 t 60 (by decide) h
 omega
set_option maxHeartbeats 1000000 in
theorem ON (b:Int)(C M X:List Ty)(h1:C.length<=20)(h2:M.length<=20)(h3:X.length<=20):Zh Tryz.prog 8 [.ag [.v (.int .i64 b),.sl 2 (eTys C) none,.sl 2 (eTys M) none],.sl 2 (eTys X) none] (.v (.bool (((C++M)++X).all Vy))):=by
 have hB:=Vf C M (by omega)
 have hB2:=Vf (C++M) X (by simp;omega)
 obtain⟨l,hl⟩:∃ l,(C++M)++X=l:=⟨_,rfl⟩
 rw[hl] at hB2 ⊢
 have hll:l.length<=60:=by rw[<-hl];simp;omega
 refine ZX 0 41 [ResultVar.tmp 4] Xc (by kernel_rfl) Tryz.func8 rfl Tryz.ntmps8 rfl (by simp) ?dwords ?dbody
 case dwords=>simp[ZA,D.ok,D.oks,ZM,Yi]
 case dbody=>
  intro cx hnt hn0
  refine Zz ?_;refine Zx [] Xc hnt λ _ z9=>z9 _ _ ?_;refine Zz (Zz ?_);refine Zx [(10,.v (.bool false)),(15,.v (.bool false)),(20,.v (.bool false))] Xc hnt λ K hK=>?_;refine And.intro (Ze (by rw[Zs];omega)) ?_;refine And.intro (Ze (by rw[Zs];omega)) ?_;refine And.intro (Ze (by rw[Zs];omega)) ?_;refine hK _ _ ?_;clear hK K
  refine Zy (t:=false) rfl ?_;rw[if_neg (by simp)];refine Zw ?_;refine Zz ?_;refine Zx [] Xc hnt λ K hK=>?_;refine Zk (hB) ?_;refine Zk (hB2) ?_;refine hK _ _ ?_;clear hK K;refine Zz (Zz ?_);refine Zx [] Xc hnt λ _ z9=>z9 _ _ ?_;refine Zt ?_
  refine Z6 (ι:={ j:Nat // ∀ i (h:i<l.length),i<j->Vy l[i]=true }) (λ j=>[(.t 5,.sl 2 (eTys l) none),(.t 6,.v (.int .i64 (j.1:Int)))]) 1 (λ j=>l.length-j.1) ⟨0,λ i h1 h2=>by omega⟩ VS.toA λ j=>?_
  obtain⟨j,hj⟩:=j
  dsimp only
  refine Zz (Zz ?_)
  by_cases hlt:j<l.length
  ·have hi:=K4 60 (by decide) (by decide) l[j] 60 (by decide) (by decide)
   rw[Zc] at hi
   have hq:(eTys l).getD (j:Int).toNat []=[.sl 2 (eTys l[j].args) none,.v (.int .i64 l[j].base)]:=by rw[Int.toNat_natCast,ZV l j hlt,Zc]
   have hb:(0:Int)<=(j:Int)/\(j:Int)<((eTys l).length:Int):=⟨by omega,by rw[Zs];omega⟩
   refine Zx [(32,.v (.bool true))] Xc hnt λ K hK=>?_;refine And.intro (Z7 (by rw[Zs];omega)) ?_;refine hK _ _ ?_;clear hK K;refine Zy (t:=true) rfl ?_;rw[if_pos rfl];refine Zw ?_;refine Zz (Zt (Zz ?_))
   cases hf:Vy l[j] with
   | true=>
    have hf2:=hf
    unfold Vy at hf2
    rw[hf2] at hi
    refine Zx [(37,.q [.sl 2 (eTys l[j].args) none,.v (.int .i64 l[j].base)])] Xc hnt λ K hK=>?_;refine And.intro (hb) ?_;refine And.intro (Zm.of_eq (by rw[hq])) ?_;refine Zk (hi) ?_;refine hK _ _ ?_;clear hK K;refine Zy (t:=false) rfl ?_;rw[if_neg (by simp)];refine Zw ?_;refine Zx [(34,.v (.int .i64 ((j+1:Nat):Int)))] Xc hnt λ K hK=>?_;refine And.intro (Zr (by rw[IntWalk.i64_in _ (by omega)];omega)) ?_
    refine hK _ _ ?_;clear hK K
    refine⟨⟨j+1,λ i h1 h2=>?_⟩,by dsimp only;omega,VS.toA⟩
    by_cases he:i=j
    ·subst he;exact hf
    exact hj i h1 (by omega)
   | false=>
    have hf2:=hf
    unfold Vy at hf2
    rw[hf2] at hi
    have ha:l.all Vy=false:=by rw[List.all_eq_false];exact⟨l[j],List.getElem_mem hlt,by rw[hf];simp⟩
    rw[ha]
    refine Zx [(37,.q [.sl 2 (eTys l[j].args) none,.v (.int .i64 l[j].base)])] Xc hnt λ K hK=>?_;refine And.intro (hb) ?_;refine And.intro (Zm.of_eq (by rw[hq])) ?_;refine Zk (hi) ?_;refine hK _ _ ?_;clear hK K;refine Zy (t:=true) rfl ?_;rw[if_pos rfl];refine Zz ?_;refine Zx [] Xc hnt λ _ z9=>z9 _ _ ?_;refine Zv ?_
    exact Yd (N:=0) (.inr rfl) rfl (Zm.refl _) trivial
  have ha:l.all Vy=true:=by
   rw[List.all_eq_true]
   intro t ht
   obtain⟨i,hi,rfl⟩:=List.getElem_of_mem ht
   exact hj i hi (by omega)
  rw[ha]
  refine Zx [(32,.v (.bool false))] Xc hnt λ K hK=>?_;refine And.intro (Ze (by rw[Zs];omega)) ?_;refine hK _ _ ?_;clear hK K;refine Zy (t:=false) rfl ?_;rw[if_neg (by simp)];refine Zg ?_;refine Zz ?_;refine Zx [] Xc hnt λ _ z9=>z9 _ _ ?_;refine Zv ?_
  exact Yd (N:=0) (.inr rfl) rfl (Zm.refl _) trivial
set_option maxHeartbeats 1000000 in
theorem QV (b:Int)(C M X:List Ty)(h:¬ (C.length<=20/\M.length<=20/\X.length<=20)):Zh Tryz.prog 8 [.ag [.v (.int .i64 b),.sl 2 (eTys C) none,.sl 2 (eTys M) none],.sl 2 (eTys X) none] (.v (.bool false)):=by
 refine ZX 0 41 [ResultVar.tmp 4] Xc (by kernel_rfl) Tryz.func8 rfl Tryz.ntmps8 rfl (by simp) ?dwords ?dbody
 case dwords=>simp[ZA,D.ok,D.oks,ZM,Yi]
 case dbody=>
  intro cx hnt hn0
  refine Zz ?_;refine Zx [] Xc hnt λ _ z9=>z9 _ _ ?_;refine Zz (Zz ?_)
  by_cases h1:C.length<=20
  ·by_cases h2:M.length<=20
   ·skip
    refine Zx [(10,.v (.bool false)),(15,.v (.bool false)),(20,.v (.bool true))] Xc hnt λ K hK=>?_;refine And.intro (Ze (by rw[Zs];omega)) ?_;refine And.intro (Ze (by rw[Zs];omega)) ?_;refine And.intro (Z7 (by rw[Zs];omega)) ?_;refine hK _ _ ?_;clear hK K;refine Zy (t:=true) rfl ?_;rw[if_pos rfl];refine Zz ?_;refine Zx [] Xc hnt λ K hK=>?_
    refine hK _ _ ?_;clear hK K;refine Zv ?_
    exact Yd (N:=0) (.inr rfl) rfl (Zm.refl _) trivial
   skip
   refine Zx [(10,.v (.bool false)),(15,.v (.bool true))] Xc hnt λ K hK=>?_;refine And.intro (Ze (by rw[Zs];omega)) ?_;refine And.intro (Z7 (by rw[Zs];omega)) ?_;refine hK _ _ ?_;clear hK K;refine Zy (t:=true) rfl ?_;rw[if_pos rfl];refine Zz ?_;refine Zx [] Xc hnt λ _ z9=>z9 _ _ ?_;refine Zv ?_
   exact Yd (N:=0) (.inr rfl) rfl (Zm.refl _) trivial
  skip
  refine Zx [(10,.v (.bool true))] Xc hnt λ K hK=>?_;refine And.intro (Z7 (by rw[Zs];omega)) ?_;refine hK _ _ ?_;clear hK K;refine Zy (t:=true) rfl ?_;rw[if_pos rfl];refine Zz ?_;refine Zx [] Xc hnt λ _ z9=>z9 _ _ ?_;refine Zv ?_
  exact Yd (N:=0) (.inr rfl) rfl (Zm.refl _) trivial
def TTO:List (Nat×TI):=[(3,TG_3),(104,TTY_104),(106,TG_106),(31,TTM_31),(62,TG_62),(22,TTY_22),(41,TG_41),(29,TTM_29),(60,TG_60),(28,TTM_28),(59,TG_59)]
theorem ZK:Zd Tryz.prog TTO:=((((((((((((Zd.nil _).cons XI).cons Xz).cons Xs).cons Y5).cons Ym).cons Yo).cons Yu).cons Yl).cons Yx).cons Yy).cons ZW)
theorem Wo (l:List Ty)(j:Nat)(h:j<=l.length):(eTys (l.take j)).length=j:=by rw[Zs,List.length_take];omega
theorem U3 (l:List Tm)(j:Nat)(h:j<=l.length):(eTms (l.take j)).length=j:=by rw[Zq,List.length_take];omega
theorem JC:∀ t:Ty,t.size<=900000->Zh Tryz.prog 79 [.ag (eTy t)] (.ag (eTy t)):=by
 intro t
 induction t using Ty.ind with
 | h ar base ih=>
  intro hz
  rw[Ty.size_eq] at hz
  have hal:=Ty.le_sizes ar
  rw[Zc]
  dsimp only[Ty.args,Ty.base]
  refine Zn 0 27 [ResultVar.cell 2 106] ZK Tryz.func79 rfl Tryz.ntmps79 rfl λ cx hnt hn0=>?_
  skip
  refine Zz ?_;refine Zx [] ZK hnt λ _ z9=>z9 _ _ ?_;refine Zz ?_;refine Zx [] ZK hnt λ _ z9=>z9 _ _ ?_
  refine DW.vs (VS.row (k:=5) (off:=0) 106 2 rfl) ?_
  refine Zz ?_;refine Zz ?_;refine Zx [] ZK hnt λ _ z9=>z9 _ _ ?_;refine Zt ?_
  refine Z6 (ι:={ j:Nat // j<=ar.length }) (λ j=>[(.t 1,.p 0 0),(.t 2,.p 1 0),(.t 3,.p 5 0),(.t 4,.v (.int .i64 ↑j.1)),(.c 0 0,.sl 2 (eTys ar) none),(.c 0 1,.v (.int .i64 base)),(.c 1 0,.v (.slice none 0 0)),(.c 1 1,.v (.int .i64 0)),(.c 5 0,.sl 2 (eTys (ar.take j.1)) (some 7)),(.c 5 1,.v (.int .i64 base)),(.r 7,.rw 106 2 j.1)]) 8 (λ j=>ar.length-j.1) (⟨0,Nat.zero_le _⟩) ((VS.toK (by omega) (by repeat first | exact trivial | refine And.intro (And.intro (by first | rfl | simp[D.ok,D.oks,D.okss,D.okm,Xi,X7,YQ]) (by first | exact Or.inl rfl | exact Or.inr ⟨_,rfl,(by repeat first | exact Zm.refl _ | exact Zm.nil _ | exact Zm.untag _ _ _ | refine Zm.ag ?_ | refine Zm.tu ?_ | refine ZO.cons ?_ ?_ | exact ZO.nil),trivial⟩ | simp[get,Key.eq,YQ])) ?_))) λ j=>?_
  obtain⟨j,hj⟩:=j
  dsimp only
  by_cases hlt:j<ar.length
  ·have hmem:=List.getElem_mem hlt
   have hsz:=Ty.size_mem hmem
   have hc:=ih _ hmem (by omega)
   rw[Zc] at hc
   have hl1:=Wo ar j hj
   have hl2:=Wo ar (j+1) hlt
   refine Zz ?_;refine Zz ?_;refine Zx [(11,.v (.int .i64 (↑ar.length))),(12,.v (.bool true))] ZK hnt λ K hK=>?_;refine And.intro (Zr (by rw[Zs])) ?_;refine And.intro Xd ?_;refine hK _ _ ?_;clear hK K;refine Zy (t:=true) rfl ?_;rw[if_pos rfl];refine Zw ?_;refine Zz ?_;refine Zt ?_;refine ZQ [(20,.q [.sl 2 (eTys ar[j].args) none,.v (.int .i64 ar[j].base)])] ZK hnt λ K hK=>?_
   refine And.intro (XQ (Zs ar)) ?_;refine And.intro (XR (ZV ar j) (Zc _)) ?_;refine Zk (hc) ?_;refine And.intro (⟨by omega,by rw[hl1];simp;omega⟩) ?_;refine hK _ _ (by kernel_rfl) ?_;clear hK K
   rw[Va ar j hlt,hl2]
   refine Zx [(14,.v (.int .i64 (↑(j+1))))] ZK hnt λ K hK=>?_;refine And.intro Ww ?_;refine hK _ _ ?_;clear hK K
   refine⟨⟨j+1,hlt⟩,by first | omega | (dsimp only;omega),VS.toA⟩
  rw[List.take_of_length_le (by omega)]
  refine Zz ?_;refine Zz ?_;refine Zx [(11,.v (.int .i64 (↑ar.length))),(12,.v (.bool false))] ZK hnt λ K hK=>?_;refine And.intro (Zr (by rw[Zs])) ?_;refine And.intro X5 ?_;refine hK _ _ ?_;clear hK K;refine Zy (t:=false) rfl ?_;rw[if_neg (by simp)];refine Zg ?_;refine Zz ?_;refine Zx [] ZK hnt λ _ z9=>z9 _ _ ?_
  refine Zv ?_
  exact Zi rfl
theorem Ia:∀ t:Ty,t.size<=900000->Zh Tryz.prog 95 [.ag (eTy t)] (.ag (eTy t)):=by
 intro t
 induction t using Ty.ind with
 | h ar base ih=>
  intro hz
  rw[Ty.size_eq] at hz
  have hal:=Ty.le_sizes ar
  rw[Zc]
  dsimp only[Ty.args,Ty.base]
  refine Zn 0 27 [ResultVar.cell 2 104] ZK Tryz.func95 rfl Tryz.ntmps95 rfl λ cx hnt hn0=>?_
  skip
  refine Zz ?_;refine Zx [] ZK hnt λ _ z9=>z9 _ _ ?_;refine Zz ?_;refine Zx [] ZK hnt λ _ z9=>z9 _ _ ?_
  refine DW.vs (VS.row (k:=5) (off:=0) 104 2 rfl) ?_
  refine Zz ?_;refine Zz ?_;refine Zx [] ZK hnt λ _ z9=>z9 _ _ ?_;refine Zt ?_
  refine Z6 (ι:={ j:Nat // j<=ar.length }) (λ j=>[(.t 1,.p 0 0),(.t 2,.p 1 0),(.t 3,.p 5 0),(.t 4,.v (.int .i64 ↑j.1)),(.c 0 0,.sl 2 (eTys ar) none),(.c 0 1,.v (.int .i64 base)),(.c 1 0,.v (.slice none 0 0)),(.c 1 1,.v (.int .i64 0)),(.c 5 0,.sl 2 (eTys (ar.take j.1)) (some 7)),(.c 5 1,.v (.int .i64 base)),(.r 7,.rw 104 2 j.1)]) 8 (λ j=>ar.length-j.1) (⟨0,Nat.zero_le _⟩) ((VS.toK (by omega) (by repeat first | exact trivial | refine And.intro (And.intro (by first | rfl | simp[D.ok,D.oks,D.okss,D.okm,Xi,X7,YQ]) (by first | exact Or.inl rfl | exact Or.inr ⟨_,rfl,(by repeat first | exact Zm.refl _ | exact Zm.nil _ | exact Zm.untag _ _ _ | refine Zm.ag ?_ | refine Zm.tu ?_ | refine ZO.cons ?_ ?_ | exact ZO.nil),trivial⟩ | simp[get,Key.eq,YQ])) ?_))) λ j=>?_
  obtain⟨j,hj⟩:=j
  dsimp only
  by_cases hlt:j<ar.length
  ·have hmem:=List.getElem_mem hlt
   have hsz:=Ty.size_mem hmem
   have hc:=ih _ hmem (by omega)
   rw[Zc] at hc
   have hl1:=Wo ar j hj
   have hl2:=Wo ar (j+1) hlt
   refine Zz ?_;refine Zz ?_;refine Zx [(11,.v (.int .i64 (↑ar.length))),(12,.v (.bool true))] ZK hnt λ K hK=>?_;refine And.intro (Zr (by rw[Zs])) ?_;refine And.intro Xd ?_;refine hK _ _ ?_;clear hK K;refine Zy (t:=true) rfl ?_;rw[if_pos rfl];refine Zw ?_;refine Zz ?_;refine Zt ?_;refine ZQ [(20,.q [.sl 2 (eTys ar[j].args) none,.v (.int .i64 ar[j].base)])] ZK hnt λ K hK=>?_
   refine And.intro (XQ (Zs ar)) ?_;refine And.intro (XR (ZV ar j) (Zc _)) ?_;refine Zk (hc) ?_;refine And.intro (⟨by omega,by rw[hl1];simp;omega⟩) ?_;refine hK _ _ (by kernel_rfl) ?_;clear hK K
   rw[Va ar j hlt,hl2]
   refine Zx [(14,.v (.int .i64 (↑(j+1))))] ZK hnt λ K hK=>?_;refine And.intro Ww ?_;refine hK _ _ ?_;clear hK K
   refine⟨⟨j+1,hlt⟩,by first | omega | (dsimp only;omega),VS.toA⟩
  rw[List.take_of_length_le (by omega)]
  refine Zz ?_;refine Zz ?_;refine Zx [(11,.v (.int .i64 (↑ar.length))),(12,.v (.bool false))] ZK hnt λ K hK=>?_;refine And.intro (Zr (by rw[Zs])) ?_;refine And.intro X5 ?_;refine hK _ _ ?_;clear hK K;refine Zy (t:=false) rfl ?_;rw[if_neg (by simp)];refine Zg ?_;refine Zz ?_;refine Zx [] ZK hnt λ _ z9=>z9 _ _ ?_
  refine Zv ?_
  exact Zi rfl
theorem TK (l:List Ty)(hz:Ty.sizes l<=900000):Zh Tryz.prog 44 [.sl 2 (eTys l) none] (.sl 2 (eTys l) none):=by
 have hal:=Ty.le_sizes l
 refine Zn 0 20 [ResultVar.tmp 2] ZK Tryz.func44 rfl Tryz.ntmps44 rfl λ cx hnt hn0=>?_
 skip
 refine Zz ?_;refine Zx [] ZK hnt λ _ z9=>z9 _ _ ?_
 refine Wi (τ:=[(.t 0,.sl 2 (eTys l) none),(.t 3,.v (.slice none 0 0))]) (N1:=0) ?_ ?_
 ·skip
  refine Zx [] ZK hnt λ _ z9=>z9 _ _ ?_
  exact Y4 (VS.toK (by omega) (by repeat first | exact trivial | refine And.intro (And.intro (by first | rfl | simp[D.ok,D.oks,D.okss,D.okm,Xi,X7,YQ]) (by first | exact Or.inl rfl | exact Or.inr ⟨_,rfl,(by repeat first | exact Zm.refl _ | exact Zm.nil _ | exact Zm.untag _ _ _ | refine Zm.ag ?_ | refine Zm.tu ?_ | refine ZO.cons ?_ ?_ | exact ZO.nil),trivial⟩ | simp[get,Key.eq,YQ])) ?_))
 refine DW.vs (VS.rowT (x:=3) (by rw[hnt];decide) 106 2 rfl) ?_
 refine Zz ?_;refine Zz ?_;refine Zx [] ZK hnt λ _ z9=>z9 _ _ ?_;refine Zt ?_
 refine Z6 (ι:={ j:Nat // j<=l.length }) (λ j=>[(.t 0,.sl 2 (eTys l) none),(.t 3,.sl 2 (eTys (l.take j.1)) (some 0)),(.t 4,.v (.int .i64 ↑j.1)),(.r 0,.rw 106 2 j.1)]) 1 (λ j=>l.length-j.1) (⟨0,Nat.zero_le _⟩) ((VS.toK (by omega) (by repeat first | exact trivial | refine And.intro (And.intro (by first | rfl | simp[D.ok,D.oks,D.okss,D.okm,Xi,X7,YQ]) (by first | exact Or.inl rfl | exact Or.inr ⟨_,rfl,(by repeat first | exact Zm.refl _ | exact Zm.nil _ | exact Zm.untag _ _ _ | refine Zm.ag ?_ | refine Zm.tu ?_ | refine ZO.cons ?_ ?_ | exact ZO.nil),trivial⟩ | simp[get,Key.eq,YQ])) ?_))) λ j=>?_
 obtain⟨j,hj⟩:=j
 dsimp only
 by_cases hlt:j<l.length
 ·have hsz:=Ty.size_mem (List.getElem_mem hlt)
  have hc:=JC l[j] (by omega)
  rw[Zc] at hc
  have hl1:=Wo l j hj
  have hl2:=Wo l (j+1) hlt
  refine Zz ?_;refine Zz ?_;refine Zx [(7,.v (.int .i64 (↑l.length))),(8,.v (.bool true))] ZK hnt λ K hK=>?_;refine And.intro (Zr (by rw[Zs])) ?_;refine And.intro Xd ?_;refine hK _ _ ?_;clear hK K;refine Zy (t:=true) rfl ?_;rw[if_pos rfl];refine Zw ?_;refine Zz ?_;refine Zt ?_;refine Zx [(14,.q [.sl 2 (eTys l[j].args) none,.v (.int .i64 l[j].base)])] ZK hnt λ K hK=>?_
  refine And.intro (XQ (Zs l)) ?_;refine And.intro (XR (ZV l j) (Zc _)) ?_;refine Zk (hc) ?_;refine And.intro (⟨by omega,by rw[hl1];simp;omega⟩) ?_;refine hK _ _ ?_;clear hK K
  rw[Va l j hlt,hl2]
  refine Zx [(10,.v (.int .i64 (↑(j+1))))] ZK hnt λ K hK=>?_;refine And.intro Ww ?_;refine hK _ _ ?_;clear hK K
  refine⟨⟨j+1,hlt⟩,by first | omega | (dsimp only;omega),VS.toA⟩
 rw[List.take_of_length_le (by omega)]
 refine Zz ?_;refine Zz ?_;refine Zx [(7,.v (.int .i64 (↑l.length))),(8,.v (.bool false))] ZK hnt λ K hK=>?_;refine And.intro (Zr (by rw[Zs])) ?_;refine And.intro X5 ?_;refine hK _ _ ?_;clear hK K;refine Zy (t:=false) rfl ?_;rw[if_neg (by simp)];refine Zg ?_;refine Zz ?_;refine Zx [] ZK hnt λ _ z9=>z9 _ _ ?_;refine Zv ?_
 exact Zi rfl
theorem OF (l:List Ty)(hz:Ty.sizes l<=900000):Zh Tryz.prog 64 [.sl 2 (eTys l) none] (.sl 2 (eTys l) none):=by
 have hal:=Ty.le_sizes l
 refine Zn 0 20 [ResultVar.tmp 2] ZK Tryz.func64 rfl Tryz.ntmps64 rfl λ cx hnt hn0=>?_
 skip
 refine Zz ?_;refine Zx [] ZK hnt λ _ z9=>z9 _ _ ?_
 refine Wi (τ:=[(.t 0,.sl 2 (eTys l) none),(.t 3,.v (.slice none 0 0))]) (N1:=0) ?_ ?_
 ·skip
  refine Zx [] ZK hnt λ _ z9=>z9 _ _ ?_
  exact Y4 (VS.toK (by omega) (by repeat first | exact trivial | refine And.intro (And.intro (by first | rfl | simp[D.ok,D.oks,D.okss,D.okm,Xi,X7,YQ]) (by first | exact Or.inl rfl | exact Or.inr ⟨_,rfl,(by repeat first | exact Zm.refl _ | exact Zm.nil _ | exact Zm.untag _ _ _ | refine Zm.ag ?_ | refine Zm.tu ?_ | refine ZO.cons ?_ ?_ | exact ZO.nil),trivial⟩ | simp[get,Key.eq,YQ])) ?_))
 refine DW.vs (VS.rowT (x:=3) (by rw[hnt];decide) 104 2 rfl) ?_
 refine Zz ?_;refine Zz ?_;refine Zx [] ZK hnt λ _ z9=>z9 _ _ ?_;refine Zt ?_
 refine Z6 (ι:={ j:Nat // j<=l.length }) (λ j=>[(.t 0,.sl 2 (eTys l) none),(.t 3,.sl 2 (eTys (l.take j.1)) (some 0)),(.t 4,.v (.int .i64 ↑j.1)),(.r 0,.rw 104 2 j.1)]) 1 (λ j=>l.length-j.1) (⟨0,Nat.zero_le _⟩) ((VS.toK (by omega) (by repeat first | exact trivial | refine And.intro (And.intro (by first | rfl | simp[D.ok,D.oks,D.okss,D.okm,Xi,X7,YQ]) (by first | exact Or.inl rfl | exact Or.inr ⟨_,rfl,(by repeat first | exact Zm.refl _ | exact Zm.nil _ | exact Zm.untag _ _ _ | refine Zm.ag ?_ | refine Zm.tu ?_ | refine ZO.cons ?_ ?_ | exact ZO.nil),trivial⟩ | simp[get,Key.eq,YQ])) ?_))) λ j=>?_
 obtain⟨j,hj⟩:=j
 dsimp only
 by_cases hlt:j<l.length
 ·have hsz:=Ty.size_mem (List.getElem_mem hlt)
  have hc:=Ia l[j] (by omega)
  rw[Zc] at hc
  have hl1:=Wo l j hj
  have hl2:=Wo l (j+1) hlt
  refine Zz ?_;refine Zz ?_;refine Zx [(7,.v (.int .i64 (↑l.length))),(8,.v (.bool true))] ZK hnt λ K hK=>?_;refine And.intro (Zr (by rw[Zs])) ?_;refine And.intro Xd ?_;refine hK _ _ ?_;clear hK K;refine Zy (t:=true) rfl ?_;rw[if_pos rfl];refine Zw ?_;refine Zz ?_;refine Zt ?_;refine Zx [(14,.q [.sl 2 (eTys l[j].args) none,.v (.int .i64 l[j].base)])] ZK hnt λ K hK=>?_
  refine And.intro (XQ (Zs l)) ?_;refine And.intro (XR (ZV l j) (Zc _)) ?_;refine Zk (hc) ?_;refine And.intro (⟨by omega,by rw[hl1];simp;omega⟩) ?_;refine hK _ _ ?_;clear hK K
  rw[Va l j hlt,hl2]
  refine Zx [(10,.v (.int .i64 (↑(j+1))))] ZK hnt λ K hK=>?_;refine And.intro Ww ?_;refine hK _ _ ?_;clear hK K
  refine⟨⟨j+1,hlt⟩,by first | omega | (dsimp only;omega),VS.toA⟩
 rw[List.take_of_length_le (by omega)]
 refine Zz ?_;refine Zz ?_;refine Zx [(7,.v (.int .i64 (↑l.length))),(8,.v (.bool false))] ZK hnt λ K hK=>?_;refine And.intro (Zr (by rw[Zs])) ?_;refine And.intro X5 ?_;refine hK _ _ ?_;clear hK K;refine Zy (t:=false) rfl ?_;rw[if_neg (by simp)];refine Zg ?_;refine Zz ?_;refine Zx [] ZK hnt λ _ z9=>z9 _ _ ?_;refine Zv ?_
 exact Zi rfl
theorem PM : ∀ t : Tm, t.full <= 900000 -> Zh Tryz.prog 27 [.ag (eTm t)] (.ag (eTm t)) := by
  intro t
  induction t using Tm.ind with
  | h bs k i ar ih =>
    intro hz
    rw [Tm.full_eq] at hz
    have hbs := TK bs (by omega)
    have hal : ar.length <= Tm.fulls ar := by
      clear ih hz
      induction ar with
      | nil => simp
      | cons u l ih => have : 1 <= u.full := by obtain ⟨b, k, i, a⟩ := u; rw [Tm.full_eq]; omega
                       simp only [List.length_cons, Tm.fulls]; omega
    rw [Zu]
    dsimp only [Tm.binds, Tm.kind, Tm.index, Tm.args]
    refine Zn 0 35 [ResultVar.cell 2 62] ZK Tryz.func27 rfl Tryz.ntmps27 rfl λ cx hnt hn0 => ?_
    skip
    refine Zz ?_
    refine Zx [] ZK hnt λ K hK => ?_
    refine hK _ _ ?_; clear hK K
    refine Zz ?_
    refine ZQ [] ZK hnt λ K hK => ?_
    refine Zk (hbs) ?_
    refine hK _ _ (by kernel_rfl) ?_; clear hK K
    refine DW.vs (VS.row (k := 13) (off := 3) 62 4 rfl) ?_
    refine Zz ?_
    refine Zz ?_
    refine Zx [] ZK hnt λ K hK => ?_
    refine hK _ _ ?_; clear hK K
    refine Zt ?_
    refine Z6 (ι := { j : Nat // j <= ar.length }) (λ j => [(.t 1, .p 0 0), (.t 2, .p 1 0), (.t 3, .p 13 0), (.t 4, .v (.int .i64 ↑j.1)), (.c 0 0, .sl 2 (eTys bs) none), (.c 0 1, .v (.int .i64 k)), (.c 0 2, .v (.int .i64 i)), (.c 0 3, .sl 4 (eTms ar) none), (.c 1 0, .v (.slice none 0 0)), (.c 1 1, .v (.int .i64 0)), (.c 1 2, .v (.int .i64 0)), (.c 1 3, .v (.slice none 0 0)), (.c 13 0, .sl 2 (eTys bs) none), (.c 13 1, .v (.int .i64 k)), (.c 13 2, .v (.int .i64 i)), (.c 13 3, .sl 4 (eTms (ar.take j.1)) (some 15)), (.r 15, .rw 62 4 j.1)]) 16 (λ j => ar.length - j.1) (⟨0, Nat.zero_le _⟩) ((VS.toK (by omega) (by repeat first | exact trivial | refine And.intro (And.intro (by first | rfl | simp [D.ok, D.oks, D.okss, D.okm, Xi, X7, YQ]) (by first | exact Or.inl rfl | exact Or.inr ⟨_, rfl, (by repeat first | exact Zm.refl _ | exact Zm.nil _ | exact Zm.untag _ _ _ | refine Zm.ag ?_ | refine Zm.tu ?_ | refine ZO.cons ?_ ?_ | exact ZO.nil), trivial⟩ | simp [get, Key.eq, YQ])) ?_))) λ j => ?_
    obtain ⟨j, hj⟩ := j
    dsimp only
    by_cases hlt : j < ar.length
    · have hmem := List.getElem_mem hlt
      have hsz := Tm.full_mem hmem
      have hc := ih _ hmem (by omega)
      rw [Zu] at hc
      have hl1 := U3 ar j hj
      have hl2 := U3 ar (j + 1) hlt
      refine Zz ?_
      refine Zz ?_
      refine Zx [(19, .v (.int .i64 (↑ar.length))), (20, .v (.bool true))] ZK hnt λ K hK => ?_
      refine And.intro (Zr (by rw [Zq])) ?_
      refine And.intro Xd ?_
      refine hK _ _ ?_; clear hK K
      refine Zy (t := true) rfl ?_
      rw [if_pos rfl]
      refine Zw ?_
      refine Zz ?_
      refine Zt ?_
      refine ZQ [(28, .q [.sl 2 (eTys ar[j].binds) none, .v (.int .i64 ar[j].kind), .v (.int .i64 ar[j].index), .sl 4 (eTms ar[j].args) none])] ZK hnt λ K hK => ?_
      refine And.intro (XQ (Zq ar)) ?_
      refine And.intro (XR (ZT ar j) (Zu _)) ?_
      refine Zk (hc) ?_
      refine And.intro (⟨by omega, by rw [hl1]; simp; omega⟩) ?_
      refine hK _ _ (by kernel_rfl) ?_; clear hK K
      rw [RQ ar j hlt, hl2]
      refine Zx [(22, .v (.int .i64 (↑(j + 1))))] ZK hnt λ K hK => ?_
      refine And.intro Ww ?_
      refine hK _ _ ?_; clear hK K
      refine ⟨⟨j + 1, hlt⟩, by first | omega | (dsimp only; omega), VS.toA⟩
    rw [List.take_of_length_le (by omega)]
    refine Zz ?_
    refine Zz ?_
    refine Zx [(19, .v (.int .i64 (↑ar.length))), (20, .v (.bool false))] ZK hnt λ K hK => ?_
    refine And.intro (Zr (by rw [Zq])) ?_
    refine And.intro X5 ?_
    refine hK _ _ ?_; clear hK K
    refine Zy (t := false) rfl ?_
    rw [if_neg (by simp)]
    refine Zg ?_
    refine Zz ?_
    refine Zx [] ZK hnt λ K hK => ?_
    refine hK _ _ ?_; clear hK K
    refine Zv ?_
    exact Zi rfl
theorem Oz : ∀ t : Tm, t.full <= 900000 -> Zh Tryz.prog 31 [.ag (eTm t)] (.ag (eTm t)) := by
  intro t
  induction t using Tm.ind with
  | h bs k i ar ih =>
    intro hz
    rw [Tm.full_eq] at hz
    have hbs := OF bs (by omega)
    have hal : ar.length <= Tm.fulls ar := by
      clear ih hz
      induction ar with
      | nil => simp
      | cons u l ih => have : 1 <= u.full := by obtain ⟨b, k, i, a⟩ := u; rw [Tm.full_eq]; omega
                       simp only [List.length_cons, Tm.fulls]; omega
    rw [Zu]
    dsimp only [Tm.binds, Tm.kind, Tm.index, Tm.args]
    refine Zn 0 35 [ResultVar.cell 2 31] ZK Tryz.func31 rfl Tryz.ntmps31 rfl λ cx hnt hn0 => ?_
    skip
    refine Zz ?_
    refine Zx [] ZK hnt λ K hK => ?_
    refine hK _ _ ?_; clear hK K
    refine Zz ?_
    refine ZQ [] ZK hnt λ K hK => ?_
    refine Zk (hbs) ?_
    refine hK _ _ (by kernel_rfl) ?_; clear hK K
    refine DW.vs (VS.row (k := 13) (off := 3) 31 4 rfl) ?_
    refine Zz ?_
    refine Zz ?_
    refine Zx [] ZK hnt λ K hK => ?_
    refine hK _ _ ?_; clear hK K
    refine Zt ?_
    refine Z6 (ι := { j : Nat // j <= ar.length }) (λ j => [(.t 1, .p 0 0), (.t 2, .p 1 0), (.t 3, .p 13 0), (.t 4, .v (.int .i64 ↑j.1)), (.c 0 0, .sl 2 (eTys bs) none), (.c 0 1, .v (.int .i64 k)), (.c 0 2, .v (.int .i64 i)), (.c 0 3, .sl 4 (eTms ar) none), (.c 1 0, .v (.slice none 0 0)), (.c 1 1, .v (.int .i64 0)), (.c 1 2, .v (.int .i64 0)), (.c 1 3, .v (.slice none 0 0)), (.c 13 0, .sl 2 (eTys bs) none), (.c 13 1, .v (.int .i64 k)), (.c 13 2, .v (.int .i64 i)), (.c 13 3, .sl 4 (eTms (ar.take j.1)) (some 15)), (.r 15, .rw 31 4 j.1)]) 16 (λ j => ar.length - j.1) (⟨0, Nat.zero_le _⟩) ((VS.toK (by omega) (by repeat first | exact trivial | refine And.intro (And.intro (by first | rfl | simp [D.ok, D.oks, D.okss, D.okm, Xi, X7, YQ]) (by first | exact Or.inl rfl | exact Or.inr ⟨_, rfl, (by repeat first | exact Zm.refl _ | exact Zm.nil _ | exact Zm.untag _ _ _ | refine Zm.ag ?_ | refine Zm.tu ?_ | refine ZO.cons ?_ ?_ | exact ZO.nil), trivial⟩ | simp [get, Key.eq, YQ])) ?_))) λ j => ?_
    obtain ⟨j, hj⟩ := j
    dsimp only
    by_cases hlt : j < ar.length
    · have hmem := List.getElem_mem hlt
      have hsz := Tm.full_mem hmem
      have hc := ih _ hmem (by omega)
      rw [Zu] at hc
      have hl1 := U3 ar j hj
      have hl2 := U3 ar (j + 1) hlt
      refine Zz ?_
      refine Zz ?_
      refine Zx [(19, .v (.int .i64 (↑ar.length))), (20, .v (.bool true))] ZK hnt λ K hK => ?_
      refine And.intro (Zr (by rw [Zq])) ?_
      refine And.intro Xd ?_
      refine hK _ _ ?_; clear hK K
      refine Zy (t := true) rfl ?_
      rw [if_pos rfl]
      refine Zw ?_
      refine Zz ?_
      refine Zt ?_
      refine ZQ [(28, .q [.sl 2 (eTys ar[j].binds) none, .v (.int .i64 ar[j].kind), .v (.int .i64 ar[j].index), .sl 4 (eTms ar[j].args) none])] ZK hnt λ K hK => ?_
      refine And.intro (XQ (Zq ar)) ?_
      refine And.intro (XR (ZT ar j) (Zu _)) ?_
      refine Zk (hc) ?_
      refine And.intro (⟨by omega, by rw [hl1]; simp; omega⟩) ?_
      refine hK _ _ (by kernel_rfl) ?_; clear hK K
      rw [RQ ar j hlt, hl2]
      refine Zx [(22, .v (.int .i64 (↑(j + 1))))] ZK hnt λ K hK => ?_
      refine And.intro Ww ?_
      refine hK _ _ ?_; clear hK K
      refine ⟨⟨j + 1, hlt⟩, by first | omega | (dsimp only; omega), VS.toA⟩
    rw [List.take_of_length_le (by omega)]
    refine Zz ?_
    refine Zz ?_
    refine Zx [(19, .v (.int .i64 (↑ar.length))), (20, .v (.bool false))] ZK hnt λ K hK => ?_
    refine And.intro (Zr (by rw [Zq])) ?_
    refine And.intro X5 ?_
    refine hK _ _ ?_; clear hK K
    refine Zy (t := false) rfl ?_
    rw [if_neg (by simp)]
    refine Zg ?_
    refine Zz ?_
    refine Zx [] ZK hnt λ K hK => ?_
    refine hK _ _ ?_; clear hK K
    refine Zv ?_
    exact Zi rfl
def TPR_33:TI:=⟨9,true,[Value.slice none 0 0,Value.int IntKind.i64 0,Value.int IntKind.i64 0,Value.slice none 0 0,Value.slice none 0 0,Value.int IntKind.i64 0,Value.int IntKind.i64 0,Value.slice none 0 0,Value.slice none 0 0],[(0,4,true),(4,4,true),(8,1,false)],none,152,6,none,false⟩
theorem XX:TypOk Tryz.prog 33 TPR_33:=by constructor <;> kernel_rfl
def TPR_64:TI:=⟨9,true,[Value.slice none 0 0,Value.int IntKind.i64 0,Value.int IntKind.i64 0,Value.slice none 0 0,Value.slice none 0 0,Value.int IntKind.i64 0,Value.int IntKind.i64 0,Value.slice none 0 0,Value.slice none 0 0],[(0,4,true),(4,4,true),(8,1,false)],none,152,6,none,false⟩
theorem Yk:TypOk Tryz.prog 64 TPR_64:=by constructor <;> kernel_rfl
def TPR_25:TI:=⟨1,false,[Value.slice none 0 0],[],some 33,24,5,none,false⟩
theorem W9:TypOk Tryz.prog 25 TPR_25:=by constructor <;> kernel_rfl
def TPR:List (Nat×TI):=[(33,TPR_33),(31,TTM_31),(22,TTY_22),(64,TPR_64),(25,TPR_25),(3,TG_3),(62,TG_62),(29,TTM_29),(104,TTY_104),(41,TG_41),(24,TS9_24),(106,TG_106)]
theorem ZD:Zd Tryz.prog TPR:=(((((((((((((Zd.nil _).cons Yx).cons Xy).cons Ym).cons Yy).cons Y5).cons Yu).cons ZW).cons W9).cons Yk).cons Yo).cons Yl).cons XX)
namespace Li
structure Pr where
 l:Tm
 r:Tm
 m:List Ty
instance:DecidableEq Pr:=λ p q=>decidable_of_iff (p.l=q.l/\p.r=q.r/\p.m=q.m) (by cases p;cases q;simp)
def Pr.z:Pr:=⟨Tm.zero,Tm.zero,[]⟩
end Li
def WG (p:Li.Pr):List D:=[.sl 2 (eTys p.l.binds) none,.v (.int .i64 p.l.kind),.v (.int .i64 p.l.index),.sl 4 (eTms p.l.args) none,.sl 2 (eTys p.r.binds) none,.v (.int .i64 p.r.kind),.v (.int .i64 p.r.index),.sl 4 (eTms p.r.args) none,.sl 2 (eTys p.m) none]
theorem T8 (L R:Tm)(M:List Ty):WG ⟨L,R,M⟩=[.sl 2 (eTys L.binds) none,.v (.int .i64 L.kind),.v (.int .i64 L.index),.sl 4 (eTms L.args) none,.sl 2 (eTys R.binds) none,.v (.int .i64 R.kind),.v (.int .i64 R.index),.sl 4 (eTms R.args) none,.sl 2 (eTys M) none]:=rfl
theorem Ys (p:Li.Pr):WG p=[.sl 2 (eTys p.l.binds) none,.v (.int .i64 p.l.kind),.v (.int .i64 p.l.index),.sl 4 (eTms p.l.args) none,.sl 2 (eTys p.r.binds) none,.v (.int .i64 p.r.kind),.v (.int .i64 p.r.index),.sl 4 (eTms p.r.args) none,.sl 2 (eTys p.m) none]:=rfl
@[simp] theorem IG (f g:Nat->Bool) (p:Li.Pr):D.oks f g (WG p)=true:=by simp[WG,D.oks,D.ok]
def Yt (l:List Li.Pr):List (List D):=l.map WG
theorem Z4 (l:List Li.Pr):(Yt l).length=l.length:=List.length_map ..
theorem XC (l:List Li.Pr)(i:Nat)(h:i<l.length):(Yt l).getD i []=WG l[i]:=by
 rw[Yt,List.getD_eq_getElem?_getD,List.getElem?_map,List.getElem?_eq_getElem h];rfl
@[simp] theorem TB (f g:Nat->Bool) (l:List Li.Pr):D.okss f g (Yt l)=true:=D.okss_map _ l λ l _=>IG f g l
theorem PL (p:Li.Pr)(h1:p.l.full<=900000)(h2:p.r.full<=900000)(h3:Ty.sizes p.m<=900000):Zh Tryz.prog 21 [.ag (WG p)] (.ag (WG p)):=by
 obtain⟨L,R,M⟩:=p
 have c1:=PM L h1
 have c2:=PM R h2
 have c3:=TK M h3
 rw[Zu] at c1 c2
 rw[T8]
 refine Zn 0 13 [ResultVar.cell 2 64] ZD Tryz.func21 rfl Tryz.ntmps21 rfl λ cx hnt hn0=>?_
 skip
 refine Zz ?_;refine Zx [] ZD hnt λ _ z9=>z9 _ _ ?_;refine Zz ?_;refine ZQ [] ZD hnt λ K hK=>?_;refine Zk (c1) ?_;refine Zk (c2) ?_;refine Zk (c3) ?_;refine hK _ _ (by kernel_rfl) ?_;clear hK K;refine Zv ?_
 exact Zi rfl
theorem I1 (p:Li.Pr)(h1:p.l.full<=900000)(h2:p.r.full<=900000)(h3:Ty.sizes p.m<=900000):Zh Tryz.prog 45 [.ag (WG p)] (.ag (WG p)):=by
 obtain⟨L,R,M⟩:=p
 have c1:=Oz L h1
 have c2:=Oz R h2
 have c3:=OF M h3
 rw[Zu] at c1 c2
 rw[T8]
 refine Zn 0 13 [ResultVar.cell 2 33] ZD Tryz.func45 rfl Tryz.ntmps45 rfl λ cx hnt hn0=>?_
 skip
 refine Zz ?_;refine Zx [] ZD hnt λ _ z9=>z9 _ _ ?_;refine Zz ?_;refine ZQ [] ZD hnt λ K hK=>?_;refine Zk (c1) ?_;refine Zk (c2) ?_;refine Zk (c3) ?_;refine hK _ _ (by kernel_rfl) ?_;clear hK K;refine Zv ?_
 exact Zi rfl
theorem N9 (l r:List Ty)(hl:l.length<=1000000)(hr:r.length<=1000000):Zh Tryz.prog 50 [.sl 2 (eTys l) none,.sl 2 (eTys r) none] (.v (.bool (decide (l=r)))):=by
 by_cases hlr:l.length=r.length
 ·skip
  refine Zn 0 27 [ResultVar.tmp 4] ZD Tryz.func50 rfl Tryz.ntmps50 rfl λ cx hnt hn0=>?_
  skip
  refine Zz ?_;refine Zx [] ZD hnt λ _ z9=>z9 _ _ ?_;refine Zz ?_;refine Zz ?_;refine Zx [(7,.v (.int .i64 (↑l.length))),(9,.v (.int .i64 (↑r.length))),(10,.v (.bool false))] ZD hnt λ K hK=>?_;refine And.intro (Zr (by rw[Zs])) ?_;refine And.intro (Zr (by rw[Zs])) ?_;refine And.intro (Yq (by omega)) ?_;refine hK _ _ ?_;clear hK K
  refine Zy (t:=false) rfl ?_;rw[if_neg (by simp)];refine Zw ?_;refine Zz ?_;refine Zz ?_;refine Zx [] ZD hnt λ _ z9=>z9 _ _ ?_;refine Zt ?_
  refine Z6 (ι:={ j:Nat // l.take j=r.take j }) (λ j=>[(.t 0,.sl 2 (eTys l) none),(.t 1,.sl 2 (eTys r) none),(.t 5,.v (.int .i64 ↑j.1))]) 2 (λ j=>l.length-j.1) (⟨0,rfl⟩) (VS.toA) λ j=>?_
  obtain⟨j,hj⟩:=j
  dsimp only
  by_cases hlt:j<l.length
  ·have hlt2:j<r.length:=by omega
   have hq:=QQ l[j] r[j]
   rw[Zc,Zc] at hq
   by_cases he:l[j]=r[j]
   ·rw[decide_eq_true he] at hq
    refine Zz ?_;refine Zz ?_;refine Zx [(13,.v (.int .i64 (↑l.length))),(14,.v (.bool true))] ZD hnt λ K hK=>?_;refine And.intro (Zr (by rw[Zs])) ?_;refine And.intro Xd ?_;refine hK _ _ ?_;clear hK K;refine Zy (t:=true) rfl ?_;rw[if_pos rfl];refine Zw ?_;refine Zz ?_;refine Zt ?_;refine Zz ?_;refine ZQ [(19,.q [.sl 2 (eTys l[j].args) none,.v (.int .i64 l[j].base)]),(23,.q [.sl 2 (eTys r[j].args) none,.v (.int .i64 r[j].base)])] ZD hnt λ K hK=>?_
    refine And.intro (XQ (Zs l)) ?_;refine And.intro (XR (ZV l j) (Zc _)) ?_;refine And.intro (XQ (Zs r)) ?_;refine And.intro (XR (ZV r j) (Zc _)) ?_;refine Zk (hq) ?_;refine hK _ _ (by kernel_rfl) ?_;clear hK K;refine Zy (t:=false) rfl ?_;rw[if_neg (by simp)];refine Zw ?_;refine Zx [(16,.v (.int .i64 (↑(j+1))))] ZD hnt λ K hK=>?_
    refine And.intro Ww ?_;refine hK _ _ ?_;clear hK K
    refine⟨⟨j+1,XG hj hlt hlt2 he⟩,by first | omega | (dsimp only;omega),VS.toA⟩
   rw[decide_eq_false he] at hq
   rw[decide_eq_false (R4 hlt hlt2 he)]
   refine Zz ?_;refine Zz ?_;refine Zx [(13,.v (.int .i64 (↑l.length))),(14,.v (.bool true))] ZD hnt λ K hK=>?_;refine And.intro (Zr (by rw[Zs])) ?_;refine And.intro Xd ?_;refine hK _ _ ?_;clear hK K;refine Zy (t:=true) rfl ?_;rw[if_pos rfl];refine Zw ?_;refine Zz ?_;refine Zt ?_;refine Zz ?_;refine ZQ [(19,.q [.sl 2 (eTys l[j].args) none,.v (.int .i64 l[j].base)]),(23,.q [.sl 2 (eTys r[j].args) none,.v (.int .i64 r[j].base)])] ZD hnt λ K hK=>?_
   refine And.intro (XQ (Zs l)) ?_;refine And.intro (XR (ZV l j) (Zc _)) ?_;refine And.intro (XQ (Zs r)) ?_;refine And.intro (XR (ZV r j) (Zc _)) ?_;refine Zk (hq) ?_;refine hK _ _ (by kernel_rfl) ?_;clear hK K;refine Zy (t:=true) rfl ?_;rw[if_pos rfl];refine Zz ?_;refine Zx [] ZD hnt λ _ z9=>z9 _ _ ?_;refine Zv ?_
   exact Zi rfl
  rw[decide_eq_true (W7 hj (by omega) (by omega))]
  refine Zz ?_;refine Zz ?_;refine Zx [(13,.v (.int .i64 (↑l.length))),(14,.v (.bool false))] ZD hnt λ K hK=>?_;refine And.intro (Zr (by rw[Zs])) ?_;refine And.intro X5 ?_;refine hK _ _ ?_;clear hK K;refine Zy (t:=false) rfl ?_;rw[if_neg (by simp)];refine Zg ?_;refine Zz ?_;refine Zx [] ZD hnt λ _ z9=>z9 _ _ ?_
  refine Zv ?_
  exact Zi rfl
 rw[decide_eq_false (λ e=>hlr (by rw[e]))]
 refine Zn 0 27 [ResultVar.tmp 4] ZD Tryz.func50 rfl Tryz.ntmps50 rfl λ cx hnt hn0=>?_
 skip
 refine Zz ?_;refine Zx [] ZD hnt λ _ z9=>z9 _ _ ?_;refine Zz ?_;refine Zz ?_;refine Zx [(7,.v (.int .i64 (↑l.length))),(9,.v (.int .i64 (↑r.length))),(10,.v (.bool true))] ZD hnt λ K hK=>?_;refine And.intro (Zr (by rw[Zs])) ?_;refine And.intro (Zr (by rw[Zs])) ?_;refine And.intro (YO (by omega)) ?_;refine hK _ _ ?_;clear hK K
 refine Zy (t:=true) rfl ?_;rw[if_pos rfl];refine Zz ?_;refine Zx [] ZD hnt λ _ z9=>z9 _ _ ?_;refine Zv ?_
 exact Zi rfl
theorem MS (p q:Li.Pr)(h1:p.m.length<=1000000)(h2:q.m.length<=1000000):Zh Tryz.prog 17 [.ag (WG p),.ag (WG q)] (.v (.bool (decide (p=q)))):=by
 obtain⟨L,R,M⟩:=p
 obtain⟨L',R',M'⟩:=q
 have c1:=TJ L L'
 have c2:=TJ R R'
 have c3:=N9 M M' h1 h2
 have e:decide ((⟨L,R,M⟩:Li.Pr)=⟨L',R',M'⟩)=((decide (L=L')&&decide (R=R'))&&decide (M=M')):=by
  rw[Bool.eq_iff_iff];simp[and_assoc]
 rw[e]
 rw[Zu L,Zu L'] at c1
 rw[Zu R,Zu R'] at c2
 rw[T8,T8]
 cases hA:decide (L=L') with
 | false=>
  rw[hA] at c1
  rw[Bool.false_and,Bool.false_and]
  refine Zn 0 24 [ResultVar.tmp 4] ZD Tryz.func17 rfl Tryz.ntmps17 rfl λ cx hnt hn0=>?_
  skip
  refine Zz ?_;refine Zx [] ZD hnt λ _ z9=>z9 _ _ ?_;refine Zz ?_;refine Zx [] ZD hnt λ K hK=>?_;refine Zk (c1) ?_;refine hK _ _ ?_;clear hK K;refine Zv ?_
  exact Zi rfl
 | true=>
  rw[hA] at c1
  cases hB:decide (R=R') with
  | false=>
   rw[hB] at c2
   rw[Bool.and_false,Bool.false_and]
   refine Zn 0 24 [ResultVar.tmp 4] ZD Tryz.func17 rfl Tryz.ntmps17 rfl λ cx hnt hn0=>?_
   skip
   refine Zz ?_;refine Zx [] ZD hnt λ _ z9=>z9 _ _ ?_;refine Zz ?_;refine Zx [] ZD hnt λ K hK=>?_;refine Zk (c1) ?_;refine Zk (c2) ?_;refine hK _ _ ?_;clear hK K;refine Zv ?_
   exact Zi rfl
  | true=>
   rw[hB] at c2
   rw[Bool.and_true,Bool.true_and]
   refine Zn 0 24 [ResultVar.tmp 4] ZD Tryz.func17 rfl Tryz.ntmps17 rfl λ cx hnt hn0=>?_
   skip
   refine Zz ?_;refine Zx [] ZD hnt λ _ z9=>z9 _ _ ?_;refine Zz ?_;refine Zx [] ZD hnt λ K hK=>?_;refine Zk (c1) ?_;refine Zk (c2) ?_;refine Zk (c3) ?_;refine hK _ _ ?_;clear hK K;refine Zv ?_
   exact Zi rfl
/-! Few -/
def VA (p:Li.Pr):Bool:=(([p.l,p.r].all Uz)&&(decide (p.m.length<=20)&&p.m.all Vy))&&lowsB [p.l,p.r]
theorem QU (X:List Ty):Zh Tryz.prog 8 [.ag [.v (.int .i64 0),.sl 2 (eTys []) none,.sl 2 (eTys []) none],.sl 2 (eTys X) none] (.v (.bool (decide (X.length<=20)&&X.all Vy))):=by
 by_cases h:X.length<=20
 ·have:=ON 0 [] [] X (by simp) (by simp) h
  rw[List.append_nil,List.nil_append] at this
  rw[decide_eq_true h,Bool.true_and];exact this
 rw[decide_eq_false h,Bool.false_and]
 exact QV 0 [] [] X (λ h2=>h h2.2.2)
theorem Qk {p:Li.Pr}(h:VA p=true):(p.l.full<=150/\p.r.full<=150)/\p.m.length<=20/\(∀ t∈p.m,t.size<=60):=by
 unfold VA at h
 simp only[Bool.and_eq_true,List.all_cons,List.all_nil,and_true,decide_eq_true_eq] at h
 exact⟨⟨(Wp h.1.1.1).1,(Wp h.1.1.2).1⟩,h.1.2.1,λ t ht=>Og (List.all_eq_true.1 h.1.2.2 t ht)⟩
set_option maxHeartbeats 2000000 in
theorem Nq (l:List Li.Pr)(hl:l.length<=1000000):Zh Tryz.prog 10 [.sl 9 (Yt l) none] (.v (.bool (l.all VA))):=by
 refine Zn 0 48 [ResultVar.tmp 2] ZD Tryz.func10 rfl Tryz.ntmps10 rfl λ cx hnt hn0=>?_
 skip
 refine Zz ?_;refine Zx [] ZD hnt λ _ z9=>z9 _ _ ?_;refine Zz ?_;refine Zz ?_;refine Zx [] ZD hnt λ _ z9=>z9 _ _ ?_;refine Zt ?_
 refine Z6 (ι:={ j:Nat // ∀ i (h:i<l.length),i<j->VA l[i]=true }) (λ j=>[(.t 0,.sl 9 (Yt l) none),(.t 3,.v (.int .i64 ↑j.1))]) 1 (λ j=>l.length-j.1) (⟨0,λ i h1 h2=>by omega⟩) (VS.toA) λ j=>?_
 obtain⟨j,hj⟩:=j
 dsimp only
 by_cases hlt:j<l.length
 ·obtain⟨p,hp⟩:∃ p,l[j]=p:=⟨_,rfl⟩
  have hgd:(Yt l).getD j []=[.sl 2 (eTys p.l.binds) none,.v (.int .i64 p.l.kind),.v (.int .i64 p.l.index),.sl 4 (eTms p.l.args) none,.sl 2 (eTys p.r.binds) none,.v (.int .i64 p.r.kind),.v (.int .i64 p.r.index),.sl 4 (eTms p.r.args) none,.sl 2 (eTys p.m) none]:=by rw[XC l j hlt,hp,Ys]
  have hF:=S0 [p.l,p.r] (by simp)
  have hS:=QU p.m
  have hbad:VA p=false->l.all VA=false:=λ h=>by rw[List.all_eq_false];exact⟨l[j],List.getElem_mem hlt,by rw[hp,h];simp⟩
  have e2:eTms [p.l,p.r]=[[.sl 2 (eTys p.l.binds) none,.v (.int .i64 p.l.kind),.v (.int .i64 p.l.index),.sl 4 (eTms p.l.args) none],[.sl 2 (eTys p.r.binds) none,.v (.int .i64 p.r.kind),.v (.int .i64 p.r.index),.sl 4 (eTms p.r.args) none]]:=by rw[<-Zu,<-Zu];rfl
  cases h1:[p.l,p.r].all Uz with
  | false=>
   rw[h1] at hF
   rw[hbad (by rw[VA,h1];rfl)]
   refine Zz ?_;refine Zz ?_;refine Zx [(6,.v (.int .i64 (↑l.length))),(7,.v (.bool true))] ZD hnt λ K hK=>?_;refine And.intro (Zr (by rw[Z4])) ?_;refine And.intro Xd ?_;refine hK _ _ ?_;clear hK K;refine Zy (t:=true) rfl ?_;rw[if_pos rfl];refine Zw ?_;refine Zz ?_;refine Zt ?_;refine Zz ?_;refine ZQ [(12,.q [.sl 2 (eTys p.l.binds) none,.v (.int .i64 p.l.kind),.v (.int .i64 p.l.index),.sl 4 (eTms p.l.args) none,.sl 2 (eTys p.r.binds) none,.v (.int .i64 p.r.kind),.v (.int .i64 p.r.index),.sl 4 (eTms p.r.args) none,.sl 2 (eTys p.m) none]),(17,.q [.sl 2 (eTys p.l.binds) none,.v (.int .i64 p.l.kind),.v (.int .i64 p.l.index),.sl 4 (eTms p.l.args) none,.sl 2 (eTys p.r.binds) none,.v (.int .i64 p.r.kind),.v (.int .i64 p.r.index),.sl 4 (eTms p.r.args) none,.sl 2 (eTys p.m) none]),(20,.sl 4 (eTms [p.l,p.r]) none)] ZD hnt λ K hK=>?_
   refine And.intro (⟨by omega,by rw[Z4];omega⟩) ?_;refine And.intro (Zm.of_eq (by rw[Int.toNat_natCast,hgd])) ?_;refine And.intro (⟨by omega,by rw[Z4];omega⟩) ?_;refine And.intro (Zm.of_eq (by rw[Int.toNat_natCast,hgd])) ?_;refine And.intro ((by rw[e2];exact Zm.untag _ _ _)) ?_;refine Zk (hF) ?_;refine hK _ _ (by kernel_rfl) ?_;clear hK K;refine Zy (t:=true) rfl ?_
   rw[if_pos rfl];refine Zz ?_;refine Zx [] ZD hnt λ _ z9=>z9 _ _ ?_;refine Zv ?_
   exact Zi rfl
  | true=>
   rw[h1] at hF
   cases h2:(decide (p.m.length<=20)&&p.m.all Vy) with
   | false=>
    rw[h2] at hS
    rw[hbad (by rw[VA,h1,h2];rfl)]
    refine Zz ?_;refine Zz ?_;refine Zx [(6,.v (.int .i64 (↑l.length))),(7,.v (.bool true))] ZD hnt λ K hK=>?_;refine And.intro (Zr (by rw[Z4])) ?_;refine And.intro Xd ?_;refine hK _ _ ?_;clear hK K;refine Zy (t:=true) rfl ?_;rw[if_pos rfl];refine Zw ?_;refine Zz ?_;refine Zt ?_;refine Zz ?_;refine ZQ [(12,.q [.sl 2 (eTys p.l.binds) none,.v (.int .i64 p.l.kind),.v (.int .i64 p.l.index),.sl 4 (eTms p.l.args) none,.sl 2 (eTys p.r.binds) none,.v (.int .i64 p.r.kind),.v (.int .i64 p.r.index),.sl 4 (eTms p.r.args) none,.sl 2 (eTys p.m) none]),(17,.q [.sl 2 (eTys p.l.binds) none,.v (.int .i64 p.l.kind),.v (.int .i64 p.l.index),.sl 4 (eTms p.l.args) none,.sl 2 (eTys p.r.binds) none,.v (.int .i64 p.r.kind),.v (.int .i64 p.r.index),.sl 4 (eTms p.r.args) none,.sl 2 (eTys p.m) none]),(20,.sl 4 (eTms [p.l,p.r]) none),(24,.ag [.v (.int .i64 0),.sl 2 (eTys []) none,.sl 2 (eTys []) none]),(27,.q [.sl 2 (eTys p.l.binds) none,.v (.int .i64 p.l.kind),.v (.int .i64 p.l.index),.sl 4 (eTms p.l.args) none,.sl 2 (eTys p.r.binds) none,.v (.int .i64 p.r.kind),.v (.int .i64 p.r.index),.sl 4 (eTms p.r.args) none,.sl 2 (eTys p.m) none])] ZD hnt λ K hK=>?_
    refine And.intro (⟨by omega,by rw[Z4];omega⟩) ?_;refine And.intro (Zm.of_eq (by rw[Int.toNat_natCast,hgd])) ?_;refine And.intro (⟨by omega,by rw[Z4];omega⟩) ?_;refine And.intro (Zm.of_eq (by rw[Int.toNat_natCast,hgd])) ?_;refine And.intro ((by rw[e2];exact Zm.untag _ _ _)) ?_;refine Zk (hF) ?_;refine And.intro (XP) ?_;refine And.intro (⟨by omega,by rw[Z4];omega⟩) ?_
    refine And.intro (Zm.of_eq (by rw[Int.toNat_natCast,hgd])) ?_;refine Zk (hS) ?_;refine hK _ _ (by kernel_rfl) ?_;clear hK K;refine Zy (t:=true) rfl ?_;rw[if_pos rfl];refine Zz ?_;refine Zx [] ZD hnt λ _ z9=>z9 _ _ ?_;refine Zv ?_
    exact Zi rfl
   | true=>
    rw[h2] at hS
    have h1':=h1
    simp only[List.all_cons,List.all_nil,Bool.and_true,Bool.and_eq_true] at h1'
    have hL:=JK [p.l,p.r] (by simp) (λ t ht=>by
     rcases List.mem_cons.1 ht with rfl | ht
     ·exact Wd _ (by have:=(Wp h1'.1).1;omega)
     rw[List.mem_singleton] at ht;subst ht;exact Wd _ (by have:=(Wp h1'.2).1;omega))
    cases h3:lowsB [p.l,p.r] with
    | false=>
     rw[h3] at hL
     rw[hbad (by rw[VA,h1,h2,h3];rfl)]
     refine Zz ?_;refine Zz ?_;refine Zx [(6,.v (.int .i64 (↑l.length))),(7,.v (.bool true))] ZD hnt λ K hK=>?_;refine And.intro (Zr (by rw[Z4])) ?_;refine And.intro Xd ?_;refine hK _ _ ?_;clear hK K;refine Zy (t:=true) rfl ?_;rw[if_pos rfl];refine Zw ?_;refine Zz ?_;refine Zt ?_;refine Zz ?_;refine ZQ [(12,.q [.sl 2 (eTys p.l.binds) none,.v (.int .i64 p.l.kind),.v (.int .i64 p.l.index),.sl 4 (eTms p.l.args) none,.sl 2 (eTys p.r.binds) none,.v (.int .i64 p.r.kind),.v (.int .i64 p.r.index),.sl 4 (eTms p.r.args) none,.sl 2 (eTys p.m) none]),(17,.q [.sl 2 (eTys p.l.binds) none,.v (.int .i64 p.l.kind),.v (.int .i64 p.l.index),.sl 4 (eTms p.l.args) none,.sl 2 (eTys p.r.binds) none,.v (.int .i64 p.r.kind),.v (.int .i64 p.r.index),.sl 4 (eTms p.r.args) none,.sl 2 (eTys p.m) none]),(20,.sl 4 (eTms [p.l,p.r]) none),(24,.ag [.v (.int .i64 0),.sl 2 (eTys []) none,.sl 2 (eTys []) none]),(27,.q [.sl 2 (eTys p.l.binds) none,.v (.int .i64 p.l.kind),.v (.int .i64 p.l.index),.sl 4 (eTms p.l.args) none,.sl 2 (eTys p.r.binds) none,.v (.int .i64 p.r.kind),.v (.int .i64 p.r.index),.sl 4 (eTms p.r.args) none,.sl 2 (eTys p.m) none]),(36,.q [.sl 2 (eTys p.l.binds) none,.v (.int .i64 p.l.kind),.v (.int .i64 p.l.index),.sl 4 (eTms p.l.args) none,.sl 2 (eTys p.r.binds) none,.v (.int .i64 p.r.kind),.v (.int .i64 p.r.index),.sl 4 (eTms p.r.args) none,.sl 2 (eTys p.m) none]),(41,.q [.sl 2 (eTys p.l.binds) none,.v (.int .i64 p.l.kind),.v (.int .i64 p.l.index),.sl 4 (eTms p.l.args) none,.sl 2 (eTys p.r.binds) none,.v (.int .i64 p.r.kind),.v (.int .i64 p.r.index),.sl 4 (eTms p.r.args) none,.sl 2 (eTys p.m) none]),(44,.sl 4 (eTms [p.l,p.r]) none)] ZD hnt λ K hK=>?_
     refine And.intro (⟨by omega,by rw[Z4];omega⟩) ?_;refine And.intro (Zm.of_eq (by rw[Int.toNat_natCast,hgd])) ?_;refine And.intro (⟨by omega,by rw[Z4];omega⟩) ?_;refine And.intro (Zm.of_eq (by rw[Int.toNat_natCast,hgd])) ?_;refine And.intro ((by rw[e2];exact Zm.untag _ _ _)) ?_;refine Zk (hF) ?_;refine And.intro (XP) ?_;refine And.intro (⟨by omega,by rw[Z4];omega⟩) ?_
     refine And.intro (Zm.of_eq (by rw[Int.toNat_natCast,hgd])) ?_;refine Zk (hS) ?_;refine And.intro (⟨by omega,by rw[Z4];omega⟩) ?_;refine And.intro (Zm.of_eq (by rw[Int.toNat_natCast,hgd])) ?_;refine And.intro (⟨by omega,by rw[Z4];omega⟩) ?_;refine And.intro (Zm.of_eq (by rw[Int.toNat_natCast,hgd])) ?_;refine And.intro ((by rw[e2];exact Zm.untag _ _ _)) ?_;refine Zk (hL) ?_
     refine hK _ _ (by kernel_rfl) ?_;clear hK K;refine Zy (t:=true) rfl ?_;rw[if_pos rfl];refine Zz ?_;refine Zx [] ZD hnt λ _ z9=>z9 _ _ ?_;refine Zv ?_
     exact Zi rfl
    | true=>
     rw[h3] at hL
     refine Zz ?_;refine Zz ?_;refine Zx [(6,.v (.int .i64 (↑l.length))),(7,.v (.bool true))] ZD hnt λ K hK=>?_;refine And.intro (Zr (by rw[Z4])) ?_;refine And.intro Xd ?_;refine hK _ _ ?_;clear hK K;refine Zy (t:=true) rfl ?_;rw[if_pos rfl];refine Zw ?_;refine Zz ?_;refine Zt ?_;refine Zz ?_;refine ZQ [(12,.q [.sl 2 (eTys p.l.binds) none,.v (.int .i64 p.l.kind),.v (.int .i64 p.l.index),.sl 4 (eTms p.l.args) none,.sl 2 (eTys p.r.binds) none,.v (.int .i64 p.r.kind),.v (.int .i64 p.r.index),.sl 4 (eTms p.r.args) none,.sl 2 (eTys p.m) none]),(17,.q [.sl 2 (eTys p.l.binds) none,.v (.int .i64 p.l.kind),.v (.int .i64 p.l.index),.sl 4 (eTms p.l.args) none,.sl 2 (eTys p.r.binds) none,.v (.int .i64 p.r.kind),.v (.int .i64 p.r.index),.sl 4 (eTms p.r.args) none,.sl 2 (eTys p.m) none]),(20,.sl 4 (eTms [p.l,p.r]) none),(24,.ag [.v (.int .i64 0),.sl 2 (eTys []) none,.sl 2 (eTys []) none]),(27,.q [.sl 2 (eTys p.l.binds) none,.v (.int .i64 p.l.kind),.v (.int .i64 p.l.index),.sl 4 (eTms p.l.args) none,.sl 2 (eTys p.r.binds) none,.v (.int .i64 p.r.kind),.v (.int .i64 p.r.index),.sl 4 (eTms p.r.args) none,.sl 2 (eTys p.m) none]),(36,.q [.sl 2 (eTys p.l.binds) none,.v (.int .i64 p.l.kind),.v (.int .i64 p.l.index),.sl 4 (eTms p.l.args) none,.sl 2 (eTys p.r.binds) none,.v (.int .i64 p.r.kind),.v (.int .i64 p.r.index),.sl 4 (eTms p.r.args) none,.sl 2 (eTys p.m) none]),(41,.q [.sl 2 (eTys p.l.binds) none,.v (.int .i64 p.l.kind),.v (.int .i64 p.l.index),.sl 4 (eTms p.l.args) none,.sl 2 (eTys p.r.binds) none,.v (.int .i64 p.r.kind),.v (.int .i64 p.r.index),.sl 4 (eTms p.r.args) none,.sl 2 (eTys p.m) none]),(44,.sl 4 (eTms [p.l,p.r]) none)] ZD hnt λ K hK=>?_
     refine And.intro (⟨by omega,by rw[Z4];omega⟩) ?_;refine And.intro (Zm.of_eq (by rw[Int.toNat_natCast,hgd])) ?_;refine And.intro (⟨by omega,by rw[Z4];omega⟩) ?_;refine And.intro (Zm.of_eq (by rw[Int.toNat_natCast,hgd])) ?_;refine And.intro ((by rw[e2];exact Zm.untag _ _ _)) ?_;refine Zk (hF) ?_;refine And.intro (XP) ?_;refine And.intro (⟨by omega,by rw[Z4];omega⟩) ?_
     refine And.intro (Zm.of_eq (by rw[Int.toNat_natCast,hgd])) ?_;refine Zk (hS) ?_;refine And.intro (⟨by omega,by rw[Z4];omega⟩) ?_;refine And.intro (Zm.of_eq (by rw[Int.toNat_natCast,hgd])) ?_;refine And.intro (⟨by omega,by rw[Z4];omega⟩) ?_;refine And.intro (Zm.of_eq (by rw[Int.toNat_natCast,hgd])) ?_;refine And.intro ((by rw[e2];exact Zm.untag _ _ _)) ?_;refine Zk (hL) ?_
     refine hK _ _ (by kernel_rfl) ?_;clear hK K;refine Zy (t:=false) rfl ?_;rw[if_neg (by simp)];refine Zw ?_;refine Zx [(9,.v (.int .i64 (↑(j+1))))] ZD hnt λ K hK=>?_;refine And.intro Ww ?_;refine hK _ _ ?_;clear hK K
     refine⟨⟨j+1,λ i h1' h2'=>if e:i=j then by subst e;rw[hp,VA,h1,h2,h3];rfl else hj i h1' (by omega)⟩,by first | omega | (dsimp only;omega),VS.toA⟩
 have ha:l.all VA=true:=by
  rw[List.all_eq_true]
  intro t ht
  obtain⟨i,hi,rfl⟩:=List.getElem_of_mem ht
  exact hj i hi (by omega)
 rw[ha]
 refine Zz ?_;refine Zz ?_;refine Zx [(6,.v (.int .i64 (↑l.length))),(7,.v (.bool false))] ZD hnt λ K hK=>?_;refine And.intro (Zr (by rw[Z4])) ?_;refine And.intro X5 ?_;refine hK _ _ ?_;clear hK K;refine Zy (t:=false) rfl ?_;rw[if_neg (by simp)];refine Zg ?_;refine Zz ?_;refine Zx [] ZD hnt λ _ z9=>z9 _ _ ?_;refine Zv ?_
 exact Zi rfl
end Go.Proofs.YtclihnccilkohaaGreat
