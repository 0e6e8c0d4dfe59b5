/-
  Parts of the proof.
-/
import Derived.Test.YtclihnccilkohaaGreatRowAuditChecksp9
import Derived.Test.YtclihnccilkohaaGreatRowAuditChecksp7
import Derived.Test.YtclihnccilkohaaGreatRowAuditChecksp8
import Derived.Test.YtclihnccilkohaaGreatRowAuditChecksp6
import Derived.Test.YtclihnccilkohaaGreatRowAuditChecksp1
import Derived.Test.YtclihnccilkohaaGreatRowAuditChecksp5
import Derived.Test.YtclihnccilkohaaGreatRowAuditChecksp4
set_option maxRecDepth 100000
set_option maxHeartbeats 1000000
set_option linter.unusedVariables false
set_option linter.unusedSimpArgs false
namespace Go.Proofs.YtclihnccilkohaaGreat
open Go.RowKit
def TAUH_112:TI:=⟨10,true,[Value.slice none 0 0,Value.int IntKind.i64 0,Value.int IntKind.i64 0,Value.slice none 0 0,Value.slice none 0 0,Value.int IntKind.i64 0,Value.int IntKind.i64 0,Value.slice none 0 0,Value.slice none 0 0,Value.slice none 0 0],[(0,9,true),(9,1,false)],none,176,6,none,false⟩
theorem XH:TypOk Tryz.prog 112 TAUH_112:=by constructor <;> kernel_rfl
def TAUH:List (Nat×TI):=[(62,TG_62),(43,TRT6_43),(112,TAUH_112),(64,TPR_64),(78,TAUE_78),(50,TN1_50),(34,TAUE_34),(86,TAUE_86)]
theorem Xq:Zd Tryz.prog TAUH:=(((((((((Zd.nil _).cons Xl).cons YM).cons Y0).cons Xk).cons Yk).cons XH).cons Yb).cons Yu)
namespace Au
structure Lm where
 p:Li.Pr
 l:List St
def lemma1 (code:List Ty->Tm->Ty->Int)(eqs:List Li.Pr)(c:Int)(x:Lm):Int:=
 if c≠0 then c else if (chain code eqs x.l x.p.l).2=0/\(chain code eqs x.l x.p.l).1≠x.p.r then 12 else (chain code eqs x.l x.p.l).2
end Au
def PQ (x:Au.Lm):List D:=[.sl 2 (eTys x.p.l.binds) none,.v (.int .i64 x.p.l.kind),.v (.int .i64 x.p.l.index),.sl 4 (eTms x.p.l.args) none,.sl 2 (eTys x.p.r.binds) none,.v (.int .i64 x.p.r.kind),.v (.int .i64 x.p.r.index),.sl 4 (eTms x.p.r.args) none,.sl 2 (eTys x.p.m) none,.sl 4 (Yc x.l) none]
set_option maxHeartbeats 4000000 in
theorem N6 (b:Int)(C Mw:List Ty)(eqs:List Li.Pr)(x:Au.Lm)(c:Int)(code:List Ty->Tm->Ty->Int) 
  (hT:Zh Tryz.prog 46 [.ag [.v (.int .i64 b),.sl 2 (eTys C) none,.sl 2 (eTys Mw) none],.ag (WG x.p)] (.v (.int .i64 c)))
  (hc:∀ X t u,Yp C x.p.m t X u (code X t u)) (hCl:C.length<=1000000) (hMl:x.p.m.length<=1000000) (hCs:Ty.sizes C<=800000) (hMs:Ty.sizes x.p.m<=800000)
  (hel:eqs.length<=1000) (hes:∀ q∈eqs,Au.EqOk q) (hl:x.l.length<=1000) (hx:∀ y∈x.l,Au.SOk y) (ht:Au.TOk x.p.l) :
  Zh Tryz.prog 43 [.ag [.v (.int .i64 b),.sl 2 (eTys C) none,.sl 2 (eTys Mw) none],.sl 9 (Yt eqs) none,.ag (PQ x)] (.v (.int .i64 (Au.lemma1 code eqs c x))):=by
 have hW:=NT b C Mw x.p hCs hMs
 have hCh:=JS b C x.p.m eqs x.p.l x.l code hc hCl hMl hel hes hl hx ht
 obtain⟨v,hv⟩:∃ v,Au.lemma1 code eqs c x=v:=⟨_,rfl⟩
 rw[hv]
 unfold Au.lemma1 at hv
 obtain⟨⟨o,e⟩,hO⟩:∃ r,Au.chain code eqs x.l x.p.l=r:=⟨_,rfl⟩
 rw[hO] at hCh hv
 dsimp only at hCh hv
 have hE:=Um o x.p.r
 rw[Ys] at hT hW
 simp only[Zu] at hCh hE
 unfold PQ
 by_cases h0:c=0
 ·rw[if_neg (λ h=>h h0)] at hv
  refine Zn 0 42 [ResultVar.tmp 6] Xq Tryz.func43 rfl Tryz.ntmps43 rfl λ cx hnt hn0=>?_
  skip
  refine Zz ?_;refine Zx [] Xq hnt λ _ z9=>z9 _ _ ?_;refine Zz ?_;refine Zz ?_;refine Zx [] Xq hnt λ K hK=>?_;refine Zk (hT) ?_;refine hK _ _ ?_;clear hK K;refine Zz ?_;refine Zx [(15,.v (.bool false))] Xq hnt λ K hK=>?_;refine And.intro (Yq h0) ?_;refine hK _ _ ?_;clear hK K;refine Zy (t:=false) rfl ?_;rw[if_neg (by simp)]
  refine Zw ?_;refine Zz ?_;refine ZQ [] Xq hnt λ K hK=>?_;refine Zk (hW) ?_;refine Zk (hCh) ?_;refine hK _ _ (by kernel_rfl) ?_;clear hK K
  by_cases h1:e=0
  ·by_cases h2:o=x.p.r
   ·rw[if_neg (λ h=>h.2 h2)] at hv
    subst hv
    rw[decide_eq_true h2] at hE
    refine Zz ?_;refine Zz ?_;refine Zx [(32,.v (.bool true))] Xq hnt λ K hK=>?_;refine And.intro (YT h1) ?_;refine Zk (hE) ?_;refine hK _ _ ?_;clear hK K;refine Zy (t:=false) rfl ?_;rw[if_neg (by simp)];refine Zw ?_;refine Zz ?_;refine Zx [] Xq hnt λ _ z9=>z9 _ _ ?_;refine Zv ?_
    exact Zi rfl
   rw[if_pos ⟨h1,h2⟩] at hv
   subst hv
   rw[decide_eq_false h2] at hE
   refine Zz ?_;refine Zz ?_;refine Zx [(32,.v (.bool true))] Xq hnt λ K hK=>?_;refine And.intro (YT h1) ?_;refine Zk (hE) ?_;refine hK _ _ ?_;clear hK K;refine Zy (t:=true) rfl ?_;rw[if_pos rfl];refine Zx [] Xq hnt λ _ z9=>z9 _ _ ?_;refine Zz ?_;refine Zx [] Xq hnt λ _ z9=>z9 _ _ ?_;refine Zv ?_
   exact Zi rfl
  rw[if_neg (λ h=>h1 h.1)] at hv
  subst hv
  refine Zz ?_;refine Zz ?_;refine Zx [(32,.v (.bool false))] Xq hnt λ K hK=>?_;refine And.intro (XM h1) ?_;refine hK _ _ ?_;clear hK K;refine Zy (t:=false) rfl ?_;rw[if_neg (by simp)];refine Zw ?_;refine Zz ?_;refine Zx [] Xq hnt λ _ z9=>z9 _ _ ?_;refine Zv ?_
  exact Zi rfl
 rw[if_pos h0] at hv
 subst hv
 refine Zn 0 42 [ResultVar.tmp 6] Xq Tryz.func43 rfl Tryz.ntmps43 rfl λ cx hnt hn0=>?_
 skip
 refine Zz ?_;refine Zx [] Xq hnt λ _ z9=>z9 _ _ ?_;refine Zz ?_;refine Zz ?_;refine Zx [] Xq hnt λ K hK=>?_;refine Zk (hT) ?_;refine hK _ _ ?_;clear hK K;refine Zz ?_;refine Zx [(15,.v (.bool true))] Xq hnt λ K hK=>?_;refine And.intro (YO h0) ?_;refine hK _ _ ?_;clear hK K;refine Zy (t:=true) rfl ?_;rw[if_pos rfl]
 refine Zz ?_;refine Zx [] Xq hnt λ _ z9=>z9 _ _ ?_;refine Zv ?_
 exact Zi rfl
def TAUI_45:TI:=⟨1,false,[Value.slice none 0 0],[],some 112,24,5,none,false⟩
theorem WY:TypOk Tryz.prog 45 TAUI_45:=by constructor <;> kernel_rfl
def TAUI_47:TI:=⟨1,true,[Value.slice none 0 0],[(0,1,false)],none,24,6,none,false⟩
theorem Ws:TypOk Tryz.prog 47 TAUI_47:=by constructor <;> kernel_rfl
def TAUI:List (Nat×TI):=[(64,TPR_64),(34,TAUE_34),(45,TAUI_45),(112,TAUH_112),(47,TAUI_47),(3,TG_3),(43,TRT6_43),(50,TN1_50),(62,TG_62),(41,TG_41),(106,TG_106)]
theorem YE:Zd Tryz.prog TAUI:=((((((((((((Zd.nil _).cons Yx).cons Ym).cons Yu).cons Y0).cons Yb).cons ZW).cons Ws).cons XH).cons WY).cons YM).cons Yk)
theorem O2 (a:Option Addr)(c nm:Nat):Vn Tryz.prog 47 [.v (.slice a 0 c)] [] nm [(.r nm,.rp 64 9 [])] (.ps nm 0):=by
 refine Xe 8 [ResultVar.tmp 2] YE (by kernel_rfl) Tryz.func47 rfl Tryz.ntmps47 rfl (by simp) (by simp[D.ok]) (by simp[D.okss]) ?dbody nm
 case dbody=>
  intro cx hnt hn0
  refine Zz ?_;refine Zx [] YE hnt λ _ z9=>z9 _ _ ?_
  cases a with
  | none=>
   refine Zz ?_;refine Zz ?_;refine Zx [(4,.v (.bool true))] YE hnt λ K hK=>?_;refine And.intro (Zm.refl _) ?_;refine hK _ _ ?_;clear hK K;refine Zy (t:=true) rfl ?_;rw[if_pos rfl];refine Zz ?_;refine Zx [] YE hnt λ _ z9=>z9 _ _ ?_
   refine DW.vs (VS.rowPT (x:=2) (by rw[hnt];decide) 64 9 rfl) ?_
   refine Zv ?_
   exact⟨.inr rfl,_,rfl,rfl⟩
  | some a=>
   refine Zz ?_;refine Zz ?_;refine Zx [(4,.v (.bool false))] YE hnt λ K hK=>?_;refine And.intro (Zm.refl _) ?_;refine hK _ _ ?_;clear hK K;refine Zy (t:=false) rfl ?_;rw[if_neg (by simp)];refine Zw ?_;refine Zz ?_;refine Zx [(5,.ps 3 0)] YE hnt λ K hK=>?_;refine And.intro (Zm.ps0 _ _) ?_;refine And.intro (by decide) ?_;refine hK _ _ ?_;clear hK K
   refine Zv ?_
   exact⟨.inr rfl,_,rfl,rfl⟩
theorem P9 (x:Li.Pr)(l:List Li.Pr)(hl:l.length<=900000)(nm:Nat):Vn Tryz.prog 47 [.sl 9 (Yt (x :: l)) none] [] nm [(.r nm,.rp 64 9 (Yt (x :: l)))] (.ps nm (x :: l).length):=by
 refine Xe 8 [ResultVar.tmp 2] YE (by kernel_rfl) Tryz.func47 rfl Tryz.ntmps47 rfl (by simp) (by simp[D.ok,TB]) (by simp[D.okss,TB]) ?dbody nm
 case dbody=>
  intro cx hnt hn0
  refine Zz ?_;refine Zx [] YE hnt λ _ z9=>z9 _ _ ?_;refine Zz ?_;refine Zz ?_;refine Zx [(4,.v (.bool false))] YE hnt λ K hK=>?_;refine And.intro (Zm.refl _) ?_;refine hK _ _ ?_;clear hK K;refine Zy (t:=false) rfl ?_;rw[if_neg (by simp)];refine Zw ?_;refine Zz ?_;refine Zx [(5,.ps 3 0)] YE hnt λ K hK=>?_
  refine And.intro (Zm.ps0 _ _) ?_;refine And.intro (by rw[Z4];simp;omega) ?_;refine hK _ _ ?_;clear hK K;refine Zv ?_
  exact⟨.inr rfl,3,by rw[show (x :: l).length=(Yt (x :: l)).length by rw[Z4]];rfl,rfl⟩
theorem Ko (l:List Li.Pr)(hl:l.length<=900000)(nm:Nat):Vn Tryz.prog 47 [.sl 9 (Yt l) none] [] nm [(.r nm,.rp 64 9 (Yt l))] (.ps nm l.length):=by
 cases l with
 | cons x l=>exact P9 x l (by simp at hl;omega) nm
 | nil=>
  refine⟨by kernel_rfl,λ cx Fr m Im w a σ vs hnm hs hv hR=>?_⟩
  match vs,hv with
  | [v],hv=>
   obtain⟨a0,c,bl,off,X,rfl,_⟩:=Wk hv.1
   exact(O2 a0 c nm).2 cx Fr m Im w a σ _ hnm hs ⟨.v _,trivial⟩ hR
theorem KE (p:Li.Pr)(h1:p.l.full<=900000/\p.l.Fit)(h2:p.r.full<=900000/\p.r.Fit)(h3:Ty.sizes p.m<=800000):Zh Tryz.prog 51 [.ag (WG p)] (.ag (WG p)):=by
 have c1:=QT p h1 h2 h3
 have c2:=QT (Ru.swap p) h2 h1 h3
 rw[show Ru.swap (Ru.swap p)=p from rfl] at c2
 rw[Ys p] at c1 c2 ⊢
 rw[Ys (Ru.swap p)] at c1 c2
 refine Zn 0 6 [ResultVar.cell 2 64] YE Tryz.func51 rfl Tryz.ntmps51 rfl λ cx hnt hn0=>?_
 skip
 refine Zz ?_;refine Zx [] YE hnt λ _ z9=>z9 _ _ ?_;refine Zz ?_;refine Zx [] YE hnt λ K hK=>?_;refine Zk (c1) ?_;refine Zk (c2) ?_;refine hK _ _ ?_;clear hK K;refine Zv ?_
 exact Zi rfl
def YI (l:List Au.Lm):List (List D):=l.map PQ
theorem ZY (l:List Au.Lm):(YI l).length=l.length:=List.length_map ..
theorem XZ (l:List Au.Lm)(i:Nat)(h:i<l.length):(YI l).getD i []=PQ l[i]:=by
 rw[YI,List.getD_eq_getElem?_getD,List.getElem?_map,List.getElem?_eq_getElem h];rfl
@[simp] theorem ID (f g:Nat->Bool) (x:Au.Lm):D.oks f g (PQ x)=true:=by simp[PQ,D.oks,D.ok]
@[simp] theorem GW (f g:Nat->Bool) (l:List Au.Lm):D.okss f g (YI l)=true:=D.okss_map _ l λ l _=>ID f g l
theorem OT (l:List Au.Lm)(hl:l.length<=1000000)(h:∀ x∈l,(x.p.l.full<=900000/\x.p.l.Fit)/\(x.p.r.full<=900000/\x.p.r.Fit)/\Ty.sizes x.p.m<=800000)(hn:l≠[]):
  Zh Tryz.prog 18 [.ag [.sl 10 (YI l) none]] (.tu [.ag (WG (l.getLast hn).p),.v (.bool true)]):=by
 have h0:0<l.length:=List.length_pos_iff.2 hn
 obtain⟨x,hx⟩:∃ x,l.getLast hn=x:=⟨_,rfl⟩
 have hxl:l[l.length-1]=x:=by rw[<-hx,List.getLast_eq_getElem]
 obtain⟨k,hk⟩:∃ k:Nat,k+1=l.length:=⟨l.length-1,by omega⟩
 have hxk:l[k]=x:=by rw[<-hxl];congr 1;omega
 obtain⟨h1,h2,h3⟩:=h x (hx ▸ List.getLast_mem hn)
 have hp:=KE x.p h1 h2 h3
 rw[hx]
 rw[Ys] at hp ⊢
 refine Zn 0 19 [ResultVar.cell 2 64,ResultVar.tmp 3] YE Tryz.func18 rfl Tryz.ntmps18 rfl λ cx hnt hn0=>?_
 skip
 refine Zz ?_;refine Zx [] YE hnt λ _ z9=>z9 _ _ ?_;refine Zz ?_;refine Zx [(7,.v (.int .i64 (↑l.length)))] YE hnt λ K hK=>?_;refine And.intro (Zr (by rw[ZY])) ?_;refine hK _ _ ?_;clear hK K;refine Zz ?_;refine Zz ?_;refine Zx [(9,.v (.bool false))] YE hnt λ K hK=>?_;refine And.intro (XM (by omega)) ?_;refine hK _ _ ?_;clear hK K
 refine Zy (t:=false) rfl ?_;rw[if_neg (by simp)];refine Zw ?_;refine Zz ?_;refine Zx [(14,.v (.int .i64 (↑k))),(15,.q [.sl 2 (eTys x.p.l.binds) none,.v (.int .i64 x.p.l.kind),.v (.int .i64 x.p.l.index),.sl 4 (eTms x.p.l.args) none,.sl 2 (eTys x.p.r.binds) none,.v (.int .i64 x.p.r.kind),.v (.int .i64 x.p.r.index),.sl 4 (eTms x.p.r.args) none,.sl 2 (eTys x.p.m) none,.sl 4 (Yc x.l) none])] YE hnt λ K hK=>?_
 refine And.intro (Zr (by (rw[IntWalk.i64_in _ (by omega)];omega))) ?_;refine And.intro (⟨by omega,by rw[ZY];omega⟩) ?_;refine And.intro (Zm.of_eq (by rw[Int.toNat_natCast,XZ l k (by omega),hxk];rfl)) ?_;refine Zk (hp) ?_;refine hK _ _ ?_;clear hK K;refine Zv ?_
 exact Zi rfl
end Go.Proofs.YtclihnccilkohaaGreat
namespace Go.Proofs.YtclihnccilkohaaGreat
open Go.RowKit Go.ChangeShapes Go.WideShapes Go.ChangeAt
def Ip:Rp Au.Lm where
 n:=10
 R:=λ F w x y=>∃ v1 v2 v3 v4 v5 v6 v7 v8 v9 sv,x=[v1,v2,v3,v4,v5,v6,v7,v8,v9,sv]/\N7 F w v1 v2 v3 v4 v5 v6 v7 v8 v9 y.p/\Y6 KL F w sv y.l
 len:=fun⟨_,_,_,_,_,_,_,_,_,_,e,_⟩=>by rw[e];rfl
 one:=fun⟨b,k,i,a,b',k',i',a',v9,sv,e,h,hs⟩ v hv=>by
  have h1:=OJ.one (F:=_) (w:=_) (x:=[b,k,i,a,b',k',i',a',v9]) (a:=_) ⟨b,k,i,a,b',k',i',a',v9,rfl,h⟩
  rw[e] at hv
  have:v∈[b,k,i,a,b',k',i',a',v9]∨v=sv:=by simpa[or_assoc] using hv
  rcases this with hv | rfl
  ·exact h1 v hv
  exact RA hs
 keep:=fun⟨b,k,i,a,b',k',i',a',v9,sv,e,h,hs⟩ hk=>⟨b,k,i,a,b',k',i',a',v9,sv,e,⟨h.l.keep hk,h.r.keep hk,h.m.keep hk⟩,hs.keep hk⟩
 weaken:=fun⟨b,k,i,a,b',k',i',a',v9,sv,e,h,hs⟩ hf=>⟨b,k,i,a,b',k',i',a',v9,sv,e,⟨h.l.weaken hf,h.r.weaken hf,h.m.weaken (by decide) hf⟩,hs.weaken (by decide) hf⟩
theorem Na:Tryz.prog.cellsOf 58=10:=by kernel_rfl
theorem Md:Tryz.prog.cellsOf 56=1:=by kernel_rfl
theorem Iz {α:Type}{cs:List α}(h:cs.length=10):∃ a b c d e f g i j k,cs=[a,b,c,d,e,f,g,i,j,k]:=by
 match cs,h with
 | [a,b,c,d,e,f,g,i,j,k],_=>exact⟨a,b,c,d,e,f,g,i,j,k,rfl⟩
def JH (x:Au.Lm):Prop:=(x.p.l.Fit/\x.p.r.Fit)/\x.l.length<=9223372036854775807/\∀ y∈x.l,y.path.length<=9223372036854775807/\y.s.length<=9223372036854775807/\∀ q∈y.s,q.2.Fit
set_option maxRecDepth 100000 in
theorem GQ {H:Type}(enc:TypeId×Value->H)(W:World)(base:Nat)(sp:Nat->Bool)(hd:Bool):∀ n,Rd enc W base sp hd 58 Ip (λ _ x=>JH x) n:=by
 intro n cs x h
 obtain⟨xs,m,rfl,rfl,hl,hlen,hf⟩:=DataW.trod_struct Tryz.underlying58 h
 rw[Na] at hl
 obtain⟨v0,v1,v2,v3,v4,v5,v6,v7,v8,v9,rfl⟩:=Iz hl
 have h0:DataW.trod enc Tryz.prog W base sp hd m 33 ([v0,v1,v2,v3,v4,v5,v6,v7,v8,v9].take (Tryz.prog.cellsOf 33))=xs[0]?:=hf 0 _ rfl
 have h1:DataW.trod enc Tryz.prog W base sp hd m 56 ([v9].take (Tryz.prog.cellsOf 56))=xs[1]?:=hf 1 _ rfl
 rw[Th] at h0
 rw[Md] at h1
 have hlen:xs.length=2:=hlen
 rw[List.getElem?_eq_getElem (by omega)] at h0 h1
 obtain⟨t,⟨b,k,j,a,b',k',j',a',m9,hx,ht⟩,hfit⟩:=JO enc W base sp hd m _ _ h0
 obtain⟨sa,sn,sc,S,hsv,_,hS,hSf⟩:=YH Tryz.underlying56 Nb (by decide) (λ j hj=>GS enc W base sp hd j) h1
 have e0:[v0,v1,v2,v3,v4,v5,v6,v7,v8]=[b,k,j,a,b',k',j',a',m9]:=hx
 have e1:[v9]=[.slice sa sn sc]:=hsv
 simp only[List.cons.injEq,and_true] at e0 e1
 obtain⟨rfl,rfl,rfl,rfl,rfl,rfl,rfl,rfl,rfl⟩:=e0
 subst e1
 exact⟨⟨t,S⟩,⟨_,_,_,_,_,_,_,_,_,_,rfl,ht,hS⟩,hfit,hS.len1,VW (d:=xs[1].1) (Q:=fun(x:Au.St)=>x.path.length<=9223372036854775807/\x.s.length<=9223372036854775807/\∀ q∈x.s,q.2.Fit) hSf⟩
theorem Ig {m:Mp}{w:World}{F:Nat->Prop}{v:Value}{l:List Au.Lm}(h:Y6 Ip F w v l):Yz m (Uk F w) w v (.sl 10 (YI l) none):=by
 have e:∀ x,PQ x=eTm x.p.l++(eTm x.p.r++[.sl 2 (eTys x.p.m) none,.sl 4 (Yc x.l) none]):=λ p=>by rw[Zu,Zu];rfl
 have:=X9 (m:=m) (r:=Ip) (e:=PQ) Xt (λ p=>by rw[e,Zu,Zu];rfl) (λ x p hx=>by
  obtain⟨v1,v2,v3,v4,v5,v6,v7,v8,v9,sv,rfl,h,hs⟩:=hx
  rw[e]
  exact(Wb Xt p.p.l h.l).append ((Wb Xt p.p.r h.r).append ⟨Sg h.m,Ii hs,trivial⟩)) h
 exact this
end Go.Proofs.YtclihnccilkohaaGreat
namespace Go.Proofs.YtclihnccilkohaaGreat
open Go.RowKit
def TRUP:List (Nat×TI):=[(31,TTM_31),(3,TG_3),(29,TTM_29),(28,TTM_28),(22,TTY_22),(104,TTY_104)]
theorem YF:Zd Tryz.prog TRUP:=(((((((Zd.nil _).cons Yy).cons Yo).cons Xz).cons Y5).cons ZW).cons Yl)
set_option maxHeartbeats 4000000 in
theorem Ir:∀ (t:Tm) (_:Yv t) (B:Nat) (_:Bnd B t) (y ins:Int) (_:0<=ins/\ins+(t.full:Int)<=4000000000000000000),Zh Tryz.prog 134 [.ag (eTm t),.v (.int .i64 y),.v (.int .i64 0),.v (.int .i64 ins)] (.ag (eTm (Nm.lift y t ins))):=by
 intro t
 induction t using Tm.ind with
 | h bs k i a ih=>
 intro hw B hB y ins hins
 obtain⟨w1,w2,w3⟩:=hw.inv
 obtain⟨b1,b2,b3⟩:=hB.inv
 rw[Tm.full_eq] at hins
 have hls:=Ty.le_sizes bs
 have hm:IntKind.i64.wrap (ins+(bs.length:Int))=ins+(bs.length:Int):=IntWalk.i64_in _ (by omega)
 obtain⟨m,hmm⟩:∃ m,ins+(bs.length:Int)=m:=⟨_,rfl⟩
 rw[hmm] at hm
 obtain⟨i',hi'⟩:∃ i',(if k=0/\m<=i then IntKind.i64.wrap (i+y) else i)=i':=⟨_,rfl⟩
 have hL:Nm.lift y (.mk bs k i a) ins=.mk bs k i' (Nm.lifts y a m):=by rw[Nm.lift_eq,YX,YX,hmm,hm,hi']
 rw[hL]
 have hih:=λ j (h:j<a.length)=>ih a[j] (List.getElem_mem h) (w3 _ (List.getElem_mem h)) B (b3 _ (List.getElem_mem h)) y m (by
  have:=Tm.full_mem (List.getElem_mem h)
  omega)
 obtain⟨O,hO⟩:∃ O:Nat->List Tm,∀ j,Nm.lifts y (a.take j) m=O j:=⟨_,λ _=>rfl⟩
 have hO0:O 0=[]:=by rw[<-hO];rfl
 have hOn:∀ j (h:j<a.length),O j++[Nm.lift y a[j] m]=O (j+1):=λ j h=>by rw[<-hO,<-hO,List.take_add_one,List.getElem?_eq_getElem h,Nm.lifts_map,Nm.lifts_map,List.map_append];rfl
 have hOl:∀ j,j<=a.length->(O j).length=j:=λ j h=>by rw[<-hO,Nm.lifts_map,List.length_map,List.length_take];omega
 have hOm:O a.length=Nm.lifts y a m:=by rw[<-hO,List.take_length]
 rw[<-hOm,Zu,Zu]
 simp only[Zu] at hih
 have hm':IntKind.i64.wrap (ins+(bs.length:Int))=m:=by rw[hmm];exact hm
 dsimp only[Tm.binds,Tm.kind,Tm.index,Tm.args]
 refine Zn 0 71 [ResultVar.cell 8 31] YF Tryz.func134 rfl Tryz.ntmps134 rfl λ cx hnt hn0=>?_
 skip
 refine Zz ?_;refine Zx [] YF hnt λ _ z9=>z9 _ _ ?_;refine Zz ?_;refine Zx [(15,.v (.int .i64 (↑bs.length))),(16,.v (.int .i64 (m)))] YF hnt λ K hK=>?_;refine And.intro (Zr (by rw[Zs])) ?_;refine And.intro (Zr (by exact hm')) ?_;refine hK _ _ ?_;clear hK K;refine Zz ?_;refine Zx [] YF hnt λ _ z9=>z9 _ _ ?_
 refine Wi (τ:=[(.t 1,.v (.int .i64 y)),(.t 2,.v (.int .i64 0)),(.t 4,.p 0 0),(.t 8,.p 1 0),(.t 9,.v (.int .i64 m)),(.t 10,.p 13 0),(.c 0 0,.sl 2 (eTys bs) none),(.c 0 1,.v (.int .i64 k)),(.c 0 2,.v (.int .i64 i)),(.c 0 3,.sl 4 (eTms a) none),(.c 1 0,.v (.slice none 0 0)),(.c 1 1,.v (.int .i64 0)),(.c 1 2,.v (.int .i64 0)),(.c 1 3,.v (.slice none 0 0)),(.c 13 0,.sl 2 (eTys bs) none),(.c 13 1,.v (.int .i64 k)),(.c 13 2,.v (.int .i64 i')),(.c 13 3,.v (.slice none 0 0))]) (N1:=15) ?_ ?_
 ·by_cases hk:k=0
  ·by_cases hmi:m<=i
   ·rw[if_pos ⟨hk,hmi⟩] at hi';refine Zz ?_;refine Zx [(25,.v (.bool true)),(31,.v (.int .i64 ((i-m)))),(33,.v (.bool true)),(40,.v (.bool true))] YF hnt λ K hK=>?_;refine And.intro (Zm.of_eq (by simp[hk])) ?_;refine And.intro (Zr (by exact IntWalk.i64_in _ (by omega))) ?_;refine And.intro (Z7 (by omega)) ?_;refine And.intro (Z7 (by omega)) ?_;refine hK _ _ ?_;clear hK K
    refine Zy (t:=true) rfl ?_;rw[if_pos rfl];refine Zx [(46,.v (.int .i64 (i')))] YF hnt λ K hK=>?_;refine And.intro (Zr (by exact hi')) ?_;refine hK _ _ ?_;clear hK K
    exact Y4 VS.toA
   rw[if_neg (λ h=>hmi h.2)] at hi'
   subst hi'
   obtain⟨d,hd⟩:∃ d,IntKind.i64.wrap (i-m)=d:=⟨_,rfl⟩
   by_cases h0:d>=0
   ·skip
    refine Zz ?_;refine Zx [(25,.v (.bool true)),(31,.v (.int .i64 (d))),(33,.v (.bool true)),(40,.v (.bool false))] YF hnt λ K hK=>?_;refine And.intro (Zm.of_eq (by simp[hk])) ?_;refine And.intro (Zr (by exact hd)) ?_;refine And.intro (Z7 h0) ?_;refine And.intro (Ze (by omega)) ?_;refine hK _ _ ?_;clear hK K;refine Zy (t:=false) rfl ?_;rw[if_neg (by simp)]
    refine Zw ?_
    exact Y4 VS.toA
   skip
   refine Zz ?_;refine Zx [(25,.v (.bool true)),(31,.v (.int .i64 (d))),(33,.v (.bool false))] YF hnt λ K hK=>?_;refine And.intro (Zm.of_eq (by simp[hk])) ?_;refine And.intro (Zr (by exact hd)) ?_;refine And.intro (Ze h0) ?_;refine hK _ _ ?_;clear hK K;refine Zy (t:=false) rfl ?_;rw[if_neg (by simp)];refine Zw ?_
   exact Y4 VS.toA
  rw[if_neg (λ h=>hk h.1)] at hi'
  subst hi'
  refine Zz ?_;refine Zx [(25,.v (.bool false))] YF hnt λ K hK=>?_;refine And.intro (Zm.of_eq (by simp[hk])) ?_;refine hK _ _ ?_;clear hK K;refine Zy (t:=false) rfl ?_;rw[if_neg (by simp)];refine Zw ?_
  exact Y4 VS.toA
 refine DW.vs (VS.row (k:=13) (off:=3) 31 4 rfl) ?_
 refine Zz ?_;refine Zz ?_;refine Zx [] YF hnt λ _ z9=>z9 _ _ ?_;refine Zt ?_
 refine Z6 (ι:={ j:Nat // j<=a.length }) (λ j=>[(.t 11,.v (.int .i64 ↑j.1)),(.t 1,.v (.int .i64 y)),(.t 2,.v (.int .i64 0)),(.t 4,.p 0 0),(.t 8,.p 1 0),(.t 9,.v (.int .i64 m)),(.t 10,.p 13 0),(.c 0 0,.sl 2 (eTys bs) none),(.c 0 1,.v (.int .i64 k)),(.c 0 2,.v (.int .i64 i)),(.c 0 3,.sl 4 (eTms a) none),(.c 1 0,.v (.slice none 0 0)),(.c 1 1,.v (.int .i64 0)),(.c 1 2,.v (.int .i64 0)),(.c 1 3,.v (.slice none 0 0)),(.c 13 0,.sl 2 (eTys bs) none),(.c 13 1,.v (.int .i64 k)),(.c 13 2,.v (.int .i64 i')),(.c 13 3,.sl 4 (eTms (O j.1)) (some 15)),(.r 15,.rw 31 4 (O j.1).length)]) 17 (λ j=>a.length-j.1) (⟨0,Nat.zero_le _⟩) ((by dsimp only;rw[hO0];exact VS.toA)) λ j=>?_
 obtain⟨j,hj⟩:=j
 dsimp only
 by_cases hlt:j<a.length
 ·have ht:=hih j hlt
  have hsn:eTms (O j)++[[.sl 2 (eTys (Nm.lift y a[j] m).binds) none,.v (.int .i64 (Nm.lift y a[j] m).kind),.v (.int .i64 (Nm.lift y a[j] m).index),.sl 4 (eTms (Nm.lift y a[j] m).args) none]]=eTms (O (j+1)):=by rw[<-hOn j hlt,Xv,eTms,eTms,Zu (Nm.lift y a[j] m)]
  have hl1:(eTms (O j)).length=(O j).length:=Zq _
  have hl3:=hOl j hj
  have hl2:(eTms (O (j+1))).length=(O (j+1)).length:=Zq _
  refine Zz ?_;refine Zz ?_;refine Zx [(52,.v (.int .i64 (↑a.length))),(53,.v (.bool true))] YF hnt λ K hK=>?_;refine And.intro (Zr (by rw[Zq])) ?_;refine And.intro (Z7 (by omega)) ?_;refine hK _ _ ?_;clear hK K;refine Zy (t:=true) rfl ?_;rw[if_pos rfl];refine Zw ?_;refine Zz ?_;refine Zt ?_;refine ZQ [(61,.q [.sl 2 (eTys a[j].binds) none,.v (.int .i64 a[j].kind),.v (.int .i64 a[j].index),.sl 4 (eTms a[j].args) none])] YF hnt λ K hK=>?_
  refine And.intro (XQ (Zq a)) ?_;refine And.intro (XR (ZT a j) (Zu _)) ?_;refine Zk (ht) ?_;refine And.intro (⟨by omega,by rw[hl1];simp;omega⟩) ?_;refine hK _ _ (by kernel_rfl) ?_;clear hK K
  rw[hsn,hl2]
  refine Zx [(55,.v (.int .i64 (↑(j+1))))] YF hnt λ K hK=>?_;refine And.intro Ww ?_;refine hK _ _ ?_;clear hK K
  refine⟨⟨j+1,hlt⟩,by first | omega | (dsimp only;omega),VS.toA⟩
 have hje:j=a.length:=by omega
 subst hje
 refine Zz ?_;refine Zz ?_;refine Zx [(52,.v (.int .i64 (↑a.length))),(53,.v (.bool false))] YF hnt λ K hK=>?_;refine And.intro (Zr (by rw[Zq])) ?_;refine And.intro (Ze (by omega)) ?_;refine hK _ _ ?_;clear hK K;refine Zy (t:=false) rfl ?_;rw[if_neg (by simp)];refine Zg ?_;refine Zz ?_;refine Zx [(70,.ag [.sl 2 (eTys bs) none,.v (.int .i64 k),.v (.int .i64 i'),.sl 4 (eTms (O a.length)) none])] YF hnt λ K hK=>?_
 refine And.intro (XP) ?_;refine hK _ _ ?_;clear hK K;refine Zv ?_
 exact Zi rfl
theorem MQ (t:Tm)(hw:Yv t)(B:Nat)(hB:Bnd B t)(y:Int)(hf:t.full<=1000000000000000):Zh Tryz.prog 117 [.ag (eTm t),.v (.int .i64 y),.v (.int .i64 0)] (.ag (eTm (Nm.lift y t 0))):=by
 have h:=Ir t hw B hB y 0 (by omega)
 rw[Zu,Zu] at h ⊢
 refine Zn 0 11 [ResultVar.cell 6 31] YF Tryz.func117 rfl Tryz.ntmps117 rfl λ cx hnt hn0=>?_
 skip
 refine Zz ?_;refine Zx [] YF hnt λ _ z9=>z9 _ _ ?_;refine Zz ?_;refine Zx [] YF hnt λ K hK=>?_;refine Zk (h) ?_;refine hK _ _ ?_;clear hK K;refine Zv ?_
 exact Zi rfl
theorem NC:∀ (B:Nat) (t:Tm),Bnd B t->∀ ins:Int,Nm.lift 0 t ins=t:=by
 intro B t
 induction t using Tm.ind with
 | h b k i a ih=>
  intro h ins
  obtain⟨h1,h2,h3⟩:=h.inv
  rw[Nm.lift_eq,Nm.lifts_map]
  congr 1
  ·split
   ·rw[Int.add_zero,YX];exact IntWalk.i64_in _ (by omega)
   rfl
  refine(List.map_congr_left λ u hu=>ih u hu (h3 u hu) _).trans (List.map_id _)
theorem MJ (t:Tm)(hw:Yv t)(B:Nat)(hB:Bnd B t)(y:Int)(hf:t.full<=1000000000000000):Zh Tryz.prog 117 [.ag (eTm t),.v (.int .i64 y),.v (.int .i64 0)] (.ag (eTm (Nm.grown t y))):=by
 unfold Nm.grown
 by_cases h:y=0
 ·subst h
  rw[if_pos rfl]
  have:=MQ t hw B hB 0 hf
  rwa [NC B t hB] at this
 rw[if_neg h];exact MQ t hw B hB y hf
namespace Rn
open Go.Proofs.YtclihnccilkohaaGreat.Nm
def dc (s:Nm.St):Int:=if s.e=2∨s.e=11 then s.count-1 else s.count
def Dr (s:Nm.St):Prop:=s.e=0->s.dry=false
def ez (p:Tm×Nm.St):Tm:=if p.2.e≠0 then tz else p.1
theorem ez_ok {p:Tm×Nm.St}(h:p.2.e=0):ez p=p.1:=by unfold ez;rw[if_neg (λ h'=>h' h)]
theorem ez_no {p:Tm×Nm.St}(h:p.2.e≠0):ez p=tz:=by unfold ez;rw[if_pos h]
theorem unit_e {s:Nm.St}(h:s.e≠0):unit s=(false,s):=by unfold unit;rw[if_pos h]
theorem through_e (f:Nat)(xs:List Tm)(n:Nat)(t:Tm)(ins:Int){s:Nm.St}(h:s.e≠0):through f xs n t ins s=(tz,s):=by
 cases f with
 | zero=>rfl
 | succ f=>
  unfold through
  dsimp only
  rw[unit_e h,if_neg (by simp)]
theorem seqM_e {g:Tm->Nm.St->Tm×Nm.St}(hg:∀ t s,s.e≠0->(g t s).2=s):∀ (l:List Tm) {s:Nm.St},s.e≠0->(seqM g l s).2=s
 | [],_,_=>rfl
 | t :: l,s,h=>by
  show (seqM g l (g t s).2).2=s
  rw[hg t s h];exact seqM_e hg l h
theorem fail_e {s:Nm.St}(h:s.e≠0)(c:Int):fail s c=s:=by unfold fail;rw[if_neg h]
theorem hit_e (thr:Thr)(xs:List Tm)(n:Nat)(t:Tm)(ins:Int)(args:List Tm){s:Nm.St}(h:s.e≠0):(hit thr xs n t ins args s).2=s:=by
 unfold hit
 dsimp only
 repeat' split
 ·rfl
 ·rfl
 ·rfl
 ·exact fail_e h 1
 unfold putW;rw[if_pos (.inl h)];exact fail_e h 1
theorem unit_dr {s:Nm.St}(h:Dr s):Dr (unit s).2:=by
 unfold unit
 by_cases he:s.e≠0
 ·rw[if_pos he];exact h
 rw[if_neg he]
 by_cases hc:s.count=100000
 ·rw[if_pos hc];intro e;exact absurd e (by show (2:Int)≠0;decide)
 rw[if_neg hc]
 have he:s.e=0:=by simpa using he
 unfold spend
 split
 ·rename_i hs
  split at hs
  ·cases hs;intro e;exact absurd e (by show (11:Int)≠0;decide)
  cases hs
 rename_i hs
 split at hs
 ·cases hs
 cases hs;intro _;exact h he
theorem seqM_dr {g:Tm->Nm.St->Tm×Nm.St}(hg:∀ t s,Dr s->Dr (g t s).2):∀ (l:List Tm) (s:Nm.St),Dr s->Dr (seqM g l s).2
 | [],_,h=>h
 | t :: l,s,h=>seqM_dr hg l _ (hg t s h)
theorem fail_dr {s:Nm.St}(h:Dr s)(c:Int)(hc:c≠0):Dr (fail s c):=by
 unfold fail
 split
 ·intro e;exact absurd e hc
 exact h
theorem putW_dr {thr:Thr}(ht:∀ xs n t ins s,Dr s->Dr (thr xs n t ins s).2)(t:Tm)(xs:List Tm)(s:Nm.St)(h:Dr s):Dr (putW thr t xs s).2:=by
 unfold putW
 split
 ·exact fail_dr h 1 (by decide)
 exact ht _ _ _ _ _ h
theorem hit_dr {thr:Thr}(ht:∀ xs n t ins s,Dr s->Dr (thr xs n t ins s).2)(xs:List Tm)(n:Nat)(t:Tm)(ins:Int)(args:List Tm)(s:Nm.St)(h:Dr s):Dr (hit thr xs n t ins args s).2:=by
 unfold hit
 dsimp only
 repeat' split
 all_goals first | exact h | exact fail_dr h 1 (by decide) | exact putW_dr ht _ _ _ h
theorem through_dr (f:Nat):∀ xs n t ins s,Dr s->Dr (through f xs n t ins s).2:=by
 induction f with
 | zero=>intro xs n t ins s h;exact h
 | succ f ih=>
  intro xs n t ins s h
  unfold through
  dsimp only
  split
  ·exact hit_dr ih _ _ _ _ _ _ (seqM_dr (λ t s h=>ih _ _ _ _ _ h) _ _ (unit_dr h))
  exact unit_dr h
theorem hit_def (thr:Thr)(xs:List Tm)(n:Nat)(bs:List Ty)(k i:Int)(a:List Tm)(ins:Int)(args:List Tm)(s:Nm.St):hit thr xs n (.mk bs k i a) ins args s =
  if k≠0∨i<ins then (.mk bs k i args,s)
  else if wr (i-ins)<(n:Int)-xs.length then (.mk bs k i args,s)
  else if (n:Int)<=wr (i-ins) then (.mk bs k (wr (i-xs.length)) args,s)
  else if (grown (xs.getD ((n:Int)-1-wr (i-ins)).toNat tz) (wr (wr (ins+n)-xs.length))).binds.length≠args.length then (tz,fail s 1)
  else (.mk bs (putW thr (grown (xs.getD ((n:Int)-1-wr (i-ins)).toNat tz) (wr (wr (ins+n)-xs.length))) args s).1.kind (putW thr (grown (xs.getD ((n:Int)-1-wr (i-ins)).toNat tz) (wr (wr (ins+n)-xs.length))) args s).1.index (putW thr (grown (xs.getD ((n:Int)-1-wr (i-ins)).toNat tz) (wr (wr (ins+n)-xs.length))) args s).1.args,(putW thr (grown (xs.getD ((n:Int)-1-wr (i-ins)).toNat tz) (wr (wr (ins+n)-xs.length))) args s).2):=rfl
theorem hit_bs (thr:Thr)(xs:List Tm)(n:Nat)(bs:List Ty)(k i:Int)(a:List Tm)(ins:Int)(args:List Tm)(s:Nm.St):
  (hit thr xs n (.mk bs k i a) ins args s).2=(hit thr xs n (.mk [] k i a) ins args s).2 /\
   ((hit thr xs n (.mk [] k i a) ins args s).2.e=0->s.e=0->(hit thr xs n (.mk bs k i a) ins args s).1=.mk bs (hit thr xs n (.mk [] k i a) ins args s).1.kind (hit thr xs n (.mk [] k i a) ins args s).1.index (hit thr xs n (.mk [] k i a) ins args s).1.args):=by
 rw[hit_def,hit_def]
 by_cases h1:k≠0∨i<ins
 ·rw[if_pos h1,if_pos h1];exact⟨rfl,λ _ _=>rfl⟩
 rw[if_neg h1,if_neg h1]
 by_cases h2:wr (i-ins)<(n:Int)-xs.length
 ·rw[if_pos h2,if_pos h2];exact⟨rfl,λ _ _=>rfl⟩
 rw[if_neg h2,if_neg h2]
 by_cases h3:(n:Int)<=wr (i-ins)
 ·rw[if_pos h3,if_pos h3];exact⟨rfl,λ _ _=>rfl⟩
 rw[if_neg h3,if_neg h3]
 split
 ·exact⟨rfl,λ e _=>absurd e (fail_ne s)⟩
 exact⟨rfl,λ _ _=>rfl⟩
theorem wr_wr (x:Int):wr (wr x)=wr x:=by
 have h:=Bnd.wr_in x
 rw[YX (x:=wr x)]
 exact IntWalk.i64_in _ (by omega)
theorem through_bs (f:Nat)(xs:List Tm)(n:Nat)(bs:List Ty)(k i:Int)(a:List Tm)(ins:Int)(s:Nm.St):
  (through f xs n (.mk bs k i a) ins s).2=(through f xs n (.mk [] k i a) (wr (ins+bs.length)) s).2 /\
   ((through f xs n (.mk [] k i a) (wr (ins+bs.length)) s).2.e=0->0<f->(through f xs n (.mk bs k i a) ins s).1=.mk bs (through f xs n (.mk [] k i a) (wr (ins+bs.length)) s).1.kind (through f xs n (.mk [] k i a) (wr (ins+bs.length)) s).1.index (through f xs n (.mk [] k i a) (wr (ins+bs.length)) s).1.args):=by
 cases f with
 | zero=>exact⟨rfl,λ _ h=>absurd h (by decide)⟩
 | succ f=>
  have e0:wr (wr (ins+(bs.length:Int))+(([]:List Ty).length:Int))=wr (ins+bs.length):=by
   rw[show wr (ins+(bs.length:Int))+(([]:List Ty).length:Int)=wr (ins+bs.length) by simp,wr_wr]
  unfold through
  dsimp only[Tm.binds,Tm.args]
  rw[e0]
  by_cases hu:(unit s).1=true
  ·rw[if_pos hu,if_pos hu]
   generalize seqM (λ a s=>through f xs n a (wr (ins+(bs.length:Int))) s) a (unit s).2=q
   obtain⟨h1,h2⟩:=hit_bs (through f) xs n bs k i a (wr (ins+(bs.length:Int))) q.1 q.2
   refine⟨h1,λ e _=>h2 e ?_⟩
   by_cases hq:q.2.e=0
   ·exact hq
   rw[hit_e _ _ _ _ _ _ hq] at e;exact absurd e hq
  rw[if_neg hu,if_neg hu]
  refine⟨rfl,λ e _=>absurd e ?_⟩
  have hu:(unit s).1=false:=by simpa using hu
  exact λ e=>unit_no hu e
where
 unit_no {s:Nm.St} (h:(unit s).1=false) (e:(unit s).2.e=0):False:=by
  unfold unit at h e
  by_cases he:s.e≠0
  ·rw[if_pos he] at e;exact he e
  rw[if_neg he] at h e
  by_cases hc:s.count=100000
  ·rw[if_pos hc] at e;exact absurd e (by show (2:Int)≠0;decide)
  rw[if_neg hc] at h e
  unfold spend at h e
  split at h
  ·rename_i hs;rw[hs] at e;exact absurd e (by show (11:Int)≠0;decide)
  cases h
end Rn
def TRND_224:TI:=⟨3,true,[Value.int IntKind.i64 0,Value.int IntKind.i64 0,Value.int IntKind.i64 0],[(0,1,false),(1,1,false),(2,1,false)],none,24,6,none,false⟩
theorem Uh:TypOk Tryz.prog 224 TRND_224:=by constructor <;> kernel_rfl
def TRND_222:TI:=⟨1,false,[Value.pointer none],[],none,8,4,none,false⟩
theorem Ug:TypOk Tryz.prog 222 TRND_222:=by constructor <;> kernel_rfl
def TRND:List (Nat×TI):=[(31,TTM_31),(3,TG_3),(29,TTM_29),(224,TRND_224),(28,TTM_28),(22,TTY_22),(222,TRND_222),(104,TTY_104)]
theorem Za:Zd Tryz.prog TRND:=(((((((((Zd.nil _).cons Yy).cons Ug).cons Yo).cons Xz).cons Uh).cons Y5).cons ZW).cons Yl)
def mE (s:Nm.St):List (Key×D):=[(.c 0 0,.v (.int .i64 s.left)),(.c 0 1,.v (.int .i64 (Rn.dc s))),(.c 0 2,.v (.int .i64 s.e))]
theorem OA (left:Int)(dry:Bool)(count e:Int)(h:¬ (e=2∨e=11)):mE ⟨left,dry,count,e⟩=[(.c 0 0,.v (.int .i64 left)),(.c 0 1,.v (.int .i64 count)),(.c 0 2,.v (.int .i64 e))]:=by
 unfold mE Rn.dc;dsimp only;rw[if_neg h]
theorem Lj (left:Int)(dry:Bool)(count e:Int)(h:e=2∨e=11):mE ⟨left,dry,count+1,e⟩=[(.c 0 0,.v (.int .i64 left)),(.c 0 1,.v (.int .i64 count)),(.c 0 2,.v (.int .i64 e))]:=by
 unfold mE Rn.dc;dsimp only;rw[if_pos h,Int.add_sub_cancel]
set_option maxHeartbeats 4000000 in
theorem HJ (s:Nm.St)(hs:X1 s)(hd:Rn.Dr s):ZB Tryz.prog 152 [.p 0 0] (mE s) (mE (Nm.unit s).2) (.v (.bool (Nm.unit s).1)):=by
 obtain⟨left,dry,count,e⟩:=s
 obtain⟨⟨l1,l2⟩,⟨c1,c2⟩,h0⟩:=hs
 dsimp only at l1 l2 c1 c2 h0
 by_cases he:e=0
 ·subst he
  have hdr:dry=false:=hd rfl
  subst hdr
  have c3:=h0 rfl
  by_cases hc:count=100000
  ·have hu:Nm.unit ⟨left,false,count,0⟩=(false,⟨left,false,count+1,2⟩):=by unfold Nm.unit;rw[if_neg (by simp),if_pos hc]
   rw[hu]
   dsimp only
   rw[OA _ _ _ _ (by decide),Lj _ _ _ _ (by decide)]
   refine Zn 1 41 [ResultVar.tmp 2] Za Tryz.func152 rfl Tryz.ntmps152 rfl λ cx hnt hn0=>?_
   skip
   refine Zz ?_;refine Zx [] Za hnt λ _ z9=>z9 _ _ ?_;refine Zz ?_;refine Zt ?_;refine Zz ?_;refine Zx [(8,.v (.bool false))] Za hnt λ K hK=>?_;refine And.intro (Yq rfl) ?_;refine hK _ _ ?_;clear hK K;refine Zy (t:=false) rfl ?_;rw[if_neg (by simp)];refine Zz ?_;refine Zx [(14,.v (.bool true))] Za hnt λ K hK=>?_
   refine And.intro (YT hc) ?_;refine hK _ _ ?_;clear hK K;refine Zy (t:=true) rfl ?_;rw[if_pos rfl];refine Zz ?_;refine Zx [] Za hnt λ _ z9=>z9 _ _ ?_;refine Zz ?_;refine Zx [] Za hnt λ _ z9=>z9 _ _ ?_;refine Zv ?_
   exact Zi rfl
  by_cases hl:left=0
  ·have hu:Nm.unit ⟨left,false,count,0⟩=(false,⟨left,true,count+1,11⟩):=by
    subst hl
    unfold Nm.unit;rw[if_neg (by simp),if_neg hc];rfl
   rw[hu]
   dsimp only
   rw[OA _ _ _ _ (by decide),Lj _ _ _ _ (by decide)]
   refine Zn 1 41 [ResultVar.tmp 2] Za Tryz.func152 rfl Tryz.ntmps152 rfl λ cx hnt hn0=>?_
   skip
   refine Zz ?_;refine Zx [] Za hnt λ _ z9=>z9 _ _ ?_;refine Zz ?_;refine Zt ?_;refine Zz ?_;refine Zx [(8,.v (.bool false))] Za hnt λ K hK=>?_;refine And.intro (Yq rfl) ?_;refine hK _ _ ?_;clear hK K;refine Zy (t:=false) rfl ?_;rw[if_neg (by simp)];refine Zz ?_;refine Zx [(14,.v (.bool false))] Za hnt λ K hK=>?_
   refine And.intro (XM hc) ?_;refine hK _ _ ?_;clear hK K;refine Zy (t:=false) rfl ?_;rw[if_neg (by simp)];refine Zz ?_;refine Zx [(23,.v (.bool true))] Za hnt λ K hK=>?_;refine And.intro (YT hl) ?_;refine hK _ _ ?_;clear hK K;refine Zy (t:=true) rfl ?_;rw[if_pos rfl];refine Zz ?_;refine Zx [] Za hnt λ _ z9=>z9 _ _ ?_
   refine Zz ?_;refine Zx [] Za hnt λ _ z9=>z9 _ _ ?_;refine Zv ?_
   exact Zi rfl
  ·have hu:Nm.unit ⟨left,false,count,0⟩=(true,⟨left-1,false,count+1,0⟩):=by
    have h1:¬ ((false:Bool)=true∨left<1):=by simp;omega
    unfold Nm.unit Nm.spend;rw[if_neg (by simp),if_neg hc];dsimp only;rw[if_neg h1]
   rw[hu]
   dsimp only
   rw[OA _ _ _ _ (by decide),OA _ _ _ _ (by decide)]
   refine Zn 1 41 [ResultVar.tmp 2] Za Tryz.func152 rfl Tryz.ntmps152 rfl λ cx hnt hn0=>?_
   skip
   refine Zz ?_;refine Zx [] Za hnt λ _ z9=>z9 _ _ ?_;refine Zz ?_;refine Zt ?_;refine Zz ?_;refine Zx [(8,.v (.bool false))] Za hnt λ K hK=>?_;refine And.intro (Yq rfl) ?_;refine hK _ _ ?_;clear hK K;refine Zy (t:=false) rfl ?_;rw[if_neg (by simp)];refine Zz ?_;refine Zx [(14,.v (.bool false))] Za hnt λ K hK=>?_
   refine And.intro (XM hc) ?_;refine hK _ _ ?_;clear hK K;refine Zy (t:=false) rfl ?_;rw[if_neg (by simp)];refine Zz ?_;refine Zx [(23,.v (.bool false))] Za hnt λ K hK=>?_;refine And.intro (XM hl) ?_;refine hK _ _ ?_;clear hK K;refine Zy (t:=false) rfl ?_;rw[if_neg (by simp)];refine Zw ?_;refine Zz ?_;refine Zx [(31,.v (.int .i64 ((left-1))))] Za hnt λ K hK=>?_
   refine And.intro (Zr (by exact IntWalk.i64_in _ (by omega))) ?_;refine hK _ _ ?_;clear hK K;refine Zz ?_;refine Zx [(38,.v (.int .i64 ((count+1))))] Za hnt λ K hK=>?_;refine And.intro (Zr (by exact IntWalk.i64_in _ (by omega))) ?_;refine hK _ _ ?_;clear hK K;refine Zz ?_;refine Zx [] Za hnt λ _ z9=>z9 _ _ ?_;refine Zv ?_
   exact Zi rfl
 rw[Rn.unit_e (s:=⟨left,dry,count,e⟩) he]
 unfold mE
 dsimp only
 refine Zn 1 41 [ResultVar.tmp 2] Za Tryz.func152 rfl Tryz.ntmps152 rfl λ cx hnt hn0=>?_
 skip
 refine Zz ?_;refine Zx [] Za hnt λ _ z9=>z9 _ _ ?_;refine Zz ?_;refine Zt ?_;refine Zz ?_;refine Zx [(8,.v (.bool true))] Za hnt λ K hK=>?_;refine And.intro (YO he) ?_;refine hK _ _ ?_;clear hK K;refine Zy (t:=true) rfl ?_;rw[if_pos rfl];refine Zz ?_;refine Zx [] Za hnt λ _ z9=>z9 _ _ ?_
 refine Zv ?_
 exact Zi rfl
theorem R6 (y:Int)(t:Tm):∀ ins:Int,(Nm.lift y t ins).full=t.full:=by
 induction t using Tm.ind with
 | h b k i a ih=>
  intro ins
  rw[Nm.lift_eq,Tm.full_eq,Tm.full_eq,Nm.lifts_map]
  congr 2
  generalize Nm.wr (ins+(b.length:Int))=m
  clear ins
  induction a with
  | nil=>rfl
  | cons u a iha=>
   rw[List.map_cons,Tm.fulls,Tm.fulls,ih u (by simp) m,iha λ v hv=>ih v (by simp[hv])]
theorem Oj (t:Tm)(y:Int):(Nm.grown t y).full=t.full:=by
 unfold Nm.grown
 split
 ·rfl
 exact R6 y t 0
def GB (B f:Nat):Prop:=∀ (s:Nm.St) (xs:List Tm) (n:Nat) (k i:Int) (a:List Tm) (ins:Int),X1 s->Rn.Dr s->(s.e=0->100001-s.count<=f)->Yv (.mk [] k i a)->Bnd B (.mk [] k i a)->(∀ x∈xs,Yv x/\Bnd B x/\x.size<=1000000000)->xs.length<=n->n<=100000 ->
 (0<=ins/\ins+((Tm.mk [] k i a).full:Int)<=4000000000000000000) ->
 ZB Tryz.prog 145 [.p 0 0,.ag [.v (.int .i64 k),.v (.int .i64 i)],.sl 4 (eTms a) none,.sl 4 (eTms xs) none,.v (.int .i64 n),.v (.int .i64 ins)] (mE s) (mE (Nm.through f xs n (.mk [] k i a) ins s).2) (.ag (eTm (Rn.ez (Nm.through f xs n (.mk [] k i a) ins s))))
set_option maxHeartbeats 2000000 in
theorem NU {B f:Nat}(ih:GB B f)(s:Nm.St)(xs:List Tm)(n:Nat)(bs:List Ty)(k i:Int)(a:List Tm)(ins m:Int)(hm:ins+(bs.length:Int)=m)(hs:X1 s)(hd:Rn.Dr s)(hf:s.e=0->100001-s.count<=f)(hw:Yv (.mk bs k i a))(hb:Bnd B (.mk bs k i a))(hx:∀ x∈xs,Yv x/\Bnd B x/\x.size<=1000000000)(hn:xs.length<=n)(hn2:n<=100000) 
  (hins:0<=ins/\ins+((Tm.mk bs k i a).full:Int)<=4000000000000000000) (r:Tm×Nm.St) (hr:Nm.through f xs n (.mk [] k i a) m s=r) :
  ZB Tryz.prog 153 [.p 0 0,.ag (eTm (.mk bs k i a)),.sl 4 (eTms xs) none,.v (.int .i64 n),.v (.int .i64 ins)] (mE s) (mE r.2) (.ag (eTm (.mk bs (Rn.ez r).kind (Rn.ez r).index (Rn.ez r).args))):=by
 obtain⟨w1,w2,w3⟩:=hw.inv
 obtain⟨b1,b2,b3⟩:=hb.inv
 rw[Tm.full_eq] at hins
 have hls:=Ty.le_sizes bs
 have hB:=ih s xs n k i a m hs hd hf (.mk _ _ _ _ (by simp) w2 w3) (.mk _ _ _ _ (by simp[Ty.sizes]) b2 b3) hx hn hn2 (by rw[Tm.full_eq];simp[Ty.sizes];omega)
 rw[hr] at hB
 have hm':IntKind.i64.wrap (ins+(bs.length:Int))=m:=by rw[hm];exact IntWalk.i64_in _ (by omega)
 obtain⟨z,hz⟩:∃ z,Rn.ez r=z:=⟨_,rfl⟩
 rw[hz] at hB ⊢
 obtain⟨q,hq⟩:∃ q,r.2=q:=⟨_,rfl⟩
 rw[hq] at hB ⊢
 clear hr hq hz
 unfold mE at hB ⊢
 rw[Zu] at hB ⊢
 rw[Zu]
 dsimp only[Tm.binds,Tm.kind,Tm.index,Tm.args]
 refine Zn 1 29 [ResultVar.cell 10 31] Za Tryz.func153 rfl Tryz.ntmps153 rfl λ cx hnt hn0=>?_
 skip
 refine Zz ?_;refine Zx [] Za hnt λ _ z9=>z9 _ _ ?_;refine Zz ?_;refine Zx [(22,.v (.int .i64 (↑bs.length))),(23,.v (.int .i64 (m)))] Za hnt λ K hK=>?_;refine And.intro (Zr (by rw[Zs])) ?_;refine And.intro (Zr (by exact hm')) ?_;refine Zk (hB) ?_;refine hK _ _ ?_;clear hK K;refine Zz ?_;refine Zx [] Za hnt λ K hK=>?_
 refine hK _ _ ?_;clear hK K;refine Zz ?_;refine Zx [] Za hnt λ _ z9=>z9 _ _ ?_;refine Zv ?_
 exact Zi rfl
set_option maxHeartbeats 8000000 in
theorem RG {B f:Nat}(hB170:B<=170)(s:Nm.St)(ih:(Nm.unit s).1=true->GB B f)(xs:List Tm)(n:Nat)(k i:Int)(a:List Tm)(ins:Int)(hs:X1 s)(hd:Rn.Dr s)(hf:s.e=0->100001-s.count<=(f+1:Nat))(hw:Yv (.mk [] k i a))(hb:Bnd B (.mk [] k i a)) 
  (hx:∀ x∈xs,Yv x/\Bnd B x/\x.size<=1000000000) (hn:xs.length<=n) (hn2:n<=100000) (hins:0<=ins/\ins+((Tm.mk [] k i a).full:Int)<=4000000000000000000) :
  ZB Tryz.prog 145 [.p 0 0,.ag [.v (.int .i64 k),.v (.int .i64 i)],.sl 4 (eTms a) none,.sl 4 (eTms xs) none,.v (.int .i64 n),.v (.int .i64 ins)] (mE s) (mE (Nm.through (f+1) xs n (.mk [] k i a) ins s).2) (.ag (eTm (Rn.ez (Nm.through (f+1) xs n (.mk [] k i a) ins s)))):=by
 obtain⟨w1,w2,w3⟩:=hw.inv
 obtain⟨b1,b2,b3⟩:=hb.inv
 obtain⟨p,hp⟩:∃ p,Nm.through (f+1) xs n (.mk [] k i a) ins s=p:=⟨_,rfl⟩
 rw[hp]
 have hone:=HJ s hs hd
 obtain⟨hc1,hc2⟩:=Nm.unit_count s
 have hs1:=UG hs
 have hd1:=Rn.unit_dr hd
 have hwi:Nm.wr (ins+(([]:List Ty).length:Int))=ins:=by
  rw[YX];simp only[List.length_nil];rw[show ins+((0:Nat):Int)=ins by omega];exact IntWalk.i64_in _ (by omega)
 have hp':p=if (Nm.unit s).1=true then Nm.hit (Nm.through f) xs n (.mk [] k i a) ins (Nm.seqM (λ a s=>Nm.through f xs n a ins s) a (Nm.unit s).2).1 (Nm.seqM (λ a s=>Nm.through f xs n a ins s) a (Nm.unit s).2).2 else (Nm.tz,(Nm.unit s).2):=by
  rw[<-hp]
  show (if (Nm.unit s).1=true then Nm.hit (Nm.through f) xs n (.mk [] k i a) (Nm.wr (ins+(([]:List Ty).length:Int))) (Nm.seqM (λ a s=>Nm.through f xs n a (Nm.wr (ins+(([]:List Ty).length:Int))) s) a (Nm.unit s).2).1 (Nm.seqM (λ a s=>Nm.through f xs n a (Nm.wr (ins+(([]:List Ty).length:Int))) s) a (Nm.unit s).2).2 else (Nm.tz,(Nm.unit s).2))=_
  rw[hwi]
 clear hp
 obtain⟨u,hu⟩:∃ u,Nm.unit s=u:=⟨_,rfl⟩
 rw[hu] at hone hc1 hc2 hs1 hd1 ih hp'
 have hun:u.1=false->u.2.e≠0:=λ h e=>Rn.through_bs.unit_no (s:=s) (by rw[hu];exact h) (by rw[hu];exact e)
 obtain⟨ok,s1⟩:=u
 dsimp only at hone hc1 hc2 hs1 hd1 ih hp' hun
 unfold mE at hone ⊢
 cases ok with
 | false=>
  rw[if_neg (by simp)] at hp'
  rw[hp',Rn.ez_no (hun rfl),X6]
  dsimp only
  refine Zn 1 119 [ResultVar.cell 12 31] Za Tryz.func145 rfl Tryz.ntmps145 rfl λ cx hnt hn0=>?_
  skip
  refine Zz ?_;refine Zx [] Za hnt λ _ z9=>z9 _ _ ?_;refine Zz ?_;refine Zz ?_;refine Zx [] Za hnt λ K hK=>?_;refine Zk (hone) ?_;refine hK _ _ ?_;clear hK K;refine Zy (t:=true) rfl ?_;rw[if_pos rfl];refine Zz ?_;refine Zx [(22,.ag [.sl 2 [] none,.v (.int .i64 0),.v (.int .i64 0),.sl 4 [] none])] Za hnt λ K hK=>?_
  refine And.intro (XP) ?_;refine hK _ _ ?_;clear hK K;refine Zv ?_
  exact Zi rfl
 | true=>
  rw[if_pos rfl] at hp'
  have ih:=ih rfl
  obtain⟨hc2,he,he1⟩:=hc2 rfl
  have hf1:=hf he
  obtain⟨g,hg⟩:∃ g:Tm->Nm.St->Tm×Nm.St,(λ a s=>Nm.through f xs n a ins s)=g:=⟨_,rfl⟩
  have hgx:∀ t s,g t s=Nm.through f xs n t ins s:=λ t s=>by rw[<-hg]
  rw[hg] at hp'
  obtain⟨O,hO⟩:∃ O:Nat->List Tm,∀ j,(Nm.seqM g (a.take j) s1).1=O j:=⟨_,λ _=>rfl⟩
  obtain⟨S,hS⟩:∃ S:Nat->Nm.St,∀ j,(Nm.seqM g (a.take j) s1).2=S j:=⟨_,λ _=>rfl⟩
  have hO0:O 0=[]:=by rw[<-hO];rfl
  have hS0:S 0=s1:=by rw[<-hS];rfl
  have hOn:∀ j (h:j<a.length),O (j+1)=O j++[(g a[j] (S j)).1]:=λ j h=>by rw[<-hO,<-hO,<-hS,Nm.seqM_take g a j h]
  have hSn:∀ j (h:j<a.length),S (j+1)=(g a[j] (S j)).2:=λ j h=>by rw[<-hS,<-hS,Nm.seqM_take g a j h]
  have hOl:∀ j,j<=a.length->(O j).length=j:=λ j h=>by rw[<-hO,Nm.seqM_length,List.length_take];omega
  have hOa:(Nm.seqM g a s1).1=O a.length:=by rw[<-hO,List.take_length]
  have hSa:(Nm.seqM g a s1).2=S a.length:=by rw[<-hS,List.take_length]
  have hSw:∀ j,X1 (S j):=λ j=>by rw[<-hS];exact UC (λ t s h=>by rw[hgx];exact XN f _ _ _ _ _ h) _ _ hs1
  have hSd:∀ j,Rn.Dr (S j):=λ j=>by rw[<-hS];exact Rn.seqM_dr (λ t s h=>by rw[hgx];exact Rn.through_dr f _ _ _ _ _ h) _ _ hd1
  have hSc:∀ j,s1.count<=(S j).count:=λ j=>by rw[<-hS];exact Nm.seqM_count (λ t s=>by rw[hgx];exact Nm.through_count f _ _ _ _ _) _ _
  have hOw:∀ t∈O a.length,Yv t:=by rw[<-hOa];exact Nm.seqM_wide (λ t s h=>by rw[hgx];exact Nm.through_wide f _ _ _ _ _ h (λ x hx'=>(hx x hx').1)) _ w3 _
  have hSe:∀ j,j<=a.length->(S j).e≠0->S a.length=S j:=λ j hj h=>by
   have e:a=a.take j++a.drop j:=(List.take_append_drop j a).symm
   rw[<-hSa,<-hS]
   conv=>lhs;rw[e]
   rw[Nm.seqM_append]
   exact Rn.seqM_e (λ t s h=>by rw[hgx,Rn.through_e f xs n t ins h]) _ (by rw[hS];exact h)
  rw[hOa,hSa] at hp'
  have hpe:∀ j,j<=a.length->(S j).e≠0->p.2=S j/\Rn.ez p=Nm.tz:=λ j hj h=>by
   have h2:=hSe j hj h
   have h1:p.2=S j:=by rw[hp',h2];exact Rn.hit_e _ _ _ _ _ _ h
   exact⟨h1,Rn.ez_no (by rw[h1];exact h)⟩
  refine Zn 1 119 [ResultVar.cell 12 31] Za Tryz.func145 rfl Tryz.ntmps145 rfl λ cx hnt hn0=>?_
  skip
  refine Zz ?_;refine Zx [] Za hnt λ _ z9=>z9 _ _ ?_;refine Zz ?_;refine Zz ?_;refine Zx [] Za hnt λ K hK=>?_;refine Zk (hone) ?_;refine hK _ _ ?_;clear hK K;refine Zy (t:=false) rfl ?_;rw[if_neg (by simp)];refine Zw ?_;refine Zz ?_;refine Zx [] Za hnt λ _ z9=>z9 _ _ ?_
  refine DW.vs (VS.row (k:=8) (off:=3) 31 4 rfl) ?_
  refine Zz ?_;refine Zz ?_;refine Zx [] Za hnt λ _ z9=>z9 _ _ ?_;refine Zt ?_
  refine Z6 (ι:={ j:Nat // j<=a.length/\(S j).e=0 }) (λ j=>[(.t 14,.v (.int .i64 ↑j.1)),(.t 0,.p 0 0),(.t 2,.sl 4 (eTms a) none),(.t 3,.sl 4 (eTms xs) none),(.t 4,.v (.int .i64 n)),(.t 5,.v (.int .i64 ins)),(.t 7,.p 1 0),(.t 12,.p 2 0),(.t 13,.p 8 0),(.c 1 0,.v (.int .i64 k)),(.c 1 1,.v (.int .i64 i)),(.c 2 0,.v (.slice none 0 0)),(.c 2 1,.v (.int .i64 0)),(.c 2 2,.v (.int .i64 0)),(.c 2 3,.v (.slice none 0 0)),(.c 8 0,.v (.slice none 0 0)),(.c 8 1,.v (.int .i64 k)),(.c 8 2,.v (.int .i64 i)),(.c 8 3,.sl 4 (eTms (O j.1)) (some 10)),(.r 10,.rw 31 4 (O j.1).length),(.c 0 0,.v (.int .i64 (S j.1).left)),(.c 0 1,.v (.int .i64 (Rn.dc (S j.1)))),(.c 0 2,.v (.int .i64 (S j.1).e))]) 12 (λ j=>a.length-j.1) (⟨0,Nat.zero_le _,by rw[hS0];exact he1⟩) ((by dsimp only;rw[hO0,hS0];exact VS.toA)) λ j=>?_
  obtain⟨j,hj,hje⟩:=j
  dsimp only
  by_cases hlt:j<a.length
  ·obtain⟨⟨xb,xk,xi,xa⟩,hxj⟩:∃ x,a[j]=x:=⟨_,rfl⟩
   have hmem:Tm.mk xb xk xi xa∈a:=hxj ▸ List.getElem_mem hlt
   obtain⟨m,hm⟩:∃ m,ins+(xb.length:Int)=m:=⟨_,rfl⟩
   obtain⟨r,hr⟩:∃ r,Nm.through f xs n (.mk [] xk xi xa) m (S j)=r:=⟨_,rfl⟩
   have hfu:=Tm.full_mem hmem
   rw[Tm.full_eq] at hins
   have hxl:=Ty.le_sizes xb
   have hxf:(Tm.mk xb xk xi xa).full=Ty.sizes xb+Tm.fulls xa+1:=Tm.full_eq ..
   have hwm:Nm.wr (ins+(xb.length:Int))=m:=by rw[YX,hm];exact IntWalk.i64_in _ (by omega)
   have hci:=NU ih (S j) xs n xb xk xi xa ins m hm (hSw j) (hSd j) (λ _=>by have:=hSc j;omega) (w3 _ hmem) (b3 _ hmem) hx hn hn2 ⟨hins.1,by omega⟩ r hr
   obtain⟨t1,t2⟩:=Rn.through_bs f xs n xb xk xi xa ins (S j)
   rw[hwm,hr] at t1 t2
   have hgj:g a[j] (S j)=Nm.through f xs n (.mk xb xk xi xa) ins (S j):=by rw[hgx,hxj]
   have hSj:S (j+1)=r.2:=by rw[hSn j hlt,hgj,t1]
   have hel:=ZT a j hlt
   rw[hxj,Zu] at hel
   obtain⟨⟨zb,zk,zi,za⟩,hz⟩:∃ z,Rn.ez r=z:=⟨_,rfl⟩
   rw[hz] at hci
   unfold mE at hci
   rw[Zu,Zu] at hci
   dsimp only[Tm.binds,Tm.kind,Tm.index,Tm.args] at hci hel
   rw[<-hSj] at hci t2
   by_cases hre:(S (j+1)).e=0
   ·have hfp:0<f:=by
     rcases Nat.eq_zero_or_pos f with h0 | h0
     ·exfalso
      subst h0
      have:=(hSw j).e0 hje
      have:=hSc j
      omega
     exact h0
    have hval:(g a[j] (S j)).1=.mk xb zk zi za:=by
     rw[Rn.ez_ok (by rw[<-hSj];exact hre)] at hz
     rw[hgj,t2 hre hfp,hz];rfl
    have hsn:eTms (O j)++[[.sl 2 (eTys xb) none,.v (.int .i64 zk),.v (.int .i64 zi),.sl 4 (eTms za) none]]=eTms (O (j+1)):=by
     rw[hOn j hlt,Xv,eTms,eTms,hval,Zu];rfl
    have hl1:(eTms (O j)).length=(O j).length:=Zq _
    have hl3:=hOl j hj
    have hl2:(eTms (O (j+1))).length=(O (j+1)).length:=Zq _
    refine Zz ?_;refine Zz ?_;refine Zx [(27,.v (.int .i64 (↑a.length))),(28,.v (.bool true))] Za hnt λ K hK=>?_;refine And.intro (Zr (by rw[Zq])) ?_;refine And.intro (Z7 (by omega)) ?_;refine hK _ _ ?_;clear hK K;refine Zy (t:=true) rfl ?_;rw[if_pos rfl];refine Zw ?_;refine Zz ?_;refine Zt ?_;refine Zz ?_;refine Zx [(34,.q [.sl 2 (eTys xb) none,.v (.int .i64 xk),.v (.int .i64 xi),.sl 4 (eTms xa) none])] Za hnt λ K hK=>?_
    refine And.intro (⟨by omega,by rw[Zq];omega⟩) ?_;refine And.intro (Zm.of_eq (by rw[Int.toNat_natCast,hel])) ?_;refine Zk (hci) ?_;refine hK _ _ ?_;clear hK K;refine Zz ?_;refine Zz ?_;refine Zx [(44,.v (.bool false))] Za hnt λ K hK=>?_;refine And.intro (Yq hre) ?_;refine hK _ _ ?_;clear hK K;refine Zy (t:=false) rfl ?_;rw[if_neg (by simp)];refine Zw ?_
    refine Zx [] Za hnt λ K hK=>?_;refine And.intro (⟨by omega,by rw[hl1];simp;omega⟩) ?_;refine hK _ _ ?_;clear hK K
    rw[hsn,hl2]
    refine Zx [(30,.v (.int .i64 (↑(j+1))))] Za hnt λ K hK=>?_;refine And.intro Ww ?_;refine hK _ _ ?_;clear hK K
    refine⟨⟨j+1,hlt,hre⟩,by first | omega | (dsimp only;omega),VS.toA⟩
   ·obtain⟨q1,q2⟩:=hpe (j+1) hlt hre
    rw[q1,q2,X6]
    refine Zz ?_;refine Zz ?_;refine Zx [(27,.v (.int .i64 (↑a.length))),(28,.v (.bool true))] Za hnt λ K hK=>?_;refine And.intro (Zr (by rw[Zq])) ?_;refine And.intro (Z7 (by omega)) ?_;refine hK _ _ ?_;clear hK K;refine Zy (t:=true) rfl ?_;rw[if_pos rfl];refine Zw ?_;refine Zz ?_;refine Zt ?_;refine Zz ?_;refine Zx [(34,.q [.sl 2 (eTys xb) none,.v (.int .i64 xk),.v (.int .i64 xi),.sl 4 (eTms xa) none])] Za hnt λ K hK=>?_
    refine And.intro (⟨by omega,by rw[Zq];omega⟩) ?_;refine And.intro (Zm.of_eq (by rw[Int.toNat_natCast,hel])) ?_;refine Zk (hci) ?_;refine hK _ _ ?_;clear hK K;refine Zz ?_;refine Zz ?_;refine Zx [(44,.v (.bool true))] Za hnt λ K hK=>?_;refine And.intro (YO hre) ?_;refine hK _ _ ?_;clear hK K;refine Zy (t:=true) rfl ?_;rw[if_pos rfl];refine Zz ?_
    refine Zx [(45,.ag [.sl 2 [] none,.v (.int .i64 0),.v (.int .i64 0),.sl 4 [] none])] Za hnt λ K hK=>?_;refine And.intro (XP) ?_;refine hK _ _ ?_;clear hK K;refine Zv ?_
    exact Zi rfl
  have hja:j=a.length:=by omega
  subst hja
  obtain⟨A,hA⟩:∃ A,O a.length=A:=⟨_,rfl⟩
  have hAl:A.length=a.length:=by rw[<-hA];exact hOl _ (Nat.le_refl _)
  obtain⟨s2,hs2⟩:∃ s2,S a.length=s2:=⟨_,rfl⟩
  have w2s:=hSw a.length
  have d2s:=hSd a.length
  have c2s:=hSc a.length
  have hAg:∀ t∈A,Bnd B t/\t.size<=1000000000:=by
   have h:=Nm.seqM_grow (B:=B) (f:=f) (g:=g) a (λ t ht s hs hf=>by rw[hgx];exact Nm.through_grow B f xs n t ins s hs hf (λ x hx'=>(hx x hx').2.1) (b3 t ht)) (λ t s h=>by rw[hgx];exact XN f _ _ _ _ _ h) (λ t s=>by rw[hgx];exact Nm.through_count f _ _ _ _ _) s1 hs1 (λ _=>by omega) (by rw[hSa];exact hje)
   rw[hOa,hSa,hA] at h
   intro t ht
   have h1:=Tm.size_mem ht
   have h2:=h.2.1
   have h3:=hs1.left
   have h4:=w2s.left
   exact⟨h.2.2 t ht,by omega⟩
  rw[hA] at hOw hp' ⊢
  rw[hs2] at w2s d2s c2s hje hp' ⊢
  clear hSe hSn hSw hSd hSc hOn hOl hS hO hS0 hO0 hpe hA hs2 hSa hOa
  obtain⟨left,dry,count,e⟩:=s2
  dsimp only at hje c2s
  subst hje
  have hen:=Zq A
  have hdc:Rn.dc ⟨left,dry,count,0⟩=count:=by unfold Rn.dc;dsimp only;rw[if_neg (by decide)]
  have hdc1:Rn.dc ⟨left,dry,count,1⟩=count:=by unfold Rn.dc;dsimp only;rw[if_neg (by decide)]
  dsimp only
  rw[hdc]
  rw[Rn.hit_def] at hp'
  have ed:∀ (i':Int) ,eTm (.mk [] k i' A)=[.sl 2 [] none,.v (.int .i64 k),.v (.int .i64 i'),.sl 4 (eTms A) none]:=λ i'=>by rw[Zu];rfl
  by_cases h1:k≠0∨i<ins
  ·rw[if_pos h1] at hp'
   rw[hp',Rn.ez_ok (p:=(Tm.mk [] k i A,(⟨left,dry,count,0⟩:Nm.St))) rfl,ed]
   dsimp only
   rw[hdc]
   by_cases hk:k≠0
   ·skip
    refine Zz ?_;refine Zz ?_;refine Zx [(27,.v (.int .i64 (↑a.length))),(28,.v (.bool false))] Za hnt λ K hK=>?_;refine And.intro (Zr (by rw[Zq])) ?_;refine And.intro (Ze (by omega)) ?_;refine hK _ _ ?_;clear hK K;refine Zy (t:=false) rfl ?_;rw[if_neg (by simp)];refine Zg ?_;refine Zz ?_;refine Zz ?_;refine Zx [(54,.v (.bool true))] Za hnt λ K hK=>?_
    refine And.intro (YO hk) ?_;refine hK _ _ ?_;clear hK K;refine Zy (t:=true) rfl ?_;rw[if_pos rfl];refine Zz ?_;refine Zx [(61,.ag [.sl 2 [] none,.v (.int .i64 k),.v (.int .i64 i),.sl 4 (eTms A) none])] Za hnt λ K hK=>?_;refine And.intro (XP) ?_;refine hK _ _ ?_;clear hK K;refine Zv ?_
    exact Zi rfl
   have hk:k=0:=by simpa using hk
   have hi:i<ins:=h1.resolve_left (λ h=>h hk)
   refine Zz ?_;refine Zz ?_;refine Zx [(27,.v (.int .i64 (↑a.length))),(28,.v (.bool false))] Za hnt λ K hK=>?_;refine And.intro (Zr (by rw[Zq])) ?_;refine And.intro (Ze (by omega)) ?_;refine hK _ _ ?_;clear hK K;refine Zy (t:=false) rfl ?_;rw[if_neg (by simp)];refine Zg ?_;refine Zz ?_;refine Zz ?_;refine Zx [(54,.v (.bool false)),(59,.v (.bool true))] Za hnt λ K hK=>?_
   refine And.intro (Yq hk) ?_;refine And.intro (Z7 hi) ?_;refine hK _ _ ?_;clear hK K;refine Zy (t:=true) rfl ?_;rw[if_pos rfl];refine Zz ?_;refine Zx [(61,.ag [.sl 2 [] none,.v (.int .i64 k),.v (.int .i64 i),.sl 4 (eTms A) none])] Za hnt λ K hK=>?_;refine And.intro (XP) ?_;refine hK _ _ ?_;clear hK K;refine Zv ?_
   exact Zi rfl
  rw[if_neg h1] at hp'
  have hk:k=0:=Classical.byContradiction λ h=>h1 (.inl h)
  have hi:¬ i<ins:=λ h=>h1 (.inr h)
  obtain⟨d,hd'⟩:∃ d,i-ins=d:=⟨_,rfl⟩
  have hwd:IntKind.i64.wrap (i-ins)=d:=by rw[hd'];exact IntWalk.i64_in _ (by omega)
  rw[YX (x:=i-ins),hwd] at hp'
  by_cases h3:(n:Int)<=d
  ·rw[if_neg (by omega),if_pos h3,YX] at hp'
   rw[hp',Rn.ez_ok (p:=(Tm.mk [] k (IntKind.i64.wrap (i-(xs.length:Int))) A,(⟨left,dry,count,0⟩:Nm.St))) rfl,ed]
   dsimp only
   rw[hdc]
   refine Zz ?_;refine Zz ?_;refine Zx [(27,.v (.int .i64 (↑a.length))),(28,.v (.bool false))] Za hnt λ K hK=>?_;refine And.intro (Zr (by rw[Zq])) ?_;refine And.intro (Ze (by omega)) ?_;refine hK _ _ ?_;clear hK K;refine Zy (t:=false) rfl ?_;rw[if_neg (by simp)];refine Zg ?_;refine Zz ?_;refine Zz ?_;refine Zx [(54,.v (.bool false)),(59,.v (.bool false))] Za hnt λ K hK=>?_
   refine And.intro (Yq hk) ?_;refine And.intro (Ze hi) ?_;refine hK _ _ ?_;clear hK K;refine Zy (t:=false) rfl ?_;rw[if_neg (by simp)];refine Zw ?_;refine Zz ?_;refine Zx [(65,.v (.int .i64 (d)))] Za hnt λ K hK=>?_;refine And.intro (Zr (by exact hwd)) ?_;refine hK _ _ ?_;clear hK K;refine Zz ?_;refine Zz ?_;refine Zx [(68,.v (.bool true))] Za hnt λ K hK=>?_
   refine And.intro (Z7 h3) ?_;refine hK _ _ ?_;clear hK K;refine Zy (t:=true) rfl ?_;rw[if_pos rfl];refine Zz ?_;refine Zx [(72,.v (.int .i64 (↑xs.length)))] Za hnt λ K hK=>?_;refine And.intro (Zr (by rw[Zq])) ?_;refine hK _ _ ?_;clear hK K;refine Zz ?_;refine Zx [(76,.ag [.sl 2 [] none,.v (.int .i64 k),.v (.int .i64 (IntKind.i64.wrap (i - ↑xs.length))),.sl 4 (eTms A) none])] Za hnt λ K hK=>?_
   refine And.intro (XP) ?_;refine hK _ _ ?_;clear hK K;refine Zv ?_
   exact Zi rfl
  have hn1:IntKind.i64.wrap ((n:Int)-1)=(n:Int)-1:=IntWalk.i64_in _ (by omega)
  have hn3:IntKind.i64.wrap ((n:Int)-1-d)=(n:Int)-1-d:=IntWalk.i64_in _ (by omega)
  by_cases h4:d<(n:Int)-xs.length
  ·rw[if_pos h4] at hp'
   rw[hp',Rn.ez_ok (p:=(Tm.mk [] k i A,(⟨left,dry,count,0⟩:Nm.St))) rfl,ed]
   dsimp only
   rw[hdc]
   refine Zz ?_;refine Zz ?_;refine Zx [(27,.v (.int .i64 (↑a.length))),(28,.v (.bool false))] Za hnt λ K hK=>?_;refine And.intro (Zr (by rw[Zq])) ?_;refine And.intro (Ze (by omega)) ?_;refine hK _ _ ?_;clear hK K;refine Zy (t:=false) rfl ?_;rw[if_neg (by simp)];refine Zg ?_;refine Zz ?_;refine Zz ?_;refine Zx [(54,.v (.bool false)),(59,.v (.bool false))] Za hnt λ K hK=>?_
   refine And.intro (Yq hk) ?_;refine And.intro (Ze hi) ?_;refine hK _ _ ?_;clear hK K;refine Zy (t:=false) rfl ?_;rw[if_neg (by simp)];refine Zw ?_;refine Zz ?_;refine Zx [(65,.v (.int .i64 (d)))] Za hnt λ K hK=>?_;refine And.intro (Zr (by exact hwd)) ?_;refine hK _ _ ?_;clear hK K;refine Zz ?_;refine Zz ?_;refine Zx [(68,.v (.bool false))] Za hnt λ K hK=>?_
   refine And.intro (Ze h3) ?_;refine hK _ _ ?_;clear hK K;refine Zy (t:=false) rfl ?_;rw[if_neg (by simp)];refine Zw ?_;refine Zz ?_;refine Zx [(78,.v (.int .i64 ((↑n-1)))),(80,.v (.int .i64 ((↑n-1-d))))] Za hnt λ K hK=>?_;refine And.intro (Zr (by exact hn1)) ?_;refine And.intro (Zr (by exact hn3)) ?_;refine hK _ _ ?_;clear hK K;refine Zz ?_
   refine Zz ?_;refine Zx [(83,.v (.int .i64 (↑xs.length))),(84,.v (.bool true))] Za hnt λ K hK=>?_;refine And.intro (Zr (by rw[Zq])) ?_;refine And.intro (Z7 (by omega)) ?_;refine hK _ _ ?_;clear hK K;refine Zy (t:=true) rfl ?_;rw[if_pos rfl];refine Zz ?_;refine Zx [(85,.ag [.sl 2 [] none,.v (.int .i64 k),.v (.int .i64 i),.sl 4 (eTms A) none])] Za hnt λ K hK=>?_
   refine And.intro (XP) ?_;refine hK _ _ ?_;clear hK K;refine Zv ?_
   exact Zi rfl
  rw[if_neg h4,if_neg h3] at hp'
  have hdx:((n:Int)-1-d).toNat<xs.length:=by omega
  obtain⟨x0,hx0⟩:∃ x0,xs[((n:Int)-1-d).toNat]=x0:=⟨_,rfl⟩
  have hx1:(eTms xs).getD ((n:Int)-1-d).toNat []=eTm x0:=by rw[ZT xs _ hdx,hx0]
  have hx2:xs.getD ((n:Int)-1-d).toNat Nm.tz=x0:=by rw[List.getD_eq_getElem?_getD,List.getElem?_eq_getElem hdx,<-hx0];rfl
  have hxm:=hx x0 (hx0 ▸ List.getElem_mem hdx)
  obtain⟨y,hy⟩:∃ y,IntKind.i64.wrap (IntKind.i64.wrap (ins+(n:Int))-(xs.length:Int))=y:=⟨_,rfl⟩
  have hxf:x0.full<=1000000000 * 171:=by
   have h5:=Bnd.full x0 hxm.2.1
   have h6:x0.size * (B+1)<=1000000000 * 171:=Nat.mul_le_mul hxm.2.2 (by omega)
   omega
  have hU:=MJ x0 hxm.1 B hxm.2.1 y (by omega)
  have huw:=Nm.grown_wide hxm.1 y
  have hub:=hxm.2.1.grown y
  have huf:=Oj x0 y
  rw[hx2,YX (x:=ins+(n:Int)),YX (x:=IntKind.i64.wrap (ins+(n:Int))-(xs.length:Int)),hy] at hp'
  obtain⟨⟨vb,vk,vi,va⟩,hv⟩:∃ v,Nm.grown x0 y=v:=⟨_,rfl⟩
  rw[hv] at hp' hU huw hub huf
  rw[Zu x0] at hx1 hU
  rw[Zu] at hU
  dsimp only[Tm.binds,Tm.kind,Tm.index,Tm.args] at hU
  obtain⟨v1,v2,v3⟩:=huw.inv
  obtain⟨u1,u2,u3⟩:=hub.inv
  rw[Tm.full_eq] at huf
  by_cases hbl:vb.length=A.length
  ·have hbl2:¬ (Tm.mk vb vk vi va).binds.length≠A.length:=λ h=>h hbl
   rw[if_neg hbl2] at hp'
   obtain⟨r,hr⟩:∃ r,Nm.through f A vb.length (.mk [] vk vi va) 0 ⟨left,dry,count,0⟩=r:=⟨_,rfl⟩
   have hpw:Nm.putW (Nm.through f) (.mk vb vk vi va) A ⟨left,dry,count,0⟩=(.mk (vb.drop A.length) r.1.kind r.1.index r.1.args,r.2):=by
    rw[<-hr]
    unfold Nm.putW
    rw[if_neg (by simp[Tm.binds];omega)];rfl
   have hB:=ih ⟨left,dry,count,0⟩ A vb.length vk vi va 0 w2s d2s (λ _=>by dsimp only;omega) (.mk _ _ _ _ (by simp) v2 v3) (.mk _ _ _ _ (by simp[Ty.sizes]) u2 u3) (λ t ht=>⟨hOw t ht,hAg t ht⟩) (by omega) v1 (by rw[Tm.full_eq];simp[Ty.sizes];omega)
   rw[hr] at hB
   rw[hpw] at hp'
   have hez:Rn.ez p=Rn.ez r:=by
    by_cases hre:r.2.e=0
    ·have e1:Rn.ez p=p.1:=Rn.ez_ok (by rw[hp'];exact hre)
     have e2:Rn.ez r=r.1:=Rn.ez_ok hre
     rw[e1,e2,hp']
     have h7:=(Rn.through_bs f A vb.length [] vk vi va 0 ⟨left,dry,count,0⟩).2
     have h8:Nm.wr (0+(([]:List Ty).length:Int))=0:=by rw[YX,show (0:Int)+((([]:List Ty).length:Nat):Int)=0 by simp];exact IntWalk.i64_in 0 (by omega)
     rw[h8,hr] at h7
     have hfp:0<f:=by
      rcases Nat.eq_zero_or_pos f with h0 | h0
      ·exfalso
       subst h0
       have:=w2s.e0 rfl
       dsimp only at this
       omega
      exact h0
     exact(h7 hre hfp).symm
    have e1:Rn.ez p=Nm.tz:=Rn.ez_no (by rw[hp'];exact hre)
    have e2:Rn.ez r=Nm.tz:=Rn.ez_no hre
    rw[e1,e2]
   rw[hez,hp']
   obtain⟨⟨zb,zk,zi,za⟩,hz⟩:∃ z,Rn.ez r=z:=⟨_,rfl⟩
   rw[hz] at hB ⊢
   unfold mE at hB
   dsimp only at hB ⊢
   rw[hdc] at hB
   rw[Zu] at hB ⊢
   dsimp only[Tm.binds,Tm.kind,Tm.index,Tm.args] at hB ⊢
   refine Zz ?_;refine Zz ?_;refine Zx [(27,.v (.int .i64 (↑a.length))),(28,.v (.bool false))] Za hnt λ K hK=>?_;refine And.intro (Zr (by rw[Zq])) ?_;refine And.intro (Ze (by omega)) ?_;refine hK _ _ ?_;clear hK K;refine Zy (t:=false) rfl ?_;rw[if_neg (by simp)];refine Zg ?_;refine Zz ?_;refine Zz ?_;refine Zx [(54,.v (.bool false)),(59,.v (.bool false))] Za hnt λ K hK=>?_
   refine And.intro (Yq hk) ?_;refine And.intro (Ze hi) ?_;refine hK _ _ ?_;clear hK K;refine Zy (t:=false) rfl ?_;rw[if_neg (by simp)];refine Zw ?_;refine Zz ?_;refine Zx [(65,.v (.int .i64 (d)))] Za hnt λ K hK=>?_;refine And.intro (Zr (by exact hwd)) ?_;refine hK _ _ ?_;clear hK K;refine Zz ?_;refine Zz ?_;refine Zx [(68,.v (.bool false))] Za hnt λ K hK=>?_
   refine And.intro (Ze h3) ?_;refine hK _ _ ?_;clear hK K;refine Zy (t:=false) rfl ?_;rw[if_neg (by simp)];refine Zw ?_;refine Zz ?_;refine Zx [(78,.v (.int .i64 ((↑n-1)))),(80,.v (.int .i64 ((↑n-1-d))))] Za hnt λ K hK=>?_;refine And.intro (Zr (by exact hn1)) ?_;refine And.intro (Zr (by exact hn3)) ?_;refine hK _ _ ?_;clear hK K;refine Zz ?_
   refine Zz ?_;refine Zx [(83,.v (.int .i64 (↑xs.length))),(84,.v (.bool false))] Za hnt λ K hK=>?_;refine And.intro (Zr (by rw[Zq])) ?_;refine And.intro (Ze (by omega)) ?_;refine hK _ _ ?_;clear hK K;refine Zy (t:=false) rfl ?_;rw[if_neg (by simp)];refine Zw ?_;refine Zz ?_;refine Zx [(88,.q [.sl 2 (eTys x0.binds) none,.v (.int .i64 x0.kind),.v (.int .i64 x0.index),.sl 4 (eTms x0.args) none]),(94,.v (.int .i64 (↑xs.length))),(95,.v (.int .i64 (y)))] Za hnt λ K hK=>?_
   refine And.intro (⟨by omega,by rw[Zq];omega⟩) ?_;refine And.intro (Zm.of_eq (by rw[hx1])) ?_;refine And.intro (Zr (by rw[Zq])) ?_;refine And.intro (Zr (by exact hy)) ?_;refine Zk (hU) ?_;refine hK _ _ ?_;clear hK K;refine Zz ?_;refine Zz ?_;refine Zx [(99,.v (.int .i64 (↑vb.length))),(102,.v (.int .i64 (↑A.length))),(103,.v (.bool false))] Za hnt λ K hK=>?_
   refine And.intro (Zr (by rw[Zs])) ?_;refine And.intro (Zr (by rw[Zq])) ?_;refine And.intro (Yq (by omega)) ?_;refine hK _ _ ?_;clear hK K;refine Zy (t:=false) rfl ?_;rw[if_neg (by simp)];refine Zw ?_;refine Zz ?_;refine Zx [(114,.sl 4 (eTms A) none),(117,.v (.int .i64 (↑vb.length)))] Za hnt λ K hK=>?_;refine And.intro ((Zm.untag _ _ _)) ?_
   refine And.intro (Zr (by rw[Zs])) ?_;refine Zk (hB) ?_;refine hK _ _ ?_;clear hK K;refine Zv ?_
   exact Zi rfl
  have hbl2:(Tm.mk vb vk vi va).binds.length≠A.length:=hbl
  rw[if_pos hbl2] at hp'
  rw[hp',Rn.ez_no (Nm.fail_ne _),X6]
  have hfl:Nm.fail ⟨left,dry,count,0⟩ 1=⟨left,dry,count,1⟩:=rfl
  rw[hfl,hdc1]
  dsimp only
  refine Zz ?_;refine Zz ?_;refine Zx [(27,.v (.int .i64 (↑a.length))),(28,.v (.bool false))] Za hnt λ K hK=>?_;refine And.intro (Zr (by rw[Zq])) ?_;refine And.intro (Ze (by omega)) ?_;refine hK _ _ ?_;clear hK K;refine Zy (t:=false) rfl ?_;rw[if_neg (by simp)];refine Zg ?_;refine Zz ?_;refine Zz ?_;refine Zx [(54,.v (.bool false)),(59,.v (.bool false))] Za hnt λ K hK=>?_
  refine And.intro (Yq hk) ?_;refine And.intro (Ze hi) ?_;refine hK _ _ ?_;clear hK K;refine Zy (t:=false) rfl ?_;rw[if_neg (by simp)];refine Zw ?_;refine Zz ?_;refine Zx [(65,.v (.int .i64 (d)))] Za hnt λ K hK=>?_;refine And.intro (Zr (by exact hwd)) ?_;refine hK _ _ ?_;clear hK K;refine Zz ?_;refine Zz ?_;refine Zx [(68,.v (.bool false))] Za hnt λ K hK=>?_
  refine And.intro (Ze h3) ?_;refine hK _ _ ?_;clear hK K;refine Zy (t:=false) rfl ?_;rw[if_neg (by simp)];refine Zw ?_;refine Zz ?_;refine Zx [(78,.v (.int .i64 ((↑n-1)))),(80,.v (.int .i64 ((↑n-1-d))))] Za hnt λ K hK=>?_;refine And.intro (Zr (by exact hn1)) ?_;refine And.intro (Zr (by exact hn3)) ?_;refine hK _ _ ?_;clear hK K;refine Zz ?_
  refine Zz ?_;refine Zx [(83,.v (.int .i64 (↑xs.length))),(84,.v (.bool false))] Za hnt λ K hK=>?_;refine And.intro (Zr (by rw[Zq])) ?_;refine And.intro (Ze (by omega)) ?_;refine hK _ _ ?_;clear hK K;refine Zy (t:=false) rfl ?_;rw[if_neg (by simp)];refine Zw ?_;refine Zz ?_;refine Zx [(88,.q [.sl 2 (eTys x0.binds) none,.v (.int .i64 x0.kind),.v (.int .i64 x0.index),.sl 4 (eTms x0.args) none]),(94,.v (.int .i64 (↑xs.length))),(95,.v (.int .i64 (y)))] Za hnt λ K hK=>?_
  refine And.intro (⟨by omega,by rw[Zq];omega⟩) ?_;refine And.intro (Zm.of_eq (by rw[hx1])) ?_;refine And.intro (Zr (by rw[Zq])) ?_;refine And.intro (Zr (by exact hy)) ?_;refine Zk (hU) ?_;refine hK _ _ ?_;clear hK K;refine Zz ?_;refine Zz ?_;refine Zx [(99,.v (.int .i64 (↑vb.length))),(102,.v (.int .i64 (↑A.length))),(103,.v (.bool true))] Za hnt λ K hK=>?_
  refine And.intro (Zr (by rw[Zs])) ?_;refine And.intro (Zr (by rw[Zq])) ?_;refine And.intro (YO (by omega)) ?_;refine hK _ _ ?_;clear hK K;refine Zy (t:=true) rfl ?_;rw[if_pos rfl];refine Zz ?_;refine Zx [] Za hnt λ _ z9=>z9 _ _ ?_;refine Zz ?_;refine Zx [(107,.ag [.sl 2 [] none,.v (.int .i64 0),.v (.int .i64 0),.sl 4 [] none])] Za hnt λ K hK=>?_
  refine And.intro (XP) ?_;refine hK _ _ ?_;clear hK K;refine Zv ?_
  exact Zi rfl
theorem Kk {B:Nat}(hB:B<=170)(f:Nat):GB B f:=by
 induction f with
 | zero=>
  intro s xs n k i a ins hs hd hf hw hb hx hn hn2 hins
  have he:s.e≠0:=λ h=>by have:=hf h;have:=hs.e0 h;omega
  have h:=RG (f:=0) hB s (λ h=>by rw[Rn.unit_e he] at h;cases h) xs n k i a ins hs hd (λ h=>absurd h he) hw hb hx hn hn2 hins
  rw[Rn.through_e (0+1) xs n _ ins he] at h
  rw[Rn.through_e 0 xs n _ ins he]
  exact h
 | succ f ih=>exact λ s xs n k i a ins hs hd hf hw hb hx hn hn2 hins=>RG hB s (λ _=>ih) xs n k i a ins hs hd hf hw hb hx hn hn2 hins
def TRNP:List (Nat×TI):=[(31,TTM_31),(3,TG_3),(224,TRND_224),(22,TTY_22),(29,TTM_29),(222,TRND_222),(28,TTM_28),(104,TTY_104)]
theorem Ye:Zd Tryz.prog TRNP:=(((((((((Zd.nil _).cons Yy).cons Xz).cons Ug).cons Y5).cons Yo).cons Uh).cons ZW).cons Yl)
def mD (left c e:Int):List (Key×D):=[(.c 0 0,.v (.int .i64 left)),(.c 0 1,.v (.int .i64 c)),(.c 0 2,.v (.int .i64 e))]
theorem J8 (s:Nm.St)(xs:List Tm)(n:Nat)(k i:Int)(a:List Tm)(ins:Int)(f:Nat)(he:(Nm.through f xs n (.mk [] k i a) ins s).2.e=0)(hf:0<f)(hi:Nm.wr ins=ins):(Nm.through f xs n (.mk [] k i a) ins s).1.binds=[]:=by
 have h:=(Rn.through_bs f xs n [] k i a ins s).2
 rw[show Nm.wr (ins+(([]:List Ty).length:Int))=ins by rw[show ins+((([]:List Ty).length:Nat):Int)=ins by simp];exact hi] at h
 rw[h he hf];rfl
theorem I6 (left:Int):Rn.dc ⟨left,false,0,0⟩=0:=by unfold Rn.dc;dsimp only;rw[if_neg (by decide)]
set_option maxHeartbeats 4000000 in
theorem Iq {B:Nat}(hB:B<=170)(left:Int)(h0:0<=left/\left<=1000000000)(t:Tm)(xs:List Tm)(hw:Yv t)(hb:Bnd B t)(hf:t.full<=1000000000000000)(hx:∀ x∈xs,Yv x/\Bnd B x/\x.size<=1000000000)(hl:xs.length=t.binds.length):
  ZB Tryz.prog 133 [.p 0 0,.ag (eTm t),.sl 4 (eTms xs) none] (mD left 0 0) (mD (Nm.put 100001 t xs ⟨left,false,0,0⟩).2.left (Rn.dc (Nm.put 100001 t xs ⟨left,false,0,0⟩).2) (Nm.put 100001 t xs ⟨left,false,0,0⟩).2.e) (.ag (eTm (Rn.ez (Nm.put 100001 t xs ⟨left,false,0,0⟩)))):=by
 obtain⟨bs,k,i,a⟩:=t
 obtain⟨w1,w2,w3⟩:=hw.inv
 obtain⟨b1,b2,b3⟩:=hb.inv
 dsimp only[Tm.binds] at hl
 rw[Tm.full_eq] at hf
 have hB:=Kk hB 100001 ⟨left,false,0,0⟩ xs bs.length k i a 0 ⟨h0,⟨by show (0:Int)<=0;decide,by show (0:Int)<=100001;decide⟩,λ _=>by show (0:Int)<=100000;decide⟩ (λ _=>rfl) (λ _=>by show (100001:Int)-0<=((100001:Nat):Int);decide) (.mk _ _ _ _ (by simp) w2 w3) (.mk _ _ _ _ (by simp[Ty.sizes]) b2 b3) hx (by omega) w1 (by rw[Tm.full_eq];simp[Ty.sizes];omega)
 obtain⟨r,hr⟩:∃ r,Nm.through 100001 xs bs.length (.mk [] k i a) 0 ⟨left,false,0,0⟩=r:=⟨_,rfl⟩
 have hp:Nm.put 100001 (.mk bs k i a) xs ⟨left,false,0,0⟩=(.mk [] r.1.kind r.1.index r.1.args,r.2):=by
  rw[<-hr]
  unfold Nm.put Nm.putW
  rw[if_neg (by simp[Tm.binds,hl])]
  dsimp only[Tm.binds,Tm.kind,Tm.index,Tm.args]
  rw[hl,List.drop_length]
 have hbb:=λ h=>J8 ⟨left,false,0,0⟩ xs bs.length k i a 0 100001 h (by decide) (by rw[YX];exact IntWalk.i64_in 0 (by omega))
 rw[hr] at hB hbb
 rw[hp]
 have hez:Rn.ez ((Tm.mk [] r.1.kind r.1.index r.1.args,r.2):Tm×Nm.St)=Rn.ez r:=by
  by_cases hre:r.2.e=0
  ·rw[Rn.ez_ok (p:=r) hre,Rn.ez_ok (p:=(Tm.mk [] r.1.kind r.1.index r.1.args,r.2)) hre]
   have:=hbb hre
   obtain⟨⟨c1,c2,c3,c4⟩,st⟩:=r
   dsimp only[Tm.binds] at this
   subst this;rfl
  rw[Rn.ez_no (p:=r) hre,Rn.ez_no (p:=(Tm.mk [] r.1.kind r.1.index r.1.args,r.2)) hre]
 have hzb:(Rn.ez r).binds=[]:=by
  by_cases hre:r.2.e=0
  ·rw[Rn.ez_ok (p:=r) hre];exact hbb hre
  rw[Rn.ez_no (p:=r) hre];rfl
 rw[hez]
 obtain⟨⟨zb,zk,zi,za⟩,hz⟩:∃ z,Rn.ez r=z:=⟨_,rfl⟩
 rw[hz] at hB hzb ⊢
 dsimp only[Tm.binds] at hzb
 subst hzb
 obtain⟨q,hq⟩:∃ q,r.2=q:=⟨_,rfl⟩
 dsimp only
 rw[hq] at hB ⊢
 unfold mE at hB
 rw[I6] at hB
 unfold mD
 rw[Zu] at hB ⊢
 rw[Zu]
 dsimp only[Tm.binds,Tm.kind,Tm.index,Tm.args] at hB ⊢
 refine Zn 1 49 [ResultVar.cell 6 31] Ye Tryz.func133 rfl Tryz.ntmps133 rfl λ cx hnt hn0=>?_
 skip
 refine Zz ?_;refine Zx [] Ye hnt λ _ z9=>z9 _ _ ?_;refine Zz ?_;refine Zz ?_;refine Zx [(12,.v (.bool true)),(15,.v (.int .i64 (↑xs.length))),(18,.v (.int .i64 (↑bs.length))),(19,.v (.bool false))] Ye hnt λ K hK=>?_;refine And.intro (YT rfl) ?_;refine And.intro (Zr (by rw[Zq])) ?_;refine And.intro (Zr (by rw[Zs])) ?_
 refine And.intro (Ze (by omega)) ?_;refine hK _ _ ?_;clear hK K;refine Zy (t:=false) rfl ?_;rw[if_neg (by simp)];refine Zw ?_;refine Zz ?_;refine Zz ?_;refine Zx [(28,.v (.bool false))] Ye hnt λ K hK=>?_;refine And.intro (Yq rfl) ?_;refine hK _ _ ?_;clear hK K;refine Zy (t:=false) rfl ?_;rw[if_neg (by simp)];refine Zw ?_;refine Zz ?_
 refine Zx [(38,.v (.int .i64 (↑bs.length)))] Ye hnt λ K hK=>?_;refine And.intro (Zr (by rw[Zs])) ?_;refine Zk (hB) ?_;refine hK _ _ ?_;clear hK K
 have hdr:((eTys bs).take ((eTys bs).length:Int).toNat).drop ((xs.length:Nat):Int).toNat=[]:=by
  rw[Int.toNat_natCast,Int.toNat_natCast,List.take_length,List.drop_eq_nil_of_le (by rw[Zs];omega)]
 refine Zz ?_;refine Zx [(44,.v (.int .i64 (↑xs.length))),(45,.sl 2 [] none)] Ye hnt λ K hK=>?_;refine And.intro (Zr (by rw[Zq])) ?_;refine And.intro (⟨by omega,by rw[Zs];omega⟩) ?_;refine And.intro (Zm.of_eq (by simp only[Option.getD];rw[hdr])) ?_;refine And.intro (⟨rfl,by decide⟩) ?_;refine hK _ _ ?_;clear hK K;refine Zz ?_;refine Zx [(48,.ag [.sl 2 (eTys []) none,.v (.int .i64 zk),.v (.int .i64 zi),.sl 4 (eTms za) none])] Ye hnt λ K hK=>?_
 refine And.intro (XP) ?_;refine hK _ _ ?_;clear hK K;refine Zv ?_
 exact Zi rfl
theorem KG (left c e:Int)(z:Tm)(hz:e=0->z.size<=1000000)(e':Int)(he':(if e=0/\Li.rt z=false then 2 else e)=e'):
  ZB Tryz.prog 132 [.p 0 0,.ag (eTm z)] (mD left c e) (mD left c e') (.tu [.ag (eTm (if e'≠0 then Nm.tz else z)),.v (.int .i64 e')]):=by
 unfold mD
 by_cases he:e=0
 ·subst he
  have hR:=Ve z (hz rfl)
  cases hr:Li.rt z with
  | true=>
   rw[hr] at hR he'
   rw[if_neg (by simp)] at he'
   subst he'
   rw[if_neg (by simp)]
   rw[Zu] at hR ⊢
   refine Zn 1 30 [ResultVar.cell 4 31,ResultVar.tmp 5] Ye Tryz.func132 rfl Tryz.ntmps132 rfl λ cx hnt hn0=>?_
   skip
   refine Zz ?_;refine Zx [] Ye hnt λ _ z9=>z9 _ _ ?_;refine Zz ?_;refine Zz ?_;refine Zx [(10,.v (.bool true))] Ye hnt λ K hK=>?_;refine And.intro (YT rfl) ?_;refine Zk (hR) ?_;refine hK _ _ ?_;clear hK K;refine Zy (t:=false) rfl ?_;rw[if_neg (by simp)];refine Zw ?_;refine Zz ?_;refine Zz ?_;refine Zx [(23,.v (.bool false))] Ye hnt λ K hK=>?_
   refine And.intro (Yq rfl) ?_;refine hK _ _ ?_;clear hK K;refine Zy (t:=false) rfl ?_;rw[if_neg (by simp)];refine Zw ?_;refine Zz ?_;refine Zx [] Ye hnt λ _ z9=>z9 _ _ ?_;refine Zv ?_
   exact Zi rfl
  | false=>
   rw[hr] at hR he'
   rw[if_pos ⟨rfl,rfl⟩] at he'
   subst he'
   rw[if_pos (by decide),X6]
   rw[Zu] at hR ⊢
   refine Zn 1 30 [ResultVar.cell 4 31,ResultVar.tmp 5] Ye Tryz.func132 rfl Tryz.ntmps132 rfl λ cx hnt hn0=>?_
   skip
   refine Zz ?_;refine Zx [] Ye hnt λ _ z9=>z9 _ _ ?_;refine Zz ?_;refine Zz ?_;refine Zx [(10,.v (.bool true))] Ye hnt λ K hK=>?_;refine And.intro (YT rfl) ?_;refine Zk (hR) ?_;refine hK _ _ ?_;clear hK K;refine Zy (t:=true) rfl ?_;rw[if_pos rfl];refine Zx [] Ye hnt λ _ z9=>z9 _ _ ?_;refine Zz ?_
   refine Zz ?_;refine Zx [(23,.v (.bool true))] Ye hnt λ K hK=>?_;refine And.intro (YO (by decide)) ?_;refine hK _ _ ?_;clear hK K;refine Zy (t:=true) rfl ?_;rw[if_pos rfl];refine Zz ?_;refine ZQ [(24,.ag [.sl 2 [] none,.v (.int .i64 0),.v (.int .i64 0),.sl 4 [] none])] Ye hnt λ K hK=>?_;refine And.intro (XP) ?_;refine hK _ _ (by kernel_rfl) ?_;clear hK K
   refine Zv ?_
   exact Zi rfl
 rw[if_neg (λ h=>he h.1)] at he'
 subst he'
 rw[if_pos he,X6,Zu]
 refine Zn 1 30 [ResultVar.cell 4 31,ResultVar.tmp 5] Ye Tryz.func132 rfl Tryz.ntmps132 rfl λ cx hnt hn0=>?_
 skip
 refine Zz ?_;refine Zx [] Ye hnt λ _ z9=>z9 _ _ ?_;refine Zz ?_;refine Zz ?_;refine Zx [(10,.v (.bool false))] Ye hnt λ K hK=>?_;refine And.intro (XM he) ?_;refine hK _ _ ?_;clear hK K;refine Zy (t:=false) rfl ?_;rw[if_neg (by simp)];refine Zw ?_;refine Zz ?_;refine Zz ?_;refine Zx [(23,.v (.bool true))] Ye hnt λ K hK=>?_
 refine And.intro (YO he) ?_;refine hK _ _ ?_;clear hK K;refine Zy (t:=true) rfl ?_;rw[if_pos rfl];refine Zz ?_;refine ZQ [(24,.ag [.sl 2 [] none,.v (.int .i64 0),.v (.int .i64 0),.sl 4 [] none])] Ye hnt λ K hK=>?_;refine And.intro (XP) ?_;refine hK _ _ (by kernel_rfl) ?_;clear hK K;refine Zv ?_
 exact Zi rfl
theorem Lh (κ:Nat)(left c e:Int):(mD left c e).map (WJ (λ _=>κ))=[(.c κ 0,.v (.int .i64 left)),(.c κ 1,.v (.int .i64 c)),(.c κ 2,.v (.int .i64 e))]:=rfl
set_option maxHeartbeats 4000000 in
theorem Ic {B:Nat}(hB:B<=170)(left:Int)(h0:0<=left/\left<=1000000)(t:Tm)(xs:List Tm)(hw:Yv t)(hb:Bnd B t)(hf:t.full<=1000000000000000)(hx:∀ x∈xs,Yv x/\Bnd B x/\x.size<=1000000000)(hl:xs.length=t.binds.length):
  Zh Tryz.prog 116 [.ag (eTm t),.sl 4 (eTms xs) none,.v (.int .i64 left)] (.tu [.ag (eTm (Nm.Put t xs left false).1),.v (.int .i64 (Nm.Put t xs left false).2.left),.v (.int .i64 (Nm.Put t xs left false).2.e)]):=by
 have hP:=Iq hB left ⟨h0.1,by omega⟩ t xs hw hb hf hx hl
 have hg:=Nm.putW_grow (B:=B) (f:=100001) (Nm.through_grow B 100001) (t:=t) (xs:=xs) (s:=⟨left,false,0,0⟩) ⟨⟨h0.1,by show left<=1000000000;omega⟩,⟨by show (0:Int)<=0;decide,by show (0:Int)<=100001;decide⟩,λ _=>by show (0:Int)<=100000;decide⟩ (λ _=>by show (100001:Int)-0<=((100001:Nat):Int);decide) hb (λ x h=>(hx x h).2.1)
 have hwk:X1 (Nm.put 100001 t xs ⟨left,false,0,0⟩).2:=TH (thr:=Nm.through 100001) (λ _ _ _ _ _ h=>XN 100001 _ _ _ _ _ h) t xs ⟨left,false,0,0⟩ ⟨⟨h0.1,by show left<=1000000000;omega⟩,⟨by show (0:Int)<=0;decide,by show (0:Int)<=100001;decide⟩,λ _=>by show (0:Int)<=100000;decide⟩
 have hg:Nm.Gr B 100001 t ⟨left,false,0,0⟩ (Nm.put 100001 t xs ⟨left,false,0,0⟩):=hg
 unfold Nm.Put
 obtain⟨p,hp⟩:∃ p,Nm.put 100001 t xs ⟨left,false,0,0⟩=p:=⟨_,rfl⟩
 rw[hp] at hP hg hwk ⊢
 clear hp
 obtain⟨x,sl,sd,sc,se⟩:=p
 obtain⟨e',he'⟩:∃ e',(if se=0/\Li.rt (Rn.ez (x,(⟨sl,sd,sc,se⟩:Nm.St)))=false then 2 else se)=e':=⟨_,rfl⟩
 have hD:=KG sl (Rn.dc ⟨sl,sd,sc,se⟩) se (Rn.ez (x,(⟨sl,sd,sc,se⟩:Nm.St))) (λ h=>by
  rw[Rn.ez_ok (p:=(x,(⟨sl,sd,sc,se⟩:Nm.St))) h]
  have h1:=(hg h).2.1
  have h2:=hwk.left
  dsimp only at h1 h2 ⊢
  omega) e' he'
 have hz:(Nm.done (x,⟨sl,sd,sc,se⟩)).1=(if e'≠0 then Nm.tz else Rn.ez (x,(⟨sl,sd,sc,se⟩:Nm.St)))/\(Nm.done (x,⟨sl,sd,sc,se⟩)).2.left=sl/\(Nm.done (x,⟨sl,sd,sc,se⟩)).2.e=e':=by
  have hdn:Nm.done (x,⟨sl,sd,sc,se⟩)=(λ s':Nm.St=>if s'.e≠0 then (Nm.tz,s') else (x,s')) (if se=0/\¬ (x.size<=5000/\x.depth<=60) then Nm.fail ⟨sl,sd,sc,se⟩ 2 else ⟨sl,sd,sc,se⟩):=rfl
  rw[hdn]
  by_cases h:se=0
  ·subst h
   rw[Rn.ez_ok (p:=(x,(⟨sl,sd,sc,0⟩:Nm.St))) rfl] at he' ⊢
   by_cases hr:x.size<=5000/\x.depth<=60
   ·have:Li.rt x=true:=decide_eq_true hr
    rw[this,if_neg (by simp)] at he'
    subst he'
    rw[if_neg (show ¬ ((0:Int)=0/\¬ (x.size<=5000/\x.depth<=60)) from λ h=>h.2 hr)]
    exact⟨rfl,rfl,rfl⟩
   have:Li.rt x=false:=decide_eq_false hr
   rw[this,if_pos ⟨rfl,rfl⟩] at he'
   subst he'
   rw[if_pos (show (0:Int)=0/\¬ (x.size<=5000/\x.depth<=60) from ⟨rfl,hr⟩)]
   exact⟨rfl,rfl,rfl⟩
  rw[if_neg (λ h'=>h h'.1)] at he'
  subst he'
  rw[if_neg (show ¬ (se=0/\¬ (x.size<=5000/\x.depth<=60)) from λ h'=>h h'.1)]
  dsimp only
  rw[if_pos h,if_pos h]
  exact⟨rfl,rfl,rfl⟩
 rw[hz.1,hz.2.1,hz.2.2]
 clear hz
 obtain⟨z,hzz⟩:∃ z,Rn.ez (x,(⟨sl,sd,sc,se⟩:Nm.St))=z:=⟨_,rfl⟩
 obtain⟨z',hz'⟩:∃ z',(if e'≠0 then Nm.tz else Rn.ez (x,(⟨sl,sd,sc,se⟩:Nm.St)))=z':=⟨_,rfl⟩
 rw[hz'] at hD ⊢
 rw[hzz] at hD hP
 dsimp only at hP
 obtain⟨c,hcc⟩:∃ c,Rn.dc ⟨sl,sd,sc,se⟩=c:=⟨_,rfl⟩
 rw[hcc] at hD hP
 have hP:=hP.ren (λ _=>6) (by simp[mD,Ut,D.ok,D.oks,ZM,Xa,WO,YK,Y8,Yi]) (by intro k h1 k' h2 _;simp[mD,ZM] at h1 h2;rw[h1,h2])
 have hD:=hD.ren (λ _=>6) (by simp[mD,Ut,D.ok,D.oks,ZM,Xa,WO,YK,Y8,Yi]) (by intro k h1 k' h2 _;simp[mD,ZM] at h1 h2;rw[h1,h2])
 rw[Lh,Lh] at hP hD
 simp only[List.map_cons,List.map_nil,D.ren,D.rens,VR,Ul] at hP hD
 rw[Zu t] at hP ⊢
 rw[Zu z'] at hD ⊢
 refine Zn 0 30 [ResultVar.cell 6 31,ResultVar.tmp 7,ResultVar.tmp 8] Ye Tryz.func116 rfl Tryz.ntmps116 rfl λ cx hnt hn0=>?_
 skip
 refine Zz ?_;refine Zx [] Ye hnt λ _ z9=>z9 _ _ ?_;refine Zz ?_;refine Zx [] Ye hnt λ _ z9=>z9 _ _ ?_;refine Zz ?_;refine Zx [] Ye hnt λ K hK=>?_;refine Zk (hP) ?_;refine Zk (hD) ?_;refine hK _ _ ?_;clear hK K;refine Zz ?_;refine ZQ [] Ye hnt λ K hK=>?_;refine hK _ _ (by kernel_rfl) ?_;clear hK K
 refine Zv ?_
 exact Zi rfl
namespace Pn
end Pn
namespace Pn
theorem getT_bfind (l:Bd)(m:Int):Qn l m=match bfind l m with | some z=>(z,true) | none=>(Tm.zero,false):=by
 have key:∀ l:Bd,LL l m=l.find? λ p=>p.1==m:=by
  intro l
  unfold LL
  induction l with
  | nil=>rfl
  | cons p l ih=>
   rw[Xf,List.find?_cons]
   by_cases h:p.1=m
   ·simp[h]
   have h2:(p.1==m)=false:=by simp[h]
   rw[if_neg h,h2,<-ih]
   cases Xf m l <;> simp
 unfold Qn bfind
 rw[key]
 cases l.find? (λ p=>p.1==m) <;> rfl
end Pn
namespace Rn
open Go.Proofs.YtclihnccilkohaaGreat.Nm
theorem done_dr {p:Tm×Nm.St}(h:Dr p.2):Dr (done p).2:=by
 have key:∀ s':Nm.St,Dr s'->Dr (if s'.e≠0 then (tz,s') else (p.1,s')).2:=λ s' h=>by split <;> exact h
 unfold done
 refine key _ ?_
 split
 ·exact fail_dr h 2 (by decide)
 exact h
theorem Put_dr (t:Tm)(xs:List Tm)(left:Int):Dr (Put t xs left false).2:=done_dr (putW_dr (thr:=through 100001) (λ _ _ _ _ _ h=>through_dr 100001 _ _ _ _ _ h) t xs _ λ _=>rfl)
theorem spend_dr {s:Nm.St}(h:Dr s)(h1:(spend s).1=true):Dr (spend s).2:=by
 unfold spend at h1 ⊢
 split at h1
 ·cases h1
 rename_i hh;rw[if_neg hh];exact h
theorem sb_e (l:List (Int×Tm))(t:Tm)(ins:Int){s:Nm.St}(h:s.e≠0):Sb.through l t ins s=(tz,s):=by
 obtain⟨b,k,i,a⟩:=t
 rw[Sb.through,if_pos h]
theorem repl_dr (t u:Tm){s:Nm.St}(h:Dr s)(he:s.e=0):Dr (Sb.replaced t u s).2:=by
 unfold Sb.replaced
 split
 ·intro e;exact absurd e (by show (1:Int)≠0;decide)
 rw[h he]
 have hp:=Put_dr u t.args s.left
 dsimp only
 split
 ·rename_i hn;intro e;exact absurd e hn
 rename_i hn;intro _;exact hp (Classical.byContradiction hn)
theorem sb_dr (l:List (Int×Tm)):∀ (t:Tm) (ins:Int) (s:Nm.St),Dr s->Dr (Sb.through l t ins s).2:=by
 intro t
 induction t using Tm.ind with
 | h b k i a ih=>
  intro ins s hs
  rw[Sb.through]
  split
  ·exact hs
  split
  ·intro e;exact absurd e (by show (11:Int)≠0;decide)
  rename_i he hsp
  have h1:Dr (spend s).2:=spend_dr hs (by simpa using hsp)
  dsimp only
  have hq:Dr (Sb.throughs l a (wr (ins+b.length)) (spend s).2).2:=by
   generalize (spend s).2=s1 at h1
   generalize wr (ins+(b.length:Int))=m
   clear hsp
   induction a generalizing s1 with
   | nil=>exact h1
   | cons t a iha=>
    rw[Sb.throughs]
    exact iha (λ u hu=>ih u (by simp[hu])) _ (ih t (by simp) m s1 h1)
  generalize Sb.throughs l a (wr (ins+(b.length:Int))) (spend s).2=q at hq
  split
  ·exact hq
  rename_i hn
  have he0:q.2.e=0:=Classical.byContradiction λ h=>hn (.inr h)
  split
  ·exact hq
  exact repl_dr _ _ hq he0
end Rn
def TRAP_179:TI:=⟨2,true,[Value.int IntKind.i64 0,Value.int IntKind.i64 0],[(0,1,false),(1,1,false)],none,16,6,none,true⟩
theorem TP:TypOk Tryz.prog 179 TRAP_179:=by constructor <;> kernel_rfl
def TRAP_177:TI:=⟨1,false,[Value.pointer none],[],none,8,4,none,false⟩
theorem TO:TypOk Tryz.prog 177 TRAP_177:=by constructor <;> kernel_rfl
def TRAP:List (Nat×TI):=[(31,TTM_31),(3,TG_3),(179,TRAP_179),(29,TTM_29),(22,TTY_22),(72,TL9_72),(28,TTM_28),(224,TRND_224),(177,TRAP_177),(130,TL9_130),(222,TRND_222),(104,TTY_104)]
theorem Z1:Zd Tryz.prog TRAP:=(((((((((((((Zd.nil _).cons Yy).cons Ug).cons XJ).cons TO).cons Uh).cons Xz).cons Wm).cons Yo).cons Y5).cons TP).cons ZW).cons Yl)
def nE (s:Nm.St):List (Key×D):=[(.c 0 0,.v (.int .i64 s.left)),(.c 0 1,.v (.int .i64 s.e))]
theorem Jn (l:List (Int×Tm))(m:Int):Qn l m=match Sb.find l m with | some z=>(z,true) | none=>(Tm.zero,false):=Pn.getT_bfind l m
theorem It {l:List (Int×Tm)}{m:Int}{u:Tm}(h:Sb.find l m=some u):∃ p∈l,p.2=u:=by
 unfold Sb.find at h
 cases hf:l.find? (λ p=>p.1==m) with
 | none=>rw[hf] at h;cases h
 | some p=>rw[hf] at h;exact⟨p,List.mem_of_find?_eq_some hf,Option.some.inj h⟩
theorem HX (l:List (Int×Tm))(b:List Ty)(k i:Int)(a:List Tm)(ins:Int){s:Nm.St}(he:s.e=0)(hsp:(Nm.spend s).1=true)(m:Int)(hm:Nm.wr (ins+(b.length:Int))=m):Sb.through l (.mk b k i a) ins s =
  (λ q:List Tm×Nm.St=>if k≠2∨q.2.e≠0 then (.mk b k i q.1,q.2) else match Sb.find l i with | none=>(.mk b k i q.1,q.2) | some u=>Sb.replaced (.mk b k i q.1) (Nm.lift m u 0) q.2) (Nm.seqM (λ t s=>Sb.through l t m s) a (Nm.spend s).2):=by
 rw[Sb.through,if_neg (λ h=>h he),if_neg (by simp[hsp]),Sb.throughs_seq,hm];rfl
theorem Sa (y:Int)(t:Tm)(ins:Int):(Nm.lift y t ins).binds=t.binds:=by
 obtain⟨b,k,i,a⟩:=t;rw[Nm.lift_eq];rfl
theorem MG (b:List Ty)(k i:Int)(A:List Tm)(u:Tm)(m:Int)(s:Nm.St):Sb.replaced (.mk b k i A) (Nm.lift m u 0) s =
  if u.binds.length≠A.length then (Nm.tz,{ s with e:=1 })
  else if (Nm.Put (Nm.lift m u 0) A s.left s.dry).2.e≠0 then (Nm.tz,{ s with left:=(Nm.Put (Nm.lift m u 0) A s.left s.dry).2.left,dry:=(Nm.Put (Nm.lift m u 0) A s.left s.dry).2.dry,e:=(Nm.Put (Nm.lift m u 0) A s.left s.dry).2.e })
  else (.mk b (Nm.Put (Nm.lift m u 0) A s.left s.dry).1.kind (Nm.Put (Nm.lift m u 0) A s.left s.dry).1.index (Nm.Put (Nm.lift m u 0) A s.left s.dry).1.args,{ s with left:=(Nm.Put (Nm.lift m u 0) A s.left s.dry).2.left,dry:=(Nm.Put (Nm.lift m u 0) A s.left s.dry).2.dry }):=by
 unfold Sb.replaced;rw[Sa];rfl
set_option maxHeartbeats 8000000 in
theorem KF {B:Nat}(hB:B<=170)(l:List (Int×Tm))(hl:l.length<=900000)(hlx:∀ p∈l,Bnd B p.2/\Yv p.2/\p.2.full<=1000000000):∀ (t:Tm),Bnd B t->Yv t->∀ (ins:Int) (s:Nm.St),(0<=s.left/\s.left<=100000)->Rn.Dr s ->
  ∃ z,((Sb.through l t ins s).2.e=0->z=(Sb.through l t ins s).1) /\
   ZB Tryz.prog 93 [.p 0 0,.sl 5 (Z5 l) none,.ag (eTm t),.v (.int .i64 ins)] (nE s) (nE (Sb.through l t ins s).2) (.ag (eTm z)):=by
 intro t
 induction t using Tm.ind with
 | h bs k i a ih=>
 intro hb hw ins s hin hdr
 obtain⟨w1,w2,w3⟩:=hw.inv
 obtain⟨b1,b2,b3⟩:=hb.inv
 obtain⟨m,hm⟩:∃ m,Nm.wr (ins+(bs.length:Int))=m:=⟨_,rfl⟩
 have hm':IntKind.i64.wrap (ins+(bs.length:Int))=m:=by rw[<-YX];exact hm
 by_cases he:s.e≠0
 ·rw[Rn.sb_e l _ ins he]
  refine⟨Nm.tz,λ _=>rfl,?_⟩
  unfold nE
  rw[X6,Zu]
  dsimp only[Tm.binds,Tm.kind,Tm.index,Tm.args]
  refine Zn 1 138 [ResultVar.cell 8 31] Z1 Tryz.func93 rfl Tryz.ntmps93 rfl λ cx hnt hn0=>?_
  skip
  refine Zz ?_;refine Zx [] Z1 hnt λ _ z9=>z9 _ _ ?_;refine Zz ?_;refine Zz ?_;refine Zx [(22,.v (.bool false))] Z1 hnt λ K hK=>?_;refine And.intro (XM he) ?_;refine hK _ _ ?_;clear hK K;refine Zy (t:=false) rfl ?_;rw[if_neg (by simp)];refine Zw ?_;refine Zz ?_;refine Zz ?_;refine Zx [(37,.v (.bool true))] Z1 hnt λ K hK=>?_
  refine And.intro (YO he) ?_;refine hK _ _ ?_;clear hK K;refine Zy (t:=true) rfl ?_;rw[if_pos rfl];refine Zz ?_;refine Zx [(38,.ag [.sl 2 [] none,.v (.int .i64 0),.v (.int .i64 0),.sl 4 [] none])] Z1 hnt λ K hK=>?_;refine And.intro (XP) ?_;refine hK _ _ ?_;clear hK K;refine Zv ?_
  exact Zi rfl
 have he:s.e=0:=Classical.byContradiction he
 obtain⟨left,dry,count,e⟩:=s
 dsimp only at he hin
 subst he
 have hd0:dry=false:=hdr rfl
 subst hd0
 by_cases hl0:left=0
 ·have hsp:Nm.spend ⟨left,false,count,0⟩=(false,⟨0,true,count,0⟩):=by subst hl0;rfl
  have hth:Sb.through l (.mk bs k i a) ins ⟨left,false,count,0⟩=(Nm.tz,⟨0,true,count,11⟩):=by
   rw[Sb.through,if_neg (by simp),hsp,if_pos rfl]
  rw[hth]
  refine⟨Nm.tz,λ _=>rfl,?_⟩
  unfold nE
  rw[X6,Zu]
  dsimp only[Tm.binds,Tm.kind,Tm.index,Tm.args]
  subst hl0
  refine Zn 1 138 [ResultVar.cell 8 31] Z1 Tryz.func93 rfl Tryz.ntmps93 rfl λ cx hnt hn0=>?_
  skip
  refine Zz ?_;refine Zx [] Z1 hnt λ _ z9=>z9 _ _ ?_;refine Zz ?_;refine Zz ?_;refine Zx [(22,.v (.bool true)),(28,.v (.bool true))] Z1 hnt λ K hK=>?_;refine And.intro (YT rfl) ?_;refine And.intro (YT rfl) ?_;refine hK _ _ ?_;clear hK K;refine Zy (t:=true) rfl ?_;rw[if_pos rfl];refine Zx [] Z1 hnt λ _ z9=>z9 _ _ ?_
  refine Zz ?_;refine Zz ?_;refine Zx [(37,.v (.bool true))] Z1 hnt λ K hK=>?_;refine And.intro (YO (by decide)) ?_;refine hK _ _ ?_;clear hK K;refine Zy (t:=true) rfl ?_;rw[if_pos rfl];refine Zz ?_;refine Zx [(38,.ag [.sl 2 [] none,.v (.int .i64 0),.v (.int .i64 0),.sl 4 [] none])] Z1 hnt λ K hK=>?_;refine And.intro (XP) ?_;refine hK _ _ ?_;clear hK K
  refine Zv ?_
  exact Zi rfl
 have hsp:Nm.spend ⟨left,false,count,0⟩=(true,⟨left-1,false,count,0⟩):=by
  unfold Nm.spend;rw[if_neg (by simp;omega)]
 have hth:=HX l bs k i a ins (s:=⟨left,false,count,0⟩) rfl (by rw[hsp]) m hm
 rw[hsp] at hth
 dsimp only at hth
 obtain⟨s1,hs1⟩:∃ s1:Nm.St,s1=⟨left-1,false,count,0⟩:=⟨_,rfl⟩
 rw[<-hs1] at hth
 obtain⟨g,hg⟩:∃ g:Tm->Nm.St->Tm×Nm.St,(λ t s=>Sb.through l t m s)=g:=⟨_,rfl⟩
 have hgx:∀ t s,g t s=Sb.through l t m s:=λ t s=>by rw[<-hg]
 rw[hg] at hth
 obtain⟨O,hO⟩:∃ O:Nat->List Tm,∀ j,(Nm.seqM g (a.take j) s1).1=O j:=⟨_,λ _=>rfl⟩
 obtain⟨S,hS⟩:∃ S:Nat->Nm.St,∀ j,(Nm.seqM g (a.take j) s1).2=S j:=⟨_,λ _=>rfl⟩
 have hO0:O 0=[]:=by rw[<-hO];rfl
 have hS0:S 0=s1:=by rw[<-hS];rfl
 have hOn:∀ j (h:j<a.length),O (j+1)=O j++[(g a[j] (S j)).1]:=λ j h=>by rw[<-hO,<-hO,<-hS,Nm.seqM_take g a j h]
 have hSn:∀ j (h:j<a.length),S (j+1)=(g a[j] (S j)).2:=λ j h=>by rw[<-hS,<-hS,Nm.seqM_take g a j h]
 have hOl:∀ j,j<=a.length->(O j).length=j:=λ j h=>by rw[<-hO,Nm.seqM_length,List.length_take];omega
 have hOa:(Nm.seqM g a s1).1=O a.length:=by rw[<-hO,List.take_length]
 have hSa:(Nm.seqM g a s1).2=S a.length:=by rw[<-hS,List.take_length]
 have hi1:UJ s1:=by rw[hs1];exact⟨by show 0<=left-1;omega,by show left-1<=1000000000;omega⟩
 have hSi:∀ j,UJ (S j):=λ j=>by
  rw[<-hS]
  have key:∀ (a:List Tm) (s:Nm.St),UJ s->UJ (Nm.seqM g a s).2:=by
   intro a
   induction a with
   | nil=>intro s h;exact h
   | cons t a iha=>intro s h;exact iha _ (by rw[hgx];exact Xo l t m s h)
  exact key _ _ hi1
 have hSd:∀ j,Rn.Dr (S j):=λ j=>by rw[<-hS];exact Rn.seqM_dr (λ t s h=>by rw[hgx];exact Rn.sb_dr l t m s h) _ _ (by rw[hs1];exact λ _=>rfl)
 have hgr:∀ j,(S j).e=0->(Tm.sizes (O j):Int)+(S j).left<=left-1/\∀ u∈O j,Bnd B u:=λ j h0=>by
  have h:=Sb.seq_grow (B:=B) (g:=g) (a.take j) (λ t ht s hs h=>by rw[hgx] at h ⊢;exact Sb.grow l (λ p hp=>(hlx p hp).1) t (b3 t (List.mem_of_mem_take ht)) m s hs h) (λ t ht s hs=>by rw[hgx];exact Xo l t m s hs) s1 hi1 (by rw[hS];exact h0)
  rw[hO,hS,hs1] at h
  exact⟨h.2.1,h.2.2⟩
 have hSe:∀ j,j<=a.length->(S j).e≠0->S a.length=S j:=λ j hj h=>by
  have e:a=a.take j++a.drop j:=(List.take_append_drop j a).symm
  rw[<-hSa,<-hS]
  conv=>lhs;rw[e]
  rw[Nm.seqM_append]
  exact Rn.seqM_e (λ t s h=>by rw[hgx,Rn.sb_e l t m h]) _ (by rw[hS];exact h)
 have hq:Nm.seqM g a s1=(O a.length,S a.length):=Prod.ext hOa hSa
 rw[hq] at hth
 dsimp only at hth
 obtain⟨p,hp⟩:∃ p,Sb.through l (.mk bs k i a) ins ⟨left,false,count,0⟩=p:=⟨_,rfl⟩
 rw[hp] at hth ⊢
 clear hp hq hOa hSa
 obtain⟨A,hA⟩:∃ A,O a.length=A:=⟨_,rfl⟩
 obtain⟨s2,hs2⟩:∃ s2,S a.length=s2:=⟨_,rfl⟩
 have hAl:A.length=a.length:=by rw[<-hA];exact hOl _ (Nat.le_refl _)
 rw[hA,hs2] at hth
 obtain⟨R,hR⟩:∃ R:Tm->Tm×Nm.St,∀ u,Nm.Put (Nm.lift m u 0) A s2.left false=R u:=⟨_,λ _=>rfl⟩
 obtain⟨Z,hZ⟩:∃ Z:Tm,Z=if s2.e≠0 then Nm.tz else if k≠2 then .mk bs k i A else match Sb.find l i with | none=>.mk bs k i A | some u=>if u.binds.length≠A.length then Nm.tz else .mk bs (R u).1.kind (R u).1.index (R u).1.args:=⟨_,rfl⟩
 have hpe:s2.e≠0->p.2=s2/\Z=Nm.tz:=λ h=>by
  rw[if_pos (.inr h)] at hth;rw[if_pos h] at hZ
  exact⟨by rw[hth],hZ⟩
 have hpk:s2.e=0->k≠2->p.2=s2/\Z=.mk bs k i A/\p.1=Z:=λ h hk=>by
  rw[if_pos (.inl hk)] at hth;rw[if_neg (λ h'=>h' h),if_pos hk] at hZ
  exact⟨by rw[hth],hZ,by rw[hth,hZ]⟩
 have hpn:s2.e=0->k=2->Sb.find l i=none->p.2=s2/\Z=.mk bs k i A/\p.1=Z:=λ h hk hf=>by
  rw[if_neg (λ h'=>h'.elim (λ h'=>h' hk) λ h'=>h' h),hf] at hth;rw[if_neg (λ h'=>h' h),if_neg (λ h'=>h' hk),hf] at hZ
  exact⟨by rw[hth],hZ,by rw[hth,hZ]⟩
 have hps:∀ u,s2.e=0->k=2->Sb.find l i=some u->(u.binds.length≠A.length->p.2.left=s2.left/\p.2.e=1/\Z=Nm.tz) /\
   (u.binds.length=A.length->p.2.left=(R u).2.left/\p.2.e=(R u).2.e/\Z=.mk bs (R u).1.kind (R u).1.index (R u).1.args/\((R u).2.e=0->p.1=Z)):=λ u h hk hf=>by
  rw[if_neg (λ h'=>h'.elim (λ h'=>h' hk) λ h'=>h' h),hf] at hth;rw[if_neg (λ h'=>h' h),if_neg (λ h'=>h' hk),hf] at hZ
  dsimp only at hth hZ
  have hdry:s2.dry=false:=by rw[<-hs2];exact hSd _ (by rw[hs2];exact h)
  rw[MG,hdry,hR] at hth
  refine⟨λ hn=>?_,λ hn=>?_⟩
  ·rw[if_pos hn] at hth hZ
   exact⟨by rw[hth],by rw[hth],hZ⟩
  rw[if_neg (λ h=>h hn)] at hth hZ
  by_cases hr:(R u).2.e=0
  ·rw[if_neg (λ h'=>h' hr)] at hth
   exact⟨by rw[hth],by rw[hth];exact h.trans hr.symm,hZ,λ _=>by rw[hth,hZ]⟩
  rw[if_pos hr] at hth
  exact⟨by rw[hth],by rw[hth],hZ,λ h'=>absurd h' hr⟩
 refine⟨Z,λ h=>?_,?_⟩
 ·by_cases h2:s2.e=0
  ·by_cases hk:k=2
   ·cases hf:Sb.find l i with
    | none=>exact(hpn h2 hk hf).2.2.symm
    | some u=>
     by_cases hn:u.binds.length=A.length
     ·obtain⟨q1,q2,q3,q4⟩:=(hps u h2 hk hf).2 hn
      exact(q4 (by rw[<-q2];exact h)).symm
     have:=((hps u h2 hk hf).1 hn).2.1
     rw[this] at h;exact absurd h (by decide)
   ·exact(hpk h2 hk).2.2.symm
  rw[(hpe h2).1] at h;exact absurd h h2
 have hget:=Io l hl i
 unfold nE
 rw[Zu (.mk bs k i a)]
 dsimp only[Tm.binds,Tm.kind,Tm.index,Tm.args]
 refine Zn 1 138 [ResultVar.cell 8 31] Z1 Tryz.func93 rfl Tryz.ntmps93 rfl λ cx hnt hn0=>?_
 skip
 refine Zz ?_;refine Zx [] Z1 hnt λ _ z9=>z9 _ _ ?_;refine Zz ?_;refine Zz ?_;refine Zx [(22,.v (.bool true)),(28,.v (.bool false))] Z1 hnt λ K hK=>?_;refine And.intro (YT rfl) ?_;refine And.intro (XM hl0) ?_;refine hK _ _ ?_;clear hK K;refine Zy (t:=false) rfl ?_;rw[if_neg (by simp)];refine Zw ?_;refine Zz ?_
 refine Zz ?_;refine Zx [(37,.v (.bool false))] Z1 hnt λ K hK=>?_;refine And.intro (Yq rfl) ?_;refine hK _ _ ?_;clear hK K;refine Zy (t:=false) rfl ?_;rw[if_neg (by simp)];refine Zw ?_;refine Zz ?_;refine Zx [(43,.v (.int .i64 ((left-1))))] Z1 hnt λ K hK=>?_;refine And.intro (Zr (by exact IntWalk.i64_in _ (by omega))) ?_;refine hK _ _ ?_;clear hK K
 refine Zz ?_;refine Zx [(49,.v (.int .i64 (↑bs.length))),(50,.v (.int .i64 (m)))] Z1 hnt λ K hK=>?_;refine And.intro (Zr (by rw[Zs])) ?_;refine And.intro (Zr (by exact hm')) ?_;refine hK _ _ ?_;clear hK K;refine Zz ?_;refine Zx [] Z1 hnt λ _ z9=>z9 _ _ ?_
 refine DW.vs (VS.row (k:=39) (off:=3) 31 4 rfl) ?_
 refine Zz ?_;refine Zz ?_;refine Zx [] Z1 hnt λ _ z9=>z9 _ _ ?_;refine Zt ?_
 refine Z6 (ι:={ j:Nat // j<=a.length/\(S j).e=0 }) (λ j=>[(.t 11,.v (.int .i64 ↑j.1)),(.t 0,.p 0 0),(.t 1,.sl 5 (Z5 l) none),(.t 6,.p 1 0),(.t 8,.p 2 0),(.t 9,.v (.int .i64 m)),(.t 10,.p 39 0),(.c 1 0,.sl 2 (eTys bs) none),(.c 1 1,.v (.int .i64 k)),(.c 1 2,.v (.int .i64 i)),(.c 1 3,.sl 4 (eTms a) none),(.c 2 0,.v (.slice none 0 0)),(.c 2 1,.v (.int .i64 0)),(.c 2 2,.v (.int .i64 0)),(.c 2 3,.v (.slice none 0 0)),(.c 39 0,.sl 2 (eTys bs) none),(.c 39 1,.v (.int .i64 k)),(.c 39 2,.v (.int .i64 i)),(.c 39 3,.sl 4 (eTms (O j.1)) (some 41)),(.r 41,.rw 31 4 (O j.1).length),(.c 0 0,.v (.int .i64 (S j.1).left)),(.c 0 1,.v (.int .i64 (S j.1).e))]) 43 (λ j=>a.length-j.1) (⟨0,Nat.zero_le _,by rw[hS0,hs1]⟩) ((by dsimp only;rw[hO0,hS0,hs1];exact VS.toA)) λ j=>?_
 obtain⟨j,hj,hje⟩:=j
 dsimp only
 by_cases hlt:j<a.length
 ·have hmem:a[j]∈a:=List.getElem_mem hlt
  obtain⟨z,hz1,hz2⟩:=ih a[j] hmem (b3 _ hmem) (w3 _ hmem) m (S j) ⟨(hSi j).1,by have:=(hgr j hje).1;omega⟩ (hSd j)
  obtain⟨r,hr⟩:∃ r,Sb.through l a[j] m (S j)=r:=⟨_,rfl⟩
  have hSj:S (j+1)=r.2:=by rw[hSn j hlt,hgx,hr]
  rw[hr,<-hSj] at hz1 hz2
  have hOj:O (j+1)=O j++[r.1]:=by rw[hOn j hlt,hgx,hr]
  unfold nE at hz2
  rw[Zu a[j]] at hz2
  have hel:=ZT a j hlt
  rw[Zu] at hel
  by_cases hre:(S (j+1)).e=0
  ·have hz1:=hz1 hre
   subst hz1
   rw[Zu] at hz2
   have hsn:eTms (O j)++[[.sl 2 (eTys r.1.binds) none,.v (.int .i64 r.1.kind),.v (.int .i64 r.1.index),.sl 4 (eTms r.1.args) none]]=eTms (O (j+1)):=by
    rw[hOj,Xv,eTms,eTms,Zu]
   have hl1:(eTms (O j)).length=(O j).length:=Zq _
   have hl3:=hOl j hj
   have hl2:(eTms (O (j+1))).length=(O (j+1)).length:=Zq _
   refine Zz ?_;refine Zz ?_;refine Zx [(59,.v (.int .i64 (↑a.length))),(60,.v (.bool true))] Z1 hnt λ K hK=>?_;refine And.intro (Zr (by rw[Zq])) ?_;refine And.intro (Z7 (by omega)) ?_;refine hK _ _ ?_;clear hK K;refine Zy (t:=true) rfl ?_;rw[if_pos rfl];refine Zw ?_;refine Zz ?_;refine Zt ?_;refine Zz ?_;refine Zx [(68,.q [.sl 2 (eTys a[j].binds) none,.v (.int .i64 a[j].kind),.v (.int .i64 a[j].index),.sl 4 (eTms a[j].args) none])] Z1 hnt λ K hK=>?_
   refine And.intro (⟨by omega,by rw[Zq];omega⟩) ?_;refine And.intro (Zm.of_eq (by rw[Int.toNat_natCast,hel])) ?_;refine Zk (hz2) ?_;refine hK _ _ ?_;clear hK K;refine Zz ?_;refine Zz ?_;refine Zx [(76,.v (.bool false))] Z1 hnt λ K hK=>?_;refine And.intro (Yq hre) ?_;refine hK _ _ ?_;clear hK K;refine Zy (t:=false) rfl ?_;rw[if_neg (by simp)];refine Zw ?_
   refine Zx [] Z1 hnt λ K hK=>?_;refine And.intro (⟨by omega,by rw[hl1];simp;omega⟩) ?_;refine hK _ _ ?_;clear hK K
   rw[hsn,hl2]
   refine Zx [(62,.v (.int .i64 (↑(j+1))))] Z1 hnt λ K hK=>?_;refine And.intro Ww ?_;refine hK _ _ ?_;clear hK K
   refine⟨⟨j+1,hlt,hre⟩,by first | omega | (dsimp only;omega),VS.toA⟩
  have h2:=hSe (j+1) hlt hre
  rw[hs2] at h2
  obtain⟨q1,q2⟩:=hpe (by rw[h2];exact hre)
  rw[q1,q2,h2,X6]
  rw[Zu z] at hz2
  refine Zz ?_;refine Zz ?_;refine Zx [(59,.v (.int .i64 (↑a.length))),(60,.v (.bool true))] Z1 hnt λ K hK=>?_;refine And.intro (Zr (by rw[Zq])) ?_;refine And.intro (Z7 (by omega)) ?_;refine hK _ _ ?_;clear hK K;refine Zy (t:=true) rfl ?_;rw[if_pos rfl];refine Zw ?_;refine Zz ?_;refine Zt ?_;refine Zz ?_;refine Zx [(68,.q [.sl 2 (eTys a[j].binds) none,.v (.int .i64 a[j].kind),.v (.int .i64 a[j].index),.sl 4 (eTms a[j].args) none])] Z1 hnt λ K hK=>?_
  refine And.intro (⟨by omega,by rw[Zq];omega⟩) ?_;refine And.intro (Zm.of_eq (by rw[Int.toNat_natCast,hel])) ?_;refine Zk (hz2) ?_;refine hK _ _ ?_;clear hK K;refine Zz ?_;refine Zz ?_;refine Zx [(76,.v (.bool true))] Z1 hnt λ K hK=>?_;refine And.intro (YO hre) ?_;refine hK _ _ ?_;clear hK K;refine Zy (t:=true) rfl ?_;rw[if_pos rfl];refine Zz ?_
  refine Zx [(77,.ag [.sl 2 [] none,.v (.int .i64 0),.v (.int .i64 0),.sl 4 [] none])] Z1 hnt λ K hK=>?_;refine And.intro (XP) ?_;refine hK _ _ ?_;clear hK K;refine Zv ?_
  exact Zi rfl
 have hja:j=a.length:=by omega
 subst hja
 have hgA:=hgr _ hje
 have hSi2:=hSi a.length
 rw[hA,hs2] at hgA
 rw[hs2] at hje hSi2
 rw[hA,hs2]
 clear hSe hSn hSi hSd hgr hOn hOl hS hO hS0 hO0 hA hs2 hth hZ
 rw[Jn] at hget
 have edx:∀ (i':Int) ,eTm (.mk bs k i' A)=[.sl 2 (eTys bs) none,.v (.int .i64 k),.v (.int .i64 i'),.sl 4 (eTms A) none]:=λ i'=>by rw[Zu];rfl
 by_cases hk:k=2
 ·cases hf:Sb.find l i with
  | none=>
   obtain⟨q1,q2,_⟩:=hpn hje hk hf
   rw[hf] at hget
   dsimp only at hget
   rw[Zu Tm.zero] at hget
   rw[q1,q2,edx]
   refine Zz ?_;refine Zz ?_;refine Zx [(59,.v (.int .i64 (↑a.length))),(60,.v (.bool false))] Z1 hnt λ K hK=>?_;refine And.intro (Zr (by rw[Zq])) ?_;refine And.intro (Ze (by omega)) ?_;refine hK _ _ ?_;clear hK K;refine Zy (t:=false) rfl ?_;rw[if_neg (by simp)];refine Zg ?_;refine Zz ?_;refine Zx [] Z1 hnt λ K hK=>?_;refine Zk (hget) ?_
   refine hK _ _ ?_;clear hK K;refine Zz ?_;refine Zz ?_;refine Zx [(95,.v (.bool false))] Z1 hnt λ K hK=>?_;refine And.intro (Yq hk) ?_;refine hK _ _ ?_;clear hK K;refine Zy (t:=true) rfl ?_;rw[if_pos rfl];refine Zz ?_;refine Zx [(100,.ag [.sl 2 (eTys bs) none,.v (.int .i64 k),.v (.int .i64 i),.sl 4 (eTms A) none])] Z1 hnt λ K hK=>?_;refine And.intro (XP) ?_
   refine hK _ _ ?_;clear hK K;refine Zv ?_
   exact Zi rfl
  | some u=>
   rw[hf] at hget
   dsimp only at hget
   rw[Zu u] at hget
   obtain⟨hps1,hps2⟩:=hps u hje hk hf
   by_cases hn:u.binds.length=A.length
   ·obtain⟨q1,q2,q3,_⟩:=hps2 hn
    obtain⟨pu,hpu,hpe'⟩:=It hf
    have hux:=hlx pu hpu
    rw[hpe'] at hux
    have hUp:=MQ u hux.2.1 B hux.1 m (by omega)
    have hAs:∀ x∈A,Yv x/\Bnd B x/\x.size<=1000000000:=λ x hx=>by
     have h1:=Tm.size_mem hx
     have h2:=hgA.1
     have h3:=hSi2.1
     exact⟨Bnd.wide x (hgA.2 x hx) (by omega) (by omega),hgA.2 x hx,by omega⟩
    have hPt:=Ic hB s2.left ⟨hSi2.1,by have:=hgA.1;omega⟩ (Nm.lift m u 0) A (hux.2.1.lift m 0) (Bnd.lift u m 0 hux.1) (by rw[R6];omega) hAs (by rw[Sa];exact hn.symm)
    rw[hR] at hPt
    obtain⟨⟨⟨rb,rk,ri,ra⟩,rs⟩,hru⟩:∃ r,R u=r:=⟨_,rfl⟩
    rw[hru] at hPt q1 q2 q3
    obtain⟨v,hv⟩:∃ v,Nm.lift m u 0=v:=⟨_,rfl⟩
    rw[hv] at hUp hPt
    dsimp only at hPt q1 q2 q3
    rw[Zu u,Zu v] at hUp
    rw[Zu v,Zu] at hPt
    rw[q1,q2,q3,Zu]
    dsimp only[Tm.binds,Tm.kind,Tm.index,Tm.args] at hPt ⊢
    refine Zz ?_;refine Zz ?_;refine Zx [(59,.v (.int .i64 (↑a.length))),(60,.v (.bool false))] Z1 hnt λ K hK=>?_;refine And.intro (Zr (by rw[Zq])) ?_;refine And.intro (Ze (by omega)) ?_;refine hK _ _ ?_;clear hK K;refine Zy (t:=false) rfl ?_;rw[if_neg (by simp)];refine Zg ?_;refine Zz ?_;refine Zx [] Z1 hnt λ K hK=>?_;refine Zk (hget) ?_
    refine hK _ _ ?_;clear hK K;refine Zz ?_;refine Zz ?_;refine Zx [(95,.v (.bool false))] Z1 hnt λ K hK=>?_;refine And.intro (Yq hk) ?_;refine hK _ _ ?_;clear hK K;refine Zy (t:=false) rfl ?_;rw[if_neg (by simp)];refine Zw ?_;refine Zz ?_;refine Zz ?_;refine Zx [(103,.v (.int .i64 (↑u.binds.length))),(106,.v (.int .i64 (↑A.length))),(107,.v (.bool false))] Z1 hnt λ K hK=>?_
    refine And.intro (Zr (by rw[Zs])) ?_;refine And.intro (Zr (by rw[Zq])) ?_;refine And.intro (Yq (by omega)) ?_;refine hK _ _ ?_;clear hK K;refine Zy (t:=false) rfl ?_;rw[if_neg (by simp)];refine Zw ?_;refine Zz ?_;refine ZQ [(117,.sl 4 (eTms A) none)] Z1 hnt λ K hK=>?_;refine Zk (hUp) ?_;refine And.intro ((Zm.untag _ _ _)) ?_;refine Zk (hPt) ?_
    refine hK _ _ (by kernel_rfl) ?_;clear hK K;refine Zz ?_;refine Zx [] Z1 hnt λ _ z9=>z9 _ _ ?_;refine Zz ?_;refine Zx [] Z1 hnt λ _ z9=>z9 _ _ ?_;refine Zz ?_;refine Zx [] Z1 hnt λ _ z9=>z9 _ _ ?_;refine Zv ?_
    exact Zi rfl
   obtain⟨q1,q2,q3⟩:=hps1 hn
   rw[q1,q2,q3,X6]
   refine Zz ?_;refine Zz ?_;refine Zx [(59,.v (.int .i64 (↑a.length))),(60,.v (.bool false))] Z1 hnt λ K hK=>?_;refine And.intro (Zr (by rw[Zq])) ?_;refine And.intro (Ze (by omega)) ?_;refine hK _ _ ?_;clear hK K;refine Zy (t:=false) rfl ?_;rw[if_neg (by simp)];refine Zg ?_;refine Zz ?_;refine Zx [] Z1 hnt λ K hK=>?_;refine Zk (hget) ?_
   refine hK _ _ ?_;clear hK K;refine Zz ?_;refine Zz ?_;refine Zx [(95,.v (.bool false))] Z1 hnt λ K hK=>?_;refine And.intro (Yq hk) ?_;refine hK _ _ ?_;clear hK K;refine Zy (t:=false) rfl ?_;rw[if_neg (by simp)];refine Zw ?_;refine Zz ?_;refine Zz ?_;refine Zx [(103,.v (.int .i64 (↑u.binds.length))),(106,.v (.int .i64 (↑A.length))),(107,.v (.bool true))] Z1 hnt λ K hK=>?_
   refine And.intro (Zr (by rw[Zs])) ?_;refine And.intro (Zr (by rw[Zq])) ?_;refine And.intro (YO (by omega)) ?_;refine hK _ _ ?_;clear hK K;refine Zy (t:=true) rfl ?_;rw[if_pos rfl];refine Zz ?_;refine Zx [] Z1 hnt λ _ z9=>z9 _ _ ?_;refine Zz ?_;refine Zx [(111,.ag [.sl 2 [] none,.v (.int .i64 0),.v (.int .i64 0),.sl 4 [] none])] Z1 hnt λ K hK=>?_
   refine And.intro (XP) ?_;refine hK _ _ ?_;clear hK K;refine Zv ?_
   exact Zi rfl
 ·obtain⟨q1,q2,_⟩:=hpk hje hk
  rw[q1,q2,edx]
  rw[Zu] at hget
  refine Zz ?_;refine Zz ?_;refine Zx [(59,.v (.int .i64 (↑a.length))),(60,.v (.bool false))] Z1 hnt λ K hK=>?_;refine And.intro (Zr (by rw[Zq])) ?_;refine And.intro (Ze (by omega)) ?_;refine hK _ _ ?_;clear hK K;refine Zy (t:=false) rfl ?_;rw[if_neg (by simp)];refine Zg ?_;refine Zz ?_;refine Zx [] Z1 hnt λ K hK=>?_;refine Zk (hget) ?_
  refine hK _ _ ?_;clear hK K;refine Zz ?_;refine Zz ?_;refine Zx [(95,.v (.bool true))] Z1 hnt λ K hK=>?_;refine And.intro (YO hk) ?_;refine hK _ _ ?_;clear hK K;refine Zy (t:=true) rfl ?_;rw[if_pos rfl];refine Zz ?_;refine Zx [(100,.ag [.sl 2 (eTys bs) none,.v (.int .i64 k),.v (.int .i64 i),.sl 4 (eTms A) none])] Z1 hnt λ K hK=>?_;refine And.intro (XP) ?_
  refine hK _ _ ?_;clear hK K;refine Zv ?_
  exact Zi rfl
set_option maxHeartbeats 4000000 in
theorem Rb {B:Nat}(hB:B<=170)(l:List (Int×Tm))(hl:l.length<=900000)(hlx:∀ p∈l,Bnd B p.2/\Yv p.2/\p.2.full<=1000000000)(t:Tm)(ht:Bnd B t)(hw:Yv t)(left:Int)(hin:0<=left/\left<=100000):
  Zh Tryz.prog 59 [.sl 5 (Z5 l) none,.ag (eTm t),.v (.int .i64 left)] (.tu [.ag (eTm (Sb.apply l t left false).1),.v (.int .i64 (Sb.apply l t left false).2.left),.v (.int .i64 (Sb.apply l t left false).2.e)]):=by
 have hr:=MP l (by omega)
 cases hrl:Sb.right l with
 | false=>
  rw[hrl] at hr
  have ha:Sb.apply l t left false=(Nm.tz,⟨left,false,0,1⟩):=if_pos hrl
  rw[ha,X6,Zu]
  dsimp only
  refine Zn 0 55 [ResultVar.cell 6 31,ResultVar.tmp 7,ResultVar.tmp 8] Z1 Tryz.func59 rfl Tryz.ntmps59 rfl λ cx hnt hn0=>?_
  skip
  refine Zz ?_;refine Zx [] Z1 hnt λ _ z9=>z9 _ _ ?_;refine Zz ?_;refine Zz ?_;refine Zx [] Z1 hnt λ K hK=>?_;refine Zk (hr) ?_;refine hK _ _ ?_;clear hK K;refine Zy (t:=true) rfl ?_;rw[if_pos rfl];refine Zz ?_;refine Zx [(14,.ag [.sl 2 [] none,.v (.int .i64 0),.v (.int .i64 0),.sl 4 [] none])] Z1 hnt λ K hK=>?_
  refine And.intro (XP) ?_;refine hK _ _ ?_;clear hK K;refine Zv ?_
  exact Zi rfl
 | true=>
  rw[hrl] at hr
  obtain⟨z,hz1,hz2⟩:=KF hB l hl hlx t ht hw 0 ⟨left,false,0,0⟩ hin (λ _=>rfl)
  have hgr:=Sb.grow l (λ p hp=>(hlx p hp).1) t ht 0 ⟨left,false,0,0⟩ ⟨hin.1,by show left<=1000000000;omega⟩
  have hii:=Xo l t 0 ⟨left,false,0,0⟩ ⟨hin.1,by show left<=1000000000;omega⟩
  have ha:Sb.apply l t left false=(λ r:Tm×Nm.St=>(λ s:Nm.St=>if s.e≠0 then (Nm.tz,s) else (r.1,s)) (if r.2.e=0/\¬ (r.1.size<=5000/\r.1.depth<=60) then { r.2 with e:=2 } else r.2)) (Sb.through l t 0 ⟨left,false,0,0⟩):=by
   unfold Sb.apply
   rw[if_neg (by simp[hrl])]
  obtain⟨r,hr0⟩:∃ r,Sb.through l t 0 ⟨left,false,0,0⟩=r:=⟨_,rfl⟩
  rw[hr0] at hz1 hz2 hgr hii ha
  clear hr0
  obtain⟨x,sl,sd,sc,se⟩:=r
  dsimp only at hz1 hgr ha
  have hz3:=hz2.ren (λ _=>9) (by simp[nE,Ut,D.ok,D.oks,ZM,Xa,WO,YK,Y8,Yi,YS]) (by intro k h1 k' h2 _;simp[nE,ZM] at h1 h2;rw[h1,h2])
  clear hz2
  unfold nE at hz3
  simp only[List.map_cons,List.map_nil,D.ren,D.rens,WJ,Key.ren,VR,Ul,VP] at hz3
  rw[Zu t] at hz3 ⊢
  by_cases he:se=0
  ·subst he
   have hz1:=hz1 rfl
   subst hz1
   obtain⟨_,g2,_⟩:=hgr rfl
   have hsz:z.size<=1000000:=by have:=hii.1;dsimp only at this;omega
   have hR:=Ve z hsz
   cases hrt:Li.rt z with
   | true=>
    rw[hrt] at hR
    have hd:z.size<=5000/\z.depth<=60:=of_decide_eq_true hrt
    rw[if_neg (show ¬ ((0:Int)=0/\¬ (z.size<=5000/\z.depth<=60)) from λ h=>h.2 hd)] at ha
    dsimp only at ha
    rw[if_neg (show ¬ (0:Int)≠0 from λ h=>h rfl)] at ha
    rw[ha]
    dsimp only
    rw[Zu z] at hz3 hR ⊢
    refine Zn 0 55 [ResultVar.cell 6 31,ResultVar.tmp 7,ResultVar.tmp 8] Z1 Tryz.func59 rfl Tryz.ntmps59 rfl λ cx hnt hn0=>?_
    skip
    refine Zz ?_;refine Zx [] Z1 hnt λ _ z9=>z9 _ _ ?_;refine Zz ?_;refine Zz ?_;refine Zx [] Z1 hnt λ K hK=>?_;refine Zk (hr) ?_;refine hK _ _ ?_;clear hK K;refine Zy (t:=false) rfl ?_;rw[if_neg (by simp)];refine Zw ?_;refine Zz ?_;refine Zx [] Z1 hnt λ _ z9=>z9 _ _ ?_;refine Zz ?_
    refine Zx [] Z1 hnt λ K hK=>?_;refine Zk (hz3) ?_;refine hK _ _ ?_;clear hK K;refine Zz ?_;refine Zz ?_;refine Zx [(27,.v (.bool true))] Z1 hnt λ K hK=>?_;refine And.intro (YT rfl) ?_;refine Zk (hR) ?_;refine hK _ _ ?_;clear hK K;refine Zy (t:=false) rfl ?_;rw[if_neg (by simp)];refine Zw ?_;refine Zz ?_;refine Zz ?_;refine Zx [(40,.v (.bool false))] Z1 hnt λ K hK=>?_
    refine And.intro (Yq rfl) ?_;refine hK _ _ ?_;clear hK K;refine Zy (t:=false) rfl ?_;rw[if_neg (by simp)];refine Zw ?_;refine Zz ?_;refine ZQ [] Z1 hnt λ K hK=>?_;refine hK _ _ (by kernel_rfl) ?_;clear hK K;refine Zv ?_
    exact Zi rfl
   | false=>
    rw[hrt] at hR
    have hd:¬ (z.size<=5000/\z.depth<=60):=of_decide_eq_false hrt
    rw[if_pos (show (0:Int)=0/\¬ (z.size<=5000/\z.depth<=60) from ⟨rfl,hd⟩)] at ha
    dsimp only at ha
    rw[if_pos (show (2:Int)≠0 by decide)] at ha
    rw[ha,X6]
    dsimp only
    rw[Zu z] at hz3 hR
    refine Zn 0 55 [ResultVar.cell 6 31,ResultVar.tmp 7,ResultVar.tmp 8] Z1 Tryz.func59 rfl Tryz.ntmps59 rfl λ cx hnt hn0=>?_
    skip
    refine Zz ?_;refine Zx [] Z1 hnt λ _ z9=>z9 _ _ ?_;refine Zz ?_;refine Zz ?_;refine Zx [] Z1 hnt λ K hK=>?_;refine Zk (hr) ?_;refine hK _ _ ?_;clear hK K;refine Zy (t:=false) rfl ?_;rw[if_neg (by simp)];refine Zw ?_;refine Zz ?_;refine Zx [] Z1 hnt λ _ z9=>z9 _ _ ?_;refine Zz ?_
    refine Zx [] Z1 hnt λ K hK=>?_;refine Zk (hz3) ?_;refine hK _ _ ?_;clear hK K;refine Zz ?_;refine Zz ?_;refine Zx [(27,.v (.bool true))] Z1 hnt λ K hK=>?_;refine And.intro (YT rfl) ?_;refine Zk (hR) ?_;refine hK _ _ ?_;clear hK K;refine Zy (t:=true) rfl ?_;rw[if_pos rfl];refine Zx [] Z1 hnt λ _ z9=>z9 _ _ ?_;refine Zz ?_
    refine Zz ?_;refine Zx [(40,.v (.bool true))] Z1 hnt λ K hK=>?_;refine And.intro (YO (by decide)) ?_;refine hK _ _ ?_;clear hK K;refine Zy (t:=true) rfl ?_;rw[if_pos rfl];refine Zz ?_;refine ZQ [(41,.ag [.sl 2 [] none,.v (.int .i64 0),.v (.int .i64 0),.sl 4 [] none])] Z1 hnt λ K hK=>?_;refine And.intro (XP) ?_;refine hK _ _ (by kernel_rfl) ?_;clear hK K
    refine Zv ?_
    exact Zi rfl
  rw[if_neg (show ¬ (se=0/\¬ (x.size<=5000/\x.depth<=60)) from λ h=>he h.1)] at ha
  dsimp only at ha
  rw[if_pos he] at ha
  rw[ha,X6]
  dsimp only
  rw[Zu z] at hz3
  refine Zn 0 55 [ResultVar.cell 6 31,ResultVar.tmp 7,ResultVar.tmp 8] Z1 Tryz.func59 rfl Tryz.ntmps59 rfl λ cx hnt hn0=>?_
  skip
  refine Zz ?_;refine Zx [] Z1 hnt λ _ z9=>z9 _ _ ?_;refine Zz ?_;refine Zz ?_;refine Zx [] Z1 hnt λ K hK=>?_;refine Zk (hr) ?_;refine hK _ _ ?_;clear hK K;refine Zy (t:=false) rfl ?_;rw[if_neg (by simp)];refine Zw ?_;refine Zz ?_;refine Zx [] Z1 hnt λ _ z9=>z9 _ _ ?_;refine Zz ?_
  refine Zx [] Z1 hnt λ K hK=>?_;refine Zk (hz3) ?_;refine hK _ _ ?_;clear hK K;refine Zz ?_;refine Zz ?_;refine Zx [(27,.v (.bool false))] Z1 hnt λ K hK=>?_;refine And.intro (XM he) ?_;refine hK _ _ ?_;clear hK K;refine Zy (t:=false) rfl ?_;rw[if_neg (by simp)];refine Zw ?_;refine Zz ?_;refine Zz ?_;refine Zx [(40,.v (.bool true))] Z1 hnt λ K hK=>?_
  refine And.intro (YO he) ?_;refine hK _ _ ?_;clear hK K;refine Zy (t:=true) rfl ?_;rw[if_pos rfl];refine Zz ?_;refine ZQ [(41,.ag [.sl 2 [] none,.v (.int .i64 0),.v (.int .i64 0),.sl 4 [] none])] Z1 hnt λ K hK=>?_;refine And.intro (XP) ?_;refine hK _ _ (by kernel_rfl) ?_;clear hK K;refine Zv ?_
  exact Zi rfl
def TRSA:List (Nat×TI):=[(31,TTM_31),(29,TTM_29),(3,TG_3),(71,TTY_71),(28,TTM_28),(22,TTY_22),(104,TTY_104)]
theorem Y1:Zd Tryz.prog TRSA:=((((((((Zd.nil _).cons Yy).cons Yo).cons Xz).cons YV).cons ZW).cons Y5).cons Yl)
theorem GM (b:List Ty)(k i:Int)(a:List Tm):(Tm.mk b k i a).binds=b:=rfl
theorem GO (b:List Ty)(k i:Int)(a:List Tm):(Tm.mk b k i a).kind=k:=rfl
theorem GN (b:List Ty)(k i:Int)(a:List Tm):(Tm.mk b k i a).index=i:=rfl
theorem GL (b:List Ty)(k i:Int)(a:List Tm):(Tm.mk b k i a).args=a:=rfl
theorem SI:∀ (p:List Int) (t b:Tm) (r:Tm×List Ty),Pn.atP p t=some r->∃ o,Au.replP p t b=some o
 | [],t,b,r,h=>⟨_,rfl⟩
 | j :: p,t,b,r,h=>by
  rw[Pn.atP] at h
  rw[Au.replP]
  by_cases hj:0<=j/\j<(t.args.length:Int)
  ·rw[if_pos hj] at h ⊢
   cases ht:Pn.atP p (t.args.getD j.toNat Tm.zero) with
   | none=>rw[ht] at h;cases h
   | some q=>
    obtain⟨o,ho⟩:=SI p _ b q ht
    rw[ho];exact⟨_,rfl⟩
  rw[if_neg hj] at h;cases h
set_option maxHeartbeats 4000000 in
theorem OK:∀ (p:List Int) (t b o:Tm),Au.replP p t b=some o->p.length<=100000->Yv t->Zh Tryz.prog 60 [.ag (eTm t),.ag (eTm b),.sl 1 (YJ p) none] (.ag (eTm o))
 | [],t,b,o,h,hp,hw=>by
  rw[Au.replP] at h
  cases h
  rw[Zu t,Zu b,Zu]
  dsimp only[Tm.binds,Tm.kind,Tm.index,Tm.args]
  refine Zn 0 54 [ResultVar.cell 6 31] Y1 Tryz.func60 rfl Tryz.ntmps60 rfl λ cx hnt hn0=>?_
  skip
  refine Zz ?_;refine Zx [] Y1 hnt λ _ z9=>z9 _ _ ?_;refine Zz ?_;refine Zx [] Y1 hnt λ _ z9=>z9 _ _ ?_;refine Zz ?_;refine Zz ?_;refine Zx [(19,.v (.bool true))] Y1 hnt λ K hK=>?_;refine And.intro (Zm.refl _) ?_;refine hK _ _ ?_;clear hK K;refine Zy (t:=true) rfl ?_;rw[if_pos rfl];refine Zz ?_
  refine Zx [] Y1 hnt λ _ z9=>z9 _ _ ?_;refine Zv ?_
  exact Zi rfl
 | j :: q,t,b,o,h,hp,hw=>by
  rw[Au.replP] at h
  by_cases hc:0<=j/\j<(t.args.length:Int)
  ·rw[if_pos hc] at h
   obtain⟨n,hn⟩:∃ n:Nat,j=n:=⟨j.toNat,by omega⟩
   subst hn
   rw[Int.toNat_natCast] at h
   have hlt:n<t.args.length:=by omega
   rw[List.getD_eq_getElem?_getD,List.getElem?_eq_getElem hlt,Option.getD_some] at h
   cases hx:Au.replP q t.args[n] b with
   | none=>rw[hx] at h;cases h
   | some x=>
    rw[hx] at h
    have h:=Option.some.inj h
    obtain⟨tb,tk,ti,ta⟩:=t
    obtain⟨w1,w2,w3⟩:=hw.inv
    dsimp only[Tm.binds,Tm.kind,Tm.index,Tm.args] at *
    obtain⟨y,hy⟩:∃ y,ta[n]=y:=⟨_,rfl⟩
    have hih:=OK q y b x (by rw[<-hy];exact hx) (by simp at hp;omega) (w3 _ (hy ▸ List.getElem_mem hlt))
    obtain⟨A,hA⟩:∃ A,ta.set n x=A:=⟨_,rfl⟩
    have hAl:A.length=ta.length:=by rw[<-hA,List.length_set]
    rw[hA] at h
    subst h
    obtain⟨O,hO⟩:∃ O:Nat->List Tm,∀ i,A.take i=O i:=⟨_,λ _=>rfl⟩
    have hO0:O 0=[]:=by rw[<-hO];rfl
    have hOn:∀ i (h:i<A.length),O i++[A[i]]=O (i+1):=λ i h=>by rw[<-hO,<-hO,List.take_add_one,List.getElem?_eq_getElem h];rfl
    have hOl:∀ i,i<=A.length->(O i).length=i:=λ i h=>by rw[<-hO,List.length_take];omega
    have hOm:O ta.length=A:=by rw[<-hO,<-hAl,List.take_length]
    have hAx:∀ i (h:i<A.length),A[i]=if n=i then x else ta[i]:=λ i h=>by
     subst hA;rw[List.getElem_set]
    rw[<-hOm,Zu (.mk tb tk ti ta),Zu b,Zu (.mk tb tk ti _)]
    rw[Zu y,Zu b,Zu x] at hih
    simp only[GM,GO,GN,GL]
    refine Zn 0 54 [ResultVar.cell 6 31] Y1 Tryz.func60 rfl Tryz.ntmps60 rfl λ cx hnt hn0=>?_
    skip
    refine Zz ?_;refine Zx [] Y1 hnt λ _ z9=>z9 _ _ ?_;refine Zz ?_;refine Zx [] Y1 hnt λ _ z9=>z9 _ _ ?_;refine Zz ?_;refine Zz ?_;refine Zx [(18,.v (.int .i64 (↑(q.length+1)))),(19,.v (.bool false))] Y1 hnt λ K hK=>?_;refine And.intro (Zr (by rw[Zb];rfl)) ?_;refine And.intro (XM (by omega)) ?_
    refine hK _ _ ?_;clear hK K;refine Zy (t:=false) rfl ?_;rw[if_neg (by simp)];refine Zw ?_;refine Zz ?_;refine Zx [] Y1 hnt λ _ z9=>z9 _ _ ?_;refine Zz ?_;refine Zx [] Y1 hnt λ _ z9=>z9 _ _ ?_
    refine DW.vs (VS.row (k:=10) (off:=3) 31 4 rfl) ?_
    refine Zz ?_;refine Zz ?_;refine Zx [] Y1 hnt λ _ z9=>z9 _ _ ?_;refine Zt ?_
    refine Z6 (ι:={ j:Nat // j<=ta.length }) (λ j=>[(.t 8,.v (.int .i64 ↑j.1)),(.t 2,.sl 1 (YJ (↑n :: q)) none),(.t 3,.p 0 0),(.t 4,.p 1 0),(.t 6,.p 2 0),(.t 7,.p 10 0),(.c 0 0,.sl 2 (eTys tb) none),(.c 0 1,.v (.int .i64 tk)),(.c 0 2,.v (.int .i64 ti)),(.c 0 3,.sl 4 (eTms ta) none),(.c 1 0,.sl 2 (eTys b.binds) none),(.c 1 1,.v (.int .i64 b.kind)),(.c 1 2,.v (.int .i64 b.index)),(.c 1 3,.sl 4 (eTms b.args) none),(.c 2 0,.v (.slice none 0 0)),(.c 2 1,.v (.int .i64 0)),(.c 2 2,.v (.int .i64 0)),(.c 2 3,.v (.slice none 0 0)),(.c 10 0,.sl 2 (eTys tb) none),(.c 10 1,.v (.int .i64 tk)),(.c 10 2,.v (.int .i64 ti)),(.c 10 3,.sl 4 (eTms (O j.1)) (some 21)),(.r 21,.rw 31 4 (O j.1).length)]) 23 (λ j=>ta.length-j.1) (⟨0,Nat.zero_le _⟩) ((by dsimp only;rw[hO0];exact VS.toA)) λ j=>?_
    obtain⟨j,hj⟩:=j
    dsimp only
    by_cases hl2:j<ta.length
    ·have hj2:j<A.length:=by omega
     have hax:=hAx j hj2
     have hel:=ZT ta j hl2
     have hl1:(eTms (O j)).length=(O j).length:=Zq _
     have hl3:=hOl j (by omega)
     have hl4:(eTms (O (j+1))).length=(O (j+1)).length:=Zq _
     by_cases hjn:j=n
     ·subst hjn
      rw[if_pos rfl] at hax
      have hel:(eTms ta).getD j []=eTm y:=by rw[<-hy];exact ZT ta j hl2
      rw[Zu] at hel
      have hsn:eTms (O j)++[[.sl 2 (eTys x.binds) none,.v (.int .i64 x.kind),.v (.int .i64 x.index),.sl 4 (eTms x.args) none]]=eTms (O (j+1)):=by rw[<-hOn j hj2,Xv,eTms,eTms,hax,Zu]
      refine Zz ?_;refine Zz ?_;refine Zx [(28,.v (.int .i64 (↑ta.length))),(29,.v (.bool true))] Y1 hnt λ K hK=>?_;refine And.intro (Zr (by rw[Zq])) ?_;refine And.intro (Z7 (by omega)) ?_;refine hK _ _ ?_;clear hK K;refine Zy (t:=true) rfl ?_;rw[if_pos rfl];refine Zw ?_;refine Zz ?_;refine Zt ?_;refine Zz ?_;refine Zx [(35,.q [.sl 2 (eTys y.binds) none,.v (.int .i64 y.kind),.v (.int .i64 y.index),.sl 4 (eTms y.args) none])] Y1 hnt λ K hK=>?_
      refine And.intro (⟨by omega,by rw[Zq];omega⟩) ?_;refine And.intro (Zm.of_eq (by rw[Int.toNat_natCast,hel])) ?_;refine hK _ _ ?_;clear hK K;refine Zz ?_;refine Zz ?_;refine Zx [(39,.q [.v (.int .i64 ↑j)]),(41,.v (.bool true))] Y1 hnt λ K hK=>?_;refine And.intro (⟨by omega,by rw[Zb,List.length_cons];omega⟩) ?_;refine And.intro (Zm.of_eq (by simp[YJ])) ?_
      refine And.intro (YT rfl) ?_;refine hK _ _ ?_;clear hK K;refine Zy (t:=true) rfl ?_;rw[if_pos rfl];refine ZQ [(45,.sl 1 (YJ q) none)] Y1 hnt λ K hK=>?_;refine And.intro (⟨by decide,by rw[Zb];simp;omega⟩) ?_;refine And.intro (Zm.of_eq (by simp[YJ,List.take_of_length_le])) ?_;refine Zk (hih) ?_;refine hK _ _ (by kernel_rfl) ?_;clear hK K;refine Zx [] Y1 hnt λ K hK=>?_
      refine And.intro (⟨by omega,by rw[hl1];simp;omega⟩) ?_;refine hK _ _ ?_;clear hK K
      rw[hsn,hl4]
      refine Zx [(31,.v (.int .i64 (↑(j+1))))] Y1 hnt λ K hK=>?_;refine And.intro Ww ?_;refine hK _ _ ?_;clear hK K
      refine⟨⟨j+1,hl2⟩,by first | omega | (dsimp only;omega),VS.toA⟩
     rw[if_neg (λ e=>hjn e.symm)] at hax
     obtain⟨u,hu⟩:∃ u,ta[j]=u:=⟨_,rfl⟩
     rw[hu] at hax hel
     rw[Zu] at hel
     have hsn:eTms (O j)++[[.sl 2 (eTys u.binds) none,.v (.int .i64 u.kind),.v (.int .i64 u.index),.sl 4 (eTms u.args) none]]=eTms (O (j+1)):=by rw[<-hOn j hj2,Xv,eTms,eTms,hax,Zu]
     refine Zz ?_;refine Zz ?_;refine Zx [(28,.v (.int .i64 (↑ta.length))),(29,.v (.bool true))] Y1 hnt λ K hK=>?_;refine And.intro (Zr (by rw[Zq])) ?_;refine And.intro (Z7 (by omega)) ?_;refine hK _ _ ?_;clear hK K;refine Zy (t:=true) rfl ?_;rw[if_pos rfl];refine Zw ?_;refine Zz ?_;refine Zt ?_;refine Zz ?_;refine Zx [(35,.q [.sl 2 (eTys u.binds) none,.v (.int .i64 u.kind),.v (.int .i64 u.index),.sl 4 (eTms u.args) none])] Y1 hnt λ K hK=>?_
     refine And.intro (⟨by omega,by rw[Zq];omega⟩) ?_;refine And.intro (Zm.of_eq (by rw[Int.toNat_natCast,hel])) ?_;refine hK _ _ ?_;clear hK K;refine Zz ?_;refine Zz ?_;refine Zx [(39,.q [.v (.int .i64 ↑n)]),(41,.v (.bool false))] Y1 hnt λ K hK=>?_;refine And.intro (⟨by omega,by rw[Zb,List.length_cons];omega⟩) ?_;refine And.intro (Zm.of_eq (by simp[YJ])) ?_
     refine And.intro (XM (by omega)) ?_;refine hK _ _ ?_;clear hK K;refine Zy (t:=false) rfl ?_;rw[if_neg (by simp)];refine Zw ?_;refine Zx [] Y1 hnt λ K hK=>?_;refine And.intro (⟨by omega,by rw[hl1];simp;omega⟩) ?_;refine hK _ _ ?_;clear hK K
     rw[hsn,hl4]
     refine Zx [(31,.v (.int .i64 (↑(j+1))))] Y1 hnt λ K hK=>?_;refine And.intro Ww ?_;refine hK _ _ ?_;clear hK K
     refine⟨⟨j+1,hl2⟩,by first | omega | (dsimp only;omega),VS.toA⟩
    have hja:j=ta.length:=by omega
    subst hja
    refine Zz ?_;refine Zz ?_;refine Zx [(28,.v (.int .i64 (↑ta.length))),(29,.v (.bool false))] Y1 hnt λ K hK=>?_;refine And.intro (Zr (by rw[Zq])) ?_;refine And.intro (Ze (by omega)) ?_;refine hK _ _ ?_;clear hK K;refine Zy (t:=false) rfl ?_;rw[if_neg (by simp)];refine Zg ?_;refine Zz ?_;refine Zx [(53,.ag [.sl 2 (eTys tb) none,.v (.int .i64 tk),.v (.int .i64 ti),.sl 4 (eTms (O ta.length)) none])] Y1 hnt λ K hK=>?_
    refine And.intro (XP) ?_;refine hK _ _ ?_;clear hK K;refine Zv ?_
    exact Zi rfl
  rw[if_neg hc] at h;cases h
namespace Au
variable (code:List Ty->Tm->Ty->Int) (eqs:List Li.Pr)
theorem fold_zero:∀ (l:List St) (r:Tm×Int),(r.2≠0->r.1=Tm.zero)->(l.foldl (λ r x=>step code eqs x r) r).2≠0->(l.foldl (λ r x=>step code eqs x r) r).1=Tm.zero
 | [],r,h,h2=>h h2
 | x :: l,r,h,h2=>by
  rw[List.foldl_cons] at h2 ⊢
  exact fold_zero l _ (step_ne code eqs) h2
theorem chain_fold (l:List St)(t:Tm):chain code eqs l t=l.foldl (λ r x=>step code eqs x r) (t,0):=by
 unfold chain
 by_cases h:(l.foldl (λ r x=>step code eqs x r) (t,0)).2≠0
 ·rw[if_pos h]
  exact Prod.ext (fold_zero code eqs l (t,0) (λ h=>absurd rfl h) h).symm rfl
 rw[if_neg h]
theorem chain_one (x:St)(t:Tm):chain code eqs [x] t=step code eqs x (t,0):=chain_fold code eqs [x] t
theorem fold_stop:∀ (l:List St) (r:Tm×Int),r.2≠0->r.1=Tm.zero->l.foldl (λ r x=>step code eqs x r) r=r
 | [],r,h,h2=>rfl
 | x :: l,r,h,h2=>by
  rw[List.foldl_cons,step_e code eqs h,show ((Tm.zero,r.2):Tm×Int)=r from Prod.ext h2.symm rfl]
  exact fold_stop l r h h2
def way (l:List St)(t:Tm)(j:Nat):Tm×Int:=(l.take j).foldl (λ r x=>step code eqs x r) (t,0)
theorem way_next (l:List St)(t:Tm)(j:Nat)(h:j<l.length)(h0:(way code eqs l t j).2=0):way code eqs l t (j+1)=chain code eqs [l[j]] (way code eqs l t j).1:=by
 rw[chain_one]
 have e:way code eqs l t (j+1)=step code eqs l[j] (way code eqs l t j):=by
  unfold way
  rw[List.take_add_one,List.getElem?_eq_getElem h,List.foldl_append];rfl
 rw[e,show way code eqs l t j=((way code eqs l t j).1,0) from Prod.ext rfl h0]
theorem way_zero (l:List St)(t:Tm)(j:Nat)(h:(way code eqs l t j).2≠0):(way code eqs l t j).1=Tm.zero:=fold_zero code eqs _ _ (λ h=>absurd rfl h) h
theorem way_stop (l:List St)(t:Tm)(j:Nat)(h:(way code eqs l t j).2≠0):chain code eqs l t=way code eqs l t j:=by
 rw[chain_fold]
 have e:=List.take_append_drop j l
 rw[<-e,List.foldl_append,e]
 exact fold_stop code eqs _ _ h (way_zero code eqs l t j h)
theorem way_all (l:List St)(t:Tm):chain code eqs l t=way code eqs l t l.length:=by
 rw[chain_fold,way,List.take_length]
end Au
namespace Au
variable (code:List Ty->Tm->Ty->Int) (eqs:List Li.Pr)
def sOk (q:Li.Pr)(s:List (Int×Tm)):Prop:=s.map (·.1)=Wr (Y9 [q.l,q.r])/\∀ p∈s,0<=p.1/\p.1<(q.m.length:Int)
instance (q:Li.Pr) (s:List (Int×Tm)):Decidable (sOk q s):=inferInstanceAs (Decidable (_/\_))
def sTy (q:Li.Pr)(s:List (Int×Tm))(ar:List Ty):Prop:=∀ p∈s,code ar p.2 (q.m.getD p.1.toNat (.mk [] 0))=0
instance (q:Li.Pr) (s:List (Int×Tm)) (ar:List Ty):Decidable (sTy code q s ar):=inferInstanceAs (Decidable (∀ p∈s,_))
theorem fold_must {α:Type}(P:α->Bool)(c:Int):∀ (l:List α) (e:Int),l.foldl (λ e p=>must e (P p) c) e=if e≠0 then e else if l.all P=true then 0 else c
 | [],e=>by
  by_cases h:e=0
  ·rw[if_neg (λ h'=>h' h)];simp[h]
  rw[if_pos h];rfl
 | x :: l,e=>by
  rw[List.foldl_cons,fold_must P c l]
  by_cases h:e=0
  ·subst h
   cases hp:P x with
   | true=>rw[must_true];simp[hp]
   | false=>
    have hm:must 0 false c=c:=by unfold must;rw[if_pos ⟨rfl,rfl⟩]
    rw[hm]
    by_cases hc:c=0
    ·subst hc;simp
    simp[hc,hp]
  rw[must_ne h];simp[h]
theorem fold_must5 {α:Type}(P:α->Bool)(c:Int):∀ (l:List α) (e:Int),l.foldl (λ e p=>if e=0 then must e (P p) c else e) e=if e≠0 then e else if l.all P=true then 0 else c:=by
 intro l e
 rw[<-fold_must P c l e]
 congr 1
 funext e p
 by_cases h:e=0
 ·rw[if_pos h]
 rw[if_neg h,must_ne h]
theorem sright {q:Li.Pr}{s:List (Int×Tm)}(h:s.map (·.1)=Wr (Y9 [q.l,q.r])):Sb.right s=true:=by
 have h1:=(X2 (Y9 [q.l,q.r])).1
 rw[<-h,List.pairwise_map] at h1
 exact decide_eq_true h1
theorem subS_at (q:Li.Pr)(s:List (Int×Tm))(ar:List Ty):subS code q s ar 0=if sOk q s then (if sTy code q s ar then 0 else 5) else 1:=by
 unfold subS
 rw[fold_must (λ p:Int×Tm=>decide (0<=p.1/\p.1<(q.m.length:Int))) 1,fold_must5 (λ p:Int×Tm=>decide (code ar p.2 (q.m.getD p.1.toNat (.mk [] 0))=0)) 5]
 have ha:∀ p:Int×Tm->Prop,∀ [DecidablePred p],(s.all (λ x=>decide (p x))=true↔∀ x∈s,p x):=λ p _=>by simp
 by_cases h1:s.map (·.1)=Wr (Y9 [q.l,q.r])
 ·rw[sright h1,decide_eq_true h1,Bool.true_and,must_true,if_neg (show ¬ (0:Int)≠0 from λ h=>h rfl)]
  by_cases h2:∀ p∈s,0<=p.1/\p.1<(q.m.length:Int)
  ·rw[if_pos ((ha _).2 h2),if_neg (show ¬ (0:Int)≠0 from λ h=>h rfl),if_pos (show sOk q s from ⟨h1,h2⟩)]
   by_cases h3:sTy code q s ar
   ·rw[if_pos ((ha _).2 h3),if_pos h3]
   rw[if_neg (λ h=>h3 ((ha _).1 h)),if_neg h3]
  rw[if_neg (λ h=>h2 ((ha _).1 h)),if_pos (show (1:Int)≠0 by decide),if_neg (λ h:sOk q s=>h2 h.2)]
 rw[decide_eq_false h1,Bool.and_false]
 have hm:must 0 false 1=1:=by decide
 rw[hm,if_pos (show (1:Int)≠0 by decide),if_pos (show (1:Int)≠0 by decide),if_neg (λ h:sOk q s=>h1 h.1)]
def dfin (x:St)(t th:Tm)(a b:Tm×Nm.St):Tm×Int:=
 if a.2.e≠0 then (Tm.zero,a.2.e) else if b.2.e≠0 then (Tm.zero,b.2.e) else if a.1≠Pn.nb th then (Tm.zero,9) else if b.1.binds≠[] then (Tm.zero,1)
 else match replP x.path t b.1 with
 | none=>(Tm.zero,10)
 | some o=>if Li.rt o=false then (Tm.zero,2) else (o,0)
def dst (x:St)(t:Tm):Tm×Int:=
 if ¬ (0<=x.eq/\x.eq<(eqs.length:Int)) then (Tm.zero,10)
 else match Pn.atP x.path t with
 | none=>(Tm.zero,10)
 | some (th,ar)=>
  if ¬ sOk (eqAt eqs x) x.s then (Tm.zero,1)
  else if ¬ sTy code (eqAt eqs x) x.s ar then (Tm.zero,5)
  else dfin x t th (Sb.apply x.s (if x.back then (eqAt eqs x).r else (eqAt eqs x).l) 100000 false) (Sb.apply x.s (if x.back then (eqAt eqs x).l else (eqAt eqs x).r) 100000 false)
theorem img_z (s:List (Int×Tm))(t:Tm):img s t 0=((Sb.apply s t 100000 false).1,(Sb.apply s t 100000 false).2.e):=by
 unfold img
 rw[if_neg (λ h=>h rfl)]
 congr 1
 unfold must
 by_cases h:(Sb.apply s t 100000 false).2.e=0
 ·rw[if_neg (by simp[h]),h]
 rw[if_pos ⟨rfl,decide_eq_false h⟩]
theorem img_ne (s:List (Int×Tm))(t:Tm){e:Int}(h:e≠0):img s t e=(Tm.zero,e):=by unfold img;rw[if_pos h]
theorem fin_dfin (x:St)(t th:Tm)(ar:List Ty)(hat:Pn.atP x.path t=some (th,ar))(f g:Tm):fin x t th (img x.s f 0).1 (img x.s g (img x.s f 0).2).1 (img x.s g (img x.s f 0).2).2=dfin x t th (Sb.apply x.s f 100000 false) (Sb.apply x.s g 100000 false):=by
 rw[img_z]
 obtain⟨a,ha⟩:∃ a,Sb.apply x.s f 100000 false=a:=⟨_,rfl⟩
 rw[ha]
 dsimp only
 unfold dfin
 by_cases h1:a.2.e≠0
 ·rw[img_ne _ _ h1,if_pos h1,fin_e h1]
 rw[if_neg h1]
 have h1:a.2.e=0:=Classical.byContradiction h1
 rw[h1,img_z]
 obtain⟨b,hb⟩:∃ b,Sb.apply x.s g 100000 false=b:=⟨_,rfl⟩
 rw[hb]
 dsimp only
 by_cases h2:b.2.e≠0
 ·rw[if_pos h2,fin_e h2]
 rw[if_neg h2]
 have h2:b.2.e=0:=Classical.byContradiction h2
 rw[h2]
 unfold fin
 by_cases h3:a.1=Pn.nb th
 ·rw[decide_eq_true h3,must_true,if_neg (show ¬ (0:Int)≠0 from λ h=>h rfl),if_neg (show ¬ a.1≠Pn.nb th from λ h=>h h3)]
  obtain⟨o,ho⟩:=SI x.path t b.1 _ hat
  unfold repl
  by_cases h4:b.1.binds≠[]
  ·rw[if_pos h4,if_pos h4]
   have hm:∀ is,must (must 0 (decide ((1:Int)=0)) 1) is 2=1:=λ is=>by cases is <;> decide
   dsimp only
   rw[hm,if_pos (by decide)]
  rw[if_neg h4,if_neg h4,ho]
  dsimp only
  rw[decide_eq_true rfl,must_true]
  cases hr:Li.rt o with
  | true=>rw[must_true,if_neg (show ¬ (0:Int)≠0 from λ h=>h rfl),if_neg (by decide)]
  | false=>
   have hm:must 0 false 2=2:=by decide
   rw[hm,if_pos (by decide),if_pos rfl]
 rw[decide_eq_false h3,if_pos h3]
 have hm:must 0 false 9=9:=by decide
 rw[hm,if_pos (by decide)]
theorem step_dst (x:St)(t:Tm):step code eqs x (t,0)=dst code eqs x t:=by
 unfold step dst
 dsimp only
 by_cases h1:0<=x.eq/\x.eq<(eqs.length:Int)
 ·rw[if_neg (show ¬ ¬ (0<=x.eq/\x.eq<(eqs.length:Int)) from λ h=>h h1),decide_eq_true h1,must_true]
  cases hat:Pn.atP x.path t with
  | none=>
   have hm:must 0 false 10=10:=by decide
   dsimp only
   rw[hm]
  | some r=>
   obtain⟨th,ar⟩:=r
   dsimp only
   rw[if_neg (show ¬ (0:Int)≠0 from λ h=>h rfl),subS_at]
   by_cases h2:sOk (eqAt eqs x) x.s
   ·rw[if_pos h2,if_neg (show ¬ ¬ sOk (eqAt eqs x) x.s from λ h=>h h2)]
    by_cases h3:sTy code (eqAt eqs x) x.s ar
    ·rw[if_pos h3,if_neg (show ¬ ¬ sTy code (eqAt eqs x) x.s ar from λ h=>h h3)]
     exact fin_dfin x t th ar hat _ _
    rw[if_neg h3,if_pos (show ¬ sTy code (eqAt eqs x) x.s ar from h3),img_ne _ _ (show (5:Int)≠0 by decide),img_ne _ _ (show (5:Int)≠0 by decide),fin_e (show (5:Int)≠0 by decide)]
   rw[if_neg h2,if_pos (show ¬ sOk (eqAt eqs x) x.s from h2),img_ne _ _ (show (1:Int)≠0 by decide),img_ne _ _ (show (1:Int)≠0 by decide),fin_e (show (1:Int)≠0 by decide)]
 rw[if_pos (show ¬ (0<=x.eq/\x.eq<(eqs.length:Int)) from h1),decide_eq_false h1]
 have hm:must 0 false 10=10:=by decide
 have hm2:must 10 false 10=10:=by decide
 cases hat:Pn.atP x.path t with
 | none=>dsimp only;rw[hm,hm2]
 | some r=>
  obtain⟨th,ar⟩:=r
  dsimp only
  rw[hm,if_pos (show (10:Int)≠0 by decide)]
end Au
def TRJ:List (Nat×TI):=[(64,TPR_64),(62,TG_62),(31,TTM_31),(41,TG_41),(33,TPR_33),(106,TG_106),(3,TG_3)]
theorem OV:Zd Tryz.prog TRJ:=((((((((Zd.nil _).cons ZW).cons Yx).cons XX).cons Ym).cons Yl).cons Yu).cons Yk)
theorem OL (t:Tm)(h:t.full<=400000):Zh Tryz.prog 75 [.ag (eTm t)] (.v (.int .i64 t.size)):=by
 refine W0 (by kernel_rfl) λ m Im w vs hv=>?_
 match vs,hv with
 | [x1],hv=>
  obtain⟨b,k,i,a,rfl,ht⟩:=Ho hv.1
  refine(OM t ht w (by have:=Tm.size_le_full t;omega) (Keep.refl _ _)).mono ?_
  rintro e w' ⟨rfl,hb⟩
  exact⟨_,rfl,hb,λ _ _ _=>.v _⟩
namespace Ru
def wt (p:Li.Pr):Int:=(p.l.size:Int)+(p.r.size:Int)
def cmp (a b:Li.Pr):Int:=Q0 (KP (wt a) (wt b)) (Q0 (Tm.cmp a.l b.l) (Q0 (Tm.cmp a.r b.r) (Tm.cmpB a.m b.m)))
end Ru
theorem HU (p:Li.Pr)(h1:p.l.full<=400000)(h2:p.r.full<=400000):Zh Tryz.prog 37 [.ag (WG p)] (.v (.int .i64 (Ru.wt p))):=by
 have c1:=OL p.l h1
 have c2:=OL p.r h2
 have z1:=Tm.size_le_full p.l
 have z2:=Tm.size_le_full p.r
 rw[Ys]
 rw[Zu] at c1 c2
 unfold Ru.wt
 refine Zn 0 10 [ResultVar.tmp 2] OV Tryz.func37 rfl Tryz.ntmps37 rfl λ cx hnt hn0=>?_
 skip
 refine Zz ?_;refine Zx [] OV hnt λ _ z9=>z9 _ _ ?_;refine Zz ?_;refine ZQ [(9,.v (.int .i64 (((p.l.size)+(p.r.size)))))] OV hnt λ K hK=>?_;refine Zk (c1) ?_;refine Zk (c2) ?_;refine And.intro Ww ?_;refine hK _ _ (by kernel_rfl) ?_;clear hK K;refine Zv ?_
 exact Zi rfl
end Go.Proofs.YtclihnccilkohaaGreat
