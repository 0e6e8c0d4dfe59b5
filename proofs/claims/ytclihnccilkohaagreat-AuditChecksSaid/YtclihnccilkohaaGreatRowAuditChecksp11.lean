/-
  Parts of the proof.
-/
import Derived.Test.YtclihnccilkohaaGreatRowAuditChecksp6
import Derived.Test.YtclihnccilkohaaGreatRowAuditChecksp10
import Derived.Test.YtclihnccilkohaaGreatRowAuditChecksp9
import Derived.Test.YtclihnccilkohaaGreatRowAuditChecksp8
import Derived.Test.YtclihnccilkohaaGreatRowAuditChecksp7
import Derived.Test.YtclihnccilkohaaGreatRowAuditChecksp5
import Derived.Test.YtclihnccilkohaaGreatRowAuditChecksp1
import Derived.OrdersIn
import Derived.RangeFuncCalls
import Derived.RangeFuncLeaves
set_option maxRecDepth 100000
set_option maxHeartbeats 1000000
set_option linter.unusedVariables false
set_option linter.unusedSimpArgs false
namespace Go.Proofs.YtclihnccilkohaaGreat
open Go.RowKit
def TAUP:List (Nat×TI):=[(25,TPR_25),(33,TPR_33),(3,TG_3),(34,TAUE_34),(64,TPR_64)]
theorem Xr:Zd Tryz.prog TAUP:=((((((Zd.nil _).cons Yk).cons YM).cons ZW).cons XX).cons W9)
namespace Au
def okA (p:Li.Pr):Bool:=VA p&&decide (Ru.wt p<=60)
theorem sizes_of {l:List Ty}{n:Nat}(h:∀ t∈l,t.size<=n):Ty.sizes l<=l.length * n:=by
 induction l with
 | nil=>simp[Ty.sizes]
 | cons t l ih=>
  have h1:=h t (by simp)
  have h2:=ih λ u hu=>h u (by simp[hu])
  simp only[Ty.sizes,List.length_cons,Nat.succ_mul]
  omega
end Au
set_option maxHeartbeats 4000000 in
theorem Kf (l:List Li.Pr)(hl:l.length<=9223372036854775807):Zh Tryz.prog 7 [.sl 9 (Yt l) none] (.tu [.sl 9 (Yt (if (l.take 6).all Au.okA=true then l.take 6 else [])) none,.sl 9 (Yt (if (l.take 6).all Au.okA=true then l.take 6 else [])) none,.v (.bool ((l.take 6).all Au.okA))]):=by
 obtain⟨m,hm⟩:∃ m,l.take 6=m:=⟨_,rfl⟩
 have hml:m.length=min 6 l.length:=by rw[<-hm,List.length_take]
 have hF:=λ p=>Nq [p] (by simp)
 rw[hm]
 obtain⟨V,hV⟩:∃ V,(if m.all Au.okA=true then m else [])=V:=⟨_,rfl⟩
 obtain⟨B,hB⟩:∃ B,m.all Au.okA=B:=⟨_,rfl⟩
 rw[hV,hB]
 rw[hB] at hV
 have e6:D.sl 9 (List.drop (((none:Option Int).getD 0)).toNat (List.take ((some ((min l.length 6:Nat):Int)).getD ((Yt l).length:Int)).toNat (Yt l))) none=D.sl 9 (Yt m) none:=by
  show D.sl 9 (List.drop 0 (List.take (((min l.length 6:Nat):Int)).toNat (Yt l))) none=_
  rw[Int.toNat_natCast,List.drop_zero,<-hm,Yt,Yt,<-List.map_take,List.take_eq_take_iff.2 (show min (min l.length 6) l.length=min 6 l.length by omega)]
 obtain⟨O,hO⟩:∃ O:Nat->List Li.Pr,∀ j,m.take j=O j:=⟨_,λ _=>rfl⟩
 have hO0:O 0=[]:=by rw[<-hO];rfl
 have hOn:∀ j (h:j<m.length),O j++[m[j]]=O (j+1):=λ j h=>by rw[<-hO,<-hO,List.take_add_one,List.getElem?_eq_getElem h];rfl
 have hOl:∀ j,j<=m.length->(O j).length=j:=λ j h=>by rw[<-hO,List.length_take];omega
 refine Zn 0 43 [ResultVar.tmp 2,ResultVar.tmp 3,ResultVar.tmp 4] Xr Tryz.func7 rfl Tryz.ntmps7 rfl λ cx hnt hn0=>?_
 skip
 refine Zz ?_;refine Zx [] Xr hnt λ _ z9=>z9 _ _ ?_;refine Zz ?_;refine Zx [(10,.v (.int .i64 (↑(min l.length 6)))),(11,.sl 9 (Yt m) none)] Xr hnt λ K hK=>?_;refine And.intro (Zr (by (rw[Z4];omega))) ?_;refine And.intro (⟨by omega,by rw[Z4];omega⟩) ?_;refine And.intro (Zm.of_eq e6) ?_;refine hK _ _ ?_;clear hK K;refine Zz ?_
 refine Zx [] Xr hnt λ _ z9=>z9 _ _ ?_
 refine DW.vs (VS.rowT (x:=5) (by rw[hnt];decide) 64 9 rfl) ?_
 refine Zz ?_;refine Zz ?_;refine Zx [] Xr hnt λ _ z9=>z9 _ _ ?_;refine Zt ?_
 refine Z6 (ι:={ j:Nat // j<=m.length/\∀ i (h:i<m.length),i<j->Au.okA m[i]=true }) (λ j=>[(.t 0,.sl 9 (Yt m) none),(.t 5,.sl 9 (Yt (O j.1)) (some 10)),(.r 10,.rw 64 9 (O j.1).length),(.t 6,.v (.int .i64 ↑j.1))]) 20 (λ j=>m.length-j.1) (⟨0,Nat.zero_le _,λ i h h2=>by omega⟩) ((by dsimp only;rw[hO0];exact VS.toA)) λ j=>?_
 obtain⟨j,hj,hjo⟩:=j
 dsimp only
 by_cases hlt:j<m.length
 ·obtain⟨p,hp⟩:∃ p,m[j]=p:=⟨_,rfl⟩
  have eP:Yt [p]=[[.sl 2 (eTys p.l.binds) none,.v (.int .i64 p.l.kind),.v (.int .i64 p.l.index),.sl 4 (eTms p.l.args) none,.sl 2 (eTys p.r.binds) none,.v (.int .i64 p.r.kind),.v (.int .i64 p.r.index),.sl 4 (eTms p.r.args) none,.sl 2 (eTys p.m) none]]:=by rw[<-Ys];rfl
  have hf:=hF p
  have hgd:(Yt m).getD j []=[.sl 2 (eTys p.l.binds) none,.v (.int .i64 p.l.kind),.v (.int .i64 p.l.index),.sl 4 (eTms p.l.args) none,.sl 2 (eTys p.r.binds) none,.v (.int .i64 p.r.kind),.v (.int .i64 p.r.index),.sl 4 (eTms p.r.args) none,.sl 2 (eTys p.m) none]:=by rw[XC m j hlt,hp,Ys]
  have hbad:Au.okA p=false->B=false:=λ h=>by rw[<-hB,List.all_eq_false];exact⟨m[j],List.getElem_mem hlt,by rw[hp,h];simp⟩
  cases h1:VA p with
  | false=>
   have hb:=hbad (by rw[Au.okA,h1];rfl)
   rw[hb,if_neg (by simp)] at hV
   subst hb hV
   rw[show [p].all VA=false by simp[h1]] at hf
   refine Zz ?_;refine Zz ?_;refine Zx [(14,.v (.int .i64 (↑m.length))),(15,.v (.bool true))] Xr hnt λ K hK=>?_;refine And.intro (Zr (by rw[Z4])) ?_;refine And.intro Xd ?_;refine hK _ _ ?_;clear hK K;refine Zy (t:=true) rfl ?_;rw[if_pos rfl];refine Zw ?_;refine Zz ?_;refine Zt ?_;refine Zz ?_;refine Zz ?_;refine Zx [(20,.q [.sl 2 (eTys p.l.binds) none,.v (.int .i64 p.l.kind),.v (.int .i64 p.l.index),.sl 4 (eTms p.l.args) none,.sl 2 (eTys p.r.binds) none,.v (.int .i64 p.r.kind),.v (.int .i64 p.r.index),.sl 4 (eTms p.r.args) none,.sl 2 (eTys p.m) none]),(22,.sl 9 (Yt [p]) none)] Xr hnt λ K hK=>?_
   refine And.intro (⟨by omega,by rw[Z4];omega⟩) ?_;refine And.intro (Zm.of_eq (by rw[Int.toNat_natCast,hgd])) ?_;refine And.intro ((by rw[eP];exact Zm.untag _ _ _)) ?_;refine Zk (hf) ?_;refine hK _ _ ?_;clear hK K;refine Zy (t:=true) rfl ?_;rw[if_pos rfl];refine Zz ?_;refine Zx [] Xr hnt λ _ z9=>z9 _ _ ?_;refine Zv ?_
   exact Zi rfl
  | true=>
   rw[show [p].all VA=true by simp[h1]] at hf
   obtain⟨⟨z1,z2⟩,z3,z4⟩:=Qk h1
   have hw:=HU p (by omega) (by omega)
   rw[Ys] at hw
   by_cases h2:Ru.wt p<=60
   ·have ht:=PL p (by omega) (by omega) (by have:=Au.sizes_of z4;omega)
    rw[Ys] at ht
    have hsn:=U4 (O j) p
    rw[<-hp,hOn j hlt,hp] at hsn
    have hl1:(Yt (O j)).length=(O j).length:=Z4 _
    have hl3:=hOl j hj
    have hl2:(Yt (O (j+1))).length=(O (j+1)).length:=Z4 _
    refine Zz ?_;refine Zz ?_;refine Zx [(14,.v (.int .i64 (↑m.length))),(15,.v (.bool true))] Xr hnt λ K hK=>?_;refine And.intro (Zr (by rw[Z4])) ?_;refine And.intro Xd ?_;refine hK _ _ ?_;clear hK K;refine Zy (t:=true) rfl ?_;rw[if_pos rfl];refine Zw ?_;refine Zz ?_;refine Zt ?_;refine Zz ?_;refine Zz ?_;refine Zx [(20,.q [.sl 2 (eTys p.l.binds) none,.v (.int .i64 p.l.kind),.v (.int .i64 p.l.index),.sl 4 (eTms p.l.args) none,.sl 2 (eTys p.r.binds) none,.v (.int .i64 p.r.kind),.v (.int .i64 p.r.index),.sl 4 (eTms p.r.args) none,.sl 2 (eTys p.m) none]),(22,.sl 9 (Yt [p]) none),(28,.q [.sl 2 (eTys p.l.binds) none,.v (.int .i64 p.l.kind),.v (.int .i64 p.l.index),.sl 4 (eTms p.l.args) none,.sl 2 (eTys p.r.binds) none,.v (.int .i64 p.r.kind),.v (.int .i64 p.r.index),.sl 4 (eTms p.r.args) none,.sl 2 (eTys p.m) none]),(31,.v (.bool false))] Xr hnt λ K hK=>?_
    refine And.intro (⟨by omega,by rw[Z4];omega⟩) ?_;refine And.intro (Zm.of_eq (by rw[Int.toNat_natCast,hgd])) ?_;refine And.intro ((by rw[eP];exact Zm.untag _ _ _)) ?_;refine Zk (hf) ?_;refine And.intro (⟨by omega,by rw[Z4];omega⟩) ?_;refine And.intro (Zm.of_eq (by rw[Int.toNat_natCast,hgd])) ?_;refine Zk (hw) ?_;refine And.intro (Ze (by omega)) ?_;refine hK _ _ ?_;clear hK K
    refine Zy (t:=false) rfl ?_;rw[if_neg (by simp)];refine Zw ?_;refine Zx [(36,.q [.sl 2 (eTys p.l.binds) none,.v (.int .i64 p.l.kind),.v (.int .i64 p.l.index),.sl 4 (eTms p.l.args) none,.sl 2 (eTys p.r.binds) none,.v (.int .i64 p.r.kind),.v (.int .i64 p.r.index),.sl 4 (eTms p.r.args) none,.sl 2 (eTys p.m) none])] Xr hnt λ K hK=>?_;refine And.intro (⟨by omega,by rw[Z4];omega⟩) ?_
    refine And.intro (Zm.of_eq (by rw[Int.toNat_natCast,hgd])) ?_;refine Zk (ht) ?_;refine And.intro (⟨by omega,by rw[hl1];simp;omega⟩) ?_;refine hK _ _ ?_;clear hK K
    rw[hsn,hl2]
    refine Zx [(17,.v (.int .i64 (↑(j+1))))] Xr hnt λ K hK=>?_;refine And.intro Ww ?_;refine hK _ _ ?_;clear hK K
    refine⟨⟨j+1,hlt,λ i h h3=>if hij:i=j then by subst hij;rw[hp,Au.okA,h1,decide_eq_true h2];rfl else hjo i h (by omega)⟩,by first | omega | (dsimp only;omega),VS.toA⟩
   have hb:=hbad (by rw[Au.okA,h1,decide_eq_false h2];rfl)
   rw[hb,if_neg (by simp)] at hV
   subst hb hV
   refine Zz ?_;refine Zz ?_;refine Zx [(14,.v (.int .i64 (↑m.length))),(15,.v (.bool true))] Xr hnt λ K hK=>?_;refine And.intro (Zr (by rw[Z4])) ?_;refine And.intro Xd ?_;refine hK _ _ ?_;clear hK K;refine Zy (t:=true) rfl ?_;rw[if_pos rfl];refine Zw ?_;refine Zz ?_;refine Zt ?_;refine Zz ?_;refine Zz ?_;refine Zx [(20,.q [.sl 2 (eTys p.l.binds) none,.v (.int .i64 p.l.kind),.v (.int .i64 p.l.index),.sl 4 (eTms p.l.args) none,.sl 2 (eTys p.r.binds) none,.v (.int .i64 p.r.kind),.v (.int .i64 p.r.index),.sl 4 (eTms p.r.args) none,.sl 2 (eTys p.m) none]),(22,.sl 9 (Yt [p]) none),(28,.q [.sl 2 (eTys p.l.binds) none,.v (.int .i64 p.l.kind),.v (.int .i64 p.l.index),.sl 4 (eTms p.l.args) none,.sl 2 (eTys p.r.binds) none,.v (.int .i64 p.r.kind),.v (.int .i64 p.r.index),.sl 4 (eTms p.r.args) none,.sl 2 (eTys p.m) none]),(31,.v (.bool true))] Xr hnt λ K hK=>?_
   refine And.intro (⟨by omega,by rw[Z4];omega⟩) ?_;refine And.intro (Zm.of_eq (by rw[Int.toNat_natCast,hgd])) ?_;refine And.intro ((by rw[eP];exact Zm.untag _ _ _)) ?_;refine Zk (hf) ?_;refine And.intro (⟨by omega,by rw[Z4];omega⟩) ?_;refine And.intro (Zm.of_eq (by rw[Int.toNat_natCast,hgd])) ?_;refine Zk (hw) ?_;refine And.intro (Z7 (by omega)) ?_;refine hK _ _ ?_;clear hK K
   refine Zy (t:=true) rfl ?_;rw[if_pos rfl];refine Zz ?_;refine Zx [] Xr hnt λ _ z9=>z9 _ _ ?_;refine Zv ?_
   exact Zi rfl
 have hje:j=m.length:=by omega
 subst hje
 have hall:m.all Au.okA=true:=by
  rw[List.all_eq_true]
  intro x hx
  obtain⟨i,hi,rfl⟩:=List.getElem_of_mem hx
  exact hjo i hi hi
 rw[hB] at hall
 subst hall
 rw[if_pos rfl] at hV
 have hOm:O m.length=m:=by rw[<-hO,List.take_length]
 subst hV
 rw[hOm]
 refine Zz ?_;refine Zz ?_;refine Zx [(14,.v (.int .i64 (↑m.length))),(15,.v (.bool false))] Xr hnt λ K hK=>?_;refine And.intro (Zr (by rw[Z4])) ?_;refine And.intro X5 ?_;refine hK _ _ ?_;clear hK K;refine Zy (t:=false) rfl ?_;rw[if_neg (by simp)];refine Zg ?_;refine Zz ?_;refine Zx [] Xr hnt λ _ z9=>z9 _ _ ?_
 refine Zv ?_
 exact Zi rfl
def TRSC:List (Nat×TI):=[(31,TTM_31),(3,TG_3),(71,TTY_71),(29,TTM_29),(22,TTY_22),(74,TAUQ_74),(72,TL9_72),(28,TTM_28),(33,TPR_33),(179,TRAP_179),(24,TS9_24),(104,TTY_104),(175,TRX_175),(25,TPR_25),(130,TL9_130),(4,TAUB_4),(177,TRAP_177)]
theorem Zl:Zd Tryz.prog TRSC:=((((((((((((((((((Zd.nil _).cons TO).cons WX).cons XJ).cons W9).cons SE).cons Yy).cons Xy).cons TP).cons XX).cons Xz).cons Wm).cons WZ).cons Yo).cons Y5).cons YV).cons ZW).cons Yl)
theorem NL (b:Int)(C M X:List Ty)(t:Tm)(u:Ty)(c:Int)(hC:C.length<=1000000)(hM:M.length<=1000000)(hc:Yp C M t X u c)(hz:X.length+t.full<=900000):
  Zh Tryz.prog 58 [.ag [.v (.int .i64 b),.sl 2 (eTys C) none,.sl 2 (eTys M) none],.sl 2 (eTys X) none,.ag (eTm t),.ag (eTy u)] (.v (.int .i64 c)):=by
 have hr:=Ve t (by have:=Tm.size_le_full t;omega)
 have hi:=λ d hd=>MM b C M hC hM t X u d hd hz
 rw[Zu,Zc] at hi
 rw[Zu] at hr
 rw[Zu,Zc]
 rcases hc with⟨h1,rfl⟩ | ⟨h1,h2,rfl⟩ | ⟨h1,h2,rfl⟩
 ·rw[show Li.rt t=false from decide_eq_false h1] at hr
  refine Zn 0 18 [ResultVar.tmp 8] Zl Tryz.func58 rfl Tryz.ntmps58 rfl λ cx hnt hn0=>?_
  skip
  refine Zz ?_;refine Zx [] Zl hnt λ _ z9=>z9 _ _ ?_;refine Zz ?_;refine Zz ?_;refine Zx [] Zl hnt λ K hK=>?_;refine Zk (hr) ?_;refine hK _ _ ?_;clear hK K;refine Zy (t:=true) rfl ?_;rw[if_pos rfl];refine Zz ?_;refine Zx [] Zl hnt λ _ z9=>z9 _ _ ?_;refine Zv ?_
  exact Zi rfl
 ·rw[show Li.rt t=true from decide_eq_true h1] at hr
  have hi:=hi false (by simp[h2])
  refine Zn 0 18 [ResultVar.tmp 8] Zl Tryz.func58 rfl Tryz.ntmps58 rfl λ cx hnt hn0=>?_
  skip
  refine Zz ?_;refine Zx [] Zl hnt λ _ z9=>z9 _ _ ?_;refine Zz ?_;refine Zz ?_;refine Zx [] Zl hnt λ K hK=>?_;refine Zk (hr) ?_;refine hK _ _ ?_;clear hK K;refine Zy (t:=false) rfl ?_;rw[if_neg (by simp)];refine Zw ?_;refine Zz ?_;refine Zz ?_;refine Zx [] Zl hnt λ K hK=>?_;refine Zk (hi) ?_;refine hK _ _ ?_;clear hK K
  refine Zy (t:=true) rfl ?_;rw[if_pos rfl];refine Zz ?_;refine Zx [] Zl hnt λ _ z9=>z9 _ _ ?_;refine Zv ?_
  exact Zi rfl
 rw[show Li.rt t=true from decide_eq_true h1] at hr
 have hi:=hi true (by simp[h2])
 refine Zn 0 18 [ResultVar.tmp 8] Zl Tryz.func58 rfl Tryz.ntmps58 rfl λ cx hnt hn0=>?_
 skip
 refine Zz ?_;refine Zx [] Zl hnt λ _ z9=>z9 _ _ ?_;refine Zz ?_;refine Zz ?_;refine Zx [] Zl hnt λ K hK=>?_;refine Zk (hr) ?_;refine hK _ _ ?_;clear hK K;refine Zy (t:=false) rfl ?_;rw[if_neg (by simp)];refine Zw ?_;refine Zz ?_;refine Zz ?_;refine Zx [] Zl hnt λ K hK=>?_;refine Zk (hi) ?_;refine hK _ _ ?_;clear hK K
 refine Zy (t:=false) rfl ?_;rw[if_neg (by simp)];refine Zw ?_;refine Zz ?_;refine Zx [] Zl hnt λ _ z9=>z9 _ _ ?_;refine Zv ?_
 exact Zi rfl
set_option maxRecDepth 100000 in
set_option maxHeartbeats 8000000 in
theorem KM (b:Int)(C Mw:List Ty)(eqs:List Li.Pr)(t:Tm)(x:Au.St)(code:List Ty->Tm->Ty->Int)(hc:∀ X t u,Yp C Mw t X u (code X t u))(hCl:C.length<=1000000)(hMl:Mw.length<=1000000) 
  (hel:eqs.length<=1000) (hes:∀ q∈eqs,Au.EqOk q) (hx:Au.SOk x) (ht:Au.TOk t) :
  Zh Tryz.prog 28 [.ag [.v (.int .i64 b),.sl 2 (eTys C) none,.sl 2 (eTys Mw) none],.sl 9 (Yt eqs) none,.ag (eTm t),.ag (Nl x)] (.tu [.ag (eTm (Au.step code eqs x (t,0)).1),.v (.int .i64 (Au.step code eqs x (t,0)).2)]):=by
 rw[Au.step_dst]
 obtain⟨hx1,hx2,hx3⟩:=hx
 obtain⟨ht1,ht2,ht3⟩:=ht
 have hsw:∀ q∈x.s,Bnd 150 q.2/\Yv q.2/\q.2.full<=1000000000:=λ q hq=>⟨Bnd.of_full q.2 (hx2 q hq).1 (hx2 q hq).2,Wd _ (by have:=(hx2 q hq).1;omega),by have:=(hx2 q hq).1;omega⟩
 have htw:Yv t:=Bnd.wide t ht2 (by omega) (by decide)
 have hAt:=MC x.path t (by omega) (by omega)
 obtain⟨⟨o,e⟩,hO⟩:∃ r,Au.dst code eqs x t=r:=⟨_,rfl⟩
 rw[hO]
 unfold Au.dst at hO
 dsimp only
 have ez:eTm Tm.zero=[.sl 2 [] none,.v (.int .i64 0),.v (.int .i64 0),.sl 4 [] none]:=rfl
 by_cases h1:0<=x.eq/\x.eq<(eqs.length:Int)
 ·rw[if_neg (show ¬ ¬ (0<=x.eq/\x.eq<(eqs.length:Int)) from λ h=>h h1)] at hO
  cases hat:Pn.atP x.path t with
  | none=>
   rw[hat] at hO hAt
   dsimp only at hO
   unfold Hu at hAt
   obtain⟨rfl,rfl⟩:=Prod.mk.inj hO
   rw[ez]
   rw[Zu] at hAt
   dsimp only at hAt
   rw[ez] at hAt
   unfold Nl
   rw[Zu]
   refine Zn 0 180 [ResultVar.cell 8 31,ResultVar.tmp 9] Zl Tryz.func28 rfl Tryz.ntmps28 rfl λ cx hnt hn0=>?_
   skip
   refine Zz ?_;refine Zx [] Zl hnt λ _ z9=>z9 _ _ ?_;refine Zz ?_;refine Zx [] Zl hnt λ _ z9=>z9 _ _ ?_;refine Zz ?_;refine Zz ?_;refine Zx [(29,.v (.bool false)),(34,.v (.int .i64 (↑eqs.length))),(35,.v (.bool false))] Zl hnt λ K hK=>?_;refine And.intro (Ze (by omega)) ?_;refine And.intro (Zr (by rw[Z4])) ?_
   refine And.intro (Ze (by omega)) ?_;refine hK _ _ ?_;clear hK K;refine Zy (t:=false) rfl ?_;rw[if_neg (by simp)];refine Zw ?_;refine Zz ?_;refine Zx [] Zl hnt λ K hK=>?_;refine Zk (hAt) ?_;refine hK _ _ ?_;clear hK K;refine Zz ?_;refine Zz ?_;refine Zx [] Zl hnt λ _ z9=>z9 _ _ ?_;refine Zy (t:=true) rfl ?_
   rw[if_pos rfl];refine Zz ?_;refine Zx [(48,.ag [.sl 2 [] none,.v (.int .i64 0),.v (.int .i64 0),.sl 4 [] none])] Zl hnt λ K hK=>?_;refine And.intro (XP) ?_;refine hK _ _ ?_;clear hK K;refine Zv ?_
   exact Zi rfl
  | some r=>
   obtain⟨th,ar⟩:=r
   rw[hat] at hO hAt
   dsimp only at hO
   unfold Hu at hAt
   dsimp only at hAt
   have hsz:=WB x.path t _ hat
   dsimp only at hsz
   have hne:x.eq.toNat<eqs.length:=by omega
   obtain⟨q,hq⟩:∃ q,eqs[x.eq.toNat]=q:=⟨_,rfl⟩
   have hqa:Au.eqAt eqs x=q:=by unfold Au.eqAt;rw[List.getD_eq_getElem?_getD,List.getElem?_eq_getElem hne,hq];rfl
   have hqo:Au.EqOk q:=hes q (hq ▸ List.getElem_mem hne)
   obtain⟨ql,qr,qm⟩:=hqo
   have hgd:=XC eqs x.eq.toNat hne
   rw[hq] at hgd
   rw[hqa] at hO
   obtain⟨M,hM⟩:∃ M,Wr (Y9 [q.l,q.r])=M:=⟨_,rfl⟩
   have hMe:=MO [q.l,q.r] (by simp) (λ u hu=>by
    rcases List.mem_cons.1 hu with rfl | hu
    ·have:=ql.1;omega
    ·rw[List.mem_singleton] at hu;subst hu;have:=qr.1;omega) (λ u hu=>by
    rcases List.mem_cons.1 hu with rfl | hu
    ·exact Bnd.fit _ ql.2
    rw[List.mem_singleton] at hu;subst hu;exact Bnd.fit _ qr.2)
   rw[hM] at hMe
   have e2:eTms [q.l,q.r]=[[.sl 2 (eTys q.l.binds) none,.v (.int .i64 q.l.kind),.v (.int .i64 q.l.index),.sl 4 (eTms q.l.args) none],[.sl 2 (eTys q.r.binds) none,.v (.int .i64 q.r.kind),.v (.int .i64 q.r.index),.sl 4 (eTms q.r.args) none]]:=by show [eTm q.l,eTm q.r]=_;rw[Zu,Zu]
   rw[Zu t,Zu th] at hAt
   unfold Nl
   rw[Zu t]
   by_cases hlen:x.s.length=M.length
   ·skip
    refine Zn 0 180 [ResultVar.cell 8 31,ResultVar.tmp 9] Zl Tryz.func28 rfl Tryz.ntmps28 rfl λ cx hnt hn0=>?_
    skip
    refine Zz ?_;refine Zx [] Zl hnt λ _ z9=>z9 _ _ ?_;refine Zz ?_;refine Zx [] Zl hnt λ _ z9=>z9 _ _ ?_;refine Zz ?_;refine Zz ?_;refine Zx [(29,.v (.bool false)),(34,.v (.int .i64 (↑eqs.length))),(35,.v (.bool false))] Zl hnt λ K hK=>?_;refine And.intro (Ze (by omega)) ?_;refine And.intro (Zr (by rw[Z4])) ?_
    refine And.intro (Ze (by omega)) ?_;refine hK _ _ ?_;clear hK K;refine Zy (t:=false) rfl ?_;rw[if_neg (by simp)];refine Zw ?_;refine Zz ?_;refine Zx [] Zl hnt λ K hK=>?_;refine Zk (hAt) ?_;refine hK _ _ ?_;clear hK K;refine Zz ?_;refine Zz ?_;refine Zx [] Zl hnt λ _ z9=>z9 _ _ ?_;refine Zy (t:=false) rfl ?_
    rw[if_neg (by simp)];refine Zw ?_;refine Zz ?_;refine Zx [(52,.q [.sl 2 (eTys q.l.binds) none,.v (.int .i64 q.l.kind),.v (.int .i64 q.l.index),.sl 4 (eTms q.l.args) none,.sl 2 (eTys q.r.binds) none,.v (.int .i64 q.r.kind),.v (.int .i64 q.r.index),.sl 4 (eTms q.r.args) none,.sl 2 (eTys q.m) none])] Zl hnt λ K hK=>?_;refine And.intro (⟨by omega,by rw[Z4];omega⟩) ?_
    refine And.intro (Zm.of_eq (by rw[hgd,Ys])) ?_;refine hK _ _ ?_;clear hK K;refine Zz ?_;refine Zx [(58,.sl 4 (eTms [q.l,q.r]) none)] Zl hnt λ K hK=>?_;refine And.intro ((by rw[e2];exact Zm.untag _ _ _)) ?_;refine Zk (hMe) ?_;refine hK _ _ ?_;clear hK K;refine Zz ?_;refine Zz ?_;refine Zx [(62,.v (.int .i64 (↑x.s.length))),(64,.v (.int .i64 (↑M.length))),(65,.v (.bool false))] Zl hnt λ K hK=>?_
    refine And.intro (Zr (by rw[Zf])) ?_;refine And.intro (Zr (by rw[Zb])) ?_;refine And.intro (Yq (by omega)) ?_;refine hK _ _ ?_;clear hK K;refine Zy (t:=false) rfl ?_;rw[if_neg (by simp)];refine Zw ?_;refine Zz ?_;refine Zz ?_;refine Zx [] Zl hnt λ _ z9=>z9 _ _ ?_;refine Zt ?_
    refine Z6 (ι:={ j:Nat // j<=M.length/\∀ i (h:i<x.s.length) (h':i<M.length),i<j->x.s[i].1=M[i]/\0<=M[i]/\M[i]<(q.m.length:Int) }) (λ j=>[(.t 16,.v (.int .i64 ↑j.1)),(.t 4,.p 0 0),(.t 6,.p 1 0),(.t 7,.p 2 0),(.t 8,.p 3 0),(.t 10,.p 5 0),(.t 11,.p 24 0),(.t 12,.sl 2 (eTys ar) none),(.t 14,.p 35 0),(.t 15,.sl 1 (YJ M) none),(.c 0 0,.v (.int .i64 b)),(.c 0 1,.sl 2 (eTys C) none),(.c 0 2,.sl 2 (eTys Mw) none),(.c 1 0,.sl 2 (eTys t.binds) none),(.c 1 1,.v (.int .i64 t.kind)),(.c 1 2,.v (.int .i64 t.index)),(.c 1 3,.sl 4 (eTms t.args) none),(.c 2 0,.v (.int .i64 x.eq)),(.c 2 1,.v (.bool x.back)),(.c 2 2,.sl 1 (YJ x.path) none),(.c 2 3,.sl 5 (Z5 x.s) none),(.c 3 0,.v (.slice none 0 0)),(.c 3 1,.v (.int .i64 0)),(.c 3 2,.v (.int .i64 0)),(.c 3 3,.v (.slice none 0 0)),(.c 5 0,.v (.slice none 0 0)),(.c 5 1,.v (.int .i64 0)),(.c 5 2,.v (.int .i64 0)),(.c 5 3,.v (.slice none 0 0)),(.c 24 0,.sl 2 (eTys th.binds) none),(.c 24 1,.v (.int .i64 th.kind)),(.c 24 2,.v (.int .i64 th.index)),(.c 24 3,.sl 4 (eTms th.args) none),(.c 35 0,.sl 2 (eTys q.l.binds) none),(.c 35 1,.v (.int .i64 q.l.kind)),(.c 35 2,.v (.int .i64 q.l.index)),(.c 35 3,.sl 4 (eTms q.l.args) none),(.c 35 4,.sl 2 (eTys q.r.binds) none),(.c 35 5,.v (.int .i64 q.r.kind)),(.c 35 6,.v (.int .i64 q.r.index)),(.c 35 7,.sl 4 (eTms q.r.args) none),(.c 35 8,.sl 2 (eTys q.m) none)]) 60 (λ j=>M.length-j.1) (⟨0,Nat.zero_le _,λ i _ _ h=>absurd h (by omega)⟩) (VS.toA) λ j=>?_
    obtain⟨j,hj,hjs⟩:=j
    dsimp only
    by_cases hlt:j<M.length
    ·have hls:j<x.s.length:=by omega
     have hg1:=Xu M j hlt
     have hg2:=ZP x.s j hls
     obtain⟨z,hz⟩:∃ z,M[j]=z:=⟨_,rfl⟩
     obtain⟨y,hy⟩:∃ y,x.s[j]=y:=⟨_,rfl⟩
     rw[hz] at hg1
     rw[hy,ZG] at hg2
     have hm2:y∈x.s:=hy ▸ List.getElem_mem hls
     by_cases hA:y.1=z
     ·by_cases hB:z<0
      ·have hno:¬ Au.sOk q x.s:=λ h=>by have:=(h.2 y hm2).1;omega
       rw[if_pos hno] at hO
       obtain⟨rfl,rfl⟩:=Prod.mk.inj hO
       rw[ez]
       refine Zz ?_;refine Zz ?_;refine Zx [(69,.v (.int .i64 (↑M.length))),(70,.v (.bool true))] Zl hnt λ K hK=>?_;refine And.intro (Zr (by rw[Zb])) ?_;refine And.intro (Z7 (by omega)) ?_;refine hK _ _ ?_;clear hK K;refine Zy (t:=true) rfl ?_;rw[if_pos rfl];refine Zw ?_;refine Zz ?_;refine Zt ?_;refine Zz ?_;refine ZQ [(76,.q [.v (.int .i64 y.1),.sl 2 (eTys y.2.binds) none,.v (.int .i64 y.2.kind),.v (.int .i64 y.2.index),.sl 4 (eTms y.2.args) none]),(81,.q [.v (.int .i64 z)]),(83,.v (.bool false)),(87,.q [.v (.int .i64 z)]),(89,.v (.bool true))] Zl hnt λ K hK=>?_
       refine And.intro (⟨by omega,by rw[Zf];omega⟩) ?_;refine And.intro (Zm.of_eq (by rw[Int.toNat_natCast,hg2])) ?_;refine And.intro (⟨by omega,by rw[Zb];omega⟩) ?_;refine And.intro (Zm.of_eq (by rw[Int.toNat_natCast,hg1])) ?_;refine And.intro (Yq hA) ?_;refine And.intro (⟨by omega,by rw[Zb];omega⟩) ?_;refine And.intro (Zm.of_eq (by rw[Int.toNat_natCast,hg1])) ?_
       refine And.intro (Z7 hB) ?_;refine hK _ _ (by kernel_rfl) ?_;clear hK K;refine Zy (t:=true) rfl ?_;rw[if_pos rfl];refine Zz ?_;refine Zx [(101,.ag [.sl 2 [] none,.v (.int .i64 0),.v (.int .i64 0),.sl 4 [] none])] Zl hnt λ K hK=>?_;refine And.intro (XP) ?_;refine hK _ _ ?_;clear hK K;refine Zv ?_
       exact Zi rfl
      by_cases hC:z<(q.m.length:Int)
      ·skip
       refine Zz ?_;refine Zz ?_;refine Zx [(69,.v (.int .i64 (↑M.length))),(70,.v (.bool true))] Zl hnt λ K hK=>?_;refine And.intro (Zr (by rw[Zb])) ?_;refine And.intro (Z7 (by omega)) ?_;refine hK _ _ ?_;clear hK K;refine Zy (t:=true) rfl ?_;rw[if_pos rfl];refine Zw ?_;refine Zz ?_;refine Zt ?_;refine Zz ?_;refine ZQ [(76,.q [.v (.int .i64 y.1),.sl 2 (eTys y.2.binds) none,.v (.int .i64 y.2.kind),.v (.int .i64 y.2.index),.sl 4 (eTms y.2.args) none]),(81,.q [.v (.int .i64 z)]),(83,.v (.bool false)),(87,.q [.v (.int .i64 z)]),(89,.v (.bool false)),(94,.q [.v (.int .i64 z)]),(98,.v (.int .i64 (↑q.m.length))),(99,.v (.bool false))] Zl hnt λ K hK=>?_
       refine And.intro (⟨by omega,by rw[Zf];omega⟩) ?_;refine And.intro (Zm.of_eq (by rw[Int.toNat_natCast,hg2])) ?_;refine And.intro (⟨by omega,by rw[Zb];omega⟩) ?_;refine And.intro (Zm.of_eq (by rw[Int.toNat_natCast,hg1])) ?_;refine And.intro (Yq hA) ?_;refine And.intro (⟨by omega,by rw[Zb];omega⟩) ?_;refine And.intro (Zm.of_eq (by rw[Int.toNat_natCast,hg1])) ?_
       refine And.intro (Ze hB) ?_;refine And.intro (⟨by omega,by rw[Zb];omega⟩) ?_;refine And.intro (Zm.of_eq (by rw[Int.toNat_natCast,hg1])) ?_;refine And.intro (Zr (by rw[Zs])) ?_;refine And.intro (Ze (by omega)) ?_;refine hK _ _ (by kernel_rfl) ?_;clear hK K;refine Zy (t:=false) rfl ?_;rw[if_neg (by simp)];refine Zw ?_;refine Zx [(72,.v (.int .i64 (↑(j+1))))] Zl hnt λ K hK=>?_
       refine And.intro Ww ?_;refine hK _ _ ?_;clear hK K
       refine⟨⟨j+1,hlt,λ i h h' h3=>if hij:i=j then by subst hij;rw[hz,hy];exact⟨hA,by omega,hC⟩ else hjs i h h' (by omega)⟩,by first | omega | (dsimp only;omega),VS.toA⟩
      have hno:¬ Au.sOk q x.s:=λ h=>by have:=(h.2 y hm2).2;omega
      rw[if_pos hno] at hO
      obtain⟨rfl,rfl⟩:=Prod.mk.inj hO
      rw[ez]
      refine Zz ?_;refine Zz ?_;refine Zx [(69,.v (.int .i64 (↑M.length))),(70,.v (.bool true))] Zl hnt λ K hK=>?_;refine And.intro (Zr (by rw[Zb])) ?_;refine And.intro (Z7 (by omega)) ?_;refine hK _ _ ?_;clear hK K;refine Zy (t:=true) rfl ?_;rw[if_pos rfl];refine Zw ?_;refine Zz ?_;refine Zt ?_;refine Zz ?_;refine ZQ [(76,.q [.v (.int .i64 y.1),.sl 2 (eTys y.2.binds) none,.v (.int .i64 y.2.kind),.v (.int .i64 y.2.index),.sl 4 (eTms y.2.args) none]),(81,.q [.v (.int .i64 z)]),(83,.v (.bool false)),(87,.q [.v (.int .i64 z)]),(89,.v (.bool false)),(94,.q [.v (.int .i64 z)]),(98,.v (.int .i64 (↑q.m.length))),(99,.v (.bool true))] Zl hnt λ K hK=>?_
      refine And.intro (⟨by omega,by rw[Zf];omega⟩) ?_;refine And.intro (Zm.of_eq (by rw[Int.toNat_natCast,hg2])) ?_;refine And.intro (⟨by omega,by rw[Zb];omega⟩) ?_;refine And.intro (Zm.of_eq (by rw[Int.toNat_natCast,hg1])) ?_;refine And.intro (Yq hA) ?_;refine And.intro (⟨by omega,by rw[Zb];omega⟩) ?_;refine And.intro (Zm.of_eq (by rw[Int.toNat_natCast,hg1])) ?_
      refine And.intro (Ze hB) ?_;refine And.intro (⟨by omega,by rw[Zb];omega⟩) ?_;refine And.intro (Zm.of_eq (by rw[Int.toNat_natCast,hg1])) ?_;refine And.intro (Zr (by rw[Zs])) ?_;refine And.intro (Z7 (by omega)) ?_;refine hK _ _ (by kernel_rfl) ?_;clear hK K;refine Zy (t:=true) rfl ?_;rw[if_pos rfl];refine Zz ?_;refine Zx [(101,.ag [.sl 2 [] none,.v (.int .i64 0),.v (.int .i64 0),.sl 4 [] none])] Zl hnt λ K hK=>?_
      refine And.intro (XP) ?_;refine hK _ _ ?_;clear hK K;refine Zv ?_
      exact Zi rfl
     have hno:¬ Au.sOk q x.s:=λ h=>by
      have h1:=h.1
      rw[hM] at h1
      have h2:(x.s.map (·.1))[j]?=M[j]?:=by rw[h1]
      rw[List.getElem?_map,List.getElem?_eq_getElem hls,List.getElem?_eq_getElem hlt,hz,hy] at h2
      exact hA (Option.some.inj h2)
     rw[if_pos hno] at hO
     obtain⟨rfl,rfl⟩:=Prod.mk.inj hO
     rw[ez]
     refine Zz ?_;refine Zz ?_;refine Zx [(69,.v (.int .i64 (↑M.length))),(70,.v (.bool true))] Zl hnt λ K hK=>?_;refine And.intro (Zr (by rw[Zb])) ?_;refine And.intro (Z7 (by omega)) ?_;refine hK _ _ ?_;clear hK K;refine Zy (t:=true) rfl ?_;rw[if_pos rfl];refine Zw ?_;refine Zz ?_;refine Zt ?_;refine Zz ?_;refine ZQ [(76,.q [.v (.int .i64 y.1),.sl 2 (eTys y.2.binds) none,.v (.int .i64 y.2.kind),.v (.int .i64 y.2.index),.sl 4 (eTms y.2.args) none]),(81,.q [.v (.int .i64 z)]),(83,.v (.bool true))] Zl hnt λ K hK=>?_
     refine And.intro (⟨by omega,by rw[Zf];omega⟩) ?_;refine And.intro (Zm.of_eq (by rw[Int.toNat_natCast,hg2])) ?_;refine And.intro (⟨by omega,by rw[Zb];omega⟩) ?_;refine And.intro (Zm.of_eq (by rw[Int.toNat_natCast,hg1])) ?_;refine And.intro (YO hA) ?_;refine hK _ _ (by kernel_rfl) ?_;clear hK K;refine Zy (t:=true) rfl ?_;rw[if_pos rfl];refine Zz ?_;refine Zx [(101,.ag [.sl 2 [] none,.v (.int .i64 0),.v (.int .i64 0),.sl 4 [] none])] Zl hnt λ K hK=>?_
     refine And.intro (XP) ?_;refine hK _ _ ?_;clear hK K;refine Zv ?_
     exact Zi rfl
    have hja:j=M.length:=by omega
    subst hja
    have hok:Au.sOk q x.s:=by
     refine⟨?_,λ y hy=>?_⟩
     ·rw[hM]
      refine List.ext_getElem (by rw[List.length_map];exact hlen) λ i h1 h2=>?_
      rw[List.length_map] at h1
      rw[List.getElem_map];exact(hjs i h1 h2 h2).1
     obtain⟨i,hi,rfl⟩:=List.getElem_of_mem hy
     have:=hjs i hi (by omega) (by omega)
     rw[this.1];exact this.2
    rw[if_neg (show ¬ ¬ Au.sOk q x.s from λ h=>h hok)] at hO;refine Zz ?_;refine Zz ?_;refine Zx [(69,.v (.int .i64 (↑M.length))),(70,.v (.bool false))] Zl hnt λ K hK=>?_;refine And.intro (Zr (by rw[Zb])) ?_;refine And.intro (Ze (by omega)) ?_;refine hK _ _ ?_;clear hK K;refine Zy (t:=false) rfl ?_;rw[if_neg (by simp)];refine Zg ?_;refine Zz ?_
    refine Zz ?_;refine Zx [] Zl hnt λ _ z9=>z9 _ _ ?_;refine Zt ?_
    refine Z6 (ι:={ j:Nat // j<=M.length/\∀ i (h:i<x.s.length),i<j->code ar x.s[i].2 (q.m.getD x.s[i].1.toNat (.mk [] 0))=0 }) (λ j=>[(.t 17,.v (.int .i64 ↑j.1)),(.t 4,.p 0 0),(.t 6,.p 1 0),(.t 7,.p 2 0),(.t 8,.p 3 0),(.t 10,.p 5 0),(.t 11,.p 24 0),(.t 12,.sl 2 (eTys ar) none),(.t 14,.p 35 0),(.t 15,.sl 1 (YJ M) none),(.c 0 0,.v (.int .i64 b)),(.c 0 1,.sl 2 (eTys C) none),(.c 0 2,.sl 2 (eTys Mw) none),(.c 1 0,.sl 2 (eTys t.binds) none),(.c 1 1,.v (.int .i64 t.kind)),(.c 1 2,.v (.int .i64 t.index)),(.c 1 3,.sl 4 (eTms t.args) none),(.c 2 0,.v (.int .i64 x.eq)),(.c 2 1,.v (.bool x.back)),(.c 2 2,.sl 1 (YJ x.path) none),(.c 2 3,.sl 5 (Z5 x.s) none),(.c 3 0,.v (.slice none 0 0)),(.c 3 1,.v (.int .i64 0)),(.c 3 2,.v (.int .i64 0)),(.c 3 3,.v (.slice none 0 0)),(.c 5 0,.v (.slice none 0 0)),(.c 5 1,.v (.int .i64 0)),(.c 5 2,.v (.int .i64 0)),(.c 5 3,.v (.slice none 0 0)),(.c 24 0,.sl 2 (eTys th.binds) none),(.c 24 1,.v (.int .i64 th.kind)),(.c 24 2,.v (.int .i64 th.index)),(.c 24 3,.sl 4 (eTms th.args) none),(.c 35 0,.sl 2 (eTys q.l.binds) none),(.c 35 1,.v (.int .i64 q.l.kind)),(.c 35 2,.v (.int .i64 q.l.index)),(.c 35 3,.sl 4 (eTms q.l.args) none),(.c 35 4,.sl 2 (eTys q.r.binds) none),(.c 35 5,.v (.int .i64 q.r.kind)),(.c 35 6,.v (.int .i64 q.r.index)),(.c 35 7,.sl 4 (eTms q.r.args) none),(.c 35 8,.sl 2 (eTys q.m) none)]) 60 (λ j=>M.length-j.1) (⟨0,Nat.zero_le _,λ i _ h=>absurd h (by omega)⟩) (VS.toA) λ j=>?_
    obtain⟨j,hj,hjt⟩:=j
    dsimp only
    by_cases hlt:j<M.length
    ·have hls:j<x.s.length:=by omega
     have hg1:=Xu M j hlt
     have hg2:=ZP x.s j hls
     obtain⟨hA,hB,hC⟩:=hjs j hls hlt hlt
     obtain⟨z,hz⟩:∃ z,M[j]=z:=⟨_,rfl⟩
     obtain⟨y,hy⟩:∃ y,x.s[j]=y:=⟨_,rfl⟩
     rw[hz] at hg1 hA hB hC
     rw[hy] at hA
     rw[hy,ZG] at hg2
     have hm2:y∈x.s:=hy ▸ List.getElem_mem hls
     have hzl:z.toNat<q.m.length:=by omega
     obtain⟨u,hu⟩:∃ u,q.m[z.toNat]=u:=⟨_,rfl⟩
     have hg3:=ZV q.m z.toNat hzl
     rw[hu,Zc] at hg3
     have hck:=NL b C Mw ar y.2 u (code ar y.2 u) hCl hMl (hc _ _ _) (by have:=(hx2 y hm2).1;omega)
     have hgu:q.m.getD y.1.toNat (.mk [] 0)=u:=by rw[hA,List.getD_eq_getElem?_getD,List.getElem?_eq_getElem hzl,hu];rfl
     rw[Zu,Zc] at hck
     by_cases h0:code ar y.2 u=0
     ·skip
      refine Zz ?_;refine Zz ?_;refine Zx [(104,.v (.int .i64 (↑M.length))),(105,.v (.bool true))] Zl hnt λ K hK=>?_;refine And.intro (Zr (by rw[Zb])) ?_;refine And.intro (Z7 (by omega)) ?_;refine hK _ _ ?_;clear hK K;refine Zy (t:=true) rfl ?_;rw[if_pos rfl];refine Zw ?_;refine Zz ?_;refine Zt ?_;refine Zz ?_;refine ZQ [(113,.q [.v (.int .i64 y.1),.sl 2 (eTys y.2.binds) none,.v (.int .i64 y.2.kind),.v (.int .i64 y.2.index),.sl 4 (eTms y.2.args) none]),(120,.q [.v (.int .i64 z)]),(122,.q [.sl 2 (eTys u.args) none,.v (.int .i64 u.base)]),(125,.v (.bool false))] Zl hnt λ K hK=>?_
      refine And.intro (⟨by omega,by rw[Zf];omega⟩) ?_;refine And.intro (Zm.of_eq (by rw[Int.toNat_natCast,hg2])) ?_;refine And.intro (⟨by omega,by rw[Zb];omega⟩) ?_;refine And.intro (Zm.of_eq (by rw[Int.toNat_natCast,hg1])) ?_;refine And.intro (⟨by omega,by rw[Zs];omega⟩) ?_;refine And.intro (Zm.of_eq (by rw[hg3])) ?_;refine Zk (hck) ?_;refine And.intro (Yq h0) ?_
      refine hK _ _ (by kernel_rfl) ?_;clear hK K;refine Zy (t:=false) rfl ?_;rw[if_neg (by simp)];refine Zw ?_;refine Zx [(107,.v (.int .i64 (↑(j+1))))] Zl hnt λ K hK=>?_;refine And.intro Ww ?_;refine hK _ _ ?_;clear hK K
      refine⟨⟨j+1,hlt,λ i h h3=>if hij:i=j then by subst hij;rw[hy,hgu];exact h0 else hjt i h (by omega)⟩,by first | omega | (dsimp only;omega),VS.toA⟩
     have hno:¬ Au.sTy code q x.s ar:=λ h=>by have:=h y hm2;rw[hgu] at this;exact h0 this
     rw[if_pos hno] at hO
     obtain⟨rfl,rfl⟩:=Prod.mk.inj hO
     rw[ez]
     refine Zz ?_;refine Zz ?_;refine Zx [(104,.v (.int .i64 (↑M.length))),(105,.v (.bool true))] Zl hnt λ K hK=>?_;refine And.intro (Zr (by rw[Zb])) ?_;refine And.intro (Z7 (by omega)) ?_;refine hK _ _ ?_;clear hK K;refine Zy (t:=true) rfl ?_;rw[if_pos rfl];refine Zw ?_;refine Zz ?_;refine Zt ?_;refine Zz ?_;refine ZQ [(113,.q [.v (.int .i64 y.1),.sl 2 (eTys y.2.binds) none,.v (.int .i64 y.2.kind),.v (.int .i64 y.2.index),.sl 4 (eTms y.2.args) none]),(120,.q [.v (.int .i64 z)]),(122,.q [.sl 2 (eTys u.args) none,.v (.int .i64 u.base)]),(125,.v (.bool true))] Zl hnt λ K hK=>?_
     refine And.intro (⟨by omega,by rw[Zf];omega⟩) ?_;refine And.intro (Zm.of_eq (by rw[Int.toNat_natCast,hg2])) ?_;refine And.intro (⟨by omega,by rw[Zb];omega⟩) ?_;refine And.intro (Zm.of_eq (by rw[Int.toNat_natCast,hg1])) ?_;refine And.intro (⟨by omega,by rw[Zs];omega⟩) ?_;refine And.intro (Zm.of_eq (by rw[hg3])) ?_;refine Zk (hck) ?_;refine And.intro (YO h0) ?_
     refine hK _ _ (by kernel_rfl) ?_;clear hK K;refine Zy (t:=true) rfl ?_;rw[if_pos rfl];refine Zz ?_;refine Zx [(126,.ag [.sl 2 [] none,.v (.int .i64 0),.v (.int .i64 0),.sl 4 [] none])] Zl hnt λ K hK=>?_;refine And.intro (XP) ?_;refine hK _ _ ?_;clear hK K;refine Zv ?_
     exact Zi rfl
    have hja:j=M.length:=by omega
    subst hja
    have hty:Au.sTy code q x.s ar:=λ y hy=>by
     obtain⟨i,hi,rfl⟩:=List.getElem_of_mem hy
     exact hjt i hi (by omega)
    rw[if_neg (show ¬ ¬ Au.sTy code q x.s ar from λ h=>h hty)] at hO;refine Zz ?_;refine Zz ?_;refine Zx [(104,.v (.int .i64 (↑M.length))),(105,.v (.bool false))] Zl hnt λ K hK=>?_;refine And.intro (Zr (by rw[Zb])) ?_;refine And.intro (Ze (by omega)) ?_;refine hK _ _ ?_;clear hK K;refine Zy (t:=false) rfl ?_;rw[if_neg (by simp)];refine Zg ?_
    refine Zz ?_;refine ZQ [] Zl hnt λ K hK=>?_;refine hK _ _ (by kernel_rfl) ?_;clear hK K
    obtain⟨f,hf⟩:∃ f,(if x.back=true then q.r else q.l)=f:=⟨_,rfl⟩
    obtain⟨g,hg⟩:∃ g,(if x.back=true then q.l else q.r)=g:=⟨_,rfl⟩
    rw[hf,hg] at hO
    have hfo:f.full<=150/\Bnd 150 f:=by rw[<-hf];split <;> assumption
    have hgo:g.full<=150/\Bnd 150 g:=by rw[<-hg];split <;> assumption
    refine Wi (τ:=[(.t 4,.p 0 0),(.t 6,.p 1 0),(.t 7,.p 2 0),(.t 8,.p 3 0),(.t 10,.p 5 0),(.t 11,.p 24 0),(.t 18,.p 68 0),(.t 19,.p 69 0),(.c 1 0,.sl 2 (eTys t.binds) none),(.c 1 1,.v (.int .i64 t.kind)),(.c 1 2,.v (.int .i64 t.index)),(.c 1 3,.sl 4 (eTms t.args) none),(.c 2 0,.v (.int .i64 x.eq)),(.c 2 1,.v (.bool x.back)),(.c 2 2,.sl 1 (YJ x.path) none),(.c 2 3,.sl 5 (Z5 x.s) none),(.c 3 0,.v (.slice none 0 0)),(.c 3 1,.v (.int .i64 0)),(.c 3 2,.v (.int .i64 0)),(.c 3 3,.v (.slice none 0 0)),(.c 5 0,.v (.slice none 0 0)),(.c 5 1,.v (.int .i64 0)),(.c 5 2,.v (.int .i64 0)),(.c 5 3,.v (.slice none 0 0)),(.c 24 0,.sl 2 (eTys th.binds) none),(.c 24 1,.v (.int .i64 th.kind)),(.c 24 2,.v (.int .i64 th.index)),(.c 24 3,.sl 4 (eTms th.args) none),(.c 68 0,.sl 2 (eTys f.binds) none),(.c 68 1,.v (.int .i64 f.kind)),(.c 68 2,.v (.int .i64 f.index)),(.c 68 3,.sl 4 (eTms f.args) none),(.c 69 0,.sl 2 (eTys g.binds) none),(.c 69 1,.v (.int .i64 g.kind)),(.c 69 2,.v (.int .i64 g.index)),(.c 69 3,.sl 4 (eTms g.args) none)]) (N1:=70) ?_ ?_
    ·cases hb:x.back with
     | true=>
      rw[hb,if_pos rfl] at hf hg
      subst hf hg
      refine Zz ?_;refine Zx [] Zl hnt λ _ z9=>z9 _ _ ?_;refine Zy (t:=true) rfl ?_;rw[if_pos rfl];refine Zx [] Zl hnt λ _ z9=>z9 _ _ ?_
      exact Y4 VS.toA
     | false=>
      rw[hb,if_neg (by decide)] at hf hg
      subst hf hg
      refine Zz ?_;refine Zx [] Zl hnt λ _ z9=>z9 _ _ ?_;refine Zy (t:=false) rfl ?_;rw[if_neg (by simp)];refine Zw ?_
      exact Y4 VS.toA
    ·have hAa:=Rb (B:=150) (by decide) x.s (by omega) hsw f hfo.2 (Wd _ (by have:=hfo.1;omega)) 100000 ⟨by decide,by decide⟩
     have hAb:=Rb (B:=150) (by decide) x.s (by omega) hsw g hgo.2 (Wd _ (by have:=hgo.1;omega)) 100000 ⟨by decide,by decide⟩
     have hsb:∀ q∈x.s,Bnd 150 q.2:=λ q hq=>(hsw q hq).1
     have hBb:=Au.img_bnd (s:=x.s) (t:=g) (e:=0) hsb hgo.2
     rw[Au.img_z] at hBb
     obtain⟨⟨a,sa⟩,ha⟩:∃ r,Sb.apply x.s f 100000 false=r:=⟨_,rfl⟩
     obtain⟨⟨c,sc⟩,hcc⟩:∃ r,Sb.apply x.s g 100000 false=r:=⟨_,rfl⟩
     rw[ha] at hAa hO
     rw[hcc] at hAb hO hBb
     dsimp only at hAa hAb hBb
     unfold Au.dfin at hO
     dsimp only at hO
     rw[Zu f,Zu a] at hAa
     rw[Zu g,Zu c] at hAb
     by_cases h2:sa.e≠0
     ·rw[if_pos h2] at hO
      obtain⟨rfl,rfl⟩:=Prod.mk.inj hO
      rw[ez]
      refine Zz ?_;refine Zx [] Zl hnt λ K hK=>?_;refine Zk (hAa) ?_;refine hK _ _ ?_;clear hK K;refine Zz ?_;refine Zz ?_;refine Zx [(144,.v (.bool true))] Zl hnt λ K hK=>?_;refine And.intro (YO h2) ?_;refine hK _ _ ?_;clear hK K;refine Zy (t:=true) rfl ?_;rw[if_pos rfl];refine Zz ?_;refine Zx [(145,.ag [.sl 2 [] none,.v (.int .i64 0),.v (.int .i64 0),.sl 4 [] none])] Zl hnt λ K hK=>?_
      refine And.intro (XP) ?_;refine hK _ _ ?_;clear hK K;refine Zv ?_
      exact Zi rfl
     rw[if_neg h2] at hO
     have h2:sa.e=0:=Classical.byContradiction h2
     by_cases h3:sc.e≠0
     ·rw[if_pos h3] at hO
      obtain⟨rfl,rfl⟩:=Prod.mk.inj hO
      rw[ez]
      refine Zz ?_;refine Zx [] Zl hnt λ K hK=>?_;refine Zk (hAa) ?_;refine hK _ _ ?_;clear hK K;refine Zz ?_;refine Zz ?_;refine Zx [(144,.v (.bool false))] Zl hnt λ K hK=>?_;refine And.intro (Yq h2) ?_;refine hK _ _ ?_;clear hK K;refine Zy (t:=false) rfl ?_;rw[if_neg (by simp)];refine Zw ?_;refine Zz ?_;refine Zx [] Zl hnt λ K hK=>?_
      refine Zk (hAb) ?_;refine hK _ _ ?_;clear hK K;refine Zz ?_;refine Zz ?_;refine Zx [(156,.v (.bool true))] Zl hnt λ K hK=>?_;refine And.intro (YO h3) ?_;refine hK _ _ ?_;clear hK K;refine Zy (t:=true) rfl ?_;rw[if_pos rfl];refine Zz ?_;refine Zx [(157,.ag [.sl 2 [] none,.v (.int .i64 0),.v (.int .i64 0),.sl 4 [] none])] Zl hnt λ K hK=>?_;refine And.intro (XP) ?_
      refine hK _ _ ?_;clear hK K;refine Zv ?_
      exact Zi rfl
     rw[if_neg h3] at hO
     have h3:sc.e=0:=Classical.byContradiction h3
     have hSm:=TJ a (Pn.nb th)
     have enb:eTm (Pn.nb th)=[.sl 2 [] none,.v (.int .i64 th.kind),.v (.int .i64 th.index),.sl 4 (eTms th.args) none]:=by rw[Zu];rfl
     rw[Zu a,enb] at hSm
     by_cases h4:a≠Pn.nb th
     ·rw[if_pos h4] at hO
      obtain⟨rfl,rfl⟩:=Prod.mk.inj hO
      rw[decide_eq_false h4] at hSm
      rw[ez]
      refine Zz ?_;refine Zx [] Zl hnt λ K hK=>?_;refine Zk (hAa) ?_;refine hK _ _ ?_;clear hK K;refine Zz ?_;refine Zz ?_;refine Zx [(144,.v (.bool false))] Zl hnt λ K hK=>?_;refine And.intro (Yq h2) ?_;refine hK _ _ ?_;clear hK K;refine Zy (t:=false) rfl ?_;rw[if_neg (by simp)];refine Zw ?_;refine Zz ?_;refine Zx [] Zl hnt λ K hK=>?_
      refine Zk (hAb) ?_;refine hK _ _ ?_;clear hK K;refine Zz ?_;refine Zz ?_;refine Zx [(156,.v (.bool false))] Zl hnt λ K hK=>?_;refine And.intro (Yq h3) ?_;refine hK _ _ ?_;clear hK K;refine Zy (t:=false) rfl ?_;rw[if_neg (by simp)];refine Zw ?_;refine Zz ?_;refine Zx [] Zl hnt λ _ z9=>z9 _ _ ?_;refine Zz ?_;refine Zz ?_
      refine Zx [(161,.ag [.sl 2 [] none,.v (.int .i64 th.kind),.v (.int .i64 th.index),.sl 4 (eTms th.args) none])] Zl hnt λ K hK=>?_;refine And.intro (XP) ?_;refine Zk (hSm) ?_;refine hK _ _ ?_;clear hK K;refine Zy (t:=true) rfl ?_;rw[if_pos rfl];refine Zz ?_;refine Zx [(164,.ag [.sl 2 [] none,.v (.int .i64 0),.v (.int .i64 0),.sl 4 [] none])] Zl hnt λ K hK=>?_
      refine And.intro (XP) ?_;refine hK _ _ ?_;clear hK K;refine Zv ?_
      exact Zi rfl
     rw[if_neg h4] at hO
     have h4:a=Pn.nb th:=Classical.byContradiction h4
     rw[decide_eq_true h4] at hSm
     by_cases h5:c.binds≠[]
     ·rw[if_pos h5] at hO
      obtain⟨rfl,rfl⟩:=Prod.mk.inj hO
      have h5':0<c.binds.length:=List.length_pos_iff.2 h5
      rw[ez]
      refine Zz ?_;refine Zx [] Zl hnt λ K hK=>?_;refine Zk (hAa) ?_;refine hK _ _ ?_;clear hK K;refine Zz ?_;refine Zz ?_;refine Zx [(144,.v (.bool false))] Zl hnt λ K hK=>?_;refine And.intro (Yq h2) ?_;refine hK _ _ ?_;clear hK K;refine Zy (t:=false) rfl ?_;rw[if_neg (by simp)];refine Zw ?_;refine Zz ?_;refine Zx [] Zl hnt λ K hK=>?_
      refine Zk (hAb) ?_;refine hK _ _ ?_;clear hK K;refine Zz ?_;refine Zz ?_;refine Zx [(156,.v (.bool false))] Zl hnt λ K hK=>?_;refine And.intro (Yq h3) ?_;refine hK _ _ ?_;clear hK K;refine Zy (t:=false) rfl ?_;rw[if_neg (by simp)];refine Zw ?_;refine Zz ?_;refine Zx [] Zl hnt λ _ z9=>z9 _ _ ?_;refine Zz ?_;refine Zz ?_
      refine Zx [(161,.ag [.sl 2 [] none,.v (.int .i64 th.kind),.v (.int .i64 th.index),.sl 4 (eTms th.args) none])] Zl hnt λ K hK=>?_;refine And.intro (XP) ?_;refine Zk (hSm) ?_;refine hK _ _ ?_;clear hK K;refine Zy (t:=false) rfl ?_;rw[if_neg (by simp)];refine Zw ?_;refine Zz ?_;refine Zz ?_;refine Zx [(167,.v (.int .i64 (↑c.binds.length))),(168,.v (.bool true))] Zl hnt λ K hK=>?_
      refine And.intro (Zr (by rw[Zs])) ?_;refine And.intro (Z7 (by omega)) ?_;refine hK _ _ ?_;clear hK K;refine Zy (t:=true) rfl ?_;rw[if_pos rfl];refine Zz ?_;refine Zx [(169,.ag [.sl 2 [] none,.v (.int .i64 0),.v (.int .i64 0),.sl 4 [] none])] Zl hnt λ K hK=>?_;refine And.intro (XP) ?_;refine hK _ _ ?_;clear hK K;refine Zv ?_
      exact Zi rfl
     rw[if_neg h5] at hO
     have h5:c.binds=[]:=Classical.byContradiction h5
     have h5':c.binds.length=0:=by rw[h5];rfl
     obtain⟨w,hw⟩:=SI x.path t c _ hat
     have hRp:=OK x.path t c w hw (by omega) htw
     have hws:=(VZ x.path t c w hw).1
     have hRt:=Ve w (by have:=hBb.2;omega)
     rw[hw] at hO
     dsimp only at hO
     rw[Zu t,Zu c,Zu w] at hRp
     rw[Zu w] at hRt
     cases hrt:Li.rt w with
     | true=>
      rw[hrt] at hRt hO
      rw[if_neg (by decide)] at hO
      obtain⟨rfl,rfl⟩:=Prod.mk.inj hO
      rw[Zu w]
      refine Zz ?_;refine Zx [] Zl hnt λ K hK=>?_;refine Zk (hAa) ?_;refine hK _ _ ?_;clear hK K;refine Zz ?_;refine Zz ?_;refine Zx [(144,.v (.bool false))] Zl hnt λ K hK=>?_;refine And.intro (Yq h2) ?_;refine hK _ _ ?_;clear hK K;refine Zy (t:=false) rfl ?_;rw[if_neg (by simp)];refine Zw ?_;refine Zz ?_;refine Zx [] Zl hnt λ K hK=>?_
      refine Zk (hAb) ?_;refine hK _ _ ?_;clear hK K;refine Zz ?_;refine Zz ?_;refine Zx [(156,.v (.bool false))] Zl hnt λ K hK=>?_;refine And.intro (Yq h3) ?_;refine hK _ _ ?_;clear hK K;refine Zy (t:=false) rfl ?_;rw[if_neg (by simp)];refine Zw ?_;refine Zz ?_;refine Zx [] Zl hnt λ _ z9=>z9 _ _ ?_;refine Zz ?_;refine Zz ?_
      refine Zx [(161,.ag [.sl 2 [] none,.v (.int .i64 th.kind),.v (.int .i64 th.index),.sl 4 (eTms th.args) none])] Zl hnt λ K hK=>?_;refine And.intro (XP) ?_;refine Zk (hSm) ?_;refine hK _ _ ?_;clear hK K;refine Zy (t:=false) rfl ?_;rw[if_neg (by simp)];refine Zw ?_;refine Zz ?_;refine Zz ?_;refine Zx [(167,.v (.int .i64 (↑c.binds.length))),(168,.v (.bool false))] Zl hnt λ K hK=>?_
      refine And.intro (Zr (by rw[Zs])) ?_;refine And.intro (Ze (by omega)) ?_;refine hK _ _ ?_;clear hK K;refine Zy (t:=false) rfl ?_;rw[if_neg (by simp)];refine Zw ?_;refine Zz ?_;refine Zx [] Zl hnt λ K hK=>?_;refine Zk (hRp) ?_;refine hK _ _ ?_;clear hK K;refine Zz ?_;refine Zz ?_;refine Zx [] Zl hnt λ K hK=>?_;refine Zk (hRt) ?_
      refine hK _ _ ?_;clear hK K;refine Zy (t:=false) rfl ?_;rw[if_neg (by simp)];refine Zw ?_;refine Zz ?_;refine Zx [] Zl hnt λ _ z9=>z9 _ _ ?_;refine Zv ?_
      exact Zi rfl
     | false=>
      rw[hrt] at hRt hO
      rw[if_pos rfl] at hO
      obtain⟨rfl,rfl⟩:=Prod.mk.inj hO
      rw[ez]
      refine Zz ?_;refine Zx [] Zl hnt λ K hK=>?_;refine Zk (hAa) ?_;refine hK _ _ ?_;clear hK K;refine Zz ?_;refine Zz ?_;refine Zx [(144,.v (.bool false))] Zl hnt λ K hK=>?_;refine And.intro (Yq h2) ?_;refine hK _ _ ?_;clear hK K;refine Zy (t:=false) rfl ?_;rw[if_neg (by simp)];refine Zw ?_;refine Zz ?_;refine Zx [] Zl hnt λ K hK=>?_
      refine Zk (hAb) ?_;refine hK _ _ ?_;clear hK K;refine Zz ?_;refine Zz ?_;refine Zx [(156,.v (.bool false))] Zl hnt λ K hK=>?_;refine And.intro (Yq h3) ?_;refine hK _ _ ?_;clear hK K;refine Zy (t:=false) rfl ?_;rw[if_neg (by simp)];refine Zw ?_;refine Zz ?_;refine Zx [] Zl hnt λ _ z9=>z9 _ _ ?_;refine Zz ?_;refine Zz ?_
      refine Zx [(161,.ag [.sl 2 [] none,.v (.int .i64 th.kind),.v (.int .i64 th.index),.sl 4 (eTms th.args) none])] Zl hnt λ K hK=>?_;refine And.intro (XP) ?_;refine Zk (hSm) ?_;refine hK _ _ ?_;clear hK K;refine Zy (t:=false) rfl ?_;rw[if_neg (by simp)];refine Zw ?_;refine Zz ?_;refine Zz ?_;refine Zx [(167,.v (.int .i64 (↑c.binds.length))),(168,.v (.bool false))] Zl hnt λ K hK=>?_
      refine And.intro (Zr (by rw[Zs])) ?_;refine And.intro (Ze (by omega)) ?_;refine hK _ _ ?_;clear hK K;refine Zy (t:=false) rfl ?_;rw[if_neg (by simp)];refine Zw ?_;refine Zz ?_;refine Zx [] Zl hnt λ K hK=>?_;refine Zk (hRp) ?_;refine hK _ _ ?_;clear hK K;refine Zz ?_;refine Zz ?_;refine Zx [] Zl hnt λ K hK=>?_;refine Zk (hRt) ?_
      refine hK _ _ ?_;clear hK K;refine Zy (t:=true) rfl ?_;rw[if_pos rfl];refine Zz ?_;refine Zx [(178,.ag [.sl 2 [] none,.v (.int .i64 0),.v (.int .i64 0),.sl 4 [] none])] Zl hnt λ K hK=>?_;refine And.intro (XP) ?_;refine hK _ _ ?_;clear hK K;refine Zv ?_
      exact Zi rfl
   have hno:¬ Au.sOk q x.s:=λ h=>hlen (by have:=congrArg List.length h.1;rw[List.length_map,hM] at this;exact this)
   rw[if_pos hno] at hO
   obtain⟨rfl,rfl⟩:=Prod.mk.inj hO
   rw[ez]
   refine Zn 0 180 [ResultVar.cell 8 31,ResultVar.tmp 9] Zl Tryz.func28 rfl Tryz.ntmps28 rfl λ cx hnt hn0=>?_
   skip
   refine Zz ?_;refine Zx [] Zl hnt λ _ z9=>z9 _ _ ?_;refine Zz ?_;refine Zx [] Zl hnt λ _ z9=>z9 _ _ ?_;refine Zz ?_;refine Zz ?_;refine Zx [(29,.v (.bool false)),(34,.v (.int .i64 (↑eqs.length))),(35,.v (.bool false))] Zl hnt λ K hK=>?_;refine And.intro (Ze (by omega)) ?_;refine And.intro (Zr (by rw[Z4])) ?_
   refine And.intro (Ze (by omega)) ?_;refine hK _ _ ?_;clear hK K;refine Zy (t:=false) rfl ?_;rw[if_neg (by simp)];refine Zw ?_;refine Zz ?_;refine Zx [] Zl hnt λ K hK=>?_;refine Zk (hAt) ?_;refine hK _ _ ?_;clear hK K;refine Zz ?_;refine Zz ?_;refine Zx [] Zl hnt λ _ z9=>z9 _ _ ?_;refine Zy (t:=false) rfl ?_
   rw[if_neg (by simp)];refine Zw ?_;refine Zz ?_;refine Zx [(52,.q [.sl 2 (eTys q.l.binds) none,.v (.int .i64 q.l.kind),.v (.int .i64 q.l.index),.sl 4 (eTms q.l.args) none,.sl 2 (eTys q.r.binds) none,.v (.int .i64 q.r.kind),.v (.int .i64 q.r.index),.sl 4 (eTms q.r.args) none,.sl 2 (eTys q.m) none])] Zl hnt λ K hK=>?_;refine And.intro (⟨by omega,by rw[Z4];omega⟩) ?_
   refine And.intro (Zm.of_eq (by rw[hgd,Ys])) ?_;refine hK _ _ ?_;clear hK K;refine Zz ?_;refine Zx [(58,.sl 4 (eTms [q.l,q.r]) none)] Zl hnt λ K hK=>?_;refine And.intro ((by rw[e2];exact Zm.untag _ _ _)) ?_;refine Zk (hMe) ?_;refine hK _ _ ?_;clear hK K;refine Zz ?_;refine Zz ?_;refine Zx [(62,.v (.int .i64 (↑x.s.length))),(64,.v (.int .i64 (↑M.length))),(65,.v (.bool true))] Zl hnt λ K hK=>?_
   refine And.intro (Zr (by rw[Zf])) ?_;refine And.intro (Zr (by rw[Zb])) ?_;refine And.intro (YO (by omega)) ?_;refine hK _ _ ?_;clear hK K;refine Zy (t:=true) rfl ?_;rw[if_pos rfl];refine Zz ?_;refine Zx [(66,.ag [.sl 2 [] none,.v (.int .i64 0),.v (.int .i64 0),.sl 4 [] none])] Zl hnt λ K hK=>?_;refine And.intro (XP) ?_;refine hK _ _ ?_;clear hK K
   refine Zv ?_
   exact Zi rfl
 rw[if_pos (show ¬ (0<=x.eq/\x.eq<(eqs.length:Int)) from h1)] at hO
 obtain⟨rfl,rfl⟩:=Prod.mk.inj hO
 rw[ez]
 unfold Nl
 rw[Zu]
 by_cases h0:x.eq<0
 ·skip
  refine Zn 0 180 [ResultVar.cell 8 31,ResultVar.tmp 9] Zl Tryz.func28 rfl Tryz.ntmps28 rfl λ cx hnt hn0=>?_
  skip
  refine Zz ?_;refine Zx [] Zl hnt λ _ z9=>z9 _ _ ?_;refine Zz ?_;refine Zx [] Zl hnt λ _ z9=>z9 _ _ ?_;refine Zz ?_;refine Zz ?_;refine Zx [(29,.v (.bool true))] Zl hnt λ K hK=>?_;refine And.intro (Z7 h0) ?_;refine hK _ _ ?_;clear hK K;refine Zy (t:=true) rfl ?_;rw[if_pos rfl];refine Zz ?_
  refine Zx [(37,.ag [.sl 2 [] none,.v (.int .i64 0),.v (.int .i64 0),.sl 4 [] none])] Zl hnt λ K hK=>?_;refine And.intro (XP) ?_;refine hK _ _ ?_;clear hK K;refine Zv ?_
  exact Zi rfl
 skip
 refine Zn 0 180 [ResultVar.cell 8 31,ResultVar.tmp 9] Zl Tryz.func28 rfl Tryz.ntmps28 rfl λ cx hnt hn0=>?_
 skip
 refine Zz ?_;refine Zx [] Zl hnt λ _ z9=>z9 _ _ ?_;refine Zz ?_;refine Zx [] Zl hnt λ _ z9=>z9 _ _ ?_;refine Zz ?_;refine Zz ?_;refine Zx [(29,.v (.bool false)),(34,.v (.int .i64 (↑eqs.length))),(35,.v (.bool true))] Zl hnt λ K hK=>?_;refine And.intro (Ze h0) ?_;refine And.intro (Zr (by rw[Z4])) ?_
 refine And.intro (Z7 (by omega)) ?_;refine hK _ _ ?_;clear hK K;refine Zy (t:=true) rfl ?_;rw[if_pos rfl];refine Zz ?_;refine Zx [(37,.ag [.sl 2 [] none,.v (.int .i64 0),.v (.int .i64 0),.sl 4 [] none])] Zl hnt λ K hK=>?_;refine And.intro (XP) ?_;refine hK _ _ ?_;clear hK K;refine Zv ?_
 exact Zi rfl
def TAUJ:List (Nat×TI):=[(34,TAUE_34),(64,TPR_64),(112,TAUH_112),(43,TRT6_43),(45,TAUI_45),(3,TG_3),(47,TAUI_47),(50,TN1_50)]
theorem Yh:Zd Tryz.prog TAUJ:=(((((((((Zd.nil _).cons Y0).cons Ws).cons ZW).cons WY).cons Yb).cons XH).cons Yk).cons YM)
namespace Au
variable (code:List Ty->List Ty->Tm->Ty->Int) (ct:Li.Pr->Int)
def firstE:List Li.Pr->Int
 | []=>0
 | p :: l=>if ct p≠0 then ct p else firstE l
def lemmas:List Lm->List Li.Pr->Nat->Int×Int
 | [],_,i=>((i:Int),0)
 | x :: l,eqs,i=>if lemma1 (code x.p.m) eqs (ct x.p) x≠0 then ((i:Int),lemma1 (code x.p.m) eqs (ct x.p) x) else lemmas l (eqs++[x.p]) (i+1)
def wh (a:List Li.Pr)(l:List Lm):Int×Int:=if firstE ct a≠0 then (-1,firstE ct a) else lemmas code ct l a 0
def LOk (x:Lm):Prop:=EqOk x.p/\Ty.sizes x.p.m<=800000/\x.l.length<=1000/\∀ y∈x.l,SOk y
theorem EqOk.ok {q:Li.Pr}(h:EqOk q):TOk q.l:=⟨by have:=Tm.size_le_full q.l;have:=h.1.1;omega,h.1.2,by have:=h.1.1;omega⟩
end Au
set_option maxHeartbeats 4000000 in
theorem N5 (b:Int)(C Mw:List Ty)(a:List Li.Pr)(ls:List Au.Lm)(ct:Li.Pr->Int)(code:List Ty->List Ty->Tm->Ty->Int) 
  (hT:∀ p∈a++ls.map (·.p),Zh Tryz.prog 46 [.ag [.v (.int .i64 b),.sl 2 (eTys C) none,.sl 2 (eTys Mw) none],.ag (WG p)] (.v (.int .i64 (ct p))))
  (hc:∀ M X t u,Yp C M t X u (code M X t u)) (hCl:C.length<=1000000) (hCs:Ty.sizes C<=800000)
  (hal:a.length<=100) (ha:∀ q∈a,Au.EqOk q) (hll:ls.length<=100) (hls:∀ x∈ls,Au.LOk x) :
  Zh Tryz.prog 15 [.ag [.v (.int .i64 b),.sl 2 (eTys C) none,.sl 2 (eTys Mw) none],.sl 9 (Yt a) none,.ag [.sl 10 (YI ls) none]] (.tu [.v (.int .i64 (Au.wh code ct a ls).1),.v (.int .i64 (Au.wh code ct a ls).2)]):=by
 have hTa:∀ j (h:j<a.length),Zh Tryz.prog 46 [.ag [.v (.int .i64 b),.sl 2 (eTys C) none,.sl 2 (eTys Mw) none],.ag (WG a[j])] (.v (.int .i64 (ct a[j]))):=λ j h=>hT _ (List.mem_append_left _ (List.getElem_mem h))
 obtain⟨E,hE⟩:∃ E:Nat->List Li.Pr,∀ j,a++(ls.take j).map (·.p)=E j:=⟨_,λ _=>rfl⟩
 have hE0:E 0=a:=by rw[<-hE];simp
 have hEn:∀ j (h:j<ls.length),E (j+1)=E j++[ls[j].p]:=λ j h=>by rw[<-hE,<-hE,List.take_add_one,List.getElem?_eq_getElem h,List.map_append,List.append_assoc];rfl
 have hEl:∀ j,j<=ls.length->(E j).length=a.length+j:=λ j h=>by rw[<-hE];simp;omega
 have hEo:∀ j,∀ q∈E j,Au.EqOk q:=λ j q hq=>by
  rw[<-hE] at hq
  rcases List.mem_append.1 hq with hq | hq
  ·exact ha q hq
  obtain⟨x,hx,rfl⟩:=List.mem_map.1 hq
  exact(hls x (List.mem_of_mem_take hx)).1
 obtain⟨L,hL⟩:∃ L:Nat->Int,∀ j (h:j<ls.length),Au.lemma1 (code ls[j].p.m) (E j) (ct ls[j].p) ls[j]=L j:=⟨λ j=>if h:j<ls.length then Au.lemma1 (code ls[j].p.m) (E j) (ct ls[j].p) ls[j] else 0,λ j h=>by dsimp only;rw[dif_pos h]⟩
 have hLe:∀ j (h:j<ls.length),Zh Tryz.prog 43 [.ag [.v (.int .i64 b),.sl 2 (eTys C) none,.sl 2 (eTys Mw) none],.sl 9 (Yt (E j)) none,.ag (PQ ls[j])] (.v (.int .i64 (L j))):=λ j h=>by
  rw[<-hL j h]
  obtain⟨g1,g2,g3,g4⟩:=hls _ (List.getElem_mem h)
  exact N6 b C Mw (E j) ls[j] (ct ls[j].p) (code ls[j].p.m) (hT _ (List.mem_append_right _ (List.mem_map.2 ⟨_,List.getElem_mem h,rfl⟩))) (hc _) hCl (by have:=g1.2.2;omega) hCs g2 (by rw[hEl j (by omega)];omega) (hEo j) g3 g4 g1.ok
 obtain⟨G,hG⟩:∃ G:Nat->Int×Int,∀ j,Au.lemmas code ct (ls.drop j) (E j) j=G j:=⟨_,λ _=>rfl⟩
 have hGn:∀ j (h:j<ls.length),G j=if L j≠0 then ((j:Int),L j) else G (j+1):=λ j h=>by
  rw[<-hG,<-hG,List.drop_eq_getElem_cons h,Au.lemmas,hL j h,hEn j h]
 have hGe:G ls.length=((ls.length:Int),0):=by rw[<-hG,List.drop_length];rfl
 have hw:Au.wh code ct a ls=if Au.firstE ct a≠0 then (-1,Au.firstE ct a) else G 0:=by rw[<-hG,hE0];rfl
 have hF:∀ j (h:j<a.length),Au.firstE ct (a.drop j)=if ct a[j]≠0 then ct a[j] else Au.firstE ct (a.drop (j+1)):=λ j h=>by rw[List.drop_eq_getElem_cons h];rfl
 obtain⟨V,hV⟩:∃ V,Au.wh code ct a ls=V:=⟨_,rfl⟩
 rw[hV] at hw ⊢
 simp only[Ys] at hTa
 unfold PQ at hLe
 refine Zn 0 55 [ResultVar.tmp 6,ResultVar.tmp 7] Yh Tryz.func15 rfl Tryz.ntmps15 rfl λ cx hnt hn0=>?_
 skip
 refine Zz ?_;refine Zx [] Yh hnt λ _ z9=>z9 _ _ ?_;refine Zz ?_;refine Zz ?_;refine Zx [(16,.v (.int .i64 (↑a.length)))] Yh hnt λ K hK=>?_;refine And.intro (Zr (by rw[Z4])) ?_;refine hK _ _ ?_;clear hK K;refine Zt ?_
 refine Z6 (ι:={ j:Nat // j<=a.length/\Au.firstE ct (a.drop j)=Au.firstE ct a }) (λ j=>[(.t 1,.sl 9 (Yt a) none),(.t 3,.p 0 0),(.t 5,.p 1 0),(.c 0 0,.v (.int .i64 b)),(.c 0 1,.sl 2 (eTys C) none),(.c 0 2,.sl 2 (eTys Mw) none),(.c 1 0,.sl 10 (YI ls) none),(.t 15,.sl 9 (Yt a) none),(.t 16,.v (.int .i64 ↑a.length)),(.t 17,.v (.int .i64 ↑j.1))]) 20 (λ j=>a.length-j.1) (⟨0,Nat.zero_le _,rfl⟩) ((by try simp only[List.length_append,List.length_take,List.length_cons,List.length_nil,Nat.zero_add,hE0];exact VS.toA)) λ j=>?_
 obtain⟨j,hj,hje⟩:=j
 dsimp only
 by_cases hlt:j<a.length
 ·have hn:=hF j hlt
  have ht:=hTa j hlt
  by_cases h0:ct a[j]=0
  ·rw[if_neg (λ h=>h h0)] at hn;refine Zz ?_;refine Zx [(18,.v (.bool true))] Yh hnt λ K hK=>?_;refine And.intro Xd ?_;refine hK _ _ ?_;clear hK K;refine Zz ?_;refine Zy (t:=true) rfl ?_;rw[if_pos rfl];refine Zw ?_;refine Zz ?_;refine Zt ?_;refine Zz ?_;refine Zx [(19,.q [.sl 2 (eTys a[j].l.binds) none,.v (.int .i64 a[j].l.kind),.v (.int .i64 a[j].l.index),.sl 4 (eTms a[j].l.args) none,.sl 2 (eTys a[j].r.binds) none,.v (.int .i64 a[j].r.kind),.v (.int .i64 a[j].r.index),.sl 4 (eTms a[j].r.args) none,.sl 2 (eTys a[j].m) none])] Yh hnt λ K hK=>?_
   refine And.intro (⟨by omega,by rw[Z4];omega⟩) ?_;refine And.intro (Zm.of_eq (by rw[Int.toNat_natCast,XC a j hlt,Ys])) ?_;refine hK _ _ ?_;clear hK K;refine Zz ?_;refine Zx [] Yh hnt λ K hK=>?_;refine Zk (ht) ?_;refine hK _ _ ?_;clear hK K;refine Zz ?_;refine Zx [(25,.v (.bool false))] Yh hnt λ K hK=>?_;refine And.intro (Yq h0) ?_;refine hK _ _ ?_;clear hK K
   refine Zy (t:=false) rfl ?_;rw[if_neg (by simp)];refine Zw ?_;refine Zx [(27,.v (.int .i64 (↑(j+1))))] Yh hnt λ K hK=>?_;refine And.intro Ww ?_;refine hK _ _ ?_;clear hK K
   refine⟨⟨j+1,hlt,by rw[<-hn,hje]⟩,by first | omega | (dsimp only;omega),VS.toA⟩
  rw[if_pos h0] at hn
  rw[<-hje,hn,if_pos h0] at hw
  subst hw
  refine Zz ?_;refine Zx [(18,.v (.bool true))] Yh hnt λ K hK=>?_;refine And.intro Xd ?_;refine hK _ _ ?_;clear hK K;refine Zz ?_;refine Zy (t:=true) rfl ?_;rw[if_pos rfl];refine Zw ?_;refine Zz ?_;refine Zt ?_;refine Zz ?_;refine Zx [(19,.q [.sl 2 (eTys a[j].l.binds) none,.v (.int .i64 a[j].l.kind),.v (.int .i64 a[j].l.index),.sl 4 (eTms a[j].l.args) none,.sl 2 (eTys a[j].r.binds) none,.v (.int .i64 a[j].r.kind),.v (.int .i64 a[j].r.index),.sl 4 (eTms a[j].r.args) none,.sl 2 (eTys a[j].m) none])] Yh hnt λ K hK=>?_
  refine And.intro (⟨by omega,by rw[Z4];omega⟩) ?_;refine And.intro (Zm.of_eq (by rw[Int.toNat_natCast,XC a j hlt,Ys])) ?_;refine hK _ _ ?_;clear hK K;refine Zz ?_;refine Zx [] Yh hnt λ K hK=>?_;refine Zk (ht) ?_;refine hK _ _ ?_;clear hK K;refine Zz ?_;refine Zx [(25,.v (.bool true))] Yh hnt λ K hK=>?_;refine And.intro (YO h0) ?_;refine hK _ _ ?_;clear hK K
  refine Zy (t:=true) rfl ?_;rw[if_pos rfl];refine Zz ?_;refine Zx [] Yh hnt λ _ z9=>z9 _ _ ?_;refine Zv ?_
  exact Zi rfl
 have hja:j=a.length:=by omega
 subst hja
 rw[List.drop_length] at hje
 rw[<-hje,if_neg (λ h=>h rfl)] at hw
 refine Zz ?_;refine Zx [(18,.v (.bool false))] Yh hnt λ K hK=>?_;refine And.intro X5 ?_;refine hK _ _ ?_;clear hK K;refine Zz ?_;refine Zy (t:=false) rfl ?_;rw[if_neg (by simp)];refine Zg ?_;refine Zz ?_;refine Zx [] Yh hnt λ K hK=>?_;refine H6 (Ko a (by omega) _) ?_;refine hK _ _ ?_;clear hK K
 refine RM (x:=11) (g:=22) rfl rfl (Z4 _) ?_
 rw[<-hE0]
 refine Zz ?_;refine Zz ?_;refine Zx [(32,.v (.int .i64 (↑ls.length)))] Yh hnt λ K hK=>?_;refine And.intro (Zr (by rw[ZY])) ?_;refine hK _ _ ?_;clear hK K;refine Zt ?_
 refine Z6 (ι:={ n:Nat // n<=ls.length/\G n=G 0 }) (λ n=>[(.t 3,.p 0 0),(.t 5,.p 1 0),(.c 0 0,.v (.int .i64 b)),(.c 0 1,.sl 2 (eTys C) none),(.c 0 2,.sl 2 (eTys Mw) none),(.c 1 0,.sl 10 (YI ls) none),(.t 31,.sl 10 (YI ls) none),(.t 32,.v (.int .i64 ↑ls.length)),(.t 33,.v (.int .i64 ↑n.1)),(.t 11,.sl 9 (Yt (E n.1)) (some 22)),(.r 22,.rw 64 9 (Yt (E n.1)).length)]) 40 (λ n=>ls.length-n.1) (⟨0,Nat.zero_le _,rfl⟩) (VS.toA) λ n=>?_
 obtain⟨n,hn0,hne⟩:=n
 dsimp only
 by_cases hlt:n<ls.length
 ·have hn:=hGn n hlt
  have hl:=hLe n hlt
  have hl1:(Yt (E n)).length=a.length+n:=by rw[Z4,hEl n (by omega)]
  have hsn:=U4 (E n) ls[n].p
  rw[<-hEn n hlt] at hsn
  by_cases h0:L n=0
  ·rw[if_neg (λ h=>h h0)] at hn;refine Zz ?_;refine Zx [(34,.v (.bool true))] Yh hnt λ K hK=>?_;refine And.intro Xd ?_;refine hK _ _ ?_;clear hK K;refine Zz ?_;refine Zy (t:=true) rfl ?_;rw[if_pos rfl];refine Zw ?_;refine Zz ?_;refine Zt ?_;refine Zz ?_;refine Zx [(36,.q [.sl 2 (eTys ls[n].p.l.binds) none,.v (.int .i64 ls[n].p.l.kind),.v (.int .i64 ls[n].p.l.index),.sl 4 (eTms ls[n].p.l.args) none,.sl 2 (eTys ls[n].p.r.binds) none,.v (.int .i64 ls[n].p.r.kind),.v (.int .i64 ls[n].p.r.index),.sl 4 (eTms ls[n].p.r.args) none,.sl 2 (eTys ls[n].p.m) none,.sl 4 (Yc ls[n].l) none])] Yh hnt λ K hK=>?_
   refine And.intro (⟨by omega,by rw[ZY];omega⟩) ?_;refine And.intro (Zm.of_eq (by rw[Int.toNat_natCast,XZ ls n hlt];rfl)) ?_;refine hK _ _ ?_;clear hK K;refine Zz ?_;refine Zz ?_;refine Zx [(39,.sl 9 (Yt (E n)) none)] Yh hnt λ K hK=>?_;refine And.intro (Zm.untag _ _ _) ?_;refine Zk (hl) ?_;refine hK _ _ ?_;clear hK K;refine Zz ?_;refine Zx [(43,.v (.bool false))] Yh hnt λ K hK=>?_
   refine And.intro (Yq h0) ?_;refine hK _ _ ?_;clear hK K;refine Zy (t:=false) rfl ?_;rw[if_neg (by simp)];refine Zw ?_;refine Zx [] Yh hnt λ K hK=>?_;refine And.intro (⟨by omega,by rw[hl1];simp;omega⟩) ?_;refine hK _ _ ?_;clear hK K
   rw[hsn]
   refine Zx [(51,.v (.int .i64 (↑(n+1))))] Yh hnt λ K hK=>?_;refine And.intro Ww ?_;refine hK _ _ ?_;clear hK K
   refine⟨⟨n+1,hlt,by rw[<-hn,hne]⟩,by first | omega | (dsimp only;omega),VS.toA⟩
  rw[if_pos h0] at hn
  rw[<-hne,hn] at hw
  subst hw
  refine Zz ?_;refine Zx [(34,.v (.bool true))] Yh hnt λ K hK=>?_;refine And.intro Xd ?_;refine hK _ _ ?_;clear hK K;refine Zz ?_;refine Zy (t:=true) rfl ?_;rw[if_pos rfl];refine Zw ?_;refine Zz ?_;refine Zt ?_;refine Zz ?_;refine Zx [(36,.q [.sl 2 (eTys ls[n].p.l.binds) none,.v (.int .i64 ls[n].p.l.kind),.v (.int .i64 ls[n].p.l.index),.sl 4 (eTms ls[n].p.l.args) none,.sl 2 (eTys ls[n].p.r.binds) none,.v (.int .i64 ls[n].p.r.kind),.v (.int .i64 ls[n].p.r.index),.sl 4 (eTms ls[n].p.r.args) none,.sl 2 (eTys ls[n].p.m) none,.sl 4 (Yc ls[n].l) none])] Yh hnt λ K hK=>?_
  refine And.intro (⟨by omega,by rw[ZY];omega⟩) ?_;refine And.intro (Zm.of_eq (by rw[Int.toNat_natCast,XZ ls n hlt];rfl)) ?_;refine hK _ _ ?_;clear hK K;refine Zz ?_;refine Zz ?_;refine Zx [(39,.sl 9 (Yt (E n)) none)] Yh hnt λ K hK=>?_;refine And.intro (Zm.untag _ _ _) ?_;refine Zk (hl) ?_;refine hK _ _ ?_;clear hK K;refine Zz ?_;refine Zx [(43,.v (.bool true))] Yh hnt λ K hK=>?_
  refine And.intro (YO h0) ?_;refine hK _ _ ?_;clear hK K;refine Zy (t:=true) rfl ?_;rw[if_pos rfl];refine Zz ?_;refine Zx [] Yh hnt λ _ z9=>z9 _ _ ?_;refine Zv ?_
  exact Zi rfl
 have hnl:n=ls.length:=by omega
 subst hnl
 rw[<-hne,hGe] at hw
 subst hw
 refine Zz ?_;refine Zx [(34,.v (.bool false))] Yh hnt λ K hK=>?_;refine And.intro X5 ?_;refine hK _ _ ?_;clear hK K;refine Zz ?_;refine Zy (t:=false) rfl ?_;rw[if_neg (by simp)];refine Zg ?_;refine Zz ?_;refine Zx [(54,.v (.int .i64 (↑ls.length)))] Yh hnt λ K hK=>?_;refine And.intro (Zr (by rw[ZY])) ?_;refine hK _ _ ?_;clear hK K
 refine Zv ?_
 exact Zi rfl
def TAUK:List (Nat×TI):=[(64,TPR_64),(47,TAUI_47),(43,TRT6_43),(34,TAUE_34),(45,TAUI_45),(62,TG_62),(112,TAUH_112),(3,TG_3),(41,TG_41),(50,TN1_50),(143,TTY_143),(106,TG_106)]
theorem Yw:Zd Tryz.prog TAUK:=(((((((((((((Zd.nil _).cons Yx).cons Vw).cons Y0).cons Ym).cons ZW).cons XH).cons Yu).cons WY).cons YM).cons Yb).cons Ws).cons Yk)
theorem Ky:WG Li.Pr.z=[.sl 2 [] none,.v (.int .i64 0),.v (.int .i64 0),.sl 4 [] none,.sl 2 [] none,.v (.int .i64 0),.v (.int .i64 0),.sl 4 [] none,.sl 2 [] none]:=rfl
theorem SA:Zh Tryz.prog 18 [.ag [.sl 10 (YI []) none]] (.tu [.ag (WG Li.Pr.z),.v (.bool false)]):=by
 rw[Ky]
 refine Zn 0 19 [ResultVar.cell 2 64,ResultVar.tmp 3] Yw Tryz.func18 rfl Tryz.ntmps18 rfl λ cx hnt hn0=>?_
 skip
 refine Zz ?_;refine Zx [] Yw hnt λ _ z9=>z9 _ _ ?_;refine Zz ?_;refine Zx [(7,.v (.int .i64 (0)))] Yw hnt λ K hK=>?_;refine And.intro (Zr (by rfl)) ?_;refine hK _ _ ?_;clear hK K;refine Zz ?_;refine Zz ?_;refine Zx [(9,.v (.bool true))] Yw hnt λ K hK=>?_;refine And.intro (YT rfl) ?_;refine hK _ _ ?_;clear hK K;refine Zy (t:=true) rfl ?_
 rw[if_pos rfl];refine Zz ?_;refine Zx [] Yw hnt λ _ z9=>z9 _ _ ?_;refine Zv ?_
 exact Zi rfl
namespace Au
def goal (l:List Lm)(p:Li.Pr):Int:=if l.getLast?.map (·.p)=some p then 0 else 12
end Au
set_option maxHeartbeats 4000000 in
theorem RD (b:Int)(C Mw:List Ty)(a:List Li.Pr)(ls:List Au.Lm)(i e:Int) 
  (hW:Zh Tryz.prog 15 [.ag [.v (.int .i64 b),.sl 2 (eTys C) none,.sl 2 (eTys Mw) none],.sl 9 (Yt a) none,.ag [.sl 10 (YI ls) none]] (.tu [.v (.int .i64 i),.v (.int .i64 e)])) :
  Zh Tryz.prog 19 [.ag [.v (.int .i64 b),.sl 2 (eTys C) none,.sl 2 (eTys Mw) none],.sl 9 (Yt a) none,.ag [.sl 10 (YI ls) none]] (.v (.int .i64 e)):=by
 refine Zn 0 17 [ResultVar.tmp 6] Yw Tryz.func19 rfl Tryz.ntmps19 rfl λ cx hnt hn0=>?_
 skip
 refine Zz ?_;refine Zx [] Yw hnt λ _ z9=>z9 _ _ ?_;refine Zz ?_;refine Zx [] Yw hnt λ K hK=>?_;refine Zk (hW) ?_;refine hK _ _ ?_;clear hK K;refine Zz ?_;refine Zx [] Yw hnt λ _ z9=>z9 _ _ ?_;refine Zv ?_
 exact Zi rfl
set_option maxHeartbeats 4000000 in
theorem PS (b:Int)(C Mw:List Ty)(a:List Li.Pr)(ls:List Au.Lm)(e:Int)(p:Li.Pr)(hl:ls.length<=1000000)(h:∀ x∈ls,(x.p.l.full<=900000/\x.p.l.Fit)/\(x.p.r.full<=900000/\x.p.r.Fit)/\Ty.sizes x.p.m<=800000) 
  (hC:Zh Tryz.prog 19 [.ag [.v (.int .i64 b),.sl 2 (eTys C) none,.sl 2 (eTys Mw) none],.sl 9 (Yt a) none,.ag [.sl 10 (YI ls) none]] (.v (.int .i64 e))) :
  Zh Tryz.prog 20 [.ag [.v (.int .i64 b),.sl 2 (eTys C) none,.sl 2 (eTys Mw) none],.sl 9 (Yt a) none,.ag [.sl 10 (YI ls) none],.ag (WG p)] (.v (.int .i64 (if e≠0 then e else Au.goal ls p))):=by
 by_cases h0:e=0
 ·rw[if_neg (λ h=>h h0)]
  by_cases hn:ls=[]
  ·subst hn
   have hg:=SA
   rw[Ys] at hg ⊢
   rw[show Au.goal [] p=12 from if_neg (by simp)]
   refine Zn 0 32 [ResultVar.tmp 8] Yw Tryz.func20 rfl Tryz.ntmps20 rfl λ cx hnt hn0=>?_
   skip
   refine Zz ?_;refine Zx [] Yw hnt λ _ z9=>z9 _ _ ?_;refine Zz ?_;refine Zz ?_;refine Zx [] Yw hnt λ K hK=>?_;refine Zk (hC) ?_;refine hK _ _ ?_;clear hK K;refine Zz ?_;refine Zx [(17,.v (.bool false))] Yw hnt λ K hK=>?_;refine And.intro (Yq h0) ?_;refine hK _ _ ?_;clear hK K;refine Zy (t:=false) rfl ?_;rw[if_neg (by simp)]
   refine Zw ?_;refine Zz ?_;refine Zz ?_;refine Zx [] Yw hnt λ K hK=>?_;refine Zk (hg) ?_;refine hK _ _ ?_;clear hK K;refine Zz ?_;refine Zx [] Yw hnt λ _ z9=>z9 _ _ ?_;refine Zy (t:=true) rfl ?_;rw[if_pos rfl];refine Zz ?_;refine Zx [] Yw hnt λ _ z9=>z9 _ _ ?_;refine Zv ?_
   exact Zi rfl
  have hg:=OT ls hl h hn
  obtain⟨q,hq⟩:∃ q,(ls.getLast hn).p=q:=⟨_,rfl⟩
  rw[hq] at hg
  have he:=NS q p
  have hgo:Au.goal ls p=if q=p then 0 else 12:=by
   unfold Au.goal
   rw[List.getLast?_eq_some_getLast hn,Option.map_some,hq]
   by_cases h:q=p
   ·rw[if_pos h,if_pos (by rw[h])]
   rw[if_neg h,if_neg (λ g=>h (Option.some.inj g))]
  rw[hgo]
  rw[Ys] at hg
  rw[Ys,Ys] at he
  rw[Ys]
  by_cases hqp:q=p
  ·rw[if_pos hqp]
   rw[decide_eq_true hqp] at he
   refine Zn 0 32 [ResultVar.tmp 8] Yw Tryz.func20 rfl Tryz.ntmps20 rfl λ cx hnt hn0=>?_
   skip
   refine Zz ?_;refine Zx [] Yw hnt λ _ z9=>z9 _ _ ?_;refine Zz ?_;refine Zz ?_;refine Zx [] Yw hnt λ K hK=>?_;refine Zk (hC) ?_;refine hK _ _ ?_;clear hK K;refine Zz ?_;refine Zx [(17,.v (.bool false))] Yw hnt λ K hK=>?_;refine And.intro (Yq h0) ?_;refine hK _ _ ?_;clear hK K;refine Zy (t:=false) rfl ?_;rw[if_neg (by simp)]
   refine Zw ?_;refine Zz ?_;refine Zz ?_;refine Zx [] Yw hnt λ K hK=>?_;refine Zk (hg) ?_;refine hK _ _ ?_;clear hK K;refine Zz ?_;refine Zx [] Yw hnt λ K hK=>?_;refine Zk (he) ?_;refine hK _ _ ?_;clear hK K;refine Zy (t:=false) rfl ?_;rw[if_neg (by simp)];refine Zw ?_;refine Zz ?_;refine Zx [] Yw hnt λ _ z9=>z9 _ _ ?_
   refine Zv ?_
   exact Zi rfl
  rw[if_neg hqp]
  rw[decide_eq_false hqp] at he
  refine Zn 0 32 [ResultVar.tmp 8] Yw Tryz.func20 rfl Tryz.ntmps20 rfl λ cx hnt hn0=>?_
  skip
  refine Zz ?_;refine Zx [] Yw hnt λ _ z9=>z9 _ _ ?_;refine Zz ?_;refine Zz ?_;refine Zx [] Yw hnt λ K hK=>?_;refine Zk (hC) ?_;refine hK _ _ ?_;clear hK K;refine Zz ?_;refine Zx [(17,.v (.bool false))] Yw hnt λ K hK=>?_;refine And.intro (Yq h0) ?_;refine hK _ _ ?_;clear hK K;refine Zy (t:=false) rfl ?_;rw[if_neg (by simp)]
  refine Zw ?_;refine Zz ?_;refine Zz ?_;refine Zx [] Yw hnt λ K hK=>?_;refine Zk (hg) ?_;refine hK _ _ ?_;clear hK K;refine Zz ?_;refine Zx [] Yw hnt λ K hK=>?_;refine Zk (he) ?_;refine hK _ _ ?_;clear hK K;refine Zy (t:=true) rfl ?_;rw[if_pos rfl];refine Zz ?_;refine Zx [] Yw hnt λ _ z9=>z9 _ _ ?_;refine Zv ?_
  exact Zi rfl
 rw[if_pos h0,Ys]
 refine Zn 0 32 [ResultVar.tmp 8] Yw Tryz.func20 rfl Tryz.ntmps20 rfl λ cx hnt hn0=>?_
 skip
 refine Zz ?_;refine Zx [] Yw hnt λ _ z9=>z9 _ _ ?_;refine Zz ?_;refine Zz ?_;refine Zx [] Yw hnt λ K hK=>?_;refine Zk (hC) ?_;refine hK _ _ ?_;clear hK K;refine Zz ?_;refine Zx [(17,.v (.bool true))] Yw hnt λ K hK=>?_;refine And.intro (YO h0) ?_;refine hK _ _ ?_;clear hK K;refine Zy (t:=true) rfl ?_;rw[if_pos rfl]
 refine Zz ?_;refine Zx [] Yw hnt λ _ z9=>z9 _ _ ?_;refine Zv ?_
 exact Zi rfl
namespace Au
def kA:Ty:=.mk [] 0
def kW:List Ty:=[kA,.mk [kA] 0]
def kz:Tm:=.mk [] 1 0 []
def kx:Tm:=.mk [] 2 0 []
def ks (t:Tm):Tm:=.mk [] 1 1 [t]
def kE:Li.Pr:=⟨ks (ks kx),kx,[kA]⟩
def kP:Li.Pr:=⟨ks (ks (ks kz)),ks kz,[]⟩
def k1:St:=⟨0,false,[],[(0,ks kz)]⟩
def k2:St:=⟨0,false,[0],[(0,kz)]⟩
def kL1:Lm:=⟨kP,[k1]⟩
def kL2:Lm:=⟨kP,[k2]⟩
def kL0:Lm:=⟨kP,[]⟩
theorem kWd:XT 1 kW []:=by
 refine⟨by decide,λ t ht=>?_⟩
 have:t=kA∨t=.mk [kA] 0:=by simpa[kW] using ht
 rcases this with rfl | rfl
 ·exact⟨by decide,by decide,by simp[kA,Ty.low_iff]⟩
 exact⟨by decide,by decide,by simp[kA,Ty.low_iff]⟩
theorem kGood:Ru.Good 1 kW kP:=⟨kWd,by decide,by decide,kA,by kernel_rfl,rfl,by simp[kP,ks,kz,kW,kA,Wz,IsOfs,YZ,Ty.args,Ty.base],by simp[kP,ks,kz,kW,kA,Wz,IsOfs,YZ,Ty.args,Ty.base]⟩
theorem kE_wd:XT 1 kW [kA]:=by
 refine⟨by decide,λ t ht=>?_⟩
 have:t=kA∨t=.mk [kA] 0:=by
  simp[kW] at ht
  rcases ht with h | h | h
  ·exact .inl h
  ·exact .inr h
  exact .inl h
 rcases this with rfl | rfl
 ·exact⟨by decide,by decide,by simp[kA,Ty.low_iff]⟩
 exact⟨by decide,by decide,by simp[kA,Ty.low_iff]⟩
theorem kEGood:Ru.Good 1 kW kE:=⟨kE_wd,by decide,by decide,kA,by kernel_rfl,rfl,by simp[kE,ks,kx,kW,kA,Wz,IsOfs,YZ,Ty.args,Ty.base],by simp[kE,ks,kx,kW,kA,Wz,IsOfs,YZ,Ty.args,Ty.base]⟩
theorem code_0 {code:List Ty->Tm->Ty->Int}{C M:List Ty}(hc:∀ X t u,Yp C M t X u (code X t u)){X:List Ty}{t:Tm}{u:Ty}(h1:t.size<=5000/\t.depth<=60)(h2:Wz C M t X u):code X t u=0:=by
 rcases hc X t u with⟨g,_⟩ | ⟨_,g,_⟩ | ⟨_,_,g⟩
 ·exact absurd h1 g
 ·exact absurd h2 g
 exact g
theorem step_at {code:List Ty->Tm->Ty->Int}{eqs:List Li.Pr}{x:St}{t th:Tm}{ar:List Ty}(hat:Pn.atP x.path t=some (th,ar))(hi:0<=x.eq/\x.eq<(eqs.length:Int))(hs:subS code (eqAt eqs x) x.s ar 0=0):
  step code eqs x (t,0)=fin x t th (img x.s (if x.back then (eqAt eqs x).r else (eqAt eqs x).l) 0).1
   (img x.s (if x.back then (eqAt eqs x).l else (eqAt eqs x).r) (img x.s (if x.back then (eqAt eqs x).r else (eqAt eqs x).l) 0).2).1
   (img x.s (if x.back then (eqAt eqs x).l else (eqAt eqs x).r) (img x.s (if x.back then (eqAt eqs x).r else (eqAt eqs x).l) 0).2).2:=by
 unfold step
 rw[hat]
 dsimp only
 rw[decide_eq_true hi,must_true,if_neg (λ h=>h rfl),hs]
theorem kE_metas:Wr (Y9 [kE.l,kE.r])=[0]:=by
 rw[show Y9 [kE.l,kE.r]=[0]++[0] by kernel_rfl]
 exact(QW [0]).trans (by unfold Wr;rw[List.mergeSort_singleton];rfl)
variable {code:List Ty->Tm->Ty->Int} (hc:∀ X t u,Yp kW [] t X u (code X t u))
include hc
theorem kc_z:code [] kz kA=0:=code_0 hc (by decide) (by simp[kz,kW,kA,Wz,IsOfs,YZ,Ty.args,Ty.base])
theorem kc_s:code [] (ks kz) kA=0:=code_0 hc (by decide) (by simp[ks,kz,kW,kA,Wz,IsOfs,YZ,Ty.args,Ty.base])
theorem k1_sub:subS code kE [(0,ks kz)] [] 0=0:=by
 unfold subS
 rw[kE_metas]
 simp only[List.foldl_cons,List.foldl_nil]
 have hm:must (must 0 (Sb.right [(0,ks kz)]&&decide (List.map (λ x=>x.fst) [((0:Int),ks kz)]=[0])) 1) (decide ((0:Int)<=0/\(0:Int) < ↑kE.m.length)) 1=0:=by kernel_rfl
 have hk:code [] (ks kz) (kE.m.getD (Int.toNat 0) (Ty.mk [] 0))=0:=kc_s hc
 rw[if_pos hm,hm,decide_eq_true hk]
 rfl
theorem k2_sub:subS code kE [(0,kz)] [] 0=0:=by
 unfold subS
 rw[kE_metas]
 simp only[List.foldl_cons,List.foldl_nil]
 have hm:must (must 0 (Sb.right [(0,kz)]&&decide (List.map (λ x=>x.fst) [((0:Int),kz)]=[0])) 1) (decide ((0:Int)<=0/\(0:Int) < ↑kE.m.length)) 1=0:=by kernel_rfl
 have hk:code [] (kz) (kE.m.getD (Int.toNat 0) (Ty.mk [] 0))=0:=kc_z hc
 rw[if_pos hm,hm,decide_eq_true hk]
 rfl
theorem k1_step:step code [kE] k1 (kP.l,0)=(kP.r,0):=by
 rw[step_at (th:=kP.l) (ar:=[]) (by kernel_rfl) (by decide) (k1_sub hc)]
 kernel_rfl
theorem k2_step:step code [kE] k2 (kP.l,0)=(kP.r,0):=by
 rw[step_at (th:=ks (ks kz)) (ar:=[]) (by kernel_rfl) (by decide) (k2_sub hc)]
 kernel_rfl
theorem k1_lemma:lemma1 code [kE] 0 kL1=0:=by
 have h:chain code [kE] kL1.l kL1.p.l=(kP.r,0):=by
  have h:List.foldl (λ r x=>step code [kE] x r) (kL1.p.l,0) kL1.l=(kP.r,0):=k1_step hc
  unfold chain
  rw[h];rfl
 unfold lemma1
 rw[h,if_neg (λ h=>h rfl)]
 rw[if_neg (λ h=>h.2 rfl)]
theorem k2_lemma:lemma1 code [kE] 0 kL2=0:=by
 have h:chain code [kE] kL2.l kL2.p.l=(kP.r,0):=by
  have h:List.foldl (λ r x=>step code [kE] x r) (kL2.p.l,0) kL2.l=(kP.r,0):=k2_step hc
  unfold chain
  rw[h];rfl
 unfold lemma1
 rw[h,if_neg (λ h=>h rfl)]
 rw[if_neg (λ h=>h.2 rfl)]
omit hc in
theorem k0_lemma:lemma1 code [kE] 0 kL0=12:=by
 unfold lemma1 chain kL0
 dsimp only[List.foldl_nil]
 kernel_rfl
end Au
def TAUM:List (Nat×TI):=[(62,TG_62),(112,TAUH_112),(43,TRT6_43),(64,TPR_64),(106,TG_106),(41,TG_41),(34,TAUE_34),(50,TN1_50),(59,TG_59),(110,TS1_110),(84,TS1_84),(86,TAUE_86),(78,TAUE_78),(47,TAUI_47),(3,TG_3),(71,TTY_71),(45,TAUI_45),(60,TG_60)]
theorem Qd:Zd Tryz.prog TAUM:=(((((((((((((((((((Zd.nil _).cons Xs).cons WY).cons YV).cons ZW).cons Ws).cons Xk).cons Xl).cons Xb).cons YG).cons XI).cons Y0).cons YM).cons Ym).cons Yx).cons Yk).cons Yb).cons XH).cons Yu)
namespace Au
theorem code_ex (C M:List Ty):∃ code:List Ty->Tm->Ty->Int,∀ X t u,Yp C M t X u (code X t u):=by
 have h:∀ X t u,∃ c,Yp C M t X u c:=λ X t u=>by
  by_cases h1:t.size<=5000/\t.depth<=60
  ·by_cases h2:Wz C M t X u
   ·exact⟨0,.inr (.inr ⟨h1,h2,rfl⟩)⟩
   exact⟨5,.inr (.inl ⟨h1,h2,rfl⟩)⟩
  exact⟨2,.inl ⟨h1,rfl⟩⟩
 exact⟨λ X t u=>Classical.choose (h X t u),λ X t u=>Classical.choose_spec (h X t u)⟩
theorem kz_fit:kz.Fit:=Tm.fit_iff.2 ⟨by decide,by decide,nofun⟩
theorem kx_fit:kx.Fit:=Tm.fit_iff.2 ⟨by decide,by decide,nofun⟩
theorem ks_fit {t:Tm}(h:t.Fit):(ks t).Fit:=Tm.fit_iff.2 ⟨by decide,by decide,λ u hu=>by
 have:u=t:=by simpa using hu
 subst this;exact h⟩
theorem kE_ok:EqOk kE:=⟨⟨by decide,Bnd.of_full _ (by decide) (ks_fit (ks_fit kx_fit))⟩,⟨by decide,Bnd.of_full _ (by decide) kx_fit⟩,by decide⟩
theorem kP_ok:EqOk kP:=⟨⟨by decide,Bnd.of_full _ (by decide) (ks_fit (ks_fit (ks_fit kz_fit)))⟩,⟨by decide,Bnd.of_full _ (by decide) (ks_fit kz_fit)⟩,by decide⟩
theorem k1_ok:SOk k1:=⟨by decide,λ q hq=>by
 have:q=(0,ks kz):=by simpa[k1] using hq
 subst this;exact⟨by decide,ks_fit kz_fit⟩,by decide⟩
theorem k2_ok:SOk k2:=⟨by decide,λ q hq=>by
 have:q=(0,kz):=by simpa[k2] using hq
 subst this;exact⟨by decide,kz_fit⟩,by decide⟩
end Au
theorem PX (t:Tm):Zh Tryz.prog 42 [.ag [.sl 2 (eTys t.binds) none,.v (.int .i64 t.kind),.v (.int .i64 t.index),.sl 4 (eTms t.args) none]] (.ag [.sl 2 [] none,.v (.int .i64 1),.v (.int .i64 1),.sl 4 (eTms [t]) none]):=by
 have e:eTms [t]=[[.sl 2 (eTys t.binds) none,.v (.int .i64 t.kind),.v (.int .i64 t.index),.sl 4 (eTms t.args) none]]:=by rw[<-Zu];rfl
 refine Zn 0 7 [ResultVar.cell 2 62] Qd Tryz.func42 rfl Tryz.ntmps42 rfl λ cx hnt hn0=>?_
 skip
 refine Zz ?_;refine Zx [] Qd hnt λ _ z9=>z9 _ _ ?_;refine Zz ?_;refine Zx [(5,.sl 4 (eTms [t]) none)] Qd hnt λ K hK=>?_;refine And.intro ((by rw[e];exact Zm.untag _ _ _)) ?_;refine hK _ _ ?_;clear hK K;refine Zv ?_
 exact Zi rfl
theorem Jq:Zh Tryz.prog 41 [.v (.int .i64 0),.v (.slice none 0 0)] (.ag [.sl 2 [] none,.v (.int .i64 0)]):=ZB.vle (LR 0 [] (by simp[Ty.sizes])) (.cons (Zm.refl _) (.cons (Zm.nil _) .nil)) (Zm.refl _)
namespace Au
theorem kes:∀ q∈[kE],EqOk q:=λ q hq=>by rw[List.mem_singleton] at hq;subst hq;exact kE_ok
end Au
set_option maxHeartbeats 4000000 in
theorem S3 (x:Au.Lm)(v:Int)(hp:x.p=Au.kP)(hl:x.l.length<=1000)(hx:∀ y∈x.l,Au.SOk y)(hv:∀ code:List Ty->Tm->Ty->Int,(∀ X t u,Yp Au.kW [] t X u (code X t u))->Au.lemma1 code [Au.kE] 0 x=v):
  Zh Tryz.prog 43 [.ag [.v (.int .i64 1),.sl 2 (eTys Au.kW) none,.sl 2 (eTys []) none],.sl 9 (Yt [Au.kE]) none,.ag (PQ x)] (.v (.int .i64 v)):=by
 obtain⟨code,hc⟩:=Au.code_ex Au.kW []
 have hs:∀ t∈Au.kW++Au.kP.m,t.size<=400000:=λ t ht=>by have:=(Au.kWd.2 t ht).1;omega
 obtain⟨c,hc0,hT,_⟩:=Ub 1 Au.kW [] Au.kP ⟨by decide,Au.ks_fit (Au.ks_fit (Au.ks_fit Au.kz_fit))⟩ ⟨by decide,Au.ks_fit Au.kz_fit⟩ (by decide) (by decide) hs
 have h0:=hc0.2 Au.kGood
 subst h0
 rw[<-hv code hc]
 rw[<-hp] at hT
 exact N6 1 Au.kW [] [Au.kE] x 0 code hT (by rw[hp];exact hc) (by decide) (by rw[hp];decide) (by decide) (by rw[hp];decide) (by decide) Au.kes hl hx (by rw[hp];exact Au.kP_ok.ok)
def TAUN:List (Nat×TI):=[(62,TG_62),(112,TAUH_112),(43,TRT6_43),(64,TPR_64),(106,TG_106),(41,TG_41),(34,TAUE_34),(50,TN1_50),(59,TG_59),(110,TS1_110),(84,TS1_84),(86,TAUE_86),(78,TAUE_78),(47,TAUI_47),(3,TG_3),(71,TTY_71),(45,TAUI_45)]
theorem Wu:Zd Tryz.prog TAUN:=((((((((((((((((((Zd.nil _).cons WY).cons YV).cons ZW).cons Ws).cons Xk).cons Xl).cons Xb).cons YG).cons XI).cons Y0).cons YM).cons Ym).cons Yx).cons Yk).cons Yb).cons XH).cons Yu)
theorem My:Zh Tryz.prog 20 [.ag [.v (.int .i64 1),.sl 2 (eTys Au.kW) none,.sl 2 (eTys []) none],.sl 9 (Yt [Au.kE]) none,.ag [.sl 10 (YI [Au.kL1]) none],.ag (WG Au.kP)] (.v (.int .i64 0)):=by
 obtain⟨code,hc⟩:∃ code:List Ty->List Ty->Tm->Ty->Int,∀ M X t u,Yp Au.kW M t X u (code M X t u):=⟨λ M=>Classical.choose (Au.code_ex Au.kW M),λ M=>Classical.choose_spec (Au.code_ex Au.kW M)⟩
 have hs:∀ t∈Au.kW++Au.kP.m,t.size<=400000:=λ t ht=>by have:=(Au.kWd.2 t ht).1;omega
 have hs2:∀ t∈Au.kW++Au.kE.m,t.size<=400000:=λ t ht=>by have:=(Au.kE_wd.2 t ht).1;omega
 obtain⟨c,hc0,hT,_⟩:=Ub 1 Au.kW [] Au.kP ⟨by decide,Au.ks_fit (Au.ks_fit (Au.ks_fit Au.kz_fit))⟩ ⟨by decide,Au.ks_fit Au.kz_fit⟩ (by decide) (by decide) hs
 have h0:=hc0.2 Au.kGood
 subst h0
 obtain⟨c,hc1,hT2,_⟩:=Ub 1 Au.kW [] Au.kE ⟨by decide,Au.ks_fit (Au.ks_fit Au.kx_fit)⟩ ⟨by decide,Au.kx_fit⟩ (by decide) (by decide) hs2
 have h1:=hc1.2 Au.kEGood
 subst h1
 have hW:=N5 1 Au.kW [] [Au.kE] [Au.kL1] (λ _=>0) code (λ p hp=>by
  have:p=Au.kE∨p=Au.kP:=by simpa[Au.kL1] using hp
  rcases this with rfl | rfl
  ·exact hT2
  exact hT) hc (by decide) (by decide) (by decide) Au.kes (by decide) (λ x hx=>by
  rw[List.mem_singleton] at hx;subst hx
  exact⟨Au.kP_ok,by decide,by decide,λ y hy=>by
   have:y=Au.k1:=by simpa[Au.kL1] using hy
   subst this;exact Au.k1_ok⟩)
 have e:Au.wh code (λ _=>0) [Au.kE] [Au.kL1]=(1,0):=by
  unfold Au.wh
  rw[if_neg (by simp[Au.firstE]),Au.lemmas,show Au.lemma1 (code Au.kL1.p.m) [Au.kE] 0 Au.kL1=0 from Au.k1_lemma (hc [])]
  rfl
 rw[e] at hW
 have hC:=RD 1 Au.kW [] [Au.kE] [Au.kL1] 1 0 hW
 have hP:=PS 1 Au.kW [] [Au.kE] [Au.kL1] 0 Au.kP (by decide) (λ x hx=>by
  rw[List.mem_singleton] at hx;subst hx
  exact⟨⟨by decide,Au.ks_fit (Au.ks_fit (Au.ks_fit Au.kz_fit))⟩,⟨by decide,Au.ks_fit Au.kz_fit⟩,by decide⟩) hC
 rw[if_neg (by simp),show Au.goal [Au.kL1] Au.kP=0 by kernel_rfl] at hP
 exact hP
set_option maxHeartbeats 4000000 in
theorem Mx:Zh Tryz.prog 11 [] (.v (.bool true)):=by
 have ho:=Jq
 have o2:=LR 0 [Au.kA] (by decide)
 have L1:=S3 Au.kL1 0 rfl (by decide) (λ y hy=>by
  have:y=Au.k1:=by simpa[Au.kL1] using hy
  subst this;exact Au.k1_ok) λ code hc=>Au.k1_lemma hc
 have L2:=S3 Au.kL2 0 rfl (by decide) (λ y hy=>by
  have:y=Au.k2:=by simpa[Au.kL2] using hy
  subst this;exact Au.k2_ok) λ code hc=>Au.k2_lemma hc
 have L0:=S3 Au.kL0 12 rfl (by decide) (λ y hy=>by cases hy) λ code _=>Au.k0_lemma
 have PV:=My
 rw[Ys] at PV
 have hx:Zh Tryz.prog 42 [.ag [.sl 2 [] none,.v (.int .i64 2),.v (.int .i64 0),.sl 4 [] none]] (.ag [.sl 2 [] none,.v (.int .i64 1),.v (.int .i64 1),.sl 4 (eTms [Au.kx]) none]):=PX Au.kx
 have hsx:Zh Tryz.prog 42 [.ag [.sl 2 [] none,.v (.int .i64 1),.v (.int .i64 1),.sl 4 (eTms [Au.kx]) none]] (.ag [.sl 2 [] none,.v (.int .i64 1),.v (.int .i64 1),.sl 4 (eTms [Au.ks Au.kx]) none]):=PX (Au.ks Au.kx)
 have hz:Zh Tryz.prog 42 [.ag [.sl 2 [] none,.v (.int .i64 1),.v (.int .i64 0),.sl 4 [] none]] (.ag [.sl 2 [] none,.v (.int .i64 1),.v (.int .i64 1),.sl 4 (eTms [Au.kz]) none]):=PX Au.kz
 have hsz:Zh Tryz.prog 42 [.ag [.sl 2 [] none,.v (.int .i64 1),.v (.int .i64 1),.sl 4 (eTms [Au.kz]) none]] (.ag [.sl 2 [] none,.v (.int .i64 1),.v (.int .i64 1),.sl 4 (eTms [Au.ks Au.kz]) none]):=PX (Au.ks Au.kz)
 have hssz:Zh Tryz.prog 42 [.ag [.sl 2 [] none,.v (.int .i64 1),.v (.int .i64 1),.sl 4 (eTms [Au.ks Au.kz]) none]] (.ag [.sl 2 [] none,.v (.int .i64 1),.v (.int .i64 1),.sl 4 (eTms [Au.ks (Au.ks Au.kz)]) none]):=PX (Au.ks (Au.ks Au.kz))
 unfold PQ at L1 L2 L0
 refine Zn 0 89 [ResultVar.tmp 0] Wu Tryz.func11 rfl Tryz.ntmps11 rfl λ cx hnt hn0=>?_
 skip
 refine Zz ?_;refine Zx [] Wu hnt λ _ z9=>z9 _ _ ?_;refine Zz ?_;refine Zx [] Wu hnt λ K hK=>?_;refine Zk (ho) ?_;refine hK _ _ ?_;clear hK K;refine Zz ?_;refine ZQ [(11,.ag (eTy Au.kA)),(12,.ag (eTy Au.kA)),(13,.sl 2 (eTys [Au.kA]) none),(15,.sl 2 (eTys Au.kW) none)] Wu hnt λ K hK=>?_;refine And.intro (XP) ?_;refine And.intro (XP) ?_
 refine And.intro (Zm.untag _ _ _) ?_;refine Zk (o2) ?_;refine And.intro (Zm.untag _ _ _) ?_;refine hK _ _ (by kernel_rfl) ?_;clear hK K;refine Zz ?_;refine Zx [] Wu hnt λ _ z9=>z9 _ _ ?_;refine Zz ?_;refine Zx [] Wu hnt λ _ z9=>z9 _ _ ?_;refine Zz ?_;refine Zx [] Wu hnt λ _ z9=>z9 _ _ ?_
 refine Zz ?_;refine ZQ [(23,.ag [.sl 2 [] none,.v (.int .i64 2),.v (.int .i64 0),.sl 4 [] none]),(26,.ag [.sl 2 [] none,.v (.int .i64 2),.v (.int .i64 0),.sl 4 [] none]),(27,.ag (eTy Au.kA)),(28,.sl 2 (eTys [Au.kA]) none),(30,.sl 9 (Yt [Au.kE]) none)] Wu hnt λ K hK=>?_;refine And.intro (XP) ?_;refine Zk (hx) ?_;refine Zk (hsx) ?_;refine And.intro (XP) ?_;refine And.intro (XP) ?_
 refine And.intro (Zm.untag _ _ _) ?_;refine And.intro (Zm.untag _ _ _) ?_;refine hK _ _ (by kernel_rfl) ?_;clear hK K;refine Zz ?_;refine ZQ [(34,.ag [.sl 2 [] none,.v (.int .i64 1),.v (.int .i64 0),.sl 4 [] none]),(39,.ag [.sl 2 [] none,.v (.int .i64 1),.v (.int .i64 0),.sl 4 [] none])] Wu hnt λ K hK=>?_;refine And.intro (XP) ?_;refine Zk (hz) ?_;refine Zk (hsz) ?_
 refine Zk (hssz) ?_;refine And.intro (XP) ?_;refine Zk (hz) ?_;refine hK _ _ (by kernel_rfl) ?_;clear hK K;refine Zz ?_;refine ZQ [(42,.ag [.sl 2 (eTys Au.kP.l.binds) none,.v (.int .i64 Au.kP.l.kind),.v (.int .i64 Au.kP.l.index),.sl 4 (eTms Au.kP.l.args) none,.sl 2 (eTys Au.kP.r.binds) none,.v (.int .i64 Au.kP.r.kind),.v (.int .i64 Au.kP.r.index),.sl 4 (eTms Au.kP.r.args) none,.sl 2 (eTys Au.kP.m) none]),(44,.ag [.sl 2 [] none,.v (.int .i64 1),.v (.int .i64 0),.sl 4 [] none]),(47,.sl 5 (Z5 [(0,Au.ks Au.kz)]) none),(48,.ag [.v (.int .i64 0),.v (.bool false),.sl 1 (YJ []) none,.sl 5 (Z5 [(0,Au.ks Au.kz)]) none]),(49,.sl 4 (Yc [Au.k1]) none)] Wu hnt λ K hK=>?_
 refine And.intro (XP) ?_;refine And.intro (XP) ?_;refine Zk (hz) ?_;refine And.intro (Zm.untag _ _ _) ?_;refine And.intro (XP) ?_;refine And.intro (Zm.untag _ _ _) ?_;refine hK _ _ (by kernel_rfl) ?_;clear hK K;refine Zz ?_;refine Zx [(51,.ag [.sl 2 (eTys Au.kP.l.binds) none,.v (.int .i64 Au.kP.l.kind),.v (.int .i64 Au.kP.l.index),.sl 4 (eTms Au.kP.l.args) none,.sl 2 (eTys Au.kP.r.binds) none,.v (.int .i64 Au.kP.r.kind),.v (.int .i64 Au.kP.r.index),.sl 4 (eTms Au.kP.r.args) none,.sl 2 (eTys Au.kP.m) none]),(52,.sl 1 (YJ [0]) none),(53,.ag [.sl 2 [] none,.v (.int .i64 1),.v (.int .i64 0),.sl 4 [] none]),(55,.sl 5 (Z5 [(0,Au.kz)]) none),(57,.sl 4 (Yc [Au.k2]) none)] Wu hnt λ K hK=>?_
 refine And.intro (XP) ?_;refine And.intro (Zm.untag _ _ _) ?_;refine And.intro (XP) ?_;refine And.intro (Zm.untag _ _ _) ?_;refine And.intro (Zm.untag _ _ _) ?_;refine hK _ _ ?_;clear hK K;refine Zz ?_;refine Zx [(59,.ag [.v (.int .i64 1),.sl 2 (eTys Au.kW) none,.sl 2 (eTys []) none]),(61,.ag [.sl 2 (eTys Au.kL1.p.l.binds) none,.v (.int .i64 Au.kL1.p.l.kind),.v (.int .i64 Au.kL1.p.l.index),.sl 4 (eTms Au.kL1.p.l.args) none,.sl 2 (eTys Au.kL1.p.r.binds) none,.v (.int .i64 Au.kL1.p.r.kind),.v (.int .i64 Au.kL1.p.r.index),.sl 4 (eTms Au.kL1.p.r.args) none,.sl 2 (eTys Au.kL1.p.m) none,.sl 4 (Yc Au.kL1.l) none]),(63,.v (.bool true)),(65,.ag [.v (.int .i64 1),.sl 2 (eTys Au.kW) none,.sl 2 (eTys []) none]),(67,.ag [.sl 2 (eTys Au.kL2.p.l.binds) none,.v (.int .i64 Au.kL2.p.l.kind),.v (.int .i64 Au.kL2.p.l.index),.sl 4 (eTms Au.kL2.p.l.args) none,.sl 2 (eTys Au.kL2.p.r.binds) none,.v (.int .i64 Au.kL2.p.r.kind),.v (.int .i64 Au.kL2.p.r.index),.sl 4 (eTms Au.kL2.p.r.args) none,.sl 2 (eTys Au.kL2.p.m) none,.sl 4 (Yc Au.kL2.l) none]),(69,.v (.bool true)),(72,.ag [.v (.int .i64 1),.sl 2 (eTys Au.kW) none,.sl 2 (eTys []) none]),(74,.ag [.sl 2 (eTys Au.kP.l.binds) none,.v (.int .i64 Au.kP.l.kind),.v (.int .i64 Au.kP.l.index),.sl 4 (eTms Au.kP.l.args) none,.sl 2 (eTys Au.kP.r.binds) none,.v (.int .i64 Au.kP.r.kind),.v (.int .i64 Au.kP.r.index),.sl 4 (eTms Au.kP.r.args) none,.sl 2 (eTys Au.kP.m) none]),(75,.ag [.sl 2 (eTys Au.kL0.p.l.binds) none,.v (.int .i64 Au.kL0.p.l.kind),.v (.int .i64 Au.kL0.p.l.index),.sl 4 (eTms Au.kL0.p.l.args) none,.sl 2 (eTys Au.kL0.p.r.binds) none,.v (.int .i64 Au.kL0.p.r.kind),.v (.int .i64 Au.kL0.p.r.index),.sl 4 (eTms Au.kL0.p.r.args) none,.sl 2 (eTys Au.kL0.p.m) none,.sl 4 (Yc Au.kL0.l) none]),(77,.v (.bool true)),(80,.ag [.v (.int .i64 1),.sl 2 (eTys Au.kW) none,.sl 2 (eTys []) none]),(82,.ag [.sl 2 (eTys Au.kL1.p.l.binds) none,.v (.int .i64 Au.kL1.p.l.kind),.v (.int .i64 Au.kL1.p.l.index),.sl 4 (eTms Au.kL1.p.l.args) none,.sl 2 (eTys Au.kL1.p.r.binds) none,.v (.int .i64 Au.kL1.p.r.kind),.v (.int .i64 Au.kL1.p.r.index),.sl 4 (eTms Au.kL1.p.r.args) none,.sl 2 (eTys Au.kL1.p.m) none,.sl 4 (Yc Au.kL1.l) none]),(83,.sl 10 (YI [Au.kL1]) none),(85,.ag [.sl 2 (eTys Au.kP.l.binds) none,.v (.int .i64 Au.kP.l.kind),.v (.int .i64 Au.kP.l.index),.sl 4 (eTms Au.kP.l.args) none,.sl 2 (eTys Au.kP.r.binds) none,.v (.int .i64 Au.kP.r.kind),.v (.int .i64 Au.kP.r.index),.sl 4 (eTms Au.kP.r.args) none,.sl 2 (eTys Au.kP.m) none]),(87,.v (.bool true))] Wu hnt λ K hK=>?_
 refine And.intro (XP) ?_;refine And.intro (XP) ?_;refine Zk (L1) ?_;refine And.intro (YT rfl) ?_;refine And.intro (XP) ?_;refine And.intro (XP) ?_;refine Zk (L2) ?_;refine And.intro (YT rfl) ?_;refine And.intro (XP) ?_;refine And.intro (XP) ?_;refine And.intro (XP) ?_;refine Zk (L0) ?_;refine And.intro (YT rfl) ?_;refine And.intro (XP) ?_;refine And.intro (XP) ?_;refine And.intro (Zm.untag _ _ _) ?_
 refine And.intro (XP) ?_;refine Zk (PV) ?_;refine And.intro (YT rfl) ?_;refine hK _ _ ?_;clear hK K;refine Zv ?_
 exact Zi rfl
end Go.Proofs.YtclihnccilkohaaGreat
namespace Go.Proofs.YtclihnccilkohaaGreat
end Go.Proofs.YtclihnccilkohaaGreat
namespace Go.Proofs.YtclihnccilkohaaGreat
open Go.RowKit
section
variable {P:Program} {F:Fence} {n:Nat} {T:List (Nat×TI)} {cx:Cx} {m m':Mp} {Im Im':Nat->Nat->Prop} {w w':World} {a:Act} {σ σ' τ:List (Key×D)} {N N':Nat} {Q:Exit->List (Key×D)->Nat->Prop}
/-! stores that soft objects do not touch -/
def QJ:Key->Bool
 | .t _=>true
 | .c _ _=>true
 | .r _=>true
 | _=>false
theorem We.cutFG {Fr:Nat->Prop}(h:We cx Fr m Im w){f g:Nat->Bool}(hb:∀ k b,cx.m0.blk k=some b->f k=true)(ho:∀ k b,cx.m0.obj k=some b->f k=true)(hr:∀ k R,cx.m0.row k=some R->g k=true):We cx Fr (m.cut f g) Im w where
 off:=h.off
 im:=h.im
 imb:=h.imb
 im0:=h.im0
 own k b hk:=h.own k b (Mp.cut_blk hk).2
 lt k b hk:=h.lt k b (Mp.cut_blk hk).2
 free k b o hk:=h.free k b o (Mp.cut_blk hk).2
 nim k b o hk:=h.nim k b o (Mp.cut_blk hk).2
 inj k k' b hk hk':=h.inj k k' b (Mp.cut_blk hk).2 (Mp.cut_blk hk').2
 row g R hg:=h.row g R (Mp.cut_row hg).2
 k0:=h.k0
 rown g R b hg:=h.rown g R b (Mp.cut_row hg).2
 m0r x R hg:=by
  obtain⟨R',q1,q2⟩:=h.m0r x R hg
  exact⟨R',by simp[Mp.cut,hr x R hg,q1],q2⟩
 rIm g R b o hg:=h.rIm g R b o (Mp.cut_row hg).2
 rblk g R b k hg hb hk:=h.rblk g R b k (Mp.cut_row hg).2 hb (Mp.cut_blk hk).2
 rinj g g' R R' b hg hg':=h.rinj g g' R R' b (Mp.cut_row hg).2 (Mp.cut_row hg').2
 fr k hk:=by
  obtain⟨q1,q2,q3⟩:=h.fr k hk
  simp[Mp.cut,q1,q2,q3]
 m0o k b hk:=by simp[Mp.cut,ho k b hk,h.m0o k b hk]
 oown k b hk:=h.oown k b (Mp.cut_obj hk).2
 olt k b hk:=h.olt k b (Mp.cut_obj hk).2
 onim k b o hk:=h.onim k b o (Mp.cut_obj hk).2
 oinj k k' b hk hk':=h.oinj k k' b (Mp.cut_obj hk).2 (Mp.cut_obj hk').2
 oblk k k' b hk hk':=h.oblk k k' b (Mp.cut_obj hk).2 (Mp.cut_blk hk').2
 orow k g R b hk hg:=h.orow k g R b (Mp.cut_obj hk).2 (Mp.cut_row hg).2
 dis k b hk:=by
  have:=h.dis k b (Mp.cut_blk hk).2
  show (if _ then m.obj k else none)=none
  rw[this];simp
 m0 k b hk:=by simp[Mp.cut,hb k b hk,h.m0 k b hk]
def Fv (σ:List (Key×D)):Bool:=σ.all λ p=>p.2.ok (Xa σ) (NQ σ)&&QJ p.1
theorem St.only {Fr:Nat->Prop}(h:St cx Fr m Im w a σ)(hσ:Fv σ=true)(hb:∀ k b,cx.m0.blk k=some b->Xa σ k=true)(ho:∀ k b,cx.m0.obj k=some b->Xa σ k=true)(hr:∀ k R,cx.m0.row k=some R->NQ σ k=true):St cx Fr (m.cut (Xa σ) (NQ σ)) Im w a σ:=by
 have hok:∀ k d,get σ k=some d->d.ok (Xa σ) (NQ σ)=true/\QJ k=true:=λ k d hk=>by
  have:=List.all_eq_true.1 hσ _ (Xm hk)
  simpa using this
 refine⟨h.mem.cutFG hb ho hr,h.df,h.nt,λ x d hx=>(h.tm x d hx).cut (hok _ _ hx).1,λ k off d hx=>?_,λ g d hx=>?_,λ d hx=>?_,λ k d hx=>?_⟩
 ·obtain⟨b,v,q1,q2,q3⟩:=h.ce k off d hx
  exact⟨b,v,by simp only[Mp.cut,W5 (Xm hx),if_true];exact q1,q2,q3.cut (hok _ _ hx).1⟩
 ·obtain⟨R,q1,q2⟩:=h.ro g d hx
  exact⟨R,by simp only[Mp.cut,NE (Xm hx),if_true];exact q1,q2.cut (hok _ _ hx).1⟩
 ·have:=(hok _ _ hx).2;cases this
 have:=(hok _ _ hx).2;cases this
end
section
variable {P:Program} {F:Fence} {n:Nat} {T:List (Nat×TI)} {cx:Cx} {m m':Mp} {Im Im':Nat->Nat->Prop} {w w':World} {a:Act} {σ σ' τ:List (Key×D)} {N N':Nat}
end
end Go.Proofs.YtclihnccilkohaaGreat
namespace Go.Proofs.YtclihnccilkohaaGreat
open Go.RowKit Go.Shelf
attribute [local go_sem] Oper.semAt_some
end Go.Proofs.YtclihnccilkohaaGreat
namespace Go.Proofs.YtclihnccilkohaaGreat
open Go.RowKit
namespace Ru
def wB (C M:List Ty):Bool:=decide (C.length<=20/\M.length<=20)&&(C++M).all Vy
end Ru
theorem MV (b:Int)(C M:List Ty):Zh Tryz.prog 8 [.ag [.v (.int .i64 b),.sl 2 (eTys C) none,.sl 2 (eTys M) none],.v (.slice none 0 0)] (.v (.bool (Ru.wB C M))):=by
 unfold Ru.wB
 by_cases h:C.length<=20/\M.length<=20
 ·have:=ON b C M [] h.1 h.2 (by simp)
  rw[List.append_nil] at this
  rw[decide_eq_true h,Bool.true_and]
  exact ZB.vle this (.cons (Zm.refl _) (.cons (Zm.nil _) .nil)) (Zm.refl _)
 have:=QV b C M [] (λ h2=>h ⟨h2.1,h2.2.1⟩)
 rw[decide_eq_false h,Bool.false_and]
 exact ZB.vle this (.cons (Zm.refl _) (.cons (Zm.nil _) .nil)) (Zm.refl _)
namespace Au
theorem way_ok (code:List Ty->Tm->Ty->Int){eqs:List Li.Pr}{l:List St}{t:Tm}(hes:∀ q∈eqs,EqOk q)(hs:∀ x∈l,∀ q∈x.s,Bnd 150 q.2)(ht:TOk t)(j:Nat):TOk (way code eqs l t j).1:=by
 have key:∀ (k:List St) (r:Tm×Int),(∀ x∈k,∀ q∈x.s,Bnd 150 q.2)->TOk r.1->TOk (k.foldl (λ r x=>step code eqs x r) r).1:=by
  intro k
  induction k with
  | nil=>intro r _ h;exact h
  | cons x k ih=>
   intro r h1 h2
   rw[List.foldl_cons]
   exact ih _ (λ y hy=>h1 y (by simp[hy])) (step_ok code hes (h1 x (by simp)) h2)
 exact key _ _ (λ x hx=>hs x (List.mem_of_mem_take hx)) ht
end Au
def TAUV:List (Nat×TI):=[(31,TTM_31),(56,TAUQ_56),(78,TAUE_78),(24,TS9_24),(3,TG_3),(74,TAUQ_74),(86,TAUE_86),(62,TG_62),(29,TTM_29),(25,TPR_25),(84,TS1_84),(22,TTY_22),(43,TRT6_43),(34,TAUE_34),(4,TAUB_4),(71,TTY_71),(110,TS1_110),(64,TPR_64),(104,TTY_104),(33,TPR_33)]
theorem WF:Zd Tryz.prog TAUV:=(((((((((((((((((((((Zd.nil _).cons XX).cons Yy).cons Yk).cons YG).cons YV).cons WX).cons YM).cons Yb).cons Yo).cons Xb).cons W9).cons Y5).cons Yu).cons Xl).cons WZ).cons ZW).cons Xy).cons Xk).cons Vu).cons Yl)
set_option maxHeartbeats 4000000 in
theorem NF (l:List Au.St)(hl:l.length<=100000)(hs:∀ x∈l,x.s.length<=100000/\∀ p∈x.s,p.2.full<=900000):Zh Tryz.prog 29 [.sl 4 (Yc l) none] (.sl 4 (Yc l) none):=by
 obtain⟨O,hO⟩:∃ O:Nat->List Au.St,∀ j,l.take j=O j:=⟨_,λ _=>rfl⟩
 have hO0:O 0=[]:=by rw[<-hO];rfl
 have hOn:∀ j (h:j<l.length),O j++[l[j]]=O (j+1):=λ j h=>by rw[<-hO,<-hO,List.take_add_one,List.getElem?_eq_getElem h];rfl
 have hOl:∀ j,j<=l.length->(O j).length=j:=λ j h=>by rw[<-hO,List.length_take];omega
 have hOm:O l.length=l:=by rw[<-hO,List.take_length]
 suffices h:Zh Tryz.prog 29 [.sl 4 (Yc l) none] (.sl 4 (Yc (O l.length)) none) by rwa [hOm] at h
 refine Zn 0 37 [ResultVar.tmp 2] WF Tryz.func29 rfl Tryz.ntmps29 rfl λ cx hnt hn0=>?_
 skip
 refine Zz ?_;refine Zx [] WF hnt λ _ z9=>z9 _ _ ?_;refine Zz ?_;refine Zx [] WF hnt λ _ z9=>z9 _ _ ?_
 refine DW.vs (VS.rowT (x:=3) (by rw[hnt];decide) 74 4 rfl) ?_
 refine Zz ?_;refine Zz ?_;refine Zx [] WF hnt λ _ z9=>z9 _ _ ?_;refine Zt ?_
 refine Z6 (ι:={ j:Nat // j<=l.length }) (λ j=>[(.t 0,.sl 4 (Yc l) none),(.t 3,.sl 4 (Yc (O j.1)) (some 2)),(.r 2,.rw 74 4 (O j.1).length),(.t 4,.v (.int .i64 ↑j.1))]) 20 (λ j=>l.length-j.1) (⟨0,Nat.zero_le _⟩) ((by dsimp only;rw[hO0];exact VS.toA)) λ j=>?_
 obtain⟨j,hj⟩:=j
 dsimp only
 by_cases hlt:j<l.length
 ·obtain⟨x,hx⟩:∃ x,l[j]=x:=⟨_,rfl⟩
  have hgd:(Yc l).getD j []=[.v (.int .i64 x.eq),.v (.bool x.back),.sl 1 (YJ x.path) none,.sl 5 (Z5 x.s) none]:=by rw[V1 l j hlt,hx];rfl
  have hxs:=hs x (hx ▸ List.getElem_mem hlt)
  have hf:=HI x.s hxs.1 hxs.2
  have hsn:=RP (O j) x
  rw[<-hx,hOn j hlt,hx] at hsn
  have hl1:(Yc (O j)).length=(O j).length:=ZH _
  have hl3:=hOl j hj
  have hl2:(Yc (O (j+1))).length=(O (j+1)).length:=ZH _
  refine Zz ?_;refine Zz ?_;refine Zx [(7,.v (.int .i64 (↑l.length))),(8,.v (.bool true))] WF hnt λ K hK=>?_;refine And.intro (Zr (by rw[ZH])) ?_;refine And.intro (Z7 (by omega)) ?_;refine hK _ _ ?_;clear hK K;refine Zy (t:=true) rfl ?_;rw[if_pos rfl];refine Zw ?_;refine Zz ?_;refine Zt ?_;refine ZQ [(14,.q [.v (.int .i64 x.eq),.v (.bool x.back),.sl 1 (YJ x.path) none,.sl 5 (Z5 x.s) none]),(19,.q [.v (.int .i64 x.eq),.v (.bool x.back),.sl 1 (YJ x.path) none,.sl 5 (Z5 x.s) none]),(24,.q [.v (.int .i64 x.eq),.v (.bool x.back),.sl 1 (YJ x.path) none,.sl 5 (Z5 x.s) none]),(29,.q [.v (.int .i64 x.eq),.v (.bool x.back),.sl 1 (YJ x.path) none,.sl 5 (Z5 x.s) none])] WF hnt λ K hK=>?_
  refine And.intro (⟨by omega,by rw[ZH];omega⟩) ?_;refine And.intro (Zm.of_eq (by rw[Int.toNat_natCast,hgd])) ?_;refine And.intro (⟨by omega,by rw[ZH];omega⟩) ?_;refine And.intro (Zm.of_eq (by rw[Int.toNat_natCast,hgd])) ?_;refine And.intro (⟨by omega,by rw[ZH];omega⟩) ?_;refine And.intro (Zm.of_eq (by rw[Int.toNat_natCast,hgd])) ?_;refine And.intro (⟨by omega,by rw[ZH];omega⟩) ?_
  refine And.intro (Zm.of_eq (by rw[Int.toNat_natCast,hgd])) ?_;refine Zk (hf) ?_;refine And.intro (⟨by omega,by rw[hl1];simp;omega⟩) ?_;refine hK _ _ (by kernel_rfl) ?_;clear hK K
  rw[hsn,hl2]
  refine Zx [(10,.v (.int .i64 (↑(j+1))))] WF hnt λ K hK=>?_;refine And.intro Ww ?_;refine hK _ _ ?_;clear hK K
  refine⟨⟨j+1,hlt⟩,by first | omega | (dsimp only;omega),VS.toA⟩
 have hje:j=l.length:=by omega
 subst hje
 refine Zz ?_;refine Zz ?_;refine Zx [(7,.v (.int .i64 (↑l.length))),(8,.v (.bool false))] WF hnt λ K hK=>?_;refine And.intro (Zr (by rw[ZH])) ?_;refine And.intro (Ze (by omega)) ?_;refine hK _ _ ?_;clear hK K;refine Zy (t:=false) rfl ?_;rw[if_neg (by simp)];refine Zg ?_;refine Zz ?_;refine Zx [] WF hnt λ _ z9=>z9 _ _ ?_
 refine Zv ?_
 exact Zi rfl
def TRCE_26:TI:=⟨1,false,[Value.slice none 0 0],[],some 58,24,5,none,false⟩
theorem UM:TypOk Tryz.prog 26 TRCE_26:=by constructor <;> kernel_rfl
def TRCE_58:TI:=⟨10,true,[Value.slice none 0 0,Value.int IntKind.i64 0,Value.int IntKind.i64 0,Value.slice none 0 0,Value.slice none 0 0,Value.int IntKind.i64 0,Value.int IntKind.i64 0,Value.slice none 0 0,Value.slice none 0 0,Value.slice none 0 0],[(0,9,true),(9,1,false)],none,176,6,none,false⟩
theorem VK:TypOk Tryz.prog 58 TRCE_58:=by constructor <;> kernel_rfl
def TRCE:List (Nat×TI):=[(47,TAUI_47),(45,TAUI_45),(26,TRCE_26),(33,TPR_33),(3,TG_3),(58,TRCE_58),(56,TAUQ_56),(112,TAUH_112),(31,TTM_31),(29,TTM_29),(24,TS9_24),(22,TTY_22),(64,TPR_64),(78,TAUE_78),(86,TAUE_86),(74,TAUQ_74),(104,TTY_104)]
theorem ZI:Zd Tryz.prog TRCE:=((((((((((((((((((Zd.nil _).cons Yy).cons WZ).cons Xl).cons Xk).cons Yk).cons Yo).cons Xy).cons Y5).cons Yl).cons XH).cons Vu).cons VK).cons ZW).cons XX).cons UM).cons WY).cons Ws)
namespace Au
def okL (x:Lm):Bool:=([x.p.l,x.p.r].all Uz&&(decide (x.p.m.length<=20)&&x.p.m.all Vy))&&(x.l.take 8).all okS
def cutL (x:Lm):Lm:=⟨x.p,(x.l.take 8).map cut⟩
end Au
theorem RO (l:List Au.Lm)(x:Au.Lm):YI l++[[.sl 2 (eTys x.p.l.binds) none,.v (.int .i64 x.p.l.kind),.v (.int .i64 x.p.l.index),.sl 4 (eTms x.p.l.args) none,.sl 2 (eTys x.p.r.binds) none,.v (.int .i64 x.p.r.kind),.v (.int .i64 x.p.r.index),.sl 4 (eTms x.p.r.args) none,.sl 2 (eTys x.p.m) none,.sl 4 (Yc x.l) none]]=YI (l++[x]):=by
 rw[YI,YI,List.map_append,List.map_cons,List.map_nil];rfl
set_option maxHeartbeats 4000000 in
theorem Ji (l:List Au.Lm)(hl:l.length<=9223372036854775807)(hs:∀ x∈l,x.l.length<=9223372036854775807/\∀ y∈x.l,y.path.length<=9223372036854775807/\y.s.length<=9223372036854775807):Zh Tryz.prog 9 [.sl 10 (YI l) none] (.v (.bool ((l.take 6).all Au.okL))):=by
 obtain⟨B,hB⟩:∃ B,(l.take 6).all Au.okL=B:=⟨_,rfl⟩
 rw[hB]
 have hm:∀ i (h:i<l.length),i<6->l[i]∈l.take 6:=λ i h h8=>by
  rw[List.mem_iff_getElem]
  exact⟨i,by rw[List.length_take];omega,by rw[List.getElem_take]⟩
 have hbad:∀ i (h:i<l.length),i<6->Au.okL l[i]=false->B=false:=λ i h h8 hf=>by
  rw[<-hB,List.all_eq_false]
  exact⟨l[i],hm i h h8,by rw[hf];simp⟩
 have hgood:(∀ i (h:i<l.length),i<6->Au.okL l[i]=true)->B=true:=λ h=>by
  rw[<-hB,List.all_eq_true]
  intro x hx
  obtain⟨i,hi,rfl⟩:=List.getElem_of_mem hx
  rw[List.getElem_take]
  rw[List.length_take] at hi
  exact h i (by omega) (by omega)
 refine Zn 0 43 [ResultVar.tmp 2] ZI Tryz.func9 rfl Tryz.ntmps9 rfl λ cx hnt hn0=>?_
 skip
 refine Zz ?_;refine Zx [] ZI hnt λ _ z9=>z9 _ _ ?_;refine Zz ?_;refine Zz ?_;refine Zx [] ZI hnt λ _ z9=>z9 _ _ ?_;refine Zt ?_
 refine Z6 (ι:={ j:Nat // j<=l.length/\∀ i (h:i<l.length),i<6->i<j->Au.okL l[i]=true }) (λ j=>[(.t 0,.sl 10 (YI l) none),(.t 3,.v (.int .i64 ↑j.1))]) 1 (λ j=>l.length-j.1) (⟨0,Nat.zero_le _,λ i h h8 h2=>by omega⟩) (VS.toA) λ j=>?_
 obtain⟨j,hj,hjo⟩:=j
 dsimp only
 by_cases hlt:j<l.length
 ·by_cases h8:j<6
  ·obtain⟨x,hx⟩:∃ x,l[j]=x:=⟨_,rfl⟩
   have hgd:(YI l).getD j []=[.sl 2 (eTys x.p.l.binds) none,.v (.int .i64 x.p.l.kind),.v (.int .i64 x.p.l.index),.sl 4 (eTms x.p.l.args) none,.sl 2 (eTys x.p.r.binds) none,.v (.int .i64 x.p.r.kind),.v (.int .i64 x.p.r.index),.sl 4 (eTms x.p.r.args) none,.sl 2 (eTys x.p.m) none,.sl 4 (Yc x.l) none]:=by rw[XZ l j hlt,hx];rfl
   have hxs:=hs x (hx ▸ List.getElem_mem hlt)
   have hF:=S0 [x.p.l,x.p.r] (by simp)
   have hS:=QU x.p.m
   have hG:=Oe x.l hxs.1 (λ y hy=>⟨(hxs.2 y hy).2,λ p _ h=>Wd _ (by have:=(Wp h).1;omega)⟩) (λ y hy=>(hxs.2 y hy).1)
   have e2:eTms [x.p.l,x.p.r]=[[.sl 2 (eTys x.p.l.binds) none,.v (.int .i64 x.p.l.kind),.v (.int .i64 x.p.l.index),.sl 4 (eTms x.p.l.args) none],[.sl 2 (eTys x.p.r.binds) none,.v (.int .i64 x.p.r.kind),.v (.int .i64 x.p.r.index),.sl 4 (eTms x.p.r.args) none]]:=by rw[<-Zu,<-Zu];rfl
   cases h1:[x.p.l,x.p.r].all Uz with
   | false=>
    rw[h1] at hF
    rw[hbad j hlt h8 (by rw[hx,Au.okL,h1];rfl)]
    refine Zz ?_;refine Zz ?_;refine Zx [(7,.v (.int .i64 (↑l.length))),(8,.v (.bool true)),(11,.v (.bool true))] ZI hnt λ K hK=>?_;refine And.intro (Zr (by rw[ZY])) ?_;refine And.intro (Z7 (by omega)) ?_;refine And.intro (Z7 (by omega)) ?_;refine hK _ _ ?_;clear hK K;refine Zy (t:=true) rfl ?_;rw[if_pos rfl];refine Zw ?_;refine Zz ?_;refine Zt ?_
    refine Zz ?_;refine Zx [(17,.q [.sl 2 (eTys x.p.l.binds) none,.v (.int .i64 x.p.l.kind),.v (.int .i64 x.p.l.index),.sl 4 (eTms x.p.l.args) none,.sl 2 (eTys x.p.r.binds) none,.v (.int .i64 x.p.r.kind),.v (.int .i64 x.p.r.index),.sl 4 (eTms x.p.r.args) none,.sl 2 (eTys x.p.m) none,.sl 4 (Yc x.l) none])] ZI hnt λ K hK=>?_;refine And.intro (⟨by omega,by rw[ZY];omega⟩) ?_
    refine And.intro (Zm.of_eq (by rw[Int.toNat_natCast,hgd])) ?_;refine hK _ _ ?_;clear hK K;refine Zz ?_;refine Zx [(24,.sl 4 (eTms [x.p.l,x.p.r]) none)] ZI hnt λ K hK=>?_;refine And.intro ((by rw[e2];exact Zm.untag _ _ _)) ?_;refine Zk (hF) ?_;refine hK _ _ ?_;clear hK K;refine Zy (t:=true) rfl ?_;rw[if_pos rfl];refine Zz ?_;refine Zx [] ZI hnt λ K hK=>?_
    refine hK _ _ ?_;clear hK K;refine Zv ?_
    exact Zi rfl
   | true=>
    rw[h1] at hF
    cases h2:(decide (x.p.m.length<=20)&&x.p.m.all Vy) with
    | false=>
     rw[h2] at hS
     rw[hbad j hlt h8 (by rw[hx,Au.okL,h1,h2];rfl)]
     refine Zz ?_;refine Zz ?_;refine Zx [(7,.v (.int .i64 (↑l.length))),(8,.v (.bool true)),(11,.v (.bool true))] ZI hnt λ K hK=>?_;refine And.intro (Zr (by rw[ZY])) ?_;refine And.intro (Z7 (by omega)) ?_;refine And.intro (Z7 (by omega)) ?_;refine hK _ _ ?_;clear hK K;refine Zy (t:=true) rfl ?_;rw[if_pos rfl];refine Zw ?_;refine Zz ?_;refine Zt ?_
     refine Zz ?_;refine Zx [(17,.q [.sl 2 (eTys x.p.l.binds) none,.v (.int .i64 x.p.l.kind),.v (.int .i64 x.p.l.index),.sl 4 (eTms x.p.l.args) none,.sl 2 (eTys x.p.r.binds) none,.v (.int .i64 x.p.r.kind),.v (.int .i64 x.p.r.index),.sl 4 (eTms x.p.r.args) none,.sl 2 (eTys x.p.m) none,.sl 4 (Yc x.l) none])] ZI hnt λ K hK=>?_;refine And.intro (⟨by omega,by rw[ZY];omega⟩) ?_
     refine And.intro (Zm.of_eq (by rw[Int.toNat_natCast,hgd])) ?_;refine hK _ _ ?_;clear hK K;refine Zz ?_;refine Zx [(24,.sl 4 (eTms [x.p.l,x.p.r]) none),(28,.ag [.v (.int .i64 0),.sl 2 (eTys []) none,.sl 2 (eTys []) none])] ZI hnt λ K hK=>?_;refine And.intro ((by rw[e2];exact Zm.untag _ _ _)) ?_;refine Zk (hF) ?_;refine And.intro (XP) ?_;refine Zk (hS) ?_;refine hK _ _ ?_;clear hK K
     refine Zy (t:=true) rfl ?_;rw[if_pos rfl];refine Zz ?_;refine Zx [] ZI hnt λ _ z9=>z9 _ _ ?_;refine Zv ?_
     exact Zi rfl
    | true=>
     rw[h2] at hS
     cases h3:(x.l.take 8).all Au.okS with
     | false=>
      rw[h3] at hG
      rw[hbad j hlt h8 (by rw[hx,Au.okL,h1,h2,h3];rfl)]
      refine Zz ?_;refine Zz ?_;refine Zx [(7,.v (.int .i64 (↑l.length))),(8,.v (.bool true)),(11,.v (.bool true))] ZI hnt λ K hK=>?_;refine And.intro (Zr (by rw[ZY])) ?_;refine And.intro (Z7 (by omega)) ?_;refine And.intro (Z7 (by omega)) ?_;refine hK _ _ ?_;clear hK K;refine Zy (t:=true) rfl ?_;rw[if_pos rfl];refine Zw ?_;refine Zz ?_;refine Zt ?_
      refine Zz ?_;refine Zx [(17,.q [.sl 2 (eTys x.p.l.binds) none,.v (.int .i64 x.p.l.kind),.v (.int .i64 x.p.l.index),.sl 4 (eTms x.p.l.args) none,.sl 2 (eTys x.p.r.binds) none,.v (.int .i64 x.p.r.kind),.v (.int .i64 x.p.r.index),.sl 4 (eTms x.p.r.args) none,.sl 2 (eTys x.p.m) none,.sl 4 (Yc x.l) none])] ZI hnt λ K hK=>?_;refine And.intro (⟨by omega,by rw[ZY];omega⟩) ?_
      refine And.intro (Zm.of_eq (by rw[Int.toNat_natCast,hgd])) ?_;refine hK _ _ ?_;clear hK K;refine Zz ?_;refine Zx [(24,.sl 4 (eTms [x.p.l,x.p.r]) none),(28,.ag [.v (.int .i64 0),.sl 2 (eTys []) none,.sl 2 (eTys []) none]),(37,.q [.sl 2 (eTys x.p.l.binds) none,.v (.int .i64 x.p.l.kind),.v (.int .i64 x.p.l.index),.sl 4 (eTms x.p.l.args) none,.sl 2 (eTys x.p.r.binds) none,.v (.int .i64 x.p.r.kind),.v (.int .i64 x.p.r.index),.sl 4 (eTms x.p.r.args) none,.sl 2 (eTys x.p.m) none,.sl 4 (Yc x.l) none])] ZI hnt λ K hK=>?_
      refine And.intro ((by rw[e2];exact Zm.untag _ _ _)) ?_;refine Zk (hF) ?_;refine And.intro (XP) ?_;refine Zk (hS) ?_;refine And.intro (⟨by omega,by rw[ZY];omega⟩) ?_;refine And.intro (Zm.of_eq (by rw[Int.toNat_natCast,hgd])) ?_;refine Zk (hG) ?_;refine hK _ _ ?_;clear hK K;refine Zy (t:=true) rfl ?_;rw[if_pos rfl];refine Zz ?_;refine Zx [] ZI hnt λ K hK=>?_
      refine hK _ _ ?_;clear hK K;refine Zv ?_
      exact Zi rfl
     | true=>
      rw[h3] at hG
      refine Zz ?_;refine Zz ?_;refine Zx [(7,.v (.int .i64 (↑l.length))),(8,.v (.bool true)),(11,.v (.bool true))] ZI hnt λ K hK=>?_;refine And.intro (Zr (by rw[ZY])) ?_;refine And.intro (Z7 (by omega)) ?_;refine And.intro (Z7 (by omega)) ?_;refine hK _ _ ?_;clear hK K;refine Zy (t:=true) rfl ?_;rw[if_pos rfl];refine Zw ?_;refine Zz ?_;refine Zt ?_
      refine Zz ?_;refine Zx [(17,.q [.sl 2 (eTys x.p.l.binds) none,.v (.int .i64 x.p.l.kind),.v (.int .i64 x.p.l.index),.sl 4 (eTms x.p.l.args) none,.sl 2 (eTys x.p.r.binds) none,.v (.int .i64 x.p.r.kind),.v (.int .i64 x.p.r.index),.sl 4 (eTms x.p.r.args) none,.sl 2 (eTys x.p.m) none,.sl 4 (Yc x.l) none])] ZI hnt λ K hK=>?_;refine And.intro (⟨by omega,by rw[ZY];omega⟩) ?_
      refine And.intro (Zm.of_eq (by rw[Int.toNat_natCast,hgd])) ?_;refine hK _ _ ?_;clear hK K;refine Zz ?_;refine Zx [(24,.sl 4 (eTms [x.p.l,x.p.r]) none),(28,.ag [.v (.int .i64 0),.sl 2 (eTys []) none,.sl 2 (eTys []) none]),(37,.q [.sl 2 (eTys x.p.l.binds) none,.v (.int .i64 x.p.l.kind),.v (.int .i64 x.p.l.index),.sl 4 (eTms x.p.l.args) none,.sl 2 (eTys x.p.r.binds) none,.v (.int .i64 x.p.r.kind),.v (.int .i64 x.p.r.index),.sl 4 (eTms x.p.r.args) none,.sl 2 (eTys x.p.m) none,.sl 4 (Yc x.l) none])] ZI hnt λ K hK=>?_
      refine And.intro ((by rw[e2];exact Zm.untag _ _ _)) ?_;refine Zk (hF) ?_;refine And.intro (XP) ?_;refine Zk (hS) ?_;refine And.intro (⟨by omega,by rw[ZY];omega⟩) ?_;refine And.intro (Zm.of_eq (by rw[Int.toNat_natCast,hgd])) ?_;refine Zk (hG) ?_;refine hK _ _ ?_;clear hK K;refine Zy (t:=false) rfl ?_;rw[if_neg (by simp)];refine Zw ?_;refine Zx [(14,.v (.int .i64 (↑(j+1))))] ZI hnt λ K hK=>?_
      refine And.intro Ww ?_;refine hK _ _ ?_;clear hK K
      refine⟨⟨j+1,hlt,λ i h h8 h3'=>if hij:i=j then by subst hij;rw[hx,Au.okL,h1,h2,h3];rfl else hjo i h h8 (by omega)⟩,by first | omega | (dsimp only;omega),VS.toA⟩
  rw[hgood λ i h hi8=>hjo i h hi8 (by omega)]
  refine Zz ?_;refine Zz ?_;refine Zx [(7,.v (.int .i64 (↑l.length))),(8,.v (.bool true)),(11,.v (.bool false))] ZI hnt λ K hK=>?_;refine And.intro (Zr (by rw[ZY])) ?_;refine And.intro (Z7 (by omega)) ?_;refine And.intro (Ze (by omega)) ?_;refine hK _ _ ?_;clear hK K;refine Zy (t:=false) rfl ?_;rw[if_neg (by simp)];refine Zg ?_;refine Zz ?_
  refine Zx [] ZI hnt λ _ z9=>z9 _ _ ?_;refine Zv ?_
  exact Zi rfl
 rw[hgood λ i h hi8=>hjo i h hi8 (by omega)]
 refine Zz ?_;refine Zz ?_;refine Zx [(7,.v (.int .i64 (↑l.length))),(8,.v (.bool false))] ZI hnt λ K hK=>?_;refine And.intro (Zr (by rw[ZY])) ?_;refine And.intro (Ze (by omega)) ?_;refine hK _ _ ?_;clear hK K;refine Zy (t:=false) rfl ?_;rw[if_neg (by simp)];refine Zg ?_;refine Zz ?_;refine Zx [] ZI hnt λ _ z9=>z9 _ _ ?_
 refine Zv ?_
 exact Zi rfl
set_option maxHeartbeats 4000000 in
theorem JB (l:List Au.Lm)(hl:l.length<=9223372036854775807)(hs:∀ x∈l.take 6,(x.p.l.full<=900000/\x.p.r.full<=900000/\Ty.sizes x.p.m<=900000)/\x.l.length<=9223372036854775807/\∀ y∈x.l.take 8,y.s.length<=9223372036854775807/\(∀ p∈y.s.take 10,p.2.full<=900000)):Zh Tryz.prog 13 [.sl 10 (YI l) none] (.ag [.sl 10 (YI ((l.take 6).map Au.cutL)) none]):=by
 have hm:∀ i (h:i<l.length),i<6->l[i]∈l.take 6:=λ i h h8=>by
  rw[List.mem_iff_getElem]
  exact⟨i,by rw[List.length_take];omega,by rw[List.getElem_take]⟩
 obtain⟨O,hO⟩:∃ O:Nat->List Au.Lm,∀ j,(l.take j).map Au.cutL=O j:=⟨_,λ _=>rfl⟩
 have hO0:O 0=[]:=by rw[<-hO];rfl
 have hOn:∀ j (h:j<l.length),O j++[Au.cutL l[j]]=O (j+1):=λ j h=>by rw[<-hO,<-hO,List.take_add_one,List.getElem?_eq_getElem h,List.map_append];rfl
 have hOl:∀ j,j<=l.length->(O j).length=j:=λ j h=>by rw[<-hO,List.length_map,List.length_take];omega
 refine Zn 0 34 [ResultVar.cell 2 47] ZI Tryz.func13 rfl Tryz.ntmps13 rfl λ cx hnt hn0=>?_
 skip
 refine Zz ?_;refine Zx [] ZI hnt λ _ z9=>z9 _ _ ?_;refine Zz ?_;refine Zx [] ZI hnt λ _ z9=>z9 _ _ ?_
 refine DW.vs (VS.row (k:=1) (off:=0) 112 10 rfl) ?_
 refine Zz ?_;refine Zz ?_;refine Zx [] ZI hnt λ _ z9=>z9 _ _ ?_;refine Zt ?_
 refine Z6 (ι:={ j:Nat // j<=l.length/\j<=6 }) (λ j=>[(.t 0,.sl 10 (YI l) none),(.t 2,.p 0 0),(.c 0 0,.v (.slice none 0 0)),(.t 3,.p 1 0),(.c 1 0,.sl 10 (YI (O j.1)) (some 2)),(.r 2,.rw 112 10 (O j.1).length),(.t 4,.v (.int .i64 ↑j.1))]) 20 (λ j=>l.length-j.1) (⟨0,Nat.zero_le _,Nat.zero_le _⟩) ((by dsimp only;rw[hO0];exact VS.toA)) λ j=>?_
 obtain⟨j,hj,hj8⟩:=j
 dsimp only
 by_cases hlt:j<l.length
 ·by_cases h8:j<6
  ·obtain⟨x,hx⟩:∃ x,l[j]=x:=⟨_,rfl⟩
   have hgd:(YI l).getD j []=[.sl 2 (eTys x.p.l.binds) none,.v (.int .i64 x.p.l.kind),.v (.int .i64 x.p.l.index),.sl 4 (eTms x.p.l.args) none,.sl 2 (eTys x.p.r.binds) none,.v (.int .i64 x.p.r.kind),.v (.int .i64 x.p.r.index),.sl 4 (eTms x.p.r.args) none,.sl 2 (eTys x.p.m) none,.sl 4 (Yc x.l) none]:=by rw[XZ l j hlt,hx];rfl
   obtain⟨z1,z2,z3⟩:=hs x (hx ▸ hm j hlt h8)
   have hP:=PL x.p z1.1 z1.2.1 z1.2.2
   have hS:=KR x.l z2 z3
   rw[Ys] at hP
   have hsn:=RO (O j) (Au.cutL x)
   rw[<-hx,hOn j hlt,hx] at hsn
   have hsn:YI (O j)++[[.sl 2 (eTys x.p.l.binds) none,.v (.int .i64 x.p.l.kind),.v (.int .i64 x.p.l.index),.sl 4 (eTms x.p.l.args) none,.sl 2 (eTys x.p.r.binds) none,.v (.int .i64 x.p.r.kind),.v (.int .i64 x.p.r.index),.sl 4 (eTms x.p.r.args) none,.sl 2 (eTys x.p.m) none,.sl 4 (Yc ((x.l.take 8).map Au.cut)) none]]=YI (O (j+1)):=hsn
   have hl1:(YI (O j)).length=(O j).length:=ZY _
   have hl3:=hOl j hj
   have hl2:(YI (O (j+1))).length=(O (j+1)).length:=ZY _
   refine Zz ?_;refine Zz ?_;refine Zx [(7,.v (.int .i64 (↑l.length))),(8,.v (.bool true)),(11,.v (.bool true))] ZI hnt λ K hK=>?_;refine And.intro (Zr (by rw[ZY])) ?_;refine And.intro (Z7 (by omega)) ?_;refine And.intro (Z7 (by omega)) ?_;refine hK _ _ ?_;clear hK K;refine Zy (t:=true) rfl ?_;rw[if_pos rfl];refine Zw ?_;refine Zz ?_;refine Zt ?_
   refine ZQ [(19,.q [.sl 2 (eTys x.p.l.binds) none,.v (.int .i64 x.p.l.kind),.v (.int .i64 x.p.l.index),.sl 4 (eTms x.p.l.args) none,.sl 2 (eTys x.p.r.binds) none,.v (.int .i64 x.p.r.kind),.v (.int .i64 x.p.r.index),.sl 4 (eTms x.p.r.args) none,.sl 2 (eTys x.p.m) none,.sl 4 (Yc x.l) none]),(25,.q [.sl 2 (eTys x.p.l.binds) none,.v (.int .i64 x.p.l.kind),.v (.int .i64 x.p.l.index),.sl 4 (eTms x.p.l.args) none,.sl 2 (eTys x.p.r.binds) none,.v (.int .i64 x.p.r.kind),.v (.int .i64 x.p.r.index),.sl 4 (eTms x.p.r.args) none,.sl 2 (eTys x.p.m) none,.sl 4 (Yc x.l) none])] ZI hnt λ K hK=>?_
   refine And.intro (⟨by omega,by rw[ZY];omega⟩) ?_;refine And.intro (Zm.of_eq (by rw[Int.toNat_natCast,hgd])) ?_;refine Zk (hP) ?_;refine And.intro (⟨by omega,by rw[ZY];omega⟩) ?_;refine And.intro (Zm.of_eq (by rw[Int.toNat_natCast,hgd])) ?_;refine Zk (hS) ?_;refine And.intro (⟨by omega,by rw[hl1];simp;omega⟩) ?_;refine hK _ _ (by kernel_rfl) ?_;clear hK K
   rw[hsn,hl2]
   refine Zx [(14,.v (.int .i64 (↑(j+1))))] ZI hnt λ K hK=>?_;refine And.intro Ww ?_;refine hK _ _ ?_;clear hK K
   refine⟨⟨j+1,hlt,h8⟩,by first | omega | (dsimp only;omega),VS.toA⟩
  have h8e:j=6:=by omega
  subst h8e
  rw[hO]
  refine Zz ?_;refine Zz ?_;refine Zx [(7,.v (.int .i64 (↑l.length))),(8,.v (.bool true)),(11,.v (.bool false))] ZI hnt λ K hK=>?_;refine And.intro (Zr (by rw[ZY])) ?_;refine And.intro (Z7 (by omega)) ?_;refine And.intro (Ze (by omega)) ?_;refine hK _ _ ?_;clear hK K;refine Zy (t:=false) rfl ?_;rw[if_neg (by simp)];refine Zg ?_;refine Zz ?_
  refine Zx [] ZI hnt λ _ z9=>z9 _ _ ?_;refine Zv ?_
  exact Zi rfl
 have hje:j=l.length:=by omega
 rw[show l.take 6=l.take j by rw[List.take_of_length_le (by omega),hje,List.take_length],hO]
 refine Zz ?_;refine Zz ?_;refine Zx [(7,.v (.int .i64 (↑l.length))),(8,.v (.bool false))] ZI hnt λ K hK=>?_;refine And.intro (Zr (by rw[ZY])) ?_;refine And.intro (Ze (by omega)) ?_;refine hK _ _ ?_;clear hK K;refine Zy (t:=false) rfl ?_;rw[if_neg (by simp)];refine Zg ?_;refine Zz ?_;refine Zx [] ZI hnt λ _ z9=>z9 _ _ ?_
 refine Zv ?_
 exact Zi rfl
set_option maxHeartbeats 4000000 in
theorem I0 (l:List Au.Lm)(hl:l.length<=100000)(hs:∀ x∈l,(x.p.l.full<=900000/\x.p.r.full<=900000/\Ty.sizes x.p.m<=900000)/\x.l.length<=100000/\∀ y∈x.l,y.s.length<=100000/\∀ p∈y.s,p.2.full<=900000):Zh Tryz.prog 14 [.ag [.sl 10 (YI l) none]] (.sl 10 (YI l) none):=by
 obtain⟨O,hO⟩:∃ O:Nat->List Au.Lm,∀ j,l.take j=O j:=⟨_,λ _=>rfl⟩
 have hO0:O 0=[]:=by rw[<-hO];rfl
 have hOn:∀ j (h:j<l.length),O j++[l[j]]=O (j+1):=λ j h=>by rw[<-hO,<-hO,List.take_add_one,List.getElem?_eq_getElem h];rfl
 have hOl:∀ j,j<=l.length->(O j).length=j:=λ j h=>by rw[<-hO,List.length_take];omega
 have hOm:O l.length=l:=by rw[<-hO,List.take_length]
 suffices h:Zh Tryz.prog 14 [.ag [.sl 10 (YI l) none]] (.sl 10 (YI (O l.length)) none) by rwa [hOm] at h
 refine Zn 0 31 [ResultVar.tmp 2] ZI Tryz.func14 rfl Tryz.ntmps14 rfl λ cx hnt hn0=>?_
 skip
 refine Zz ?_;refine Zx [] ZI hnt λ _ z9=>z9 _ _ ?_;refine Zz ?_;refine Zx [] ZI hnt λ _ z9=>z9 _ _ ?_
 refine DW.vs (VS.rowT (x:=3) (by rw[hnt];decide) 58 10 rfl) ?_
 refine Zz ?_;refine Zz ?_;refine Zx [] ZI hnt λ _ z9=>z9 _ _ ?_;refine Zt ?_
 refine Z6 (ι:={ j:Nat // j<=l.length }) (λ j=>[(.t 1,.p 0 0),(.c 0 0,.sl 10 (YI l) none),(.t 3,.sl 10 (YI (O j.1)) (some 3)),(.r 3,.rw 58 10 (O j.1).length),(.t 4,.v (.int .i64 ↑j.1))]) 20 (λ j=>l.length-j.1) (⟨0,Nat.zero_le _⟩) ((by dsimp only;rw[hO0];exact VS.toA)) λ j=>?_
 obtain⟨j,hj⟩:=j
 dsimp only
 by_cases hlt:j<l.length
 ·obtain⟨x,hx⟩:∃ x,l[j]=x:=⟨_,rfl⟩
  have hgd:(YI l).getD j []=[.sl 2 (eTys x.p.l.binds) none,.v (.int .i64 x.p.l.kind),.v (.int .i64 x.p.l.index),.sl 4 (eTms x.p.l.args) none,.sl 2 (eTys x.p.r.binds) none,.v (.int .i64 x.p.r.kind),.v (.int .i64 x.p.r.index),.sl 4 (eTms x.p.r.args) none,.sl 2 (eTys x.p.m) none,.sl 4 (Yc x.l) none]:=by rw[XZ l j hlt,hx];rfl
  obtain⟨z1,z2,z3⟩:=hs x (hx ▸ List.getElem_mem hlt)
  have hP:=I1 x.p z1.1 z1.2.1 z1.2.2
  have hS:=NF x.l z2 z3
  rw[Ys] at hP
  have hsn:=RO (O j) x
  rw[<-hx,hOn j hlt,hx] at hsn
  have hl1:(YI (O j)).length=(O j).length:=ZY _
  have hl3:=hOl j hj
  have hl2:(YI (O (j+1))).length=(O (j+1)).length:=ZY _
  refine Zz ?_;refine Zz ?_;refine Zx [(8,.v (.int .i64 (↑l.length))),(9,.v (.bool true))] ZI hnt λ K hK=>?_;refine And.intro (Zr (by rw[ZY])) ?_;refine And.intro (Z7 (by omega)) ?_;refine hK _ _ ?_;clear hK K;refine Zy (t:=true) rfl ?_;rw[if_pos rfl];refine Zw ?_;refine Zz ?_;refine Zt ?_;refine ZQ [(16,.q [.sl 2 (eTys x.p.l.binds) none,.v (.int .i64 x.p.l.kind),.v (.int .i64 x.p.l.index),.sl 4 (eTms x.p.l.args) none,.sl 2 (eTys x.p.r.binds) none,.v (.int .i64 x.p.r.kind),.v (.int .i64 x.p.r.index),.sl 4 (eTms x.p.r.args) none,.sl 2 (eTys x.p.m) none,.sl 4 (Yc x.l) none]),(23,.q [.sl 2 (eTys x.p.l.binds) none,.v (.int .i64 x.p.l.kind),.v (.int .i64 x.p.l.index),.sl 4 (eTms x.p.l.args) none,.sl 2 (eTys x.p.r.binds) none,.v (.int .i64 x.p.r.kind),.v (.int .i64 x.p.r.index),.sl 4 (eTms x.p.r.args) none,.sl 2 (eTys x.p.m) none,.sl 4 (Yc x.l) none])] ZI hnt λ K hK=>?_
  refine And.intro (⟨by omega,by rw[ZY];omega⟩) ?_;refine And.intro (Zm.of_eq (by rw[Int.toNat_natCast,hgd])) ?_;refine Zk (hP) ?_;refine And.intro (⟨by omega,by rw[ZY];omega⟩) ?_;refine And.intro (Zm.of_eq (by rw[Int.toNat_natCast,hgd])) ?_;refine Zk (hS) ?_;refine And.intro (⟨by omega,by rw[hl1];simp;omega⟩) ?_;refine hK _ _ (by kernel_rfl) ?_;clear hK K
  rw[hsn,hl2]
  refine Zx [(11,.v (.int .i64 (↑(j+1))))] ZI hnt λ K hK=>?_;refine And.intro Ww ?_;refine hK _ _ ?_;clear hK K
  refine⟨⟨j+1,hlt⟩,by first | omega | (dsimp only;omega),VS.toA⟩
 have hje:j=l.length:=by omega
 subst hje
 refine Zz ?_;refine Zz ?_;refine Zx [(8,.v (.int .i64 (↑l.length))),(9,.v (.bool false))] ZI hnt λ K hK=>?_;refine And.intro (Zr (by rw[ZY])) ?_;refine And.intro (Ze (by omega)) ?_;refine hK _ _ ?_;clear hK K;refine Zy (t:=false) rfl ?_;rw[if_neg (by simp)];refine Zg ?_;refine Zz ?_;refine Zx [] ZI hnt λ _ z9=>z9 _ _ ?_
 refine Zv ?_
 exact Zi rfl
def TRLE:List (Nat×TI):=[(31,TTM_31),(58,TRCE_58),(24,TS9_24),(33,TPR_33),(56,TAUQ_56),(3,TG_3),(74,TAUQ_74),(25,TPR_25)]
theorem Y2:Zd Tryz.prog TRLE:=(((((((((Zd.nil _).cons W9).cons WZ).cons ZW).cons Vu).cons XX).cons Xy).cons VK).cons Yl)
set_option maxHeartbeats 4000000 in
theorem MN (b:Int)(C Mw:List Ty)(eqs:List Li.Pr)(x:Au.Lm)(c:Int)(code:List Ty->Tm->Ty->Int) 
  (hT:Zh Tryz.prog 48 [.ag [.v (.int .i64 b),.sl 2 (eTys C) none,.sl 2 (eTys Mw) none],.ag (WG x.p)] (.v (.int .i64 c)))
  (hc:∀ X t u,Yp C x.p.m t X u (code X t u)) (hCl:C.length<=1000000) (hMl:x.p.m.length<=1000000)
  (hel:eqs.length<=1000) (hes:∀ q∈eqs,Au.EqOk q) (hl:x.l.length<=1000) (hx:∀ y∈x.l,Au.SOk y) (ht:Au.TOk x.p.l) :
  Zh Tryz.prog 49 [.ag [.v (.int .i64 b),.sl 2 (eTys C) none,.sl 2 (eTys Mw) none],.sl 9 (Yt eqs) none,.ag (PQ x)] (.v (.int .i64 (Au.lemma1 code eqs c x))):=by
 have hW:=Sl b C Mw x.p
 obtain⟨v,hv⟩:∃ v,Au.lemma1 code eqs c x=v:=⟨_,rfl⟩
 rw[hv]
 unfold Au.lemma1 at hv
 obtain⟨⟨o,e⟩,hoe⟩:∃ r,Au.chain code eqs x.l x.p.l=r:=⟨_,rfl⟩
 rw[hoe] at hv
 dsimp only at hv
 have hWok:∀ j,Au.TOk (Au.way code eqs x.l x.p.l j).1:=λ j=>Au.way_ok code hes (λ y hy q hq=>Bnd.of_full _ ((hx y hy).2.1 q hq).1 ((hx y hy).2.1 q hq).2) ht j
 have hSp:=λ j (h:j<x.l.length)=>KM b C x.p.m eqs (Au.way code eqs x.l x.p.l j).1 x.l[j] code hc hCl hMl hel hes (hx _ (List.getElem_mem h)) (hWok j)
 obtain⟨V,hV⟩:∃ V:Nat->Tm×Int,∀ j,Au.way code eqs x.l x.p.l j=V j:=⟨_,λ _=>rfl⟩
 have hV0:V 0=(x.p.l,0):=by rw[<-hV];rfl
 have hVn:∀ j (h:j<x.l.length),(V j).2=0->Au.step code eqs x.l[j] ((V j).1,0)=V (j+1):=λ j h h0=>by rw[<-Au.chain_one,<-hV j,<-hV (j+1)];exact(Au.way_next code eqs x.l x.p.l j h (by rw[hV];exact h0)).symm
 have hVs:∀ j,(V j).2≠0->V j=(o,e):=λ j h=>by rw[<-hV,<-Au.way_stop code eqs x.l x.p.l j (by rw[hV];exact h),hoe]
 have hVa:V x.l.length=(o,e):=by rw[<-hV,<-Au.way_all,hoe]
 have hE:=TJ o x.p.r
 rw[Ys] at hT hW
 simp only[hV] at hSp
 simp only[Zu] at hE
 clear hWok hoe hV
 unfold PQ
 by_cases h0:c=0
 ·rw[if_neg (λ h=>h h0)] at hv
  refine Zn 0 51 [ResultVar.tmp 6] Y2 Tryz.func49 rfl Tryz.ntmps49 rfl λ cx hnt hn0=>?_
  skip
  refine Zz ?_;refine Zx [] Y2 hnt λ _ z9=>z9 _ _ ?_;refine Zz ?_;refine Zx [] Y2 hnt λ K hK=>?_;refine Zk (hT) ?_;refine hK _ _ ?_;clear hK K;refine Zz ?_;refine Zz ?_;refine Zx [(15,.v (.bool false))] Y2 hnt λ K hK=>?_;refine And.intro (Yq h0) ?_;refine hK _ _ ?_;clear hK K;refine Zy (t:=false) rfl ?_;rw[if_neg (by simp)]
  refine Zw ?_;refine Zz ?_;refine Zx [] Y2 hnt λ _ z9=>z9 _ _ ?_;refine Zz ?_;refine Zz ?_;refine Zx [] Y2 hnt λ _ z9=>z9 _ _ ?_;refine Zt ?_
  refine Z6 (ι:={ j:Nat // j<=x.l.length/\(V j).2=0 }) (λ j=>[(.t 1,.sl 9 (Yt eqs) none),(.t 3,.p 0 0),(.t 5,.p 1 0),(.t 8,.p 13 0),(.t 9,.v (.int .i64 ↑j.1)),(.c 0 0,.v (.int .i64 b)),(.c 0 1,.sl 2 (eTys C) none),(.c 0 2,.sl 2 (eTys Mw) none),(.c 1 0,.sl 2 (eTys x.p.l.binds) none),(.c 1 1,.v (.int .i64 x.p.l.kind)),(.c 1 2,.v (.int .i64 x.p.l.index)),(.c 1 3,.sl 4 (eTms x.p.l.args) none),(.c 1 4,.sl 2 (eTys x.p.r.binds) none),(.c 1 5,.v (.int .i64 x.p.r.kind)),(.c 1 6,.v (.int .i64 x.p.r.index)),(.c 1 7,.sl 4 (eTms x.p.r.args) none),(.c 1 8,.sl 2 (eTys x.p.m) none),(.c 1 9,.sl 4 (Yc x.l) none),(.c 13 0,.sl 2 (eTys (V j.1).1.binds) none),(.c 13 1,.v (.int .i64 (V j.1).1.kind)),(.c 13 2,.v (.int .i64 (V j.1).1.index)),(.c 13 3,.sl 4 (eTms (V j.1).1.args) none)]) 60 (λ j=>x.l.length-j.1) (⟨0,Nat.zero_le _,by rw[hV0]⟩) ((by dsimp only;rw[hV0];exact VS.toA)) λ j=>?_
  obtain⟨j,hj,hj0⟩:=j
  dsimp only
  by_cases hlt:j<x.l.length
  ·have hp:=hSp j hlt
   rw[hVn j hlt hj0] at hp
   obtain⟨y,hy⟩:∃ y,x.l[j]=y:=⟨_,rfl⟩
   have hgd:(Yc x.l).getD j []=[.v (.int .i64 y.eq),.v (.bool y.back),.sl 1 (YJ y.path) none,.sl 5 (Z5 y.s) none]:=by rw[V1 x.l j hlt,hy];rfl
   rw[hy] at hp
   unfold Nl at hp
   rw[Zu (V j).1,Zu (V (j+1)).1] at hp
   by_cases hn:(V (j+1)).2=0
   ·skip
    refine Zz ?_;refine Zz ?_;refine Zx [(23,.v (.int .i64 (↑x.l.length))),(24,.v (.bool true))] Y2 hnt λ K hK=>?_;refine And.intro (Zr (by rw[ZH])) ?_;refine And.intro (Z7 (by omega)) ?_;refine hK _ _ ?_;clear hK K;refine Zy (t:=true) rfl ?_;rw[if_pos rfl];refine Zw ?_;refine Zz ?_;refine Zt ?_;refine Zz ?_;refine ZQ [(37,.q [.v (.int .i64 y.eq),.v (.bool y.back),.sl 1 (YJ y.path) none,.sl 5 (Z5 y.s) none])] Y2 hnt λ K hK=>?_
    refine Zk (hW) ?_;refine And.intro (⟨by omega,by rw[ZH];omega⟩) ?_;refine And.intro (Zm.of_eq (by rw[Int.toNat_natCast,hgd])) ?_;refine Zk (hp) ?_;refine hK _ _ (by kernel_rfl) ?_;clear hK K;refine Zz ?_;refine Zx [(43,.v (.bool false))] Y2 hnt λ K hK=>?_;refine And.intro (Yq hn) ?_;refine hK _ _ ?_;clear hK K;refine Zy (t:=false) rfl ?_;rw[if_neg (by simp)]
    refine Zw ?_;refine Zx [(26,.v (.int .i64 (↑(j+1))))] Y2 hnt λ K hK=>?_;refine And.intro Ww ?_;refine hK _ _ ?_;clear hK K
    refine⟨⟨j+1,hlt,hn⟩,by first | omega | (dsimp only;omega),VS.toA⟩
   have he:=hVs (j+1) hn
   rw[he] at hn
   have hn:e≠0:=hn
   rw[if_neg (λ h=>hn h.1)] at hv
   subst hv
   rw[he] at hp
   refine Zz ?_;refine Zz ?_;refine Zx [(23,.v (.int .i64 (↑x.l.length))),(24,.v (.bool true))] Y2 hnt λ K hK=>?_;refine And.intro (Zr (by rw[ZH])) ?_;refine And.intro (Z7 (by omega)) ?_;refine hK _ _ ?_;clear hK K;refine Zy (t:=true) rfl ?_;rw[if_pos rfl];refine Zw ?_;refine Zz ?_;refine Zt ?_;refine Zz ?_;refine ZQ [(37,.q [.v (.int .i64 y.eq),.v (.bool y.back),.sl 1 (YJ y.path) none,.sl 5 (Z5 y.s) none])] Y2 hnt λ K hK=>?_
   refine Zk (hW) ?_;refine And.intro (⟨by omega,by rw[ZH];omega⟩) ?_;refine And.intro (Zm.of_eq (by rw[Int.toNat_natCast,hgd])) ?_;refine Zk (hp) ?_;refine hK _ _ (by kernel_rfl) ?_;clear hK K;refine Zz ?_;refine Zx [(43,.v (.bool true))] Y2 hnt λ K hK=>?_;refine And.intro (YO hn) ?_;refine hK _ _ ?_;clear hK K;refine Zy (t:=true) rfl ?_;rw[if_pos rfl]
   refine Zz ?_;refine Zx [] Y2 hnt λ _ z9=>z9 _ _ ?_;refine Zv ?_
   exact Zi rfl
  have hje:j=x.l.length:=by omega
  subst hje
  rw[hVa] at hj0 ⊢
  have hj0:e=0:=hj0
  subst hj0
  by_cases h2:o=x.p.r
  ·rw[if_neg (λ h=>h.2 h2)] at hv
   subst hv
   rw[decide_eq_true h2] at hE
   refine Zz ?_;refine Zz ?_;refine Zx [(23,.v (.int .i64 (↑x.l.length))),(24,.v (.bool false))] Y2 hnt λ K hK=>?_;refine And.intro (Zr (by rw[ZH])) ?_;refine And.intro (Ze (by omega)) ?_;refine hK _ _ ?_;clear hK K;refine Zy (t:=false) rfl ?_;rw[if_neg (by simp)];refine Zg ?_;refine Zz ?_;refine Zz ?_;refine Zx [] Y2 hnt λ K hK=>?_
   refine Zk (hE) ?_;refine hK _ _ ?_;clear hK K;refine Zy (t:=false) rfl ?_;rw[if_neg (by simp)];refine Zw ?_;refine Zz ?_;refine Zx [] Y2 hnt λ _ z9=>z9 _ _ ?_;refine Zv ?_
   exact Zi rfl
  rw[if_pos ⟨rfl,h2⟩] at hv
  subst hv
  rw[decide_eq_false h2] at hE
  refine Zz ?_;refine Zz ?_;refine Zx [(23,.v (.int .i64 (↑x.l.length))),(24,.v (.bool false))] Y2 hnt λ K hK=>?_;refine And.intro (Zr (by rw[ZH])) ?_;refine And.intro (Ze (by omega)) ?_;refine hK _ _ ?_;clear hK K;refine Zy (t:=false) rfl ?_;rw[if_neg (by simp)];refine Zg ?_;refine Zz ?_;refine Zz ?_;refine Zx [] Y2 hnt λ K hK=>?_
  refine Zk (hE) ?_;refine hK _ _ ?_;clear hK K;refine Zy (t:=true) rfl ?_;rw[if_pos rfl];refine Zz ?_;refine Zx [] Y2 hnt λ _ z9=>z9 _ _ ?_;refine Zv ?_
  exact Zi rfl
 rw[if_pos h0] at hv
 subst hv
 refine Zn 0 51 [ResultVar.tmp 6] Y2 Tryz.func49 rfl Tryz.ntmps49 rfl λ cx hnt hn0=>?_
 skip
 refine Zz ?_;refine Zx [] Y2 hnt λ _ z9=>z9 _ _ ?_;refine Zz ?_;refine Zx [] Y2 hnt λ K hK=>?_;refine Zk (hT) ?_;refine hK _ _ ?_;clear hK K;refine Zz ?_;refine Zz ?_;refine Zx [(15,.v (.bool true))] Y2 hnt λ K hK=>?_;refine And.intro (YO h0) ?_;refine hK _ _ ?_;clear hK K;refine Zy (t:=true) rfl ?_;rw[if_pos rfl]
 refine Zz ?_;refine Zx [] Y2 hnt λ _ z9=>z9 _ _ ?_;refine Zv ?_
 exact Zi rfl
end Go.Proofs.YtclihnccilkohaaGreat
