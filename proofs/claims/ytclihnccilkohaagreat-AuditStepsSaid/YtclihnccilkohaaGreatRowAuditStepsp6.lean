/-
  The readings of a row's arguments that are pairs, and what was opened, told as deep values. Terms, walked in the deep way: Equal, Eta, Var; the document's Same, Eta, Var. term.Loose. Package pattern, walked in the deep way: what is small. Deep values: a function that hands back a new map. Package pattern, walked in the deep way: Flex, Vars, places, types. Package pattern, walked in the deep way: places, types. The laws' helpers of layers 8 and 9: Low, Of. Package pattern, walked in the deep way: turned, Take. Package pattern, walked in the deep way: Take. Deep values: calls that grow rows of their callers. Package pattern, walked in the deep way: uses, Uses, Is. Deep values: rows that nothing else reads: how they begin, how they are handed on. Sorting that keeps the order of equal keys, in plain words. Places, uses and matching in plain Lean: the document's answer and the program's are one. Package slices' stable sort of pairs, walked in the deep way: insertion, swaps, rotation. Package slices' stable sort of pairs, walked in the deep way: the merge. Package slices' stable sort of pairs, walked in the deep way: the merge of many. Package slices' stable sort of pairs, walked in the deep way: the whole; subst.sorted, subst.Of. Package subst's lists, walked in the deep way: Without, Set, Domain, Get. The document's places and uses, walked in the deep way: All, At, Has, Vars, Uses; loose indexes. How many types and terms: exactly what the reference counts. How many terms: exactly what the reference counts; the laws' Few. What the laws' Few tells of a term. The laws' Small (seats without Chk9). Types and terms of the laws, there and back, walked in the deep way. Pairs of terms with the types of their metavariables (rule.Pair, filigreeref17.Pair), and the laws' helpers for them: To, Of, Same, Few. The readings of a row's arguments that are pairs of terms with their metavariables' types. The readings of five arguments. The readings of a row's arguments that are lists of ints. Terms that are the same, as deep contracts. Package match, walked in the deep way: put. Package match, walked in the deep way: walk, may. Package lift, walked in the deep way: variables, each, term. The document's uses, and what is taken out, walked in the deep way. A loop over a function, whose round writes to what its own assignment laid. The reference's loose indexes, and terms that grow. The document's heads of a term. The document's Heads and Count. term.Count.
-/
import Derived.Test.YtclihnccilkohaaGreatRowAuditStepsp1
import Derived.Test.YtclihnccilkohaaGreatRowAuditStepsp5
import Derived.Test.YtclihnccilkohaaGreatRowAuditStepsp4
import Derived.Carry
import Derived.Deep.QuietTactic
import Derived.BigQuiet
import Derived.WalkSmall
set_option maxRecDepth 100000
set_option maxHeartbeats 1000000
set_option linter.unusedVariables false
set_option linter.unusedSimpArgs false
namespace Go.Proofs.YtclihnccilkohaaGreat
open Go.RowKit Go.ChangeShapes Go.WideShapes Go.ChangeAt
def Fv:Rp (Int×Tm) where
 n:=5
 R:=fun F w x p=>∃ b k i a,x=[.int .i64 p.1,b,k,i,a]∧Xv F w b k i a p.2
 len:=fun⟨_,_,_,_,e,_⟩=>by rw[e];rfl
 one:=fun⟨b,k,i,a,e,h⟩ v hv=>by
  have h1:=VZ.one (F:=_) (w:=_) (x:=[b,k,i,a]) (a:=_) ⟨b,k,i,a,rfl,h⟩
  rw[e] at hv
  rcases List.mem_cons.1 hv with rfl | hv
  ·rfl
  ·exact h1 v hv
 keep:=fun⟨b,k,i,a,e,h⟩ hk=>⟨b,k,i,a,e,h.keep hk⟩
 weaken:=fun⟨b,k,i,a,e,h⟩ hf=>⟨b,k,i,a,e,h.weaken hf⟩
theorem S9:Tryz.prog.cellsOf 130=5:=by kernel_rfl
theorem Cp {α:Type}{cs:List α}(h:cs.length=5):∃ a b c d e,cs=[a,b,c,d,e]:=by
 match cs,h with
 | [a,b,c,d,e],_=>exact⟨a,b,c,d,e,rfl⟩
theorem Za9 {H:Type}(enc:TypeId×Value→H)(W:World)(base:Nat)(sp:Nat→Bool)(hd:Bool):∀ n,Rd enc W base sp hd 130 Fv (fun _ p=>p.2.Fit∧-9223372036854775808≤p.1∧p.1≤9223372036854775807) n:=by
 intro n cs x h
 obtain⟨xs,m,rfl,rfl,hl,hlen,hf⟩:=DataW.trod_struct Tryz.underlying130 h
 rw[S9] at hl
 obtain⟨v0,v1,v2,v3,v4,rfl⟩:=Cp hl
 have h0:DataW.trod enc Tryz.prog W base sp hd m 3 ([v0,v1,v2,v3,v4].take (Tryz.prog.cellsOf 3))=xs[0]?:=hf 0 _ rfl
 have h1:DataW.trod enc Tryz.prog W base sp hd m 31 ([v1,v2,v3,v4].take (Tryz.prog.cellsOf 31))=xs[1]?:=hf 1 _ rfl
 rw[WV] at h0
 rw[V8] at h1
 have hlen:xs.length=2:=hlen
 rw[List.getElem?_eq_getElem (by omega)] at h0 h1
 obtain⟨i,hi,_,hw⟩:=DataW.trod_int Tryz.underlying3 h0
 have e0:[v0]=[.int .i64 i]:=hi
 simp only[List.cons.injEq,and_true] at e0
 subst e0
 obtain⟨t,⟨b,k,j,a,hx,ht⟩,hfit⟩:=rdM enc W base sp hd m _ _ h1
 have e1:[v1,v2,v3,v4]=[b,k,j,a]:=hx
 simp only[List.cons.injEq,and_true] at e1
 obtain⟨rfl,rfl,rfl,rfl⟩:=e1
 exact⟨(i,t),⟨_,_,_,_,rfl,ht⟩,hfit,SU hw⟩
theorem Te {α H:Type}{l:List α}{d:DataW H}{Q:α→Prop}(h:∀ i (h:i<l.length),∃ x es spare,d=.slice es spare∧x∈es∧Q l[i]):∀ p∈l,Q p:=fun p hp=>by
 obtain⟨i,hi,rfl⟩:=List.getElem_of_mem hp
 obtain⟨_,_,_,_,_,h⟩:=h i hi
 exact h
theorem Yd.len1 {α:Type}{r:Rp α}{F:Nat→Prop}{w:World}{v:Value}{l:List α}(h:Yd r F w v l):l.length≤9223372036854775807:=by
 obtain⟨a,c,bl,off,X,_,h1,_⟩:=h
 have:maxLen=9223372036854775807:=rfl
 omega
section
variable {m:Mp} {w:World} {F:Nat→Prop}
theorem PY {v:Value}{l:List Ty}(h:Yd YO F w v l):ZD m (VQ F w) w v (.sl 2 (eTys l) none):=by
 rw[Xw]
 exact X4 (r:=YO) (e:=eTy) XV We (fun x t hx=>by
  obtain⟨s,b,rfl,ht⟩:=hx
  exact Sr XV t ht) h
theorem Fe {v:Value}{l:List (Int×Tm)}(h:Yd Fv F w v l):ZD m (VQ F w) w v (.sl 5 (Z1 l) none):=
 X4 (r:=Fv) (e:=Wd) XV (fun p=>by rw[ZK];rfl) (fun x p hx=>by
  obtain⟨b,k,i,a,rfl,ht⟩:=hx
  exact⟨.v _,Vd XV p.2 ht⟩) h
theorem Bo {b k i a:Value}{t:Tm}(h:Xv F w b k i a t):ZD m (VQ F w) w (.agg #[b,k,i,a]) (.ag (eTm t)):=XY.2 ⟨[b,k,i,a],rfl,Vd XV t h⟩
theorem Ff {cv mv:Value}{b:Int}{C M:List Ty}(h1:Yd YO F w cv C)(h2:Yd YO F w mv M):ZD m (VQ F w) w (.agg #[.int .i64 b,cv,mv]) (.ag [.v (.int .i64 b),.sl 2 (eTys C) none,.sl 2 (eTys M) none]):=
 XY.2 ⟨[.int .i64 b,cv,mv],rfl,.v _,PY h1,PY h2,trivial⟩
end
theorem R4 {f:FuncId}{ds:List D}(h:Zd Tryz.prog f ds (.v (.bool true))){w:World}{vs:List Value}(hv:Yc m00 (VQ (fun _=>True) w) w vs ds):
  Calls Tryz.prog f vs.toArray w fun e w'=>e=.returned (.bool true)∧Below w.heap.size w w':=by
 refine(TD h EY hv).mono ?_
 rintro e w' ⟨v,Im',rfl,h1,h2,_⟩
 have:=ZA.1 h2;subst this
 exact⟨rfl,h1⟩
end Go.Proofs.YtclihnccilkohaaGreat
namespace Go.Proofs.YtclihnccilkohaaGreat
open Go.RowKit
def TTM_62:TI:=⟨4,true,[Value.slice none 0 0,Value.int IntKind.i64 0,Value.int IntKind.i64 0,Value.slice none 0 0],[(0,1,false),(1,2,true),(3,1,false)],none,64,6,none,false⟩
theorem JA:TypOk Tryz.prog 62 TTM_62:=by constructor <;> kernel_rfl
def TTM_31:TI:=⟨4,true,[Value.slice none 0 0,Value.int IntKind.i64 0,Value.int IntKind.i64 0,Value.slice none 0 0],[(0,1,false),(1,2,true),(3,1,false)],none,64,6,none,false⟩
theorem Iv:TypOk Tryz.prog 31 TTM_31:=by constructor <;> kernel_rfl
def TTM_29:TI:=⟨1,false,[Value.slice none 0 0],[],some 31,24,5,none,false⟩
theorem Iu:TypOk Tryz.prog 29 TTM_29:=by constructor <;> kernel_rfl
def TTM_60:TI:=⟨1,false,[Value.slice none 0 0],[],some 62,24,5,none,false⟩
theorem Iz:TypOk Tryz.prog 60 TTM_60:=by constructor <;> kernel_rfl
def TTM_3:TI:=⟨1,false,[Value.int IntKind.i64 0],[],none,8,2,none,false⟩
theorem EI:TypOk Tryz.prog 3 TTM_3:=by constructor <;> kernel_rfl
def TTM_41:TI:=⟨1,false,[Value.slice none 0 0],[],some 106,24,5,none,false⟩
theorem Iw:TypOk Tryz.prog 41 TTM_41:=by constructor <;> kernel_rfl
def TTM_22:TI:=⟨1,false,[Value.slice none 0 0],[],some 104,24,5,none,false⟩
theorem Is:TypOk Tryz.prog 22 TTM_22:=by constructor <;> kernel_rfl
def TTM_59:TI:=⟨2,true,[Value.int IntKind.i64 0,Value.int IntKind.i64 0],[(0,1,false),(1,1,false)],none,16,6,none,true⟩
theorem Iy:TypOk Tryz.prog 59 TTM_59:=by constructor <;> kernel_rfl
def TTM_28:TI:=⟨2,true,[Value.int IntKind.i64 0,Value.int IntKind.i64 0],[(0,1,false),(1,1,false)],none,16,6,none,true⟩
theorem It:TypOk Tryz.prog 28 TTM_28:=by constructor <;> kernel_rfl
def TTM_143:TI:=⟨1,false,[Value.nilFunc],[],none,8,8,none,false⟩
theorem Od:TypOk Tryz.prog 143 TTM_143:=by constructor <;> kernel_rfl
def TTM_94:TI:=⟨1,false,[Value.nilFunc],[],none,8,8,none,false⟩
theorem JB:TypOk Tryz.prog 94 TTM_94:=by constructor <;> kernel_rfl
def TTM_104:TI:=⟨2,true,[Value.slice none 0 0,Value.int IntKind.i64 0],[(0,1,false),(1,1,false)],none,32,6,none,false⟩
theorem Ob:TypOk Tryz.prog 104 TTM_104:=by constructor <;> kernel_rfl
def TTM_106:TI:=⟨2,true,[Value.slice none 0 0,Value.int IntKind.i64 0],[(0,1,false),(1,1,false)],none,32,6,none,false⟩
theorem Oc:TypOk Tryz.prog 106 TTM_106:=by constructor <;> kernel_rfl
def TTM:List (Nat×TI):=[(62,TTM_62),(31,TTM_31),(29,TTM_29),(60,TTM_60),(3,TTM_3),(41,TTM_41),(22,TTM_22),(59,TTM_59),(28,TTM_28),(143,TTM_143),(94,TTM_94),(104,TTM_104),(106,TTM_106)]
theorem ZJ:Zh Tryz.prog TTM:=((((((((((((((Zh.nil _).cons Oc).cons Ob).cons JB).cons Od).cons It).cons Iy).cons Is).cons Iw).cons EI).cons Iz).cons Iu).cons Iv).cons JA)
theorem VE (b:List Ty)(k i:Int)(a:List Tm):(Tm.mk b k i a).binds=b:=rfl
theorem T0 (b:List Ty)(k i:Int)(a:List Tm):(Tm.mk b k i a).kind=k:=rfl
theorem VK (b:List Ty)(k i:Int)(a:List Tm):(Tm.mk b k i a).index=i:=rfl
theorem Vh (b:List Ty)(k i:Int)(a:List Tm):(Tm.mk b k i a).args=a:=rfl
theorem BN (l r:List Tm)(h:∀ t∈l,∀ u,Zd Tryz.prog 33 [.ag (eTm t),.ag (eTm u)] (.v (.bool (decide (t=u))))):Zd Tryz.prog 68 [.sl 4 (eTms l) none,.sl 4 (eTms r) none,.fn 33 []] (.v (.bool (decide (l=r)))):=ZE.lens fun hlen=>by
 have hl:l.length≤9223372036854775807:=by have:=hlen _ (List.mem_cons_self ..);simp only[slOk,sl1,Zs] at this;exact this
 by_cases hlr:l.length=r.length
 ·skip
  refine Zm 0 32 [ResultVar.tmp 6] ZJ Tryz.func68 rfl Tryz.ntmps68 rfl fun cx hnt hn0=>?_
  ·skip
   refine Zz ?_;refine Zx [] ZJ hnt fun _ z9=>z9 _ _ ?_;refine Zz ?_;refine Zz ?_;refine Zx [(11,.v (.int .i64 (↑l.length))),(13,.v (.int .i64 (↑r.length))),(14,.v (.bool false))] ZJ hnt fun K hK=>?_;refine And.intro (Zq (by rw[Zs])) ?_;refine And.intro (Zq (by rw[Zs])) ?_;refine And.intro (Yy (by omega)) ?_;refine hK _ _ ?_;clear hK K
   refine Zy (t:=false) rfl ?_;rw[if_neg (by simp)];refine Zw ?_;refine Zz ?_;refine Zz ?_;refine Zx [(16,.v (.int .i64 (↑l.length)))] ZJ hnt fun K hK=>?_;refine And.intro (Zq (by rw[Zs])) ?_;refine hK _ _ ?_;clear hK K;refine Zt ?_
   refine Z4 (ι:={ j:Nat // l.take j=r.take j }) (fun j=>[(.t 1,.sl 4 (eTms r) none),(.t 2,.fn 33 []),(.t 15,.sl 4 (eTms l) none),(.t 16,.v (.int .i64 ↑l.length)),(.t 17,.v (.int .i64 ↑j.1))]) 0 (fun j=>l.length-j.1) (⟨0,rfl⟩) (VS.toA) fun j=>?_
   obtain⟨j,hj⟩:=j
   dsimp only
   by_cases hlt:j<l.length
   ·have hlt2:j<r.length:=by omega
    have hq:=h l[j] (List.getElem_mem hlt) r[j]
    rw[Zv,Zv] at hq
    by_cases he:l[j]=r[j]
    ·rw[decide_eq_true he] at hq
     refine Zz ?_;refine Zx [(18,.v (.bool true))] ZJ hnt fun K hK=>?_;refine And.intro YD ?_;refine hK _ _ ?_;clear hK K;refine Zz ?_;refine Zy (t:=true) rfl ?_;rw[if_pos rfl];refine Zw ?_;refine Zz ?_;refine Zt ?_;refine Zz ?_;refine Zx [(20,.q [.sl 2 (eTys l[j].binds) none,.v (.int .i64 l[j].kind),.v (.int .i64 l[j].index),.sl 4 (eTms l[j].args) none])] ZJ hnt fun K hK=>?_
     refine And.intro (Xg (Zs l)) ?_;refine And.intro (Xh (ZX l j) (Zv _)) ?_;refine hK _ _ ?_;clear hK K;refine Zz ?_;refine Zx [(24,.q [.sl 2 (eTys r[j].binds) none,.v (.int .i64 r[j].kind),.v (.int .i64 r[j].index),.sl 4 (eTms r[j].args) none])] ZJ hnt fun K hK=>?_;refine And.intro (Xg (Zs r)) ?_;refine And.intro (Xh (ZX r j) (Zv _)) ?_;refine hK _ _ ?_;clear hK K
     refine Zz ?_;refine Zx [] ZJ hnt fun K hK=>?_;refine Ze (hq) ?_;refine hK _ _ ?_;clear hK K;refine Zy (t:=false) rfl ?_;rw[if_neg (by simp)];refine Zw ?_;refine Zx [(31,.v (.int .i64 (↑(j+1))))] ZJ hnt fun K hK=>?_;refine And.intro XR ?_;refine hK _ _ ?_;clear hK K
     refine⟨⟨j+1,X9 hj hlt hlt2 he⟩,by first | omega | (dsimp only;omega),VS.toA⟩
    ·rw[decide_eq_false he] at hq
     rw[decide_eq_false (RW hlt hlt2 he)]
     refine Zz ?_;refine Zx [(18,.v (.bool true))] ZJ hnt fun K hK=>?_;refine And.intro YD ?_;refine hK _ _ ?_;clear hK K;refine Zz ?_;refine Zy (t:=true) rfl ?_;rw[if_pos rfl];refine Zw ?_;refine Zz ?_;refine Zt ?_;refine Zz ?_;refine Zx [(20,.q [.sl 2 (eTys l[j].binds) none,.v (.int .i64 l[j].kind),.v (.int .i64 l[j].index),.sl 4 (eTms l[j].args) none])] ZJ hnt fun K hK=>?_
     refine And.intro (Xg (Zs l)) ?_;refine And.intro (Xh (ZX l j) (Zv _)) ?_;refine hK _ _ ?_;clear hK K;refine Zz ?_;refine Zx [(24,.q [.sl 2 (eTys r[j].binds) none,.v (.int .i64 r[j].kind),.v (.int .i64 r[j].index),.sl 4 (eTms r[j].args) none])] ZJ hnt fun K hK=>?_;refine And.intro (Xg (Zs r)) ?_;refine And.intro (Xh (ZX r j) (Zv _)) ?_;refine hK _ _ ?_;clear hK K
     refine Zz ?_;refine Zx [] ZJ hnt fun K hK=>?_;refine Ze (hq) ?_;refine hK _ _ ?_;clear hK K;refine Zy (t:=true) rfl ?_;rw[if_pos rfl];refine Zz ?_;refine Zx [] ZJ hnt fun _ z9=>z9 _ _ ?_;refine Zu ?_
     exact Zj rfl
   ·rw[decide_eq_true (Wm hj (by omega) (by omega))]
    refine Zz ?_;refine Zx [(18,.v (.bool false))] ZJ hnt fun K hK=>?_;refine And.intro Xq ?_;refine hK _ _ ?_;clear hK K;refine Zz ?_;refine Zy (t:=false) rfl ?_;rw[if_neg (by simp)];refine Zc ?_;refine Zz ?_;refine Zx [] ZJ hnt fun _ z9=>z9 _ _ ?_;refine Zu ?_
    exact Zj rfl
 ·rw[decide_eq_false (fun e=>hlr (by rw[e]))]
  refine Zm 0 32 [ResultVar.tmp 6] ZJ Tryz.func68 rfl Tryz.ntmps68 rfl fun cx hnt hn0=>?_
  ·skip
   refine Zz ?_;refine Zx [] ZJ hnt fun _ z9=>z9 _ _ ?_;refine Zz ?_;refine Zz ?_;refine Zx [(11,.v (.int .i64 (↑l.length))),(13,.v (.int .i64 (↑r.length))),(14,.v (.bool true))] ZJ hnt fun K hK=>?_;refine And.intro (Zq (by rw[Zs])) ?_;refine And.intro (Zq (by rw[Zs])) ?_;refine And.intro (Y6 (by omega)) ?_;refine hK _ _ ?_;clear hK K
   refine Zy (t:=true) rfl ?_;rw[if_pos rfl];refine Zz ?_;refine Zx [] ZJ hnt fun _ z9=>z9 _ _ ?_;refine Zu ?_
   exact Zj rfl
theorem GL {t u:Tm}:t=u↔(t.kind=u.kind∧t.index=u.index)∧t.binds=u.binds∧t.args=u.args:=by
 obtain⟨b,k,i,a⟩:=t
 obtain⟨b',k',i',a'⟩:=u
 simp only[VE,T0,VK,Vh,Tm.mk.injEq]
 exact⟨fun⟨h1,h2,h3,h4⟩=>⟨⟨h2,h3⟩,h1,h4⟩,fun⟨⟨h1,h2⟩,h3,h4⟩=>⟨h3,h1,h2,h4⟩⟩
theorem Vk:∀ t u:Tm,Zd Tryz.prog 33 [.ag (eTm t),.ag (eTm u)] (.v (.bool (decide (t=u)))):=by
 intro t
 induction t using Tm.ind with
 | h b k i a ih=>
 intro u
 have hq:=BN a u.args ih
 have hb:=SC b u.binds 67 rfl
 rw[Zv,Zv]
 simp only[VE,T0,VK,Vh]
 by_cases h1:k=u.kind∧i=u.index
 ·by_cases h2:b=u.binds
  ·rw[show decide (Tm.mk b k i a=u)=decide (a=u.args) by rw[Bool.eq_iff_iff,decide_eq_true_iff,decide_eq_true_iff,GL];simp[VE,T0,VK,Vh,h1,h2]]
   rw[decide_eq_true h2] at hb
   refine Zm 0 24 [ResultVar.tmp 4] ZJ Tryz.func33 rfl Tryz.ntmps33 rfl fun cx hnt hn0=>?_
   ·skip
    refine Zz ?_;refine Zx [] ZJ hnt fun _ z9=>z9 _ _ ?_;refine Zz ?_;refine Zx [(9,.v (.bool true))] ZJ hnt fun K hK=>?_;refine And.intro (Zn.of_eq (by congr 2;simp[h1])) ?_;refine Ze (hb) ?_;refine Ze (hq) ?_;refine hK _ _ ?_;clear hK K;refine Zu ?_
    exact Zj rfl
  ·rw[show decide (Tm.mk b k i a=u)=false from decide_eq_false fun e=>h2 (by rw[←e];rfl)]
   rw[decide_eq_false h2] at hb
   refine Zm 0 24 [ResultVar.tmp 4] ZJ Tryz.func33 rfl Tryz.ntmps33 rfl fun cx hnt hn0=>?_
   ·skip
    refine Zz ?_;refine Zx [] ZJ hnt fun _ z9=>z9 _ _ ?_;refine Zz ?_;refine Zx [(9,.v (.bool true))] ZJ hnt fun K hK=>?_;refine And.intro (Zn.of_eq (by congr 2;simp[h1])) ?_;refine Ze (hb) ?_;refine hK _ _ ?_;clear hK K;refine Zu ?_
    exact Zj rfl
 ·rw[show decide (Tm.mk b k i a=u)=false from decide_eq_false fun e=>h1 (by rw[←e];exact⟨rfl,rfl⟩)]
  refine Zm 0 24 [ResultVar.tmp 4] ZJ Tryz.func33 rfl Tryz.ntmps33 rfl fun cx hnt hn0=>?_
  ·skip
   refine Zz ?_;refine Zx [] ZJ hnt fun _ z9=>z9 _ _ ?_;refine Zz ?_;refine Zx [(9,.v (.bool false))] ZJ hnt fun K hK=>?_;refine And.intro (Zn.of_eq (by congr 2;by_cases h3:k=u.kind <;> by_cases h4:i=u.index <;> simp_all)) ?_;refine hK _ _ ?_;clear hK K;refine Zu ?_
   exact Zj rfl
theorem K0:∀ t u:Tm,Zd Tryz.prog 30 [.ag (eTm t),.ag (eTm u)] (.v (.bool (decide (t=u)))):=by
 intro t
 induction t using Tm.ind with
 | h b k i a ih=>
 intro u
 refine ZE.lens fun hlen=>?_
 have hl:a.length≤9223372036854775807:=by
  have:=hlen _ (List.mem_cons_self ..)
  rw[Zv] at this
  have:=this (.sl 4 (eTms a) none) (by simp[Vh])
  simp only[sl1,Zs] at this;exact this
 have hb:=Tn b u.binds
 rw[Zv,Zv]
 simp only[VE,T0,VK,Vh]
 by_cases h1:k=u.kind∧i=u.index
 ·by_cases hlr:a.length=u.args.length
  ·by_cases h2:b=u.binds
   ·rw[show decide (Tm.mk b k i a=u)=decide (a=u.args) by rw[Bool.eq_iff_iff,decide_eq_true_iff,decide_eq_true_iff,GL];simp[VE,T0,VK,Vh,h1,h2]]
    rw[decide_eq_true h2] at hb
    refine Zm 0 47 [ResultVar.tmp 4] ZJ Tryz.func30 rfl Tryz.ntmps30 rfl fun cx hnt hn0=>?_
    ·skip
     refine Zz ?_;refine Zx [] ZJ hnt fun _ z9=>z9 _ _ ?_;refine Zz ?_;refine Zz ?_;refine Zx [(10,.v (.bool false)),(14,.v (.int .i64 (↑a.length))),(17,.v (.int .i64 (↑u.args.length))),(18,.v (.bool false))] ZJ hnt fun K hK=>?_;refine And.intro (Zn.of_eq (by congr 2;simp[h1])) ?_;refine And.intro (Zq (by rw[Zs])) ?_;refine And.intro (Zq (by rw[Zs])) ?_
     refine And.intro (Yy (by omega)) ?_;refine Ze (hb) ?_;refine hK _ _ ?_;clear hK K;refine Zy (t:=false) rfl ?_;rw[if_neg (by simp)];refine Zw ?_;refine Zz ?_;refine Zz ?_;refine Zx [] ZJ hnt fun _ z9=>z9 _ _ ?_;refine Zt ?_
     refine Z4 (ι:={ j:Nat // a.take j=u.args.take j }) (fun j=>[(.t 2,.p 0 0),(.t 3,.p 1 0),(.t 5,.v (.int .i64 ↑j.1)),(.c 0 3,.sl 4 (eTms a) none),(.c 1 3,.sl 4 (eTms u.args) none)]) 2 (fun j=>a.length-j.1) (⟨0,rfl⟩) (VS.toA) fun j=>?_
     obtain⟨j,hj⟩:=j
     dsimp only
     by_cases hlt:j<a.length
     ·have hlt2:j<u.args.length:=by omega
      have hq:=ih a[j] (List.getElem_mem hlt) u.args[j]
      rw[Zv,Zv] at hq
      by_cases he:a[j]=u.args[j]
      ·rw[decide_eq_true he] at hq
       refine Zz ?_;refine Zz ?_;refine Zx [(31,.v (.int .i64 (↑a.length))),(32,.v (.bool true))] ZJ hnt fun K hK=>?_;refine And.intro (Zq (by rw[Zs])) ?_;refine And.intro YD ?_;refine hK _ _ ?_;clear hK K;refine Zy (t:=true) rfl ?_;rw[if_pos rfl];refine Zw ?_;refine Zz ?_;refine Zt ?_;refine Zz ?_;refine ZP [(38,.q [.sl 2 (eTys a[j].binds) none,.v (.int .i64 a[j].kind),.v (.int .i64 a[j].index),.sl 4 (eTms a[j].args) none]),(43,.q [.sl 2 (eTys u.args[j].binds) none,.v (.int .i64 u.args[j].kind),.v (.int .i64 u.args[j].index),.sl 4 (eTms u.args[j].args) none])] ZJ hnt fun K hK=>?_
       refine And.intro (Xg (Zs a)) ?_;refine And.intro (Xh (ZX a j) (Zv _)) ?_;refine And.intro (Xg (Zs u.args)) ?_;refine And.intro (Xh (ZX u.args j) (Zv _)) ?_;refine Ze (hq) ?_;refine hK _ _ (by kernel_rfl) ?_;clear hK K;refine Zy (t:=false) rfl ?_;rw[if_neg (by simp)];refine Zw ?_;refine Zx [(34,.v (.int .i64 (↑(j+1))))] ZJ hnt fun K hK=>?_
       refine And.intro XR ?_;refine hK _ _ ?_;clear hK K
       refine⟨⟨j+1,X9 hj hlt hlt2 he⟩,by first | omega | (dsimp only;omega),VS.toA⟩
      ·rw[decide_eq_false he] at hq
       rw[decide_eq_false (RW hlt hlt2 he)]
       refine Zz ?_;refine Zz ?_;refine Zx [(31,.v (.int .i64 (↑a.length))),(32,.v (.bool true))] ZJ hnt fun K hK=>?_;refine And.intro (Zq (by rw[Zs])) ?_;refine And.intro YD ?_;refine hK _ _ ?_;clear hK K;refine Zy (t:=true) rfl ?_;rw[if_pos rfl];refine Zw ?_;refine Zz ?_;refine Zt ?_;refine Zz ?_;refine ZP [(38,.q [.sl 2 (eTys a[j].binds) none,.v (.int .i64 a[j].kind),.v (.int .i64 a[j].index),.sl 4 (eTms a[j].args) none]),(43,.q [.sl 2 (eTys u.args[j].binds) none,.v (.int .i64 u.args[j].kind),.v (.int .i64 u.args[j].index),.sl 4 (eTms u.args[j].args) none])] ZJ hnt fun K hK=>?_
       refine And.intro (Xg (Zs a)) ?_;refine And.intro (Xh (ZX a j) (Zv _)) ?_;refine And.intro (Xg (Zs u.args)) ?_;refine And.intro (Xh (ZX u.args j) (Zv _)) ?_;refine Ze (hq) ?_;refine hK _ _ (by kernel_rfl) ?_;clear hK K;refine Zy (t:=true) rfl ?_;rw[if_pos rfl];refine Zz ?_;refine Zx [] ZJ hnt fun _ z9=>z9 _ _ ?_
       refine Zu ?_
       exact Zj rfl
     ·rw[decide_eq_true (Wm hj (by omega) (by omega))]
      refine Zz ?_;refine Zz ?_;refine Zx [(31,.v (.int .i64 (↑a.length))),(32,.v (.bool false))] ZJ hnt fun K hK=>?_;refine And.intro (Zq (by rw[Zs])) ?_;refine And.intro Xq ?_;refine hK _ _ ?_;clear hK K;refine Zy (t:=false) rfl ?_;rw[if_neg (by simp)];refine Zc ?_;refine Zz ?_;refine Zx [] ZJ hnt fun _ z9=>z9 _ _ ?_
      refine Zu ?_
      exact Zj rfl
   ·rw[show decide (Tm.mk b k i a=u)=false from decide_eq_false fun e=>h2 (by rw[←e];rfl)]
    rw[decide_eq_false h2] at hb
    refine Zm 0 47 [ResultVar.tmp 4] ZJ Tryz.func30 rfl Tryz.ntmps30 rfl fun cx hnt hn0=>?_
    ·skip
     refine Zz ?_;refine Zx [] ZJ hnt fun _ z9=>z9 _ _ ?_;refine Zz ?_;refine Zz ?_;refine Zx [(10,.v (.bool false)),(14,.v (.int .i64 (↑a.length))),(17,.v (.int .i64 (↑u.args.length))),(18,.v (.bool false))] ZJ hnt fun K hK=>?_;refine And.intro (Zn.of_eq (by congr 2;simp[h1])) ?_;refine And.intro (Zq (by rw[Zs])) ?_;refine And.intro (Zq (by rw[Zs])) ?_
     refine And.intro (Yy (by omega)) ?_;refine Ze (hb) ?_;refine hK _ _ ?_;clear hK K;refine Zy (t:=true) rfl ?_;rw[if_pos rfl];refine Zz ?_;refine Zx [] ZJ hnt fun _ z9=>z9 _ _ ?_;refine Zu ?_
     exact Zj rfl
  ·rw[show decide (Tm.mk b k i a=u)=false from decide_eq_false fun e=>hlr (by rw[←e];rfl)]
   refine Zm 0 47 [ResultVar.tmp 4] ZJ Tryz.func30 rfl Tryz.ntmps30 rfl fun cx hnt hn0=>?_
   ·skip
    refine Zz ?_;refine Zx [] ZJ hnt fun _ z9=>z9 _ _ ?_;refine Zz ?_;refine Zz ?_;refine Zx [(10,.v (.bool false)),(14,.v (.int .i64 (↑a.length))),(17,.v (.int .i64 (↑u.args.length))),(18,.v (.bool true))] ZJ hnt fun K hK=>?_;refine And.intro (Zn.of_eq (by congr 2;simp[h1])) ?_;refine And.intro (Zq (by rw[Zs])) ?_;refine And.intro (Zq (by rw[Zs])) ?_
    refine And.intro (Y6 (by omega)) ?_;refine hK _ _ ?_;clear hK K;refine Zy (t:=true) rfl ?_;rw[if_pos rfl];refine Zz ?_;refine Zx [] ZJ hnt fun _ z9=>z9 _ _ ?_;refine Zu ?_
    exact Zj rfl
 ·rw[show decide (Tm.mk b k i a=u)=false from decide_eq_false fun e=>h1 (by rw[←e];exact⟨rfl,rfl⟩)]
  refine Zm 0 47 [ResultVar.tmp 4] ZJ Tryz.func30 rfl Tryz.ntmps30 rfl fun cx hnt hn0=>?_
  ·skip
   refine Zz ?_;refine Zx [] ZJ hnt fun _ z9=>z9 _ _ ?_;refine Zz ?_;refine Zz ?_;refine Zx [(10,.v (.bool true))] ZJ hnt fun K hK=>?_;refine And.intro (Zn.of_eq (by congr 2;by_cases h3:k=u.kind <;> by_cases h4:i=u.index <;> simp_all)) ?_;refine hK _ _ ?_;clear hK K;refine Zy (t:=true) rfl ?_;rw[if_pos rfl];refine Zz ?_
   refine Zx [] ZJ hnt fun _ z9=>z9 _ _ ?_;refine Zu ?_
   exact Zj rfl
/-! long forms -/
theorem S2 (l:List Tm)(j:Nat)(h:j<l.length):eTms (l.take j)++[[.sl 2 (eTys l[j].binds) none,.v (.int .i64 l[j].kind),.v (.int .i64 l[j].index),.sl 4 (eTms l[j].args) none]]=eTms (l.take (j+1)):=by
 rw[←Zv,List.take_add_one,List.getElem?_eq_getElem h,Option.toList_some,YW,YW,List.map_append];rfl
end Go.Proofs.YtclihnccilkohaaGreat
namespace Go.Proofs.YtclihnccilkohaaGreat
open Go.RowKit Go.Shelf
attribute [local go_sem] Oper.semAt_some
end Go.Proofs.YtclihnccilkohaaGreat
namespace Go.Proofs.YtclihnccilkohaaGreat
open Go.RowKit
/-! ints -/
def Y4 (l:List Int):List (List D):=l.map fun i=>[.v (.int .i64 i)]
theorem Zi (l:List Int):(Y4 l).length=l.length:=List.length_map ..
theorem Wk (l r:List Int):Y4 (l++r)=Y4 l++Y4 r:=List.map_append ..
theorem YU (l:List Int)(i:Nat)(h:i<l.length):(Y4 l).getD i []=[.v (.int .i64 l[i])]:=by
 rw[Y4,List.getD_eq_getElem?_getD,List.getElem?_map,List.getElem?_eq_getElem h];rfl
@[simp] theorem Ed (f g:Nat→Bool) (l:List Int):D.okss f g (Y4 l)=true:=D.okss_map _ l fun _ _=>rfl
theorem E4 (m:Mp):(m.cut (fun _=>false) Wh).le m00:=⟨fun k b h=>by simp[Mp.cut] at h,fun g R h=>by simp[Mp.cut,Wh] at h,fun k b h=>by simp[Mp.cut] at h⟩
theorem BM {cx:Cx}{Fr:Nat→Prop}{m:Mp}{Im:Nat→Nat→Prop}{w:World}{vs:List Value}{args:List D}(hm:XO cx Fr m Im w)(hr:Yc m Im w vs args)(ha:args.all (fun d=>d.ok (fun _=>false) Wh)=true)(nt:Nat)(hnt:args.length≤nt){n:Nat}(hn:n=nt):
  ∃ cx':Cx,cx'.nt=nt∧cx'.n0=0∧cx'.w0=w∧(∀ b,¬ cx'.C b)∧cx'.Im0=Im∧St cx' (fun k=>0≤k) m00 Im w { tmps:=vs.toArray++Array.replicate (n-vs.toArray.size) undef,defers:=[] } (Y0 0 args []):=by
 subst hn
 have hvl:vs.length=args.length:=(ZW.1 hr).1
 refine⟨{ w0:=w,C:=fun _=>False,Im0:=Im,m0:=m00,nt:=n,n0:=0,h0:=(fun k b hk=>by cases hk),h0o:=(fun k b hk=>by cases hk) },rfl,rfl,rfl,fun _ h=>h,rfl,?_⟩
 refine⟨{
  off:=Off.refl _ _,im:=hm.im,imb:=fun b o h=>.inl h,im0:=fun b o h=>h
  own:=fun k b hk=>by cases hk
  lt:=fun k b hk=>by cases hk
  free:=fun k b o hk=>by cases hk
  nim:=fun k b o hk=>by cases hk
  inj:=fun k k' b hk=>by cases hk
  row:=fun g R hg=>by cases hg
  k0:=Z6.refl _ _
  rown:=fun g R b hg=>by cases hg
  m0r:=fun g R hg=>by cases hg
  rIm:=fun g R b o hg=>by cases hg
  rblk:=fun g R b k hg=>by cases hg
  rinj:=fun g g' R R' b hg=>by cases hg
  fr:=fun k hk=>⟨rfl,rfl,rfl⟩
  m0:=fun k b hk=>by cases hk
  m0o:=fun k b hk=>by cases hk
  oown:=fun k b hk=>by cases hk
  olt:=fun k b hk=>by cases hk
  onim:=fun k b o hk=>by cases hk
  oinj:=fun k k' b hk=>by cases hk
  oblk:=fun k k' b hk=>by cases hk
  orow:=fun k g R b hk=>by cases hk
  dis:=fun k b hk=>by cases hk },rfl,by simp[hvl];omega,fun x d hx=>?_,fun k off d hx=>?_,fun g d hx=>?_,fun d hx=>?_,fun k d hx=>?_⟩
 ·rcases U8 args 0 x hx with⟨j,h1,h2⟩ | hx
  ·have hj:j<args.length:=by
    rcases Nat.lt_or_ge j args.length with h' | h'
    ·exact h'
    ·rw[List.getElem?_eq_none h'] at h2;cases h2
   rw[List.getElem?_eq_getElem hj] at h2
   cases h2
   have hr:=(ZW.1 hr).2 j hj
   have hx':x=j:=by omega
   subst hx'
   have:(vs.toArray++Array.replicate (n-vs.toArray.size) undef).getD x undef=vs.getD x undef:=by
    have hx2:x<vs.length:=by omega
    rw[Array.getD_eq_getD_getElem?,Array.getElem?_append_left (by simpa using hx2),List.getD_eq_getElem?_getD]
    simp
   show ZD _ _ _ ((vs.toArray++Array.replicate (n-vs.toArray.size) undef).getD x undef) _
   rw[this]
   exact(hr.cut (List.all_eq_true.1 ha _ (List.getElem_mem hj))).mono (E4 m) (Z6.refl _ _) fun _ _ h=>h
  ·cases hx
 ·rw[Xm (fun x=>by simp) args 0] at hx;cases hx
 ·rw[Xm (fun x=>by simp) args 0] at hx;cases hx
 ·rw[Xm (fun x=>by simp) args 0] at hx;cases hx
 ·rw[Xm (fun x=>by simp) args 0] at hx;cases hx
def eMp (l:List (Int×Value)):List (Int×D):=l.map fun p=>(p.1,.v p.2)
theorem full_mem {l:List Tm}{t:Tm}(h:t∈l):t.full≤Tm.fulls l:=by
 induction l with
 | nil=>cases h
 | cons u l ih=>
  simp only[Tm.fulls]
  rcases List.mem_cons.1 h with rfl | h
  ·omega
  ·have:=ih h;omega
theorem Sa (l : List Tm) : l.length ≤ Tm.fulls l := by
  induction l with
  | nil => simp
  | cons u l ih => have : 1 ≤ u.full := by obtain ⟨b, k, i, a⟩ := u; rw [Tm.full_eq]; omega
                   simp only [Tm.fulls, List.length_cons]; omega
theorem X6 (t:Tm):t.full=Ty.sizes t.binds+Tm.fulls t.args+1:=by obtain⟨b,k,i,a⟩:=t;exact Tm.full_eq ..
namespace Pn
end Pn
def Zb6 (l:List Int):List (Int×D):=l.map fun i=>(i,.v (.bool true))
theorem SP {f g:Nat→Bool}{α:Type}(e:α→Int×D)(l:List α)(h:∀ x∈l,(e x).2.ok f g=true):D.okm f g (l.map e)=true:=by
 induction l with
 | nil=>rfl
 | cons x l ih=>
  have h1:=h x (by simp)
  have h2:=ih fun y hy=>h y (by simp[hy])
  simp only[List.map_cons]
  generalize e x=p at h1 ⊢
  obtain⟨i,d⟩:=p
  simp only[D.okm,Bool.and_eq_true];exact⟨h1,h2⟩
@[simp] theorem Za5 (f g:Nat→Bool) (l:List Int):D.okm f g (Zb6 l)=true:=SP _ l fun _ _=>rfl
namespace Pn
def atL:List Int→Nat→List (Int×Value)
 | [],_=>[]
 | v :: l,k=>(v,.int .i64 k) :: atL l (k+1)
end Pn
@[simp] theorem Zc0 (f g:Nat→Bool) (l:List Int) (k:Nat):D.okm f g (eMp (Pn.atL l k))=true:=SP _ _ fun _ _=>rfl
def TL8_29:TI:=⟨1,false,[Value.slice none 0 0],[],some 31,24,5,none,false⟩
theorem Gz:TypOk Tryz.prog 29 TL8_29:=by constructor <;> kernel_rfl
def TL8_3:TI:=⟨1,false,[Value.int IntKind.i64 0],[],none,8,2,none,false⟩
theorem Dn:TypOk Tryz.prog 3 TL8_3:=by constructor <;> kernel_rfl
def TL8_31:TI:=⟨4,true,[Value.slice none 0 0,Value.int IntKind.i64 0,Value.int IntKind.i64 0,Value.slice none 0 0],[(0,1,false),(1,2,true),(3,1,false)],none,64,6,none,false⟩
theorem HA:TypOk Tryz.prog 31 TL8_31:=by constructor <;> kernel_rfl
def TL8_28:TI:=⟨2,true,[Value.int IntKind.i64 0,Value.int IntKind.i64 0],[(0,1,false),(1,1,false)],none,16,6,none,true⟩
theorem Gy:TypOk Tryz.prog 28 TL8_28:=by constructor <;> kernel_rfl
def TL8:List (Nat×TI):=[(29,TL8_29),(3,TL8_3),(31,TL8_31),(28,TL8_28)]
theorem Xd:Zh Tryz.prog TL8:=(((((Zh.nil _).cons Gy).cons HA).cons Dn).cons Gz)
def TL9_84:TI:=⟨1,false,[Value.slice none 0 0],[],some 110,24,5,none,false⟩
theorem HE:TypOk Tryz.prog 84 TL9_84:=by constructor <;> kernel_rfl
def TL9_3:TI:=⟨1,false,[Value.int IntKind.i64 0],[],none,8,2,none,false⟩
theorem Dp:TypOk Tryz.prog 3 TL9_3:=by constructor <;> kernel_rfl
def TL9_72:TI:=⟨1,false,[Value.slice none 0 0],[],some 130,24,5,none,false⟩
theorem HD:TypOk Tryz.prog 72 TL9_72:=by constructor <;> kernel_rfl
def TL9_110:TI:=⟨5,true,[Value.int IntKind.i64 0,Value.slice none 0 0,Value.int IntKind.i64 0,Value.int IntKind.i64 0,Value.slice none 0 0],[(0,1,false),(1,4,true)],none,72,6,none,false⟩
theorem NL:TypOk Tryz.prog 110 TL9_110:=by constructor <;> kernel_rfl
def TL9_62:TI:=⟨4,true,[Value.slice none 0 0,Value.int IntKind.i64 0,Value.int IntKind.i64 0,Value.slice none 0 0],[(0,1,false),(1,2,true),(3,1,false)],none,64,6,none,false⟩
theorem HC:TypOk Tryz.prog 62 TL9_62:=by constructor <;> kernel_rfl
def TL9_130:TI:=⟨5,true,[Value.int IntKind.i64 0,Value.slice none 0 0,Value.int IntKind.i64 0,Value.int IntKind.i64 0,Value.slice none 0 0],[(0,1,false),(1,4,true)],none,72,6,none,false⟩
theorem NM:TypOk Tryz.prog 130 TL9_130:=by constructor <;> kernel_rfl
def TL9:List (Nat×TI):=[(84,TL9_84),(3,TL9_3),(72,TL9_72),(110,TL9_110),(62,TL9_62),(130,TL9_130)]
theorem WC:Zh Tryz.prog TL9:=(((((((Zh.nil _).cons NM).cons HC).cons NL).cons HD).cons Dp).cons HE)
mutual
def SL:Tm→Bool
 | .mk _ k i a=>!(decide (k=0)&&decide (900000<i))&&lowsB a
def lowsB:List Tm→Bool
 | []=>true
 | t :: l=>SL t&&lowsB l
end
theorem U6:∀ l:List Tm,lowsB l=l.all SL
 | []=>rfl
 | t :: l=>by rw[lowsB,U6 l];rfl
theorem DA (t:Tm):SL t=(!(decide (t.kind=0)&&decide (900000<t.index))&&lowsB t.args):=by cases t;rfl
theorem UU {l:List Tm}{j:Nat}(h:j<l.length)(hf:SL l[j]=false):lowsB l=false:=by
 rw[U6,List.all_eq_false];exact⟨l[j],List.getElem_mem h,by rw[hf];simp⟩
set_option maxHeartbeats 1000000 in
theorem RS (l:List Tm)(hl:l.length≤1000000)(ih:∀ t∈l,Zd Tryz.prog 23 [.sl 4 (eTms t.args) none] (.v (.bool (lowsB t.args)))):Zd Tryz.prog 23 [.sl 4 (eTms l) none] (.v (.bool (lowsB l))):=by
 refine Z9 0 35 [ResultVar.tmp 2] Xd (by kernel_rfl) Tryz.func23 rfl Tryz.ntmps23 rfl (by simp) ?dwords ?dbody
 case dwords=>simp[ZF,D.ok,D.oks,ZQ,Yk]
 case dbody=>
  intro cx hnt hn0
  refine Zz ?_;refine Zx [] Xd hnt fun _ z9=>z9 _ _ ?_;refine Zz (Zz ?_);refine Zx [] Xd hnt fun _ z9=>z9 _ _ ?_;refine Zt ?_
  refine Z4 (ι:={ j:Nat // ∀ i (h:i<l.length),i<j→SL l[i]=true }) (fun j=>[(.t 0,.sl 4 (eTms l) none),(.t 3,.v (.int .i64 (j.1:Int)))]) 1 (fun j=>l.length-j.1) ⟨0,fun i h1 h2=>by omega⟩ VS.toA fun j=>?_
  obtain⟨j,hj⟩:=j
  dsimp only
  refine Zz (Zz ?_)
  by_cases hlt:j<l.length
  ·have hi:=ih l[j] (List.getElem_mem hlt)
   have hlo:=DA l[j]
   refine Zx [(7,.v (.bool true))] Xd hnt fun K hK=>?_;refine And.intro (ZZ (by rw[Zs];omega)) ?_;refine hK _ _ ?_;clear hK K;refine Zy (t:=true) rfl ?_;rw[if_pos rfl];refine Zw ?_;refine Zz (Zt (Zz ?_))
   have hq:(eTms l).getD (j:Int).toNat []=[.sl 2 (eTys l[j].binds) none,.v (.int .i64 l[j].kind),.v (.int .i64 l[j].index),.sl 4 (eTms l[j].args) none]:=by rw[Int.toNat_natCast,ZX l j hlt,Zv]
   have hb:(0:Int)≤(j:Int)∧(j:Int)<((eTms l).length:Int):=⟨by omega,by rw[Zs];omega⟩
   have hret:SL l[j]=false→∀ σ N,DW Tryz.prog cx (.ret) σ N (UL TL8 [ResultVar.tmp 2] (.v (.bool (lowsB l))) [])→True:=fun _ _ _ _=>trivial
   by_cases hk:l[j].kind=0
   ·by_cases hx:900000<l[j].index
    ·have hf:lowsB l=false:=UU hlt (by rw[hlo];simp[hk,hx])
     rw[hf]
     refine Zx [(12,.q [.sl 2 (eTys l[j].binds) none,.v (.int .i64 l[j].kind),.v (.int .i64 l[j].index),.sl 4 (eTms l[j].args) none]),(16,.v (.bool true)),(20,.q [.sl 2 (eTys l[j].binds) none,.v (.int .i64 l[j].kind),.v (.int .i64 l[j].index),.sl 4 (eTms l[j].args) none]),(24,.v (.bool true))] Xd hnt fun K hK=>?_;refine And.intro (hb) ?_;refine And.intro (Zn.of_eq (by rw[hq])) ?_
     refine And.intro (Zn.of_eq (by simp[hk])) ?_;refine And.intro (hb) ?_;refine And.intro (Zn.of_eq (by rw[hq])) ?_;refine And.intro (ZZ hx) ?_;refine hK _ _ ?_;clear hK K;refine Zy (t:=true) rfl ?_;rw[if_pos rfl];refine Zz ?_;refine Zx [] Xd hnt fun _ z9=>z9 _ _ ?_;refine Zu ?_
     exact Yq (N:=0) (.inr rfl) rfl (Zn.refl _) trivial
    ·cases hla:lowsB l[j].args with
     | false=>
      have hf:lowsB l=false:=UU hlt (by rw[hlo,hla];simp)
      rw[hf]
      rw[hla] at hi
      refine Zx [(12,.q [.sl 2 (eTys l[j].binds) none,.v (.int .i64 l[j].kind),.v (.int .i64 l[j].index),.sl 4 (eTms l[j].args) none]),(16,.v (.bool true)),(20,.q [.sl 2 (eTys l[j].binds) none,.v (.int .i64 l[j].kind),.v (.int .i64 l[j].index),.sl 4 (eTms l[j].args) none]),(24,.v (.bool false)),(29,.q [.sl 2 (eTys l[j].binds) none,.v (.int .i64 l[j].kind),.v (.int .i64 l[j].index),.sl 4 (eTms l[j].args) none])] Xd hnt fun K hK=>?_
      refine And.intro (hb) ?_;refine And.intro (Zn.of_eq (by rw[hq])) ?_;refine And.intro (Zn.of_eq (by simp[hk])) ?_;refine And.intro (hb) ?_;refine And.intro (Zn.of_eq (by rw[hq])) ?_;refine And.intro (Zf hx) ?_;refine And.intro (hb) ?_;refine And.intro (Zn.of_eq (by rw[hq])) ?_;refine Ze (hi) ?_;refine hK _ _ ?_;clear hK K;refine Zy (t:=true) rfl ?_;rw[if_pos rfl];refine Zz ?_
      refine Zx [] Xd hnt fun _ z9=>z9 _ _ ?_;refine Zu ?_
      exact Yq (N:=0) (.inr rfl) rfl (Zn.refl _) trivial
     | true=>
      rw[hla] at hi
      refine Zx [(12,.q [.sl 2 (eTys l[j].binds) none,.v (.int .i64 l[j].kind),.v (.int .i64 l[j].index),.sl 4 (eTms l[j].args) none]),(16,.v (.bool true)),(20,.q [.sl 2 (eTys l[j].binds) none,.v (.int .i64 l[j].kind),.v (.int .i64 l[j].index),.sl 4 (eTms l[j].args) none]),(24,.v (.bool false)),(29,.q [.sl 2 (eTys l[j].binds) none,.v (.int .i64 l[j].kind),.v (.int .i64 l[j].index),.sl 4 (eTms l[j].args) none])] Xd hnt fun K hK=>?_
      refine And.intro (hb) ?_;refine And.intro (Zn.of_eq (by rw[hq])) ?_;refine And.intro (Zn.of_eq (by simp[hk])) ?_;refine And.intro (hb) ?_;refine And.intro (Zn.of_eq (by rw[hq])) ?_;refine And.intro (Zf hx) ?_;refine And.intro (hb) ?_;refine And.intro (Zn.of_eq (by rw[hq])) ?_;refine Ze (hi) ?_;refine hK _ _ ?_;clear hK K;refine Zy (t:=false) rfl ?_;rw[if_neg (by simp)]
      refine Zw ?_;refine Zx [(9,.v (.int .i64 ((j+1:Nat):Int)))] Xd hnt fun K hK=>?_;refine And.intro (Zq (by rw[IntWalk.i64_in _ (by omega)];omega)) ?_;refine hK _ _ ?_;clear hK K
      refine⟨⟨j+1,fun i h1 h2=>?_⟩,by dsimp only;omega,VS.toA⟩
      by_cases he:i=j
      ·subst he;rw[hlo,hla];simp[hx]
      ·exact hj i h1 (by omega)
   ·cases hla:lowsB l[j].args with
    | false=>
     have hf:lowsB l=false:=UU hlt (by rw[hlo,hla];simp)
     rw[hf]
     rw[hla] at hi
     refine Zx [(12,.q [.sl 2 (eTys l[j].binds) none,.v (.int .i64 l[j].kind),.v (.int .i64 l[j].index),.sl 4 (eTms l[j].args) none]),(16,.v (.bool false)),(29,.q [.sl 2 (eTys l[j].binds) none,.v (.int .i64 l[j].kind),.v (.int .i64 l[j].index),.sl 4 (eTms l[j].args) none])] Xd hnt fun K hK=>?_;refine And.intro (hb) ?_;refine And.intro (Zn.of_eq (by rw[hq])) ?_;refine And.intro (Zn.of_eq (by simp[hk])) ?_
     refine And.intro (hb) ?_;refine And.intro (Zn.of_eq (by rw[hq])) ?_;refine Ze (hi) ?_;refine hK _ _ ?_;clear hK K;refine Zy (t:=true) rfl ?_;rw[if_pos rfl];refine Zz ?_;refine Zx [] Xd hnt fun _ z9=>z9 _ _ ?_;refine Zu ?_
     exact Yq (N:=0) (.inr rfl) rfl (Zn.refl _) trivial
    | true=>
     rw[hla] at hi
     refine Zx [(12,.q [.sl 2 (eTys l[j].binds) none,.v (.int .i64 l[j].kind),.v (.int .i64 l[j].index),.sl 4 (eTms l[j].args) none]),(16,.v (.bool false)),(29,.q [.sl 2 (eTys l[j].binds) none,.v (.int .i64 l[j].kind),.v (.int .i64 l[j].index),.sl 4 (eTms l[j].args) none])] Xd hnt fun K hK=>?_;refine And.intro (hb) ?_;refine And.intro (Zn.of_eq (by rw[hq])) ?_;refine And.intro (Zn.of_eq (by simp[hk])) ?_
     refine And.intro (hb) ?_;refine And.intro (Zn.of_eq (by rw[hq])) ?_;refine Ze (hi) ?_;refine hK _ _ ?_;clear hK K;refine Zy (t:=false) rfl ?_;rw[if_neg (by simp)];refine Zw ?_;refine Zx [(9,.v (.int .i64 ((j+1:Nat):Int)))] Xd hnt fun K hK=>?_;refine And.intro (Zq (by rw[IntWalk.i64_in _ (by omega)];omega)) ?_;refine hK _ _ ?_;clear hK K
     refine⟨⟨j+1,fun i h1 h2=>?_⟩,by dsimp only;omega,VS.toA⟩
     by_cases he:i=j
     ·subst he;rw[hlo,hla];simp[hk]
     ·exact hj i h1 (by omega)
  ·have hf:lowsB l=true:=by
    rw[U6,List.all_eq_true]
    intro t ht
    obtain⟨i,hi,rfl⟩:=List.getElem_of_mem ht
    exact hj i hi (by omega)
   rw[hf]
   refine Zx [(7,.v (.bool false))] Xd hnt fun K hK=>?_;refine And.intro (Zf (by rw[Zs];omega)) ?_;refine hK _ _ ?_;clear hK K;refine Zy (t:=false) rfl ?_;rw[if_neg (by simp)];refine Zc ?_;refine Zz ?_;refine Zx [] Xd hnt fun _ z9=>z9 _ _ ?_;refine Zu ?_
   exact Yq (N:=0) (.inr rfl) rfl (Zn.refl _) trivial
theorem FT:∀ (t:Tm),ZB t→Zd Tryz.prog 23 [.sl 4 (eTms t.args) none] (.v (.bool (lowsB t.args))):=by
 intro t
 induction t using Tm.ind with
 | h bs k i a ih=>
  intro hw
  obtain⟨_,w2,w3⟩:=hw.inv
  exact RS a (by omega) fun u hu=>ih u hu (w3 u hu)
theorem FU (l:List Tm)(hl:l.length≤1000000)(hw:∀ t∈l,ZB t):Zd Tryz.prog 23 [.sl 4 (eTms l) none] (.v (.bool (lowsB l))):=RS l hl fun t ht=>FT t (hw t ht)
theorem X2:∀ t:Tm,t.full≤100000→ZB t:=by
 intro t
 induction t using Tm.ind with
 | h bs k i a ih=>
  intro h
  rw[Tm.full_eq] at h
  have h1:=Ty.le_sizes bs
  have key:∀ l:List Tm,l.length≤Tm.fulls l∧∀ u∈l,u.full≤Tm.fulls l:=by
   intro l
   induction l with
   | nil=>exact⟨by simp,nofun⟩
   | cons t l ihl=>
    have ht:1≤t.full:=by obtain⟨_,_,_,_⟩:=t;rw[Tm.full_eq];omega
    simp only[Tm.fulls,List.length_cons]
    refine⟨by omega,fun u hu=>?_⟩
    rcases List.mem_cons.1 hu with rfl | hu
    ·omega
    ·have:=ihl.2 u hu;omega
  have h2:=key a
  exact .mk _ _ _ _ (by omega) (by omega) fun t ht=>ih t ht (by have:=h2.2 t ht;omega)
namespace Pn
end Pn
namespace Pn
end Pn
def Ad (R:List (Key×D)):List Nat:=R.filterMap fun p=>match p.1 with | .r g=>some g | _=>none
def Jt (R:List (Key×D)):Nat→Bool:=fun g=>(Ad R).contains g
theorem Jh {R:List (Key×D)}{g:Nat}{d:D}(h:(Key.r g,d)∈R):Jt R g=true:=by
 unfold Jt;rw[List.contains_iff_mem];exact List.mem_filterMap.2 ⟨_,h,rfl⟩
def AL (u:Pn.Use):List D:=[.v (.int .i64 u.mt),.sl 1 (Y4 u.vars) none,.sl 2 (eTys u.binds) none,.sl 1 (Y4 u.path) none]
def AM (l:List Pn.Use):List (List D):=l.map AL
@[simp] theorem AN (f g:Nat→Bool) (l:List Pn.Use):D.okss f g (AM l)=true:=D.okss_map _ l fun u _=>by simp[AL,D.oks,D.ok,Ed,Yw]
namespace Pn
end Pn
theorem Zn.ps0 (n g:Nat):Zn (.sl n [] (some g)) (.ps g 0):=fun m Im w x h=>by
 cases h with
 | sl a c bl off n X l r h1 ha hc hn ho hr hg=>exact .ps a c g 0 (fun h=>absurd h (by omega)) (Nat.zero_le _) (hg g rfl)
section
variable {P:Program} {T:List (Nat×TI)} {cx:Cx} {Fr Fr':Nat→Prop} {m m':Mp} {Im Im':Nat→Nat→Prop} {w w':World} {a:Act} {σ σ' τ:List (Key×D)} {N N':Nat} {Q:Exit→List (Key×D)→Nat→Prop}
theorem VS.thaw {g E n:Nat}(h:get σ (.r g)=some (.rw E n 0)):VS cx σ N (Xt (.r g) (.rp E n []) σ) N:=fun m Im w a hs=>by
 obtain⟨R,hR,hro⟩:=hs.ro g _ h
 have e:=hro.rwi
 injection e with e1 e2 e3
 obtain⟨xs,hx⟩:=hs.mem.row g R hR
 have hxs:xs=[]:=by
  have:=hx.1
  rw[←e3,Nat.zero_mul] at this
  exact List.length_eq_zero_iff.1 this
 subst hxs
 refine⟨m,hs.putro hR ?_⟩
 rw[e1,e2]
 refine .rp (R:=R) [] [] (by rw[←e3];rfl) (fun i h=>absurd h (by simp)) hx (fun u h=>absurd h (by simp)) (fun i h=>absurd h (by simp)) fun b o hb hi=>?_
 have:=hs.mem.rIm g R b o hR hb hi
 rw[←e3,Nat.zero_mul] at this
 omega
theorem VS.rowPT {x:Nat}(hx:x<cx.nt)(E n:Nat)(h:get σ (.t x)=some (.v (.slice none 0 0))):VS cx σ N (Xt (.r N) (.rp E n []) (Xt (.t x) (.ps N 0) σ)) (N+1):=fun m Im w a hs=>by
 obtain⟨m',h'⟩:=((VS.rowT (N:=N) hx E n h).trans (VS.thaw (g:=N) (E:=E) (n:=n) (by rw[Zo,if_pos (Key.eq_refl _)]))) m Im w a hs
 refine⟨m',{ h' with tm:=fun y d hy=>?_,ce:=fun k off d hy=>?_,ro:=fun g d hy=>?_,jk:=fun d hy=>?_,ok:=fun k d hy=>?_ }⟩
 ·rw[Zo,if_neg (by simp[Key.eq]),Zo] at hy
  by_cases e:Key.eq (.t x) (.t y)=true
  ·rw[if_pos e] at hy
   have:=Key.eq_iff.1 e;cases this
   cases hy
   exact Zn.ps0 n N _ _ _ _ (h'.tm x _ (by rw[Zo,if_neg (by simp[Key.eq]),Zo,if_neg (by simp[Key.eq]),Zo,if_pos (Key.eq_refl _)]))
  ·rw[if_neg e] at hy
   exact h'.tm y d (by rw[Zo,if_neg (by simp[Key.eq]),Zo,if_neg (by simp[Key.eq]),Zo,if_neg e];exact hy)
 ·rw[Zo,if_neg (by simp[Key.eq]),Zo,if_neg (by simp[Key.eq])] at hy
  exact h'.ce k off d (by rw[Zo,if_neg (by simp[Key.eq]),Zo,if_neg (by simp[Key.eq]),Zo,if_neg (by simp[Key.eq])];exact hy)
 ·refine h'.ro g d ?_
  rw[Zo] at hy ⊢
  split
  ·rename_i e;rw[if_pos e] at hy;exact hy
  ·rename_i e
   rw[if_neg e,Zo,if_neg (by simp[Key.eq])] at hy
   rw[Zo,if_neg e,Zo,if_neg (by simp[Key.eq])];exact hy
 ·rw[Zo,if_neg (by simp[Key.eq]),Zo,if_neg (by simp[Key.eq])] at hy
  exact h'.jk d (by rw[Zo,if_neg (by simp[Key.eq]),Zo,if_neg (by simp[Key.eq]),Zo,if_neg (by simp[Key.eq])];exact hy)
 ·rw[Zo,if_neg (by simp[Key.eq]),Zo,if_neg (by simp[Key.eq])] at hy
  exact h'.ok k d (by rw[Zo,if_neg (by simp[Key.eq]),Zo,if_neg (by simp[Key.eq]),Zo,if_neg (by simp[Key.eq])];exact hy)
theorem St.freeze (h:St cx Fr m Im w a σ){g E n:Nat}{l:List (List D)}(hg:get σ (.r g)=some (.rp E n l)):
  ∃ Im',(∀ b o,Im b o→Im' b o)∧St cx Fr m Im' w a (Xt (.r g) (.rw E n l.length) σ)∧∀ x,ZD m Im w x (.ps g l.length)→ZD m Im' w x (.sl n l (some g)):=by
 obtain⟨R,hR,hro⟩:=h.ro g _ hg
 cases hro with
 | rp _ xs hl hn hown h1 hrr hni=>
 have hi:∀ b o,Im b o→Im b o∨(R.hv.ownBlock=some b∧o<R.len * R.n):=fun _ _ h=>.inl h
 have hmono:∀ {x d},ZD m Im w x d→ZD m (fun b o=>Im b o∨(R.hv.ownBlock=some b∧o<R.len * R.n)) w x d:=fun hx=>hx.mono (Mp.le.refl m) (Z6.refl _ _) hi
 have hcell:∀ b o,R.hv.ownBlock=some b→o<R.len * R.n→∃ v,xs[o]?=some v∧w.cell? ⟨b,o,none⟩=some v:=fun b o hb ho=>by
  have hlt:o<xs.length:=by rw[hown.1];exact ho
  have:=hown.cells hb o _ (List.getElem?_eq_getElem hlt)
  rw[Xk] at this
  exact⟨_,List.getElem?_eq_getElem hlt,this⟩
 refine⟨fun b o=>Im b o∨(R.hv.ownBlock=some b∧o<R.len * R.n),hi,?_,fun x hx=>?_⟩
 ·have hs:St cx Fr m (fun b o=>Im b o∨(R.hv.ownBlock=some b∧o<R.len * R.n)) w a (σ.filter fun p=>!Key.eq (.r g) p.1):=by
   have hf:∀ k d,get (σ.filter fun p=>!Key.eq (.r g) p.1) k=some d→Key.eq (.r g) k=false∧get σ k=some d:=fun k d hk=>by
    rw[XL (fun k=>!Key.eq (.r g) k)] at hk
    split at hk
    ·rename_i e;exact⟨by simpa using e,hk⟩
    ·cases hk
   refine⟨{ h.mem with im:=?_,imb:=?_,im0:=?_,nim:=?_,rIm:=?_,onim:=?_ },h.df,h.nt,fun x d hx=>hmono (h.tm x d (hf _ _ hx).2),fun k off d hx=>?_,fun x d hx=>?_,fun d hd=>?_,fun k d hx=>?_⟩
   ·rintro b o (hh | ⟨hb,ho⟩)
    ·exact h.mem.im b o hh
    ·obtain⟨v,_,hv⟩:=hcell b o hb ho;exact⟨v,hv⟩
   ·rintro b o (hh | ⟨hb,ho⟩)
    ·exact h.mem.imb b o hh
    ·exact .inr (h.mem.rown g R b hR hb)
   ·intro b o hh;exact .inl (h.mem.im0 b o hh)
   ·rintro k b o hk (hh | ⟨hb,ho⟩)
    ·exact h.mem.nim k b o hk hh
    ·exact h.mem.rblk g R b k hR hb hk
   ·rintro x R0 b o hx hb0 (hh | ⟨hb,ho⟩)
    ·exact h.mem.rIm x R0 b o hx hb0 hh
    ·have:=h.mem.rinj x g R0 R b hx hR hb0 hb
     subst this
     rw[hR] at hx;cases hx;exact ho
   ·rintro k b o hk (hh | ⟨hb,ho⟩)
    ·exact h.mem.onim k b o hk hh
    ·exact h.mem.orow k g R b hk hR hb
   ·obtain⟨b,v,q1,q2,q3⟩:=h.ce k off d (hf _ _ hx).2
    exact⟨b,v,q1,q2,hmono q3⟩
   ·obtain⟨e,hx⟩:=hf _ _ hx
    obtain⟨R0,q1,q2⟩:=h.ro x d hx
    have hne:x≠g:=fun e2=>by subst e2;rw[Key.eq_refl] at e;cases e
    refine⟨R0,q1,q2.mono (fun _ _=>rfl) (Mp.le.refl m) (Z6.refl _ _) hi ?_⟩
    rintro b o hb0 (hh | ⟨hb,ho⟩)
    ·exact hh
    ·exact absurd (h.mem.rinj x g R0 R b q1 hR hb0 hb) hne
   ·obtain⟨X,J,e,hX⟩:=h.jk d (hf _ _ hd).2
    refine⟨X,J,e,{ hX with nim:=?_ }⟩
    rintro b o hb (hh | ⟨hb2,ho⟩)
    ·exact hX.nim b o hb hh
    ·exact hX.row b g R hb hR hb2
   ·obtain⟨b,q1,q2⟩:=h.ok k d (hf _ _ hx).2
    exact⟨b,q1,q2.mono rfl (Mp.le.refl m) (Z6.refl _ _) hi⟩
  have h2:=hs.putro hR (XJ.rw (m:=m) (Im:=fun b o=>Im b o∨(R.hv.ownBlock=some b∧o<R.len * R.n)) (w:=w) (R:=R))
  rw[hl]
  refine h2.sub fun k d hk=>?_
  rw[Zo] at hk ⊢
  split
  ·rename_i e;rw[if_pos e] at hk;exact hk
  ·rename_i e;rw[if_neg e] at hk
   rw[XL (fun k=>!Key.eq (.r g) k),if_pos (by simpa using e)];exact hk
 ·cases hx with
  | ps a0 c0 _ _ ha _ hh=>
  obtain⟨R0,p1,p2,p3⟩:=hh
  rw[hR] at p1;cases p1
  have hv:=p3 hl
  have hc:l.length≤maxLen∧l.length≤c0:=by
   rcases hown.2 with⟨e,h0⟩ | ⟨g',cap,cur,e,_,_,hnc,hcm,_⟩
   ·rw[hl,h0];omega
   ·rw[e] at hv;injection hv with _ _ q;rw[hl,←q];exact⟨by omega,hnc⟩
  have hij:∀ i j,i<l.length→j<R.n→i * R.n+j<R.len * R.n:=fun i j hi2 hj=>by
   have:(i+1) * R.n≤R.len * R.n:=Nat.mul_le_mul_right _ (by omega)
   rw[Nat.succ_mul] at this;omega
  have hgd:∀ i j,i<l.length→j<R.n→xs[i * R.n+j]?=some (xs.getD (i * R.n+j) undef):=fun i j hi2 hj=>by
   have:i * R.n+j<xs.length:=by rw[hown.1];exact hij i j hi2 hj
   rw[List.getD_eq_getElem?_getD,List.getElem?_eq_getElem this];rfl
  obtain⟨bl,hbl⟩:∃ bl,0<l.length→a0=some ⟨bl,0,none⟩:=by
   by_cases h0:0<l.length
   ·obtain⟨b,hb⟩:=ha h0;exact⟨b,fun _=>hb⟩
   ·exact⟨0,fun h=>absurd h h0⟩
  have hob:0<l.length→R.hv.ownBlock=some bl:=fun h0=>by rw[hv,hbl h0];rfl
  refine .sl a0 c0 bl 0 R.n (fun i j=>xs.getD (i * R.n+j) undef) l (some g) hc hbl (fun i j hi2 hj=>?_) hn (fun i j hi2 hj=>?_) (fun i hi2 j hj=>?_) fun r e=>?_
  ·have h0:=hob (by omega)
   obtain⟨v,q1,q2⟩:=hcell bl _ h0 (hij i j hi2 hj)
   rw[hgd i j hi2 hj] at q1;cases q1
   rw[Nat.zero_add]
   exact⟨q2,.inr ⟨h0,hij i j hi2 hj⟩⟩
  ·exact h1 _ (List.mem_of_getElem? (hgd i j hi2 hj))
  ·exact hmono (hrr i hi2 j hj)
  ·cases e;exact⟨R,hR,by omega,fun _=>hv⟩
theorem S6 {c:Code}{x g E n len:Nat}{l:List (List D)}(hx:get σ (.t x)=some (.ps g len))(hg:get σ (.r g)=some (.rp E n l))(hl:l.length=len)(h:DW P cx c (Xt (.t x) (.sl n l (some g)) (Xt (.r g) (.rw E n l.length) σ)) N Q):DW P cx c σ N Q:=fun m Im w a hs=>by
 obtain⟨Im',hi,h2,h3⟩:=hs.freeze hg
 subst hl
 have hr:=h3 _ (hs.tm x _ hx)
 refine h m Im' w a { h2 with tm:=fun y d hy=>?_,ce:=fun k off d hy=>?_,ro:=fun k d hy=>?_,jk:=fun d hy=>?_,ok:=fun k d hy=>?_ }
 ·rw[Zo] at hy
  by_cases e:Key.eq (.t x) (.t y)=true
  ·rw[if_pos e] at hy
   have:=Key.eq_iff.1 e;cases this
   cases hy;exact hr
  ·rw[if_neg e] at hy
   exact h2.tm y d hy
 ·rw[Zo,if_neg (by simp[Key.eq])] at hy;exact h2.ce k off d hy
 ·rw[Zo,if_neg (by simp[Key.eq])] at hy;exact h2.ro k d hy
 ·rw[Zo,if_neg (by simp[Key.eq])] at hy;exact h2.jk d hy
 ·rw[Zo,if_neg (by simp[Key.eq])] at hy;exact h2.ok k d hy
theorem Cg (m m':Mp):(m.cut (fun _=>false) Wh).le m':=⟨fun k b h=>by simp[Mp.cut] at h,fun g R h=>by simp[Mp.cut,Wh] at h,fun k b h=>by simp[Mp.cut] at h⟩
theorem St.adopt {cx':Cx}{a':Act}(hs:St cx Fr m Im w a σ){nm:Nat}(hnm:Fr nm)(hs':St cx' Fr' m' Im' w' a' σ')(c3:cx'.w0=w)(c4:∀ b,¬ cx'.C b)(c5:cx'.Im0=Im){g:Nat}{R:W6}{d:D}(hR:m'.row g=some R)(hro:XJ m' Im' w' R d)(hd:d.ok (fun _=>false) Wh=true):
  St cx (XA Fr nm) (m.setR nm R) Im' w' a (Xt (.r nm) d σ)∧m.le (m.setR nm R)∧Z6 Im w w'∧∀ b o,Im b o→Im' b o:=by
 have hbl:Below w.heap.size w w':=by
  have ho:=hs'.mem.off
  rw[c3] at ho
  exact⟨ho.os,ho.tape,ho.output,ho.size,fun b hb=>ho.block b hb (c4 b)⟩
 have hi:∀ b o,Im b o→Im' b o:=fun b o h=>hs'.mem.im0 b o (by rw[c5];exact h)
 have hib:∀ b o,Im' b o→Im b o∨w.heap.size≤b:=fun b o h=>by
  rcases hs'.mem.imb b o h with h1 | h1 | h1
  ·left;rw[c5] at h1;exact h1
  ·right;rw[c3] at h1;exact h1
  ·exact absurd (cx'.hCR b h1) (c4 b)
 have h1:=hs.below hbl hi hib hs'.mem.im
 have hle:m.le (m.setR nm R):=Mp.setR_le fun R0 h0=>by rw[(hs.mem.fr nm hnm).2.1] at h0;cases h0
 have hnew:∀ b,R.hv.ownBlock=some b→w.heap.size≤b:=fun b hb=>by
  rcases hs'.mem.rown g R b hR hb with h1 | h1
  ·rw[c3] at h1;exact h1
  ·exact absurd (cx'.hCR b h1) (c4 b)
 have hcase:∀ {x R0},(m.setR nm R).row x=some R0→(x=nm∧R0=R)∨(x≠nm∧m.row x=some R0):=fun {x R0} hx=>by
  by_cases e:x=nm
  ·left;simp[Mp.setR,e] at hx;exact⟨e,hx.symm⟩
  ·right;simp[Mp.setR,e] at hx;exact⟨e,hx⟩
 have hro2:XJ (m.setR nm R) Im' w' R d:=(hro.cut hd).mono (fun _ _=>rfl) (Cg _ _) (Z6.refl _ _) (fun _ _ h=>h) fun _ _ _ h=>h
 refine⟨?_,hle,Z6.below hbl,hi⟩
 refine⟨{ h1.mem with row:=?_,rIm:=?_,rblk:=?_,rinj:=?_,fr:=?_,rown:=?_,m0r:=hs.mem.m0r_le hle,orow:=?_ },h1.df,h1.nt,fun x d hx=>(h1.tm x d (by rw[Zo,if_neg (by simp[Key.eq])] at hx;exact hx)).mono hle (Z6.refl _ _) (fun _ _ h=>h),fun x off d hx=>?_,fun x d hx=>?_,fun d hd=>?_,fun x d hd=>?_⟩
 ·intro x R0 hx
  rcases hcase hx with⟨_,rfl⟩ | ⟨_,hx⟩
  ·exact hs'.mem.row g R0 hR
  ·exact h1.mem.row x R0 hx
 ·intro x R0 b o hx
  rcases hcase hx with⟨_,rfl⟩ | ⟨_,hx⟩
  ·exact hs'.mem.rIm g R0 b o hR
  ·exact h1.mem.rIm x R0 b o hx
 ·intro x R0 b k hx
  rcases hcase hx with⟨_,rfl⟩ | ⟨_,hx⟩
  ·intro e hk;have:=hs.mem.lt k _ hk;have:=hnew b e;omega
  ·exact h1.mem.rblk x R0 b k hx
 ·intro x y R0 R1 b hx hy ho ho'
  rcases hcase hx with⟨e1,e2⟩ | ⟨_,hx⟩ <;> rcases hcase hy with⟨e3,e4⟩ | ⟨_,hy⟩
  ·rw[e1,e3]
  ·rw[e2] at ho;have:=hnew b ho;have:=hs.mem.rlt hy ho';omega
  ·rw[e4] at ho';have:=hnew b ho';have:=hs.mem.rlt hx ho;omega
  ·exact h1.mem.rinj x y R0 R1 b hx hy ho ho'
 ·intro x hx;refine⟨(hs.mem.fr x hx.1).1,?_,(hs.mem.fr x hx.1).2.2⟩;simp[Mp.setR,hx.2,(hs.mem.fr x hx.1).2.1]
 ·intro x y R0 b hx hy
  rcases hcase hy with⟨_,rfl⟩ | ⟨_,hy⟩
  ·intro e;have:=hs.mem.olt x _ hx;have:=hnew b e;omega
  ·exact h1.mem.orow x y R0 b hx hy
 ·intro x R0 b hx ho
  rcases hcase hx with⟨_,rfl⟩ | ⟨_,hx⟩
  ·exact .inl (Nat.le_trans hs.mem.off.size (hnew b ho))
  ·exact h1.mem.rown x R0 b hx ho
 ·rw[Zo,if_neg (by simp[Key.eq])] at hx
  obtain⟨c,v,q1,q2,q3⟩:=h1.ce x off d hx
  exact⟨c,v,q1,q2,q3.mono hle (Z6.refl _ _) (fun _ _ h=>h)⟩
 ·rw[Zo] at hx
  by_cases he:Key.eq (.r nm) (.r x)=true
  ·rw[if_pos he] at hx
   cases hx
   have:=Key.eq_iff.1 he
   cases this
   exact⟨R,by simp[Mp.setR],hro2⟩
  ·rw[if_neg he] at hx
   obtain⟨R0,q1,q2⟩:=h1.ro x d hx
   have hne:x≠nm:=fun e=>he (by rw[e];exact Key.eq_refl _)
   exact⟨R0,by simp[Mp.setR,hne,q1],q2.mono (fun _ _=>rfl) hle (Z6.refl _ _) (fun _ _ h=>h) fun _ _ _ h=>h⟩
 ·rw[Zo,if_neg (by simp[Key.eq])] at hd
  obtain⟨X,J,e,hX⟩:=h1.jk d hd
  obtain⟨X0,J0,e0,hX0⟩:=hs.jk d hd
  rw[e] at e0;cases e0
  refine⟨X,J,e,{ hX with row:=fun b x R0 hb hx ho=>?_ }⟩
  rcases hcase hx with⟨_,rfl⟩ | ⟨_,hx⟩
  ·have:=hX0.lt b hb;have:=hnew b ho;omega
  ·exact hX.row b x R0 hb hx ho
 ·rw[Zo,if_neg (by simp[Key.eq])] at hd
  obtain⟨b,q1,q2⟩:=h1.ok x d hd
  exact⟨b,q1,q2.mono rfl hle (Z6.refl _ _) fun _ _ h=>h⟩
theorem YI {f:FuncId}{fn:Func}{c:Code}{args:List D}{n E len:Nat}{l:List (List D)}(nt:Nat)(rs:List ResultVar)(hT:Zh P T)(hen:XI P f=true)(hf:P.funcs[f]?=some fn)(hb:fn.body=some c)(hnt:fn.ntmps=nt)(hrs:fn.results.toList=rs) 
  (hal:args.length≤nt) (ha:args.all (fun d=>d.ok (fun _=>false) Wh)=true) (hlo:D.okss (fun _=>false) Wh l=true)
  (h:∀ cx:Cx,cx.nt=nt→cx.n0=0→DW P cx c (Y0 0 args []) 0 (fun e σ _=>(e=.normal∨e=.ret)∧∃ g,P7 T σ rs=some (.ps g len)∧get σ (.r g)=some (.rp E n l))) (nm:Nat) :
  Wa P f args [] nm [(.r nm,.rp E n l)] (.ps nm len):=by
 refine⟨hen,fun cx Fr m Im w a σ vs hnm hs hargs _=>?_⟩
 refine calls_of_wp hf hb ?_
 obtain⟨cx',c1,c2,c3,c4,c5,hst⟩:=BM hs.mem hargs ha nt hal hnt
 refine Code.wp_mono (fun e a' w' ⟨σ',N',m',Im',⟨hq1,g,hq2,hq3⟩,hs'⟩=>?_) (h cx' c1 c2 _ Im w _ hst)
 obtain⟨v,r1,r2⟩:=R6 (P:=P) (fn:=fn) hT hs' (by rw[hrs];exact hq2)
 obtain⟨R,hR,hro⟩:=hs'.ro g _ hq3
 obtain⟨s1,s2,s3,s4⟩:=hs.adopt hnm hs' c3 c4 c5 hR hro (by simpa only[D.ok] using hlo)
 have hv:ZD (m.setR nm R) Im' w' v (.ps nm len):=by
  cases r2 with
  | ps a0 c0 _ _ ha hcp hh=>
   obtain⟨R0,q1,q2,q3⟩:=hh
   rw[hR] at q1;cases q1
   exact .ps a0 c0 nm len ha hcp ⟨R,by simp[Mp.setR],q2,q3⟩
 have hfin:∃ v' m2 Im2,Ending.returned v=.returned v'∧St cx (XA Fr nm) m2 Im2 w' a (Y9 (Xf [] σ) [(.r nm,.rp E n l)])∧ZD m2 Im2 w' v' (.ps nm len):=by
  rw[Xu]
  exact⟨v,_,Im',rfl,s1,hv⟩
 rcases hq1 with rfl | rfl
 ·exact⟨hs'.df,v,r1,hfin⟩
 ·exact⟨hs'.df,v,r1,hfin⟩
end
namespace So
variable {α:Type} {l l' r r':List (Int×α)}
def Same (l l':List (Int×α)):Prop:=∀ k:Int,l.filter (fun a=>a.1==k)=l'.filter (fun a=>a.1==k)
theorem Same.symm (h:Same l l'):Same l' l:=fun k=>(h k).symm
theorem Same.trans {l'':List (Int×α)}(h:Same l l')(h':Same l' l''):Same l l'':=fun k=>(h k).trans (h' k)
theorem Same.mem (h:Same l l'){x:Int×α}(hx:x∈l):x∈l':=by
 have:x∈l.filter (fun a=>a.1==x.1):=List.mem_filter.2 ⟨hx,by simp⟩
 rw[h x.1] at this
 exact(List.mem_filter.1 this).1
def ins (x:Int×α):List (Int×α)→List (Int×α)
 | []=>[x]
 | y :: l=>if y.1≤x.1 then y :: ins x l else x :: y :: l
def ssr:List (Int×α)→List (Int×α)
 | []=>[]
 | x :: l=>ins x (ssr l)
def ss (l:List (Int×α)):List (Int×α):=ssr l.reverse
end So
theorem JO (b:List Ty)(k i:Int)(a:List Tm):(Tm.mk b k i a).binds=b:=rfl
theorem FJ (b:List Ty)(k i:Int)(a:List Tm):(Tm.mk b k i a).kind=k:=rfl
theorem J8 (b:List Ty)(k i:Int)(a:List Tm):(Tm.mk b k i a).index=i:=rfl
theorem EO (b:List Ty)(k i:Int)(a:List Tm):(Tm.mk b k i a).args=a:=rfl
namespace Pn
def atP:List Int→Tm→Option (Tm×List Ty)
 | [],t=>some (t,t.binds)
 | j :: p,t=>if 0≤j∧j<(t.args.length:Int) then (atP p (t.args.getD j.toNat Tm.zero)).map fun r=>(r.1,t.binds++r.2) else none
theorem atP_app:∀ (p q:List Int) (T:Tm),atP (p++q) T=(atP p T).bind fun r=>(atP q r.1).map fun r'=>(r'.1,r.2++r'.2.drop r.1.binds.length)
 | [],q,T=>by
  rw[List.nil_append,atP]
  show _=(atP q T).map _
  cases h:atP q T with
  | none=>rfl
  | some r=>
   obtain⟨x,l⟩:=r
   have:∃ l',l=T.binds++l':=by
    cases q with
    | nil=>rw[atP] at h;cases h;exact⟨[],by simp⟩
    | cons j q=>
     rw[atP] at h
     split at h
     ·cases h2:atP q (T.args.getD j.toNat Tm.zero) with
      | none=>rw[h2] at h;cases h
      | some r=>rw[h2] at h;cases h;exact⟨_,rfl⟩
     ·cases h
   obtain⟨l',rfl⟩:=this
   simp
 | j :: p,q,T=>by
  rw[List.cons_append,atP,atP]
  split
  ·rw[atP_app p q]
   cases h:atP p (T.args.getD j.toNat Tm.zero) with
   | none=>rfl
   | some r=>
    show ((atP q r.1).map _).map _=(atP q r.1).map _
    cases h2:atP q r.1 with
    | none=>rfl
    | some r'=>simp
  ·rfl
end Pn
namespace So
end So
namespace So
end So
namespace So
variable {α:Type} {f:α→Bool} {l:List α} {j:Nat}
end So
def TRP_31:TI:=⟨4,true,[Value.slice none 0 0,Value.int IntKind.i64 0,Value.int IntKind.i64 0,Value.slice none 0 0],[(0,1,false),(1,2,true),(3,1,false)],none,64,6,none,false⟩
theorem IV:TypOk Tryz.prog 31 TRP_31:=by constructor <;> kernel_rfl
def TRP_22:TI:=⟨1,false,[Value.slice none 0 0],[],some 104,24,5,none,false⟩
theorem IT:TypOk Tryz.prog 22 TRP_22:=by constructor <;> kernel_rfl
def TRP_71:TI:=⟨1,false,[Value.slice none 0 0],[],some 3,24,5,none,false⟩
theorem IW:TypOk Tryz.prog 71 TRP_71:=by constructor <;> kernel_rfl
def TRP_3:TI:=⟨1,false,[Value.int IntKind.i64 0],[],none,8,2,none,false⟩
theorem EB:TypOk Tryz.prog 3 TRP_3:=by constructor <;> kernel_rfl
def TRP_29:TI:=⟨1,false,[Value.slice none 0 0],[],some 31,24,5,none,false⟩
theorem IU:TypOk Tryz.prog 29 TRP_29:=by constructor <;> kernel_rfl
def TRP_104:TI:=⟨2,true,[Value.slice none 0 0,Value.int IntKind.i64 0],[(0,1,false),(1,1,false)],none,32,6,none,false⟩
theorem Nt:TypOk Tryz.prog 104 TRP_104:=by constructor <;> kernel_rfl
def TRP:List (Nat×TI):=[(31,TRP_31),(22,TRP_22),(71,TRP_71),(3,TRP_3),(29,TRP_29),(104,TRP_104)]
theorem Yx:Zh Tryz.prog TRP:=(((((((Zh.nil _).cons Nt).cons IU).cons EB).cons IW).cons IT).cons IV)
namespace Pn
end Pn
def BH (l:List (List Int)):List (List D):=l.map fun p=>[.sl 1 (Y4 p) none]
@[simp] theorem Am (f g:Nat→Bool) (l:List (List Int)):D.okss f g (BH l)=true:=D.okss_map _ l fun l _=>by simp[D.oks,D.ok,Ed]
theorem Vc (l r:List Ty)(h:l.length+r.length≤900000):Zd Tryz.prog 38 [.sl 2 (eTys l) none,.sl 2 (eTys r) none] (.sl 2 (eTys (l++r)) none):=by
 rw[X8]
 have e1:=Zr l
 have e2:=Zr r
 refine Z9 0 12 [ResultVar.tmp 4] Yx (by kernel_rfl) Tryz.func38 rfl Tryz.ntmps38 rfl (by simp) ?dwords ?dbody
 case dwords=>simp[ZF,D.ok,D.oks,D.okss,ZQ,YF,XC,Yw,←X8]
 case dbody=>
  intro cx hnt hn0
  refine Zz ?_;refine Zx [] Yx hnt fun _ z9=>z9 _ _ ?_;refine Zz ?_;refine Zx [] Yx hnt fun _ z9=>z9 _ _ ?_;refine Zz ?_;refine Zx [] Yx hnt fun K hK=>?_;refine And.intro (by omega) ?_;refine hK _ _ ?_;clear hK K;refine Zz ?_;refine Zx [] Yx hnt fun K hK=>?_;refine And.intro (⟨rfl,by omega⟩) ?_;refine hK _ _ ?_;clear hK K
  refine Zu ?_
  exact Zj rfl
def Ay (r:Option (Tm×List Ty)):D:=match r with
 | some r=>.tu [.ag (eTm r.1),.sl 2 (eTys r.2) none,.v (.bool true)]
 | none=>.tu [.ag (eTm Tm.zero),.sl 2 [] none,.v (.bool false)]
theorem Wq:∀ (p:List Int) (t:Tm) (r:Tm×List Ty),Pn.atP p t=some r→r.2.length+r.1.full≤t.full+r.1.binds.length∧r.1.full≤t.full∧r.2.length≤t.full∧Ty.sizes r.2≤t.full
 | [],t,r,h=>by
  rw[Pn.atP] at h;cases h
  have:=X6 t
  have h2:=Ty.le_sizes t.binds
  dsimp only;omega
 | j :: p,t,r,h=>by
  rw[Pn.atP] at h
  split at h
  ·rename_i hj
   cases h2:Pn.atP p (t.args.getD j.toNat Tm.zero) with
   | none=>rw[h2] at h;cases h
   | some r'=>
    rw[h2] at h;cases h
    have hlt:j.toNat<t.args.length:=by omega
    have e:t.args.getD j.toNat Tm.zero=t.args[j.toNat]:=by rw[List.getD_eq_getElem?_getD,List.getElem?_eq_getElem hlt];rfl
    rw[e] at h2
    have ih:=Wq p _ r' h2
    have hm:=full_mem (List.getElem_mem hlt)
    have:=X6 t
    have h3:=Ty.le_sizes t.binds
    dsimp only
    rw[List.length_append,Ty.sizes_append]
    omega
  ·cases h
set_option maxHeartbeats 1000000 in
theorem Fd:∀ (p:List Int) (t:Tm),t.full≤800000→p.length≤100000→Zd Tryz.prog 56 [.ag (eTm t),.sl 1 (Y4 p) none] (Ay (Pn.atP p t))
 | [],t,hz,hp=>by
  rw[Pn.atP]
  unfold Ay
  dsimp only
  rw[Zv]
  refine Zm 0 50 [ResultVar.cell 4 31,ResultVar.tmp 5,ResultVar.tmp 6] Yx Tryz.func56 rfl Tryz.ntmps56 rfl fun cx hnt hn0=>?_
  ·skip
   refine Zz ?_;refine Zx [] Yx hnt fun _ z9=>z9 _ _ ?_;refine Zz ?_;refine Zz ?_;refine Zx [(13,.v (.bool true))] Yx hnt fun K hK=>?_;refine And.intro (Zn.refl _) ?_;refine hK _ _ ?_;clear hK K;refine Zy (t:=true) rfl ?_;rw[if_pos rfl];refine Zz ?_;refine ZP [] Yx hnt fun K hK=>?_;refine hK _ _ (by kernel_rfl) ?_;clear hK K
   refine Zu ?_
   exact Zj rfl
 | j :: q,t,hz,hp=>by
  rw[Pn.atP]
  by_cases hc:0≤j∧j<(t.args.length:Int)
  ·rw[if_pos hc]
   have hlt:j.toNat<t.args.length:=by omega
   have e:t.args.getD j.toNat Tm.zero=t.args[j.toNat]:=by rw[List.getD_eq_getElem?_getD,List.getElem?_eq_getElem hlt];rfl
   rw[e]
   have hm:=full_mem (List.getElem_mem hlt)
   have hft:=X6 t
   have hih:=Fd q t.args[j.toNat] (by omega) (by simp at hp;omega)
   have hsz:=Wq q t.args[j.toNat]
   have hbl:=Ty.le_sizes t.binds
   obtain⟨n,hn⟩:∃ n:Nat,j=n:=⟨j.toNat,by omega⟩
   subst hn
   rw[Int.toNat_natCast] at hlt
   obtain⟨u,hu⟩:∃ u,t.args[(n:Int).toNat]=u:=⟨_,rfl⟩
   have hu':t.args[n]=u:=by rw[←hu];simp
   rw[hu] at hih hsz hm ⊢
   cases ha:Pn.atP q u with
   | none=>
    rw[ha] at hih
    unfold Ay at hih ⊢
    dsimp only[Option.map_none] at hih ⊢
    rw[Zv,Zv] at hih
    rw[Zv,Zv]
    refine Zm 0 50 [ResultVar.cell 4 31,ResultVar.tmp 5,ResultVar.tmp 6] Yx Tryz.func56 rfl Tryz.ntmps56 rfl fun cx hnt hn0=>?_
    ·skip
     refine Zz ?_;refine Zx [] Yx hnt fun _ z9=>z9 _ _ ?_;refine Zz ?_;refine Zz ?_;refine Zx [(12,.v (.int .i64 (↑(q.length+1)))),(13,.v (.bool false))] Yx hnt fun K hK=>?_;refine And.intro (Zq (by rw[Zi];rfl)) ?_;refine And.intro (XT (by omega)) ?_;refine hK _ _ ?_;clear hK K;refine Zy (t:=false) rfl ?_;rw[if_neg (by simp)]
     refine Zw ?_;refine Zz ?_;refine Zx [(18,.q [.v (.int .i64 ↑n)])] Yx hnt fun K hK=>?_;refine And.intro (⟨by omega,by rw[Zi,List.length_cons];omega⟩) ?_;refine And.intro (Zn.of_eq (by simp[Y4])) ?_;refine hK _ _ ?_;clear hK K;refine Zz ?_;refine Zz ?_;refine Zx [(21,.v (.bool false)),(26,.v (.int .i64 (↑t.args.length))),(27,.v (.bool false))] Yx hnt fun K hK=>?_
     refine And.intro Xq ?_;refine And.intro (Zq (by rw[Zs])) ?_;refine And.intro Xq ?_;refine hK _ _ ?_;clear hK K;refine Zy (t:=false) rfl ?_;rw[if_neg (by simp)];refine Zw ?_;refine Zz ?_;refine ZP [(34,.q [.sl 2 (eTys u.binds) none,.v (.int .i64 u.kind),.v (.int .i64 u.index),.sl 4 (eTms u.args) none]),(37,.sl 1 (Y4 q) none)] Yx hnt fun K hK=>?_;refine And.intro (⟨by omega,by rw[Zs];omega⟩) ?_
     refine And.intro (Zn.of_eq (by rw[Int.toNat_natCast,ZX t.args n hlt,hu',Zv])) ?_;refine And.intro (⟨by decide,by rw[Zi];simp;omega⟩) ?_;refine And.intro (Zn.of_eq (by simp[Y4,List.take_of_length_le])) ?_;refine Ze (hih) ?_;refine hK _ _ (by kernel_rfl) ?_;clear hK K;refine Zz ?_;refine Zz ?_;refine Zx [] Yx hnt fun _ z9=>z9 _ _ ?_
     refine Zy (t:=true) rfl ?_;rw[if_pos rfl];refine Zz ?_;refine Zx [] Yx hnt fun _ z9=>z9 _ _ ?_;refine Zu ?_
     exact Zj rfl
   | some r=>
    obtain⟨x,l⟩:=r
    have hsz:=hsz _ ha
    have hbh:=Vc t.binds l (by dsimp only at hsz;omega)
    rw[ha] at hih
    unfold Ay at hih ⊢
    dsimp only[Option.map_some] at hih ⊢
    rw[Zv,Zv] at hih
    rw[Zv,Zv]
    refine Zm 0 50 [ResultVar.cell 4 31,ResultVar.tmp 5,ResultVar.tmp 6] Yx Tryz.func56 rfl Tryz.ntmps56 rfl fun cx hnt hn0=>?_
    ·skip
     refine Zz ?_;refine Zx [] Yx hnt fun _ z9=>z9 _ _ ?_;refine Zz ?_;refine Zz ?_;refine Zx [(12,.v (.int .i64 (↑(q.length+1)))),(13,.v (.bool false))] Yx hnt fun K hK=>?_;refine And.intro (Zq (by rw[Zi];rfl)) ?_;refine And.intro (XT (by omega)) ?_;refine hK _ _ ?_;clear hK K;refine Zy (t:=false) rfl ?_;rw[if_neg (by simp)]
     refine Zw ?_;refine Zz ?_;refine Zx [(18,.q [.v (.int .i64 ↑n)])] Yx hnt fun K hK=>?_;refine And.intro (⟨by omega,by rw[Zi,List.length_cons];omega⟩) ?_;refine And.intro (Zn.of_eq (by simp[Y4])) ?_;refine hK _ _ ?_;clear hK K;refine Zz ?_;refine Zz ?_;refine Zx [(21,.v (.bool false)),(26,.v (.int .i64 (↑t.args.length))),(27,.v (.bool false))] Yx hnt fun K hK=>?_
     refine And.intro Xq ?_;refine And.intro (Zq (by rw[Zs])) ?_;refine And.intro Xq ?_;refine hK _ _ ?_;clear hK K;refine Zy (t:=false) rfl ?_;rw[if_neg (by simp)];refine Zw ?_;refine Zz ?_;refine ZP [(34,.q [.sl 2 (eTys u.binds) none,.v (.int .i64 u.kind),.v (.int .i64 u.index),.sl 4 (eTms u.args) none]),(37,.sl 1 (Y4 q) none)] Yx hnt fun K hK=>?_;refine And.intro (⟨by omega,by rw[Zs];omega⟩) ?_
     refine And.intro (Zn.of_eq (by rw[Int.toNat_natCast,ZX t.args n hlt,hu',Zv])) ?_;refine And.intro (⟨by decide,by rw[Zi];simp;omega⟩) ?_;refine And.intro (Zn.of_eq (by simp[Y4,List.take_of_length_le])) ?_;refine Ze (hih) ?_;refine hK _ _ (by kernel_rfl) ?_;clear hK K;refine Zz ?_;refine Zz ?_;refine Zx [] Yx hnt fun _ z9=>z9 _ _ ?_
     refine Zy (t:=false) rfl ?_;rw[if_neg (by simp)];refine Zw ?_;refine Zz ?_;refine ZP [] Yx hnt fun K hK=>?_;refine Ze (hbh) ?_;refine hK _ _ (by kernel_rfl) ?_;clear hK K;refine Zu ?_
     exact Zj rfl
  ·rw[if_neg hc]
   unfold Ay
   dsimp only
   rw[Zv,Zv]
   by_cases h0:j<0
   ·skip
    refine Zm 0 50 [ResultVar.cell 4 31,ResultVar.tmp 5,ResultVar.tmp 6] Yx Tryz.func56 rfl Tryz.ntmps56 rfl fun cx hnt hn0=>?_
    ·skip
     refine Zz ?_;refine Zx [] Yx hnt fun _ z9=>z9 _ _ ?_;refine Zz ?_;refine Zz ?_;refine Zx [(12,.v (.int .i64 (↑(q.length+1)))),(13,.v (.bool false))] Yx hnt fun K hK=>?_;refine And.intro (Zq (by rw[Zi];rfl)) ?_;refine And.intro (XT (by omega)) ?_;refine hK _ _ ?_;clear hK K;refine Zy (t:=false) rfl ?_;rw[if_neg (by simp)]
     refine Zw ?_;refine Zz ?_;refine Zx [(18,.q [.v (.int .i64 j)])] Yx hnt fun K hK=>?_;refine And.intro (⟨by omega,by rw[Zi,List.length_cons];omega⟩) ?_;refine And.intro (Zn.of_eq (by simp[Y4])) ?_;refine hK _ _ ?_;clear hK K;refine Zz ?_;refine Zz ?_;refine Zx [(21,.v (.bool true))] Yx hnt fun K hK=>?_;refine And.intro YD ?_;refine hK _ _ ?_;clear hK K
     refine Zy (t:=true) rfl ?_;rw[if_pos rfl];refine Zz ?_;refine Zx [] Yx hnt fun _ z9=>z9 _ _ ?_;refine Zu ?_
     exact Zj rfl
   ·skip
    refine Zm 0 50 [ResultVar.cell 4 31,ResultVar.tmp 5,ResultVar.tmp 6] Yx Tryz.func56 rfl Tryz.ntmps56 rfl fun cx hnt hn0=>?_
    ·skip
     refine Zz ?_;refine Zx [] Yx hnt fun _ z9=>z9 _ _ ?_;refine Zz ?_;refine Zz ?_;refine Zx [(12,.v (.int .i64 (↑(q.length+1)))),(13,.v (.bool false))] Yx hnt fun K hK=>?_;refine And.intro (Zq (by rw[Zi];rfl)) ?_;refine And.intro (XT (by omega)) ?_;refine hK _ _ ?_;clear hK K;refine Zy (t:=false) rfl ?_;rw[if_neg (by simp)]
     refine Zw ?_;refine Zz ?_;refine Zx [(18,.q [.v (.int .i64 j)])] Yx hnt fun K hK=>?_;refine And.intro (⟨by omega,by rw[Zi,List.length_cons];omega⟩) ?_;refine And.intro (Zn.of_eq (by simp[Y4])) ?_;refine hK _ _ ?_;clear hK K;refine Zz ?_;refine Zz ?_;refine Zx [(21,.v (.bool false)),(26,.v (.int .i64 (↑t.args.length))),(27,.v (.bool true))] Yx hnt fun K hK=>?_
     refine And.intro Xq ?_;refine And.intro (Zq (by rw[Zs])) ?_;refine And.intro YD ?_;refine hK _ _ ?_;clear hK K;refine Zy (t:=true) rfl ?_;rw[if_pos rfl];refine Zz ?_;refine Zx [] Yx hnt fun _ z9=>z9 _ _ ?_;refine Zu ?_
     exact Zj rfl
def TF4_3:TI:=⟨1,false,[Value.int IntKind.i64 0],[],none,8,2,none,false⟩
theorem Dh:TypOk Tryz.prog 3 TF4_3:=by constructor <;> kernel_rfl
def TF4_104:TI:=⟨2,true,[Value.slice none 0 0,Value.int IntKind.i64 0],[(0,1,false),(1,1,false)],none,32,6,none,false⟩
theorem NF:TypOk Tryz.prog 104 TF4_104:=by constructor <;> kernel_rfl
def TF4_22:TI:=⟨1,false,[Value.slice none 0 0],[],some 104,24,5,none,false⟩
theorem Gs:TypOk Tryz.prog 22 TF4_22:=by constructor <;> kernel_rfl
def TF4:List (Nat×TI):=[(3,TF4_3),(104,TF4_104),(22,TF4_22)]
theorem Y1:Zh Tryz.prog TF4:=((((Zh.nil _).cons Gs).cons NF).cons Dh)
mutual
def XG (most:Int):Ty→Int→Int
 | .mk a _,d=>if d≤0 then most+1 else fewTs most a (d-1) 1
def fewTs (most:Int):List Ty→Int→Int→Int
 | [],_,n=>n
 | t :: l,d,n=>if n≤most then fewTs most l d (n+XG most t d) else n
end
theorem Qw {most:Int}(hm:0≤most){B:Int}(hB:0≤B):∀ (l:List Ty) (d n:Int),(∀ t∈l,1≤XG most t d∧XG most t d≤B)→1≤n→n≤most+B→1≤fewTs most l d n∧fewTs most l d n≤most+B
 | [],d,n,_,h0,h1=>by rw[fewTs];exact⟨h0,h1⟩
 | t :: l,d,n,h,h0,h1=>by
  rw[fewTs]
  split
  ·have:=h t (by simp)
   exact Qw hm hB l d _ (fun u hu=>h u (by simp[hu])) (by omega) (by omega)
  ·exact⟨h0,h1⟩
theorem Ue {most:Int}(hm:1≤most):∀ (k:Nat) (t:Ty) (d:Int),d≤k→1≤XG most t d∧XG most t d≤most * k+most+1
 | 0,.mk a b,d,hd=>by
  rw[XG,if_pos (by omega)]
  have e:most * ((0:Nat):Int)=0:=Int.mul_zero _
  rw[e];omega
 | k+1,.mk a b,d,hd=>by
  rw[XG]
  have e:most * ((k+1:Nat):Int)=most * (k:Int)+most:=by rw[Int.natCast_add,Int.mul_add];simp
  have h0:0≤most * (k:Int):=Int.mul_nonneg (by omega) (by omega)
  split
  ·rw[e];omega
  ·have:=Qw (most:=most) (by omega) (B:=most * k+most+1) (by omega) a (d-1) 1 (fun t _=>Ue hm k t (d-1) (by omega)) (by omega) (by omega)
   rw[e];omega
set_option maxHeartbeats 1000000 in
theorem BO (most:Int)(h1:1≤most)(h2:most≤1000):∀ (t:Ty) (d:Int),-1000≤d→d≤1000→Zd Tryz.prog 76 [.ag (eTy t),.v (.int .i64 most),.v (.int .i64 d)] (.v (.int .i64 (XG most t d))):=by
 intro t
 induction t using Ty.ind with
 | h a b ih=>
 intro d hd1 hd2
 refine Z9 0 37 [ResultVar.tmp 6] Y1 (by kernel_rfl) Tryz.func76 rfl Tryz.ntmps76 rfl (by simp) ?dwords ?dbody
 case dwords=>simp[ZF,D.ok,D.oks,ZQ,PB]
 case dbody=>
  intro cx hnt hn0
  refine Zz ?_;refine Zx [] Y1 hnt fun _ z9=>z9 _ _ ?_;refine Zz (Zz ?_)
  by_cases hd:d≤0
  ·have hf:XG most (.mk a b) d=most+1:=by rw[XG,if_pos hd]
   rw[hf]
   refine Zx [(10,.v (.bool true))] Y1 hnt fun K hK=>?_;refine And.intro (ZZ hd) ?_;refine hK _ _ ?_;clear hK K;refine Zy (t:=true) rfl ?_;rw[if_pos rfl];refine Zz ?_;refine Zx [(12,.v (.int .i64 (most+1)))] Y1 hnt fun K hK=>?_;refine And.intro (Zq (IntWalk.i64_in _ (by omega))) ?_;refine hK _ _ ?_;clear hK K;refine Zu ?_
   exact Yq (N:=0) (.inr rfl) rfl (Zn.refl _) trivial
  ·have hf:XG most (.mk a b) d=fewTs most a (d-1) 1:=by rw[XG,if_neg hd]
   rw[hf]
   refine Zx [(10,.v (.bool false))] Y1 hnt fun K hK=>?_;refine And.intro (Zf hd) ?_;refine hK _ _ ?_;clear hK K;refine Zy (t:=false) rfl ?_;rw[if_neg (by simp)];refine Zw ?_;refine Zz ?_;refine Zx [] Y1 hnt fun _ z9=>z9 _ _ ?_;refine Zz (Zz ?_);refine Zx [] Y1 hnt fun _ z9=>z9 _ _ ?_;refine Zt ?_
   refine Z4 (ι:={ p:Nat×Int // fewTs most (a.drop p.1) (d-1) p.2=fewTs most a (d-1) 1∧(p.1:Int)+1≤p.2∧p.2≤2000000∧p.1≤a.length }) (fun p=>[(.t 1,.v (.int .i64 most)),(.t 2,.v (.int .i64 d)),(.t 3,.p 0 0),(.t 7,.v (.int .i64 p.1.2)),(.t 8,.v (.int .i64 (p.1.1:Int))),(.c 0 0,.sl 2 (eTys a) none),(.c 0 1,.v (.int .i64 b))]) 1 (fun p=>a.length-p.1.1) ⟨(0,1),by simp,by simp,by simp,by simp⟩ VS.toA fun p=>?_
   obtain⟨⟨j,n⟩,hj1,hj2,hj3,hj4⟩:=p
   dsimp only at hj1 hj2 hj3 hj4 ⊢
   refine Zz (Zz ?_)
   by_cases hlt:j<a.length
   ·have hdr:a.drop j=a[j] :: a.drop (j+1):=List.drop_eq_getElem_cons hlt
    rw[hdr,fewTs] at hj1
    by_cases hn:n≤most
    ·rw[if_pos hn] at hj1
     have hih:=ih a[j] (List.getElem_mem hlt) (d-1) (by omega) (by omega)
     rw[Zb] at hih
     have hbd:=Ue h1 1000 a[j] (d-1) (by omega)
     have hbd2:most * ((1000:Nat):Int)≤1000000:=by
      have:most * ((1000:Nat):Int)=1000 * most:=by rw[Int.mul_comm];rfl
      omega
     refine Zx [(17,.v (.bool true)),(21,.v (.bool true))] Y1 hnt fun K hK=>?_;refine And.intro (ZZ (by rw[Zr];omega)) ?_;refine And.intro (ZZ hn) ?_;refine hK _ _ ?_;clear hK K;refine Zy (t:=true) rfl ?_;rw[if_pos rfl];refine Zw ?_;refine Zz (Zt ?_);refine Zx [(29,.q [.sl 2 (eTys a[j].args) none,.v (.int .i64 a[j].base)]),(33,.v (.int .i64 (d-1))),(35,.v (.int .i64 (n+XG most a[j] (d-1))))] Y1 hnt fun K hK=>?_
     refine And.intro (⟨by omega,by rw[Zr];omega⟩) ?_;refine And.intro (Zn.of_eq (by rw[Int.toNat_natCast,ZU a j hlt,Zb])) ?_;refine And.intro (Zq (IntWalk.i64_in _ (by omega))) ?_;refine Ze (hih) ?_;refine And.intro (Zq (IntWalk.i64_in _ (by omega))) ?_;refine hK _ _ ?_;clear hK K;refine Zx [(24,.v (.int .i64 ((j+1:Nat):Int)))] Y1 hnt fun K hK=>?_;refine And.intro (Zq (by rw[IntWalk.i64_in _ (by omega)];omega)) ?_
     refine hK _ _ ?_;clear hK K
     exact⟨⟨(j+1,n+XG most a[j] (d-1)),hj1,by dsimp only;omega,by dsimp only;omega,hlt⟩,by dsimp only;omega,VS.toA⟩
    ·rw[if_neg hn] at hj1
     rw[←hj1]
     refine Zx [(17,.v (.bool true)),(21,.v (.bool false))] Y1 hnt fun K hK=>?_;refine And.intro (ZZ (by rw[Zr];omega)) ?_;refine And.intro (Zf hn) ?_;refine hK _ _ ?_;clear hK K;refine Zy (t:=false) rfl ?_;rw[if_neg (by simp)];refine Zc ?_;refine Zz ?_;refine Zx [] Y1 hnt fun _ z9=>z9 _ _ ?_;refine Zu ?_
     exact Yq (N:=0) (.inr rfl) rfl (Zn.refl _) trivial
   ·rw[List.drop_eq_nil_of_le (by omega),fewTs] at hj1
    rw[←hj1]
    refine Zx [(17,.v (.bool false))] Y1 hnt fun K hK=>?_;refine And.intro (Zf (by rw[Zr];omega)) ?_;refine hK _ _ ?_;clear hK K;refine Zy (t:=false) rfl ?_;rw[if_neg (by simp)];refine Zc ?_;refine Zz ?_;refine Zx [] Y1 hnt fun _ z9=>z9 _ _ ?_;refine Zu ?_
    exact Yq (N:=0) (.inr rfl) rfl (Zn.refl _) trivial
theorem TZ {most:Int}:∀ (l:List Ty) (d n:Int),(∀ t∈l,XG most t d≤most→(t.size:Int)=XG most t d)→(∀ t∈l,1≤XG most t d)→1≤n→fewTs most l d n≤most→fewTs most l d n=n+Ty.sizes l
 | [],d,n,_,_,_,_=>by rw[fewTs];simp[Ty.sizes]
 | t :: l,d,n,h,h1,hn,hf=>by
  rw[fewTs] at hf ⊢
  split at hf
  ·rename_i hm
   rw[if_pos hm]
   have h2:=h1 t (by simp)
   have h3:=TZ l d _ (fun u hu=>h u (by simp[hu])) (fun u hu=>h1 u (by simp[hu])) (by omega) hf
   have h4:XG most t d≤most:=by omega
   have h5:=h t (by simp) h4
   rw[h3,Ty.sizes];omega
  ·rename_i hm;omega
theorem V1 {most:Int}(hm:1≤most):∀ (k:Nat) (t:Ty) (d:Int),d≤k→XG most t d≤most→(t.size:Int)=XG most t d
 | 0,.mk a b,d,hd,h=>by rw[XG,if_pos (by omega)] at h;omega
 | k+1,.mk a b,d,hd,h=>by
  rw[XG] at h ⊢
  split at h
  ·omega
  ·rename_i hp
   rw[if_neg hp]
   have:=TZ a (d-1) 1 (fun t _=>V1 hm k t (d-1) (by omega)) (fun t _=>(Ue hm k t (d-1) (by omega)).1) (by omega) h
   rw[this,Ty.size_eq];omega
theorem D0 (most:Int)(h1:1≤most)(h2:most≤1000)(t:Ty)(d:Int)(h3:-1000≤d)(h4:d≤1000):Zd Tryz.prog 39 [.ag (eTy t),.v (.int .i64 most),.v (.int .i64 d)] (.v (.bool (decide (XG most t d≤most)))):=by
 have h:=BO most h1 h2 t d h3 h4
 rw[Zb] at h ⊢
 refine Z9 0 13 [ResultVar.tmp 6] Y1 (by kernel_rfl) Tryz.func39 rfl Tryz.ntmps39 rfl (by simp) ?dwords ?dbody
 case dwords=>simp[ZF,D.ok,D.oks,ZQ,Yw]
 case dbody=>
  intro cx hnt hn0
  refine Zz ?_;refine Zx [] Y1 hnt fun _ z9=>z9 _ _ ?_;refine Zz ?_;refine Zx [] Y1 hnt fun K hK=>?_;refine Ze (h) ?_;refine hK _ _ ?_;clear hK K;refine Zu ?_
  exact Yq (N:=0) (.inr rfl) rfl (Zn.refl _) trivial
set_option maxHeartbeats 1000000 in
theorem CX:∀ (t:Ty) (_:t.size≤1000000),Zd Tryz.prog 90 [.ag (eTy t)] (.v (.int .i64 (t.size:Int))):=by
 intro t
 induction t using Ty.ind with
 | h a b ih=>
 intro hsz
 have hsz2:=Ty.size_eq a b
 refine Z9 0 21 [ResultVar.tmp 2] Y1 (by kernel_rfl) Tryz.func90 rfl Tryz.ntmps90 rfl (by simp) ?dwords ?dbody
 case dwords=>simp[ZF,D.ok,D.oks,ZQ,PB]
 case dbody=>
  intro cx hnt hn0
  refine Zz ?_;refine Zx [] Y1 hnt fun _ z9=>z9 _ _ ?_;refine Zz ?_;refine Zx [] Y1 hnt fun _ z9=>z9 _ _ ?_;refine Zz (Zz ?_);refine Zx [] Y1 hnt fun _ z9=>z9 _ _ ?_;refine Zt ?_
  refine Z4 (ι:={ j:Nat // j≤a.length }) (fun j=>[(.t 1,.p 0 0),(.t 3,.v (.int .i64 ((Ty.sizes (a.take j.1):Int)+1))),(.t 4,.v (.int .i64 (j.1:Int))),(.c 0 0,.sl 2 (eTys a) none),(.c 0 1,.v (.int .i64 b))]) 1 (fun j=>a.length-j.1) ⟨0,Nat.zero_le _⟩ VS.toA fun j=>?_
  obtain⟨j,hj⟩:=j
  dsimp only
  have hst:=Ty.sizes_take_le a j
  have hst2:=Ty.sizes_take_le a (j+1)
  have hla:=Ty.le_sizes a
  refine Zz (Zz ?_)
  by_cases hlt:j<a.length
  ·have hih:=ih a[j] (List.getElem_mem hlt) (by have:=Ty.size_get (b:=b) j hlt;omega)
   rw[Zb] at hih
   have htk:=Ty.sizes_take a j hlt
   refine Zx [(9,.v (.bool true))] Y1 hnt fun K hK=>?_;refine And.intro (ZZ (by rw[Zr];omega)) ?_;refine hK _ _ ?_;clear hK K;refine Zy (t:=true) rfl ?_;rw[if_pos rfl];refine Zw ?_;refine Zz (Zt ?_);refine Zx [(16,.q [.sl 2 (eTys a[j].args) none,.v (.int .i64 a[j].base)]),(19,.v (.int .i64 ((Ty.sizes (a.take (j+1)):Int)+1)))] Y1 hnt fun K hK=>?_
   refine And.intro (⟨by omega,by rw[Zr];omega⟩) ?_;refine And.intro (Zn.of_eq (by rw[Int.toNat_natCast,ZU a j hlt,Zb])) ?_;refine Ze (hih) ?_;refine And.intro (Zq (by rw[IntWalk.i64_in _ (by omega),htk];omega)) ?_;refine hK _ _ ?_;clear hK K;refine Zx [(11,.v (.int .i64 ((j+1:Nat):Int)))] Y1 hnt fun K hK=>?_;refine And.intro (Zq (by rw[IntWalk.i64_in _ (by omega)];omega)) ?_
   refine hK _ _ ?_;clear hK K
   exact⟨⟨j+1,hlt⟩,by dsimp only;omega,VS.toA⟩
  ·skip
   refine Zx [(9,.v (.bool false))] Y1 hnt fun K hK=>?_;refine And.intro (Zf (by rw[Zr];omega)) ?_;refine hK _ _ ?_;clear hK K;refine Zy (t:=false) rfl ?_;rw[if_neg (by simp)];refine Zc ?_;refine Zz ?_
   have hsz3:((Ty.mk a b).size:Int)=(Ty.sizes (a.take j):Int)+1:=by rw[List.take_of_length_le (by omega),hsz2];omega
   rw[hsz3]
   refine Zx [] Y1 hnt fun _ z9=>z9 _ _ ?_;refine Zu ?_
   exact Yq (N:=0) (.inr rfl) rfl (Zn.refl _) trivial
def TF6_3:TI:=⟨1,false,[Value.int IntKind.i64 0],[],none,8,2,none,false⟩
theorem Di:TypOk Tryz.prog 3 TF6_3:=by constructor <;> kernel_rfl
def TF6_31:TI:=⟨4,true,[Value.slice none 0 0,Value.int IntKind.i64 0,Value.int IntKind.i64 0,Value.slice none 0 0],[(0,1,false),(1,2,true),(3,1,false)],none,64,6,none,false⟩
theorem Gv:TypOk Tryz.prog 31 TF6_31:=by constructor <;> kernel_rfl
def TF6_22:TI:=⟨1,false,[Value.slice none 0 0],[],some 104,24,5,none,false⟩
theorem Gt:TypOk Tryz.prog 22 TF6_22:=by constructor <;> kernel_rfl
def TF6_29:TI:=⟨1,false,[Value.slice none 0 0],[],some 31,24,5,none,false⟩
theorem Gu:TypOk Tryz.prog 29 TF6_29:=by constructor <;> kernel_rfl
def TF6_104:TI:=⟨2,true,[Value.slice none 0 0,Value.int IntKind.i64 0],[(0,1,false),(1,1,false)],none,32,6,none,false⟩
theorem NG:TypOk Tryz.prog 104 TF6_104:=by constructor <;> kernel_rfl
def TF6:List (Nat×TI):=[(3,TF6_3),(31,TF6_31),(22,TF6_22),(29,TF6_29),(104,TF6_104)]
theorem Yu:Zh Tryz.prog TF6:=((((((Zh.nil _).cons NG).cons Gu).cons Gt).cons Gv).cons Di)
def Wf (most d:Int):List Ty→Int→Option Int
 | [],n=>some n
 | t :: l,n=>if n≤most then (if XG most t d≤most then Wf most d l (n+t.size) else none) else some n
mutual
def Wi (most:Int):Tm→Int→Int
 | .mk bs _ _ a,d=>if d≤0 then most+1 else match Wf most d bs 1 with
  | none=>most+1
  | some n=>fewMs most a (d-1) n
def fewMs (most:Int):List Tm→Int→Int→Int
 | [],_,n=>n
 | t :: l,d,n=>if n≤most then fewMs most l d (n+Wi most t d) else n
end
theorem TX {most d:Int}(hm:1≤most)(hd:d≤1000):∀ (l:List Ty) (n:Int),1≤n→n≤2 * most→∀ r,Wf most d l n=some r→1≤r∧r≤2 * most
 | [],n,h0,h1,r,h=>by rw[Wf] at h;cases h;exact⟨h0,h1⟩
 | t :: l,n,h0,h1,r,h=>by
  rw[Wf] at h
  split at h
  ·split at h
   ·rename_i h2
    have:=V1 hm 1000 t d hd h2
    have:=(Ue hm 1000 t d hd).1
    exact TX hm hd l _ (by omega) (by omega) r h
   ·cases h
  ·cases h;exact⟨h0,h1⟩
theorem Qv {most:Int}(hm:1≤most){B:Int}(hB:most≤B):∀ (l:List Tm) (d n:Int),(∀ t∈l,1≤Wi most t d∧Wi most t d≤B)→1≤n→n≤most+B→1≤fewMs most l d n∧fewMs most l d n≤most+B
 | [],d,n,_,h0,h1=>by rw[fewMs];exact⟨h0,h1⟩
 | t :: l,d,n,h,h0,h1=>by
  rw[fewMs]
  split
  ·have:=h t (by simp)
   exact Qv hm hB l d _ (fun u hu=>h u (by simp[hu])) (by omega) (by omega)
  ·exact⟨h0,h1⟩
theorem SE {most:Int}(hm:1≤most):∀ (k:Nat) (t:Tm) (d:Int),k≤1000→d≤k→1≤Wi most t d∧Wi most t d≤most * k+most+1
 | 0,.mk bs kd i a,d,hk,hd=>by
  rw[Wi,if_pos (by omega)]
  have e:most * ((0:Nat):Int)=0:=Int.mul_zero _
  rw[e];omega
 | k+1,.mk bs kd i a,d,hk,hd=>by
  rw[Wi]
  have e:most * ((k+1:Nat):Int)=most * (k:Int)+most:=by rw[Int.natCast_add,Int.mul_add];simp
  have h0:0≤most * (k:Int):=Int.mul_nonneg (by omega) (by omega)
  rw[e]
  split
  ·omega
  ·cases hb:Wf most d bs 1 with
   | none=>dsimp only;omega
   | some n=>
    have hn:=TX hm (by omega) bs 1 (by omega) (by omega) n hb
    have:=Qv hm (B:=most * k+most+1) (by omega) a (d-1) n (fun t _=>SE hm k t (d-1) (by omega) (by omega)) hn.1 (by omega)
    dsimp only
    omega
set_option maxHeartbeats 4000000 in
theorem BP (most:Int)(h1:1≤most)(h2:most≤1000):∀ (t:Tm) (d:Int),-1000≤d→d≤1000→Zd Tryz.prog 53 [.ag (eTm t),.v (.int .i64 most),.v (.int .i64 d)] (.v (.int .i64 (Wi most t d))):=by
 intro t
 induction t using Tm.ind with
 | h bs k i a ih=>
 intro d hd1 hd2
 obtain⟨V,hV⟩:∃ V,Wi most (.mk bs k i a) d=V:=⟨_,rfl⟩
 rw[hV]
 rw[Wi] at hV
 refine Z9 0 69 [ResultVar.tmp 6] Yu (by kernel_rfl) Tryz.func53 rfl Tryz.ntmps53 rfl (by simp) ?dwords ?dbody
 case dwords=>simp[ZF,D.ok,D.oks,ZQ,Y5]
 case dbody=>
  intro cx hnt hn0
  refine Zz ?_;refine Zx [] Yu hnt fun _ z9=>z9 _ _ ?_;refine Zz (Zz ?_)
  by_cases hd:d≤0
  ·rw[if_pos hd] at hV
   subst hV
   refine Zx [(11,.v (.bool true))] Yu hnt fun K hK=>?_;refine And.intro (ZZ hd) ?_;refine hK _ _ ?_;clear hK K;refine Zy (t:=true) rfl ?_;rw[if_pos rfl];refine Zz ?_;refine Zx [(13,.v (.int .i64 (most+1)))] Yu hnt fun K hK=>?_;refine And.intro (Zq (IntWalk.i64_in _ (by omega))) ?_;refine hK _ _ ?_;clear hK K;refine Zu ?_
   exact Yq (N:=0) (.inr rfl) rfl (Zn.refl _) trivial
  ·rw[if_neg hd] at hV;refine Zx [(11,.v (.bool false))] Yu hnt fun K hK=>?_;refine And.intro (Zf hd) ?_;refine hK _ _ ?_;clear hK K;refine Zy (t:=false) rfl ?_;rw[if_neg (by simp)];refine Zw ?_;refine Zz ?_;refine Zx [] Yu hnt fun _ z9=>z9 _ _ ?_
   refine Ck (ι:={ n:Int // 1≤n∧n≤2 * most∧V=fewMs most a (d-1) n }) (fun n=>[(.t 1,.v (.int .i64 most)),(.t 2,.v (.int .i64 d)),(.t 3,.p 0 0),(.t 7,.v (.int .i64 n.1)),(.c 0 0,.sl 2 (eTys bs) none),(.c 0 1,.v (.int .i64 k)),(.c 0 2,.v (.int .i64 i)),(.c 0 3,.sl 4 (eTms a) none)]) 1 ?_ fun n=>?_
   ·refine Zz ?_;refine Zx [] Yu hnt fun _ z9=>z9 _ _ ?_;refine Zt ?_
    refine Z4 (ι:={ p:Nat×Int // Wf most d (bs.drop p.1) p.2=Wf most d bs 1∧(p.1:Int)+1≤p.2∧p.2≤2 * most∧p.1≤bs.length }) (fun p=>[(.t 1,.v (.int .i64 most)),(.t 2,.v (.int .i64 d)),(.t 3,.p 0 0),(.t 7,.v (.int .i64 p.1.2)),(.t 8,.v (.int .i64 (p.1.1:Int))),(.c 0 0,.sl 2 (eTys bs) none),(.c 0 1,.v (.int .i64 k)),(.c 0 2,.v (.int .i64 i)),(.c 0 3,.sl 4 (eTms a) none)]) 1 (fun p=>bs.length-p.1.1) ⟨(0,1),by simp,by simp,by dsimp only;omega,by simp⟩ VS.toA fun p=>?_
    obtain⟨⟨j,n⟩,hj1,hj2,hj3,hj4⟩:=p
    dsimp only at hj1 hj2 hj3 hj4 ⊢
    refine Zz (Zz ?_)
    by_cases hlt:j<bs.length
    ·have hdr:bs.drop j=bs[j] :: bs.drop (j+1):=List.drop_eq_getElem_cons hlt
     rw[hdr,Wf] at hj1
     by_cases hn:n≤most
     ·rw[if_pos hn] at hj1
      have hF:=D0 most h1 h2 bs[j] d hd1 hd2
      rw[Zb] at hF
      have hq:(eTys bs).getD (j:Int).toNat []=[.sl 2 (eTys bs[j].args) none,.v (.int .i64 bs[j].base)]:=by rw[Int.toNat_natCast,ZU bs j hlt,Zb]
      have hb:(0:Int)≤(j:Int)∧(j:Int)<((eTys bs).length:Int):=⟨by omega,by rw[Zr];omega⟩
      refine Zx [(18,.v (.bool true)),(22,.v (.bool true))] Yu hnt fun K hK=>?_;refine And.intro (ZZ (by rw[Zr];omega)) ?_;refine And.intro (ZZ hn) ?_;refine hK _ _ ?_;clear hK K;refine Zy (t:=true) rfl ?_;rw[if_pos rfl];refine Zw ?_;refine Zz (Zt ?_);refine Zz (Zz ?_)
      by_cases hff:XG most bs[j] d≤most
      ·rw[if_pos hff] at hj1
       rw[decide_eq_true hff] at hF
       have hs1:=V1 h1 1000 bs[j] d (by omega) hff
       have hs2:=(Ue h1 1000 bs[j] d (by omega)).1
       have hS:=CX bs[j] (by omega)
       rw[Zb] at hS
       refine Zx [(29,.q [.sl 2 (eTys bs[j].args) none,.v (.int .i64 bs[j].base)])] Yu hnt fun K hK=>?_;refine And.intro (hb) ?_;refine And.intro (Zn.of_eq (by rw[hq])) ?_;refine Ze (hF) ?_;refine hK _ _ ?_;clear hK K;refine Zy (t:=false) rfl ?_;rw[if_neg (by simp)];refine Zw ?_;refine Zx [(41,.q [.sl 2 (eTys bs[j].args) none,.v (.int .i64 bs[j].base)]),(44,.v (.int .i64 (n+(bs[j].size:Int))))] Yu hnt fun K hK=>?_
       refine And.intro (hb) ?_;refine And.intro (Zn.of_eq (by rw[hq])) ?_;refine Ze (hS) ?_;refine And.intro (Zq (IntWalk.i64_in _ (by omega))) ?_;refine hK _ _ ?_;clear hK K;refine Zx [(25,.v (.int .i64 ((j+1:Nat):Int)))] Yu hnt fun K hK=>?_;refine And.intro (Zq (by rw[IntWalk.i64_in _ (by omega)];omega)) ?_;refine hK _ _ ?_;clear hK K
       exact⟨⟨(j+1,n+(bs[j].size:Int)),hj1,by dsimp only;omega,by dsimp only;omega,hlt⟩,by dsimp only;omega,VS.toA⟩
      ·rw[if_neg hff] at hj1
       rw[decide_eq_false hff] at hF
       rw[←hj1] at hV
       dsimp only at hV
       subst hV
       refine Zx [(29,.q [.sl 2 (eTys bs[j].args) none,.v (.int .i64 bs[j].base)])] Yu hnt fun K hK=>?_;refine And.intro (hb) ?_;refine And.intro (Zn.of_eq (by rw[hq])) ?_;refine Ze (hF) ?_;refine hK _ _ ?_;clear hK K;refine Zy (t:=true) rfl ?_;rw[if_pos rfl];refine Zz ?_;refine Zx [(36,.v (.int .i64 (most+1)))] Yu hnt fun K hK=>?_;refine And.intro (Zq (IntWalk.i64_in _ (by omega))) ?_
       refine hK _ _ ?_;clear hK K;refine Zu ?_
       exact Yq (N:=0) (.inr rfl) rfl (Zn.refl _) trivial
     ·rw[if_neg hn] at hj1
      rw[←hj1] at hV
      dsimp only at hV
      refine Zx [(18,.v (.bool true)),(22,.v (.bool false))] Yu hnt fun K hK=>?_;refine And.intro (ZZ (by rw[Zr];omega)) ?_;refine And.intro (Zf hn) ?_;refine hK _ _ ?_;clear hK K;refine Zy (t:=false) rfl ?_;rw[if_neg (by simp)];refine Zc ?_
      exact KK (Q:=UL TF6 [ResultVar.tmp 6] (.v (.int .i64 V)) []) ⟨n,by omega,hj3,hV.symm⟩ VS.toA
    ·rw[List.drop_eq_nil_of_le (by omega),Wf] at hj1
     rw[←hj1] at hV
     dsimp only at hV
     refine Zx [(18,.v (.bool false))] Yu hnt fun K hK=>?_;refine And.intro (Zf (by rw[Zr];omega)) ?_;refine hK _ _ ?_;clear hK K;refine Zy (t:=false) rfl ?_;rw[if_neg (by simp)];refine Zc ?_
     exact KK (Q:=UL TF6 [ResultVar.tmp 6] (.v (.int .i64 V)) []) ⟨n,by omega,hj3,hV.symm⟩ VS.toA
   ·obtain⟨n0,hn1,hn2,hVn⟩:=n
    dsimp only
    rw[hVn]
    refine Zz (Zz ?_);refine Zx [] Yu hnt fun _ z9=>z9 _ _ ?_;refine Zt ?_
    refine Z4 (ι:={ p:Nat×Int // fewMs most (a.drop p.1) (d-1) p.2=fewMs most a (d-1) n0∧(p.1:Int)+1≤p.2∧p.2≤2000000∧p.1≤a.length }) (fun p=>[(.t 1,.v (.int .i64 most)),(.t 2,.v (.int .i64 d)),(.t 3,.p 0 0),(.t 7,.v (.int .i64 p.1.2)),(.t 9,.v (.int .i64 (p.1.1:Int))),(.c 0 0,.sl 2 (eTys bs) none),(.c 0 1,.v (.int .i64 k)),(.c 0 2,.v (.int .i64 i)),(.c 0 3,.sl 4 (eTms a) none)]) 1 (fun p=>a.length-p.1.1) ⟨(0,n0),by simp,by dsimp only;omega,by dsimp only;omega,by simp⟩ VS.toA fun p=>?_
    obtain⟨⟨j,n⟩,hj1,hj2,hj3,hj4⟩:=p
    dsimp only at hj1 hj2 hj3 hj4 ⊢
    refine Zz (Zz ?_)
    by_cases hlt:j<a.length
    ·have hdr:a.drop j=a[j] :: a.drop (j+1):=List.drop_eq_getElem_cons hlt
     rw[hdr,fewMs] at hj1
     by_cases hn:n≤most
     ·rw[if_pos hn] at hj1
      have hih:=ih a[j] (List.getElem_mem hlt) (d-1) (by omega) (by omega)
      rw[Zv] at hih
      have hbd:=SE h1 1000 a[j] (d-1) (by omega) (by omega)
      have hbd2:most * ((1000:Nat):Int)≤1000000:=by
       have:most * ((1000:Nat):Int)=1000 * most:=by rw[Int.mul_comm];rfl
       omega
      refine Zx [(49,.v (.bool true)),(53,.v (.bool true))] Yu hnt fun K hK=>?_;refine And.intro (ZZ (by rw[Zs];omega)) ?_;refine And.intro (ZZ hn) ?_;refine hK _ _ ?_;clear hK K;refine Zy (t:=true) rfl ?_;rw[if_pos rfl];refine Zw ?_;refine Zz (Zt ?_);refine Zx [(61,.q [.sl 2 (eTys a[j].binds) none,.v (.int .i64 a[j].kind),.v (.int .i64 a[j].index),.sl 4 (eTms a[j].args) none]),(65,.v (.int .i64 (d-1))),(67,.v (.int .i64 (n+Wi most a[j] (d-1))))] Yu hnt fun K hK=>?_
      refine And.intro (⟨by omega,by rw[Zs];omega⟩) ?_;refine And.intro (Zn.of_eq (by rw[Int.toNat_natCast,ZX a j hlt,Zv])) ?_;refine And.intro (Zq (IntWalk.i64_in _ (by omega))) ?_;refine Ze (hih) ?_;refine And.intro (Zq (IntWalk.i64_in _ (by omega))) ?_;refine hK _ _ ?_;clear hK K;refine Zx [(56,.v (.int .i64 ((j+1:Nat):Int)))] Yu hnt fun K hK=>?_;refine And.intro (Zq (by rw[IntWalk.i64_in _ (by omega)];omega)) ?_
      refine hK _ _ ?_;clear hK K
      exact⟨⟨(j+1,n+Wi most a[j] (d-1)),hj1,by dsimp only;omega,by dsimp only;omega,hlt⟩,by dsimp only;omega,VS.toA⟩
     ·rw[if_neg hn] at hj1
      rw[←hj1]
      refine Zx [(49,.v (.bool true)),(53,.v (.bool false))] Yu hnt fun K hK=>?_;refine And.intro (ZZ (by rw[Zs];omega)) ?_;refine And.intro (Zf hn) ?_;refine hK _ _ ?_;clear hK K;refine Zy (t:=false) rfl ?_;rw[if_neg (by simp)];refine Zc ?_;refine Zz ?_;refine Zx [] Yu hnt fun _ z9=>z9 _ _ ?_;refine Zu ?_
      exact Yq (N:=0) (.inr rfl) rfl (Zn.refl _) trivial
    ·rw[List.drop_eq_nil_of_le (by omega),fewMs] at hj1
     rw[←hj1]
     refine Zx [(49,.v (.bool false))] Yu hnt fun K hK=>?_;refine And.intro (Zf (by rw[Zs];omega)) ?_;refine hK _ _ ?_;clear hK K;refine Zy (t:=false) rfl ?_;rw[if_neg (by simp)];refine Zc ?_;refine Zz ?_;refine Zx [] Yu hnt fun _ z9=>z9 _ _ ?_;refine Zu ?_
     exact Yq (N:=0) (.inr rfl) rfl (Zn.refl _) trivial
theorem Da (most:Int)(h1:1≤most)(h2:most≤1000)(t:Tm)(d:Int)(h3:-1000≤d)(h4:d≤1000):Zd Tryz.prog 22 [.ag (eTm t),.v (.int .i64 most),.v (.int .i64 d)] (.v (.bool (decide (Wi most t d≤most)))):=by
 have h:=BP most h1 h2 t d h3 h4
 rw[Zv] at h ⊢
 refine Z9 0 13 [ResultVar.tmp 6] Yu (by kernel_rfl) Tryz.func22 rfl Tryz.ntmps22 rfl (by simp) ?dwords ?dbody
 case dwords=>simp[ZF,D.ok,D.oks,ZQ,Yw,Yk]
 case dbody=>
  intro cx hnt hn0
  refine Zz ?_;refine Zx [] Yu hnt fun _ z9=>z9 _ _ ?_;refine Zz ?_;refine Zx [] Yu hnt fun K hK=>?_;refine Ze (h) ?_;refine hK _ _ ?_;clear hK K;refine Zu ?_
  exact Yq (N:=0) (.inr rfl) rfl (Zn.refl _) trivial
def VW (t:Tm):Bool:=decide (Wi 150 t 70≤150)
set_option maxHeartbeats 1000000 in
theorem RR (l:List Tm)(hl:l.length≤1000000):Zd Tryz.prog 40 [.sl 4 (eTms l) none] (.v (.bool (l.all VW))):=by
 refine Z9 0 16 [ResultVar.tmp 2] Yu (by kernel_rfl) Tryz.func40 rfl Tryz.ntmps40 rfl (by simp) ?dwords ?dbody
 case dwords=>simp[ZF,D.ok,D.oks,ZQ,Yk]
 case dbody=>
  intro cx hnt hn0
  refine Zz ?_;refine Zx [] Yu hnt fun _ z9=>z9 _ _ ?_;refine Zz (Zz ?_);refine Zx [] Yu hnt fun _ z9=>z9 _ _ ?_;refine Zt ?_
  refine Z4 (ι:={ j:Nat // ∀ i (h:i<l.length),i<j→VW l[i]=true }) (fun j=>[(.t 0,.sl 4 (eTms l) none),(.t 3,.v (.int .i64 (j.1:Int)))]) 1 (fun j=>l.length-j.1) ⟨0,fun i h1 h2=>by omega⟩ VS.toA fun j=>?_
  obtain⟨j,hj⟩:=j
  dsimp only
  refine Zz (Zz ?_)
  by_cases hlt:j<l.length
  ·have hi:=Da 150 (by decide) (by decide) l[j] 70 (by decide) (by decide)
   rw[Zv] at hi
   have hq:(eTms l).getD (j:Int).toNat []=[.sl 2 (eTys l[j].binds) none,.v (.int .i64 l[j].kind),.v (.int .i64 l[j].index),.sl 4 (eTms l[j].args) none]:=by rw[Int.toNat_natCast,ZX l j hlt,Zv]
   have hb:(0:Int)≤(j:Int)∧(j:Int)<((eTms l).length:Int):=⟨by omega,by rw[Zs];omega⟩
   refine Zx [(7,.v (.bool true))] Yu hnt fun K hK=>?_;refine And.intro (ZZ (by rw[Zs];omega)) ?_;refine hK _ _ ?_;clear hK K;refine Zy (t:=true) rfl ?_;rw[if_pos rfl];refine Zw ?_;refine Zz (Zt (Zz ?_))
   cases hf:VW l[j] with
   | true=>
    have hf2:=hf
    unfold VW at hf2
    rw[hf2] at hi
    refine Zx [(12,.q [.sl 2 (eTys l[j].binds) none,.v (.int .i64 l[j].kind),.v (.int .i64 l[j].index),.sl 4 (eTms l[j].args) none])] Yu hnt fun K hK=>?_;refine And.intro (hb) ?_;refine And.intro (Zn.of_eq (by rw[hq])) ?_;refine Ze (hi) ?_;refine hK _ _ ?_;clear hK K;refine Zy (t:=false) rfl ?_;rw[if_neg (by simp)];refine Zw ?_;refine Zx [(9,.v (.int .i64 ((j+1:Nat):Int)))] Yu hnt fun K hK=>?_
    refine And.intro (Zq (by rw[IntWalk.i64_in _ (by omega)];omega)) ?_;refine hK _ _ ?_;clear hK K
    refine⟨⟨j+1,fun i h1 h2=>?_⟩,by dsimp only;omega,VS.toA⟩
    by_cases he:i=j
    ·subst he;exact hf
    ·exact hj i h1 (by omega)
   | false=>
    have hf2:=hf
    unfold VW at hf2
    rw[hf2] at hi
    have ha:l.all VW=false:=by rw[List.all_eq_false];exact⟨l[j],List.getElem_mem hlt,by rw[hf];simp⟩
    rw[ha]
    refine Zx [(12,.q [.sl 2 (eTys l[j].binds) none,.v (.int .i64 l[j].kind),.v (.int .i64 l[j].index),.sl 4 (eTms l[j].args) none])] Yu hnt fun K hK=>?_;refine And.intro (hb) ?_;refine And.intro (Zn.of_eq (by rw[hq])) ?_;refine Ze (hi) ?_;refine hK _ _ ?_;clear hK K;refine Zy (t:=true) rfl ?_;rw[if_pos rfl];refine Zz ?_;refine Zx [] Yu hnt fun _ z9=>z9 _ _ ?_
    refine Zu ?_
    exact Yq (N:=0) (.inr rfl) rfl (Zn.refl _) trivial
  ·have ha:l.all VW=true:=by
    rw[List.all_eq_true]
    intro t ht
    obtain⟨i,hi,rfl⟩:=List.getElem_of_mem ht
    exact hj i hi (by omega)
   rw[ha]
   refine Zx [(7,.v (.bool false))] Yu hnt fun K hK=>?_;refine And.intro (Zf (by rw[Zs];omega)) ?_;refine hK _ _ ?_;clear hK K;refine Zy (t:=false) rfl ?_;rw[if_neg (by simp)];refine Zc ?_;refine Zz ?_;refine Zx [] Yu hnt fun _ z9=>z9 _ _ ?_;refine Zu ?_
   exact Yq (N:=0) (.inr rfl) rfl (Zn.refl _) trivial
theorem TW {most d:Int}(hm:1≤most)(hd:d≤1000):∀ (l:List Ty) (n r:Int),Wf most d l n=some r→r≤most→r=n+Ty.sizes l
 | [],n,r,h,_=>by rw[Wf] at h;cases h;simp[Ty.sizes]
 | t :: l,n,r,h,hr=>by
  rw[Wf] at h
  split at h
  ·split at h
   ·have:=TW hm hd l _ r h hr
    rw[this,Ty.sizes];omega
   ·cases h
  ·cases h;omega
theorem TY {most:Int}:∀ (l:List Tm) (d n:Int),(∀ t∈l,Wi most t d≤most→(t.full:Int)=Wi most t d∧(t.depth:Int)≤d)→(∀ t∈l,1≤Wi most t d)→1≤n→fewMs most l d n≤most→fewMs most l d n=n+Tm.fulls l∧(∀ t∈l,(t.depth:Int)≤d)∧n≤most
 | [],d,n,_,_,_,h=>by rw[fewMs] at h ⊢;exact⟨by simp[Tm.fulls],nofun,h⟩
 | t :: l,d,n,h,h1,hn,hf=>by
  rw[fewMs] at hf ⊢
  split at hf
  ·rename_i hm
   rw[if_pos hm]
   have h2:=h1 t (by simp)
   obtain⟨h3,h4,h5⟩:=TY l d _ (fun u hu=>h u (by simp[hu])) (fun u hu=>h1 u (by simp[hu])) (by omega) hf
   obtain⟨h6,h7⟩:=h t (by simp) (by omega)
   refine⟨by rw[h3,Tm.fulls];omega,fun u hu=>?_,hm⟩
   rcases List.mem_cons.1 hu with rfl | hu
   ·exact h7
   ·exact h4 u hu
  ·rename_i hm;omega
theorem TP {d:Int}(hd:0≤d):∀ (l:List Tm),(∀ t∈l,(t.depth:Int)≤d)→(Tm.depths l:Int)≤d
 | [],_=>by simp[Tm.depths];exact hd
 | t :: l,h=>by
  have h1:=h t (by simp)
  have h2:=TP hd l fun u hu=>h u (by simp[hu])
  simp only[Tm.depths];omega
theorem U9 {most:Int}(hm:1≤most):∀ (k:Nat) (t:Tm) (d:Int),k≤1000→d≤k→Wi most t d≤most→(t.full:Int)=Wi most t d∧(t.depth:Int)≤d
 | 0,.mk bs kd i a,d,hk,hd,h=>by rw[Wi,if_pos (by omega)] at h;omega
 | k+1,.mk bs kd i a,d,hk,hd,h=>by
  rw[Wi] at h ⊢
  split at h
  ·omega
  ·rename_i hp
   rw[if_neg hp]
   cases hb:Wf most d bs 1 with
   | none=>rw[hb] at h;dsimp only at h;omega
   | some n=>
    rw[hb] at h
    dsimp only at h ⊢
    have hn:=TX hm (by omega) bs 1 (by omega) (by omega) n hb
    obtain⟨h3,h4,h5⟩:=TY a (d-1) n (fun t _=>U9 hm k t (d-1) (by omega) (by omega)) (fun t _=>(SE hm k t (d-1) (by omega) (by omega)).1) hn.1 h
    have h6:=TW hm (by omega) bs 1 n hb h5
    have h7:=TP (by omega) a h4
    rw[Tm.full_eq,Tm.depth_eq]
    constructor
    ·omega
    ·omega
theorem Ws {t:Tm}(h:VW t=true):t.full≤150∧t.depth≤70:=by
 unfold VW at h
 rw[decide_eq_true_eq] at h
 obtain⟨h1,h2⟩:=U9 (by decide) 1000 t 70 (by decide) (by decide) h
 omega
def TS9_22:TI:=⟨1,false,[Value.slice none 0 0],[],some 104,24,5,none,false⟩
theorem Ik:TypOk Tryz.prog 22 TS9_22:=by constructor <;> kernel_rfl
def TS9_3:TI:=⟨1,false,[Value.int IntKind.i64 0],[],none,8,2,none,false⟩
theorem EF:TypOk Tryz.prog 3 TS9_3:=by constructor <;> kernel_rfl
def TS9_24:TI:=⟨3,true,[Value.int IntKind.i64 0,Value.slice none 0 0,Value.slice none 0 0],[(0,1,false),(1,1,false),(2,1,false)],none,56,6,none,false⟩
theorem Il:TypOk Tryz.prog 24 TS9_24:=by constructor <;> kernel_rfl
def TS9_104:TI:=⟨2,true,[Value.slice none 0 0,Value.int IntKind.i64 0],[(0,1,false),(1,1,false)],none,32,6,none,false⟩
theorem O1:TypOk Tryz.prog 104 TS9_104:=by constructor <;> kernel_rfl
def TS9:List (Nat×TI):=[(22,TS9_22),(3,TS9_3),(24,TS9_24),(104,TS9_104)]
theorem YH:Zh Tryz.prog TS9:=(((((Zh.nil _).cons O1).cons Il).cons EF).cons Ik)
def WY (t:Ty):Bool:=decide (XG 60 t 60≤60)
theorem Eo {t:Ty}(h:WY t=true):t.size≤60:=by
 unfold WY at h
 rw[decide_eq_true_eq] at h
 have:=V1 (by decide) 1000 t 60 (by decide) h
 omega
set_option maxHeartbeats 1000000 in
theorem Kb (b:Int)(C M X:List Ty)(h1:C.length≤20)(h2:M.length≤20)(h3:X.length≤20):Zd Tryz.prog 8 [.ag [.v (.int .i64 b),.sl 2 (eTys C) none,.sl 2 (eTys M) none],.sl 2 (eTys X) none] (.v (.bool (((C++M)++X).all WY))):=by
 have hB:=Vc C M (by omega)
 have hB2:=Vc (C++M) X (by simp;omega)
 obtain⟨l,hl⟩:∃ l,(C++M)++X=l:=⟨_,rfl⟩
 rw[hl] at hB2 ⊢
 have hll:l.length≤60:=by rw[←hl];simp;omega
 refine Z9 0 41 [ResultVar.tmp 4] YH (by kernel_rfl) Tryz.func8 rfl Tryz.ntmps8 rfl (by simp) ?dwords ?dbody
 case dwords=>simp[ZF,D.ok,D.oks,ZQ,Yw]
 case dbody=>
  intro cx hnt hn0
  refine Zz ?_;refine Zx [] YH hnt fun _ z9=>z9 _ _ ?_;refine Zz (Zz ?_);refine Zx [(10,.v (.bool false)),(15,.v (.bool false)),(20,.v (.bool false))] YH hnt fun K hK=>?_;refine And.intro (Zf (by rw[Zr];omega)) ?_;refine And.intro (Zf (by rw[Zr];omega)) ?_;refine And.intro (Zf (by rw[Zr];omega)) ?_;refine hK _ _ ?_;clear hK K
  refine Zy (t:=false) rfl ?_;rw[if_neg (by simp)];refine Zw ?_;refine Zz ?_;refine Zx [] YH hnt fun K hK=>?_;refine Ze (hB) ?_;refine Ze (hB2) ?_;refine hK _ _ ?_;clear hK K;refine Zz (Zz ?_);refine Zx [] YH hnt fun _ z9=>z9 _ _ ?_;refine Zt ?_
  refine Z4 (ι:={ j:Nat // ∀ i (h:i<l.length),i<j→WY l[i]=true }) (fun j=>[(.t 5,.sl 2 (eTys l) none),(.t 6,.v (.int .i64 (j.1:Int)))]) 1 (fun j=>l.length-j.1) ⟨0,fun i h1 h2=>by omega⟩ VS.toA fun j=>?_
  obtain⟨j,hj⟩:=j
  dsimp only
  refine Zz (Zz ?_)
  by_cases hlt:j<l.length
  ·have hi:=D0 60 (by decide) (by decide) l[j] 60 (by decide) (by decide)
   rw[Zb] at hi
   have hq:(eTys l).getD (j:Int).toNat []=[.sl 2 (eTys l[j].args) none,.v (.int .i64 l[j].base)]:=by rw[Int.toNat_natCast,ZU l j hlt,Zb]
   have hb:(0:Int)≤(j:Int)∧(j:Int)<((eTys l).length:Int):=⟨by omega,by rw[Zr];omega⟩
   refine Zx [(32,.v (.bool true))] YH hnt fun K hK=>?_;refine And.intro (ZZ (by rw[Zr];omega)) ?_;refine hK _ _ ?_;clear hK K;refine Zy (t:=true) rfl ?_;rw[if_pos rfl];refine Zw ?_;refine Zz (Zt (Zz ?_))
   cases hf:WY l[j] with
   | true=>
    have hf2:=hf
    unfold WY at hf2
    rw[hf2] at hi
    refine Zx [(37,.q [.sl 2 (eTys l[j].args) none,.v (.int .i64 l[j].base)])] YH hnt fun K hK=>?_;refine And.intro (hb) ?_;refine And.intro (Zn.of_eq (by rw[hq])) ?_;refine Ze (hi) ?_;refine hK _ _ ?_;clear hK K;refine Zy (t:=false) rfl ?_;rw[if_neg (by simp)];refine Zw ?_;refine Zx [(34,.v (.int .i64 ((j+1:Nat):Int)))] YH hnt fun K hK=>?_;refine And.intro (Zq (by rw[IntWalk.i64_in _ (by omega)];omega)) ?_
    refine hK _ _ ?_;clear hK K
    refine⟨⟨j+1,fun i h1 h2=>?_⟩,by dsimp only;omega,VS.toA⟩
    by_cases he:i=j
    ·subst he;exact hf
    ·exact hj i h1 (by omega)
   | false=>
    have hf2:=hf
    unfold WY at hf2
    rw[hf2] at hi
    have ha:l.all WY=false:=by rw[List.all_eq_false];exact⟨l[j],List.getElem_mem hlt,by rw[hf];simp⟩
    rw[ha]
    refine Zx [(37,.q [.sl 2 (eTys l[j].args) none,.v (.int .i64 l[j].base)])] YH hnt fun K hK=>?_;refine And.intro (hb) ?_;refine And.intro (Zn.of_eq (by rw[hq])) ?_;refine Ze (hi) ?_;refine hK _ _ ?_;clear hK K;refine Zy (t:=true) rfl ?_;rw[if_pos rfl];refine Zz ?_;refine Zx [] YH hnt fun _ z9=>z9 _ _ ?_;refine Zu ?_
    exact Yq (N:=0) (.inr rfl) rfl (Zn.refl _) trivial
  ·have ha:l.all WY=true:=by
    rw[List.all_eq_true]
    intro t ht
    obtain⟨i,hi,rfl⟩:=List.getElem_of_mem ht
    exact hj i hi (by omega)
   rw[ha]
   refine Zx [(32,.v (.bool false))] YH hnt fun K hK=>?_;refine And.intro (Zf (by rw[Zr];omega)) ?_;refine hK _ _ ?_;clear hK K;refine Zy (t:=false) rfl ?_;rw[if_neg (by simp)];refine Zc ?_;refine Zz ?_;refine Zx [] YH hnt fun _ z9=>z9 _ _ ?_;refine Zu ?_
   exact Yq (N:=0) (.inr rfl) rfl (Zn.refl _) trivial
set_option maxHeartbeats 1000000 in
theorem Re (b:Int)(C M X:List Ty)(h:¬ (C.length≤20∧M.length≤20∧X.length≤20)):Zd Tryz.prog 8 [.ag [.v (.int .i64 b),.sl 2 (eTys C) none,.sl 2 (eTys M) none],.sl 2 (eTys X) none] (.v (.bool false)):=by
 refine Z9 0 41 [ResultVar.tmp 4] YH (by kernel_rfl) Tryz.func8 rfl Tryz.ntmps8 rfl (by simp) ?dwords ?dbody
 case dwords=>simp[ZF,D.ok,D.oks,ZQ,Yw]
 case dbody=>
  intro cx hnt hn0
  refine Zz ?_;refine Zx [] YH hnt fun _ z9=>z9 _ _ ?_;refine Zz (Zz ?_)
  by_cases h1:C.length≤20
  ·by_cases h2:M.length≤20
   ·skip
    refine Zx [(10,.v (.bool false)),(15,.v (.bool false)),(20,.v (.bool true))] YH hnt fun K hK=>?_;refine And.intro (Zf (by rw[Zr];omega)) ?_;refine And.intro (Zf (by rw[Zr];omega)) ?_;refine And.intro (ZZ (by rw[Zr];omega)) ?_;refine hK _ _ ?_;clear hK K;refine Zy (t:=true) rfl ?_;rw[if_pos rfl];refine Zz ?_;refine Zx [] YH hnt fun K hK=>?_
    refine hK _ _ ?_;clear hK K;refine Zu ?_
    exact Yq (N:=0) (.inr rfl) rfl (Zn.refl _) trivial
   ·skip
    refine Zx [(10,.v (.bool false)),(15,.v (.bool true))] YH hnt fun K hK=>?_;refine And.intro (Zf (by rw[Zr];omega)) ?_;refine And.intro (ZZ (by rw[Zr];omega)) ?_;refine hK _ _ ?_;clear hK K;refine Zy (t:=true) rfl ?_;rw[if_pos rfl];refine Zz ?_;refine Zx [] YH hnt fun _ z9=>z9 _ _ ?_;refine Zu ?_
    exact Yq (N:=0) (.inr rfl) rfl (Zn.refl _) trivial
  ·skip
   refine Zx [(10,.v (.bool true))] YH hnt fun K hK=>?_;refine And.intro (ZZ (by rw[Zr];omega)) ?_;refine hK _ _ ?_;clear hK K;refine Zy (t:=true) rfl ?_;rw[if_pos rfl];refine Zz ?_;refine Zx [] YH hnt fun _ z9=>z9 _ _ ?_;refine Zu ?_
   exact Yq (N:=0) (.inr rfl) rfl (Zn.refl _) trivial
def TTO_3:TI:=⟨1,false,[Value.int IntKind.i64 0],[],none,8,2,none,false⟩
theorem EJ:TypOk Tryz.prog 3 TTO_3:=by constructor <;> kernel_rfl
def TTO_104:TI:=⟨2,true,[Value.slice none 0 0,Value.int IntKind.i64 0],[(0,1,false),(1,1,false)],none,32,6,none,false⟩
theorem Oe:TypOk Tryz.prog 104 TTO_104:=by constructor <;> kernel_rfl
def TTO_106:TI:=⟨2,true,[Value.slice none 0 0,Value.int IntKind.i64 0],[(0,1,false),(1,1,false)],none,32,6,none,false⟩
theorem Og:TypOk Tryz.prog 106 TTO_106:=by constructor <;> kernel_rfl
def TTO_31:TI:=⟨4,true,[Value.slice none 0 0,Value.int IntKind.i64 0,Value.int IntKind.i64 0,Value.slice none 0 0],[(0,1,false),(1,2,true),(3,1,false)],none,64,6,none,false⟩
theorem JF:TypOk Tryz.prog 31 TTO_31:=by constructor <;> kernel_rfl
def TTO_62:TI:=⟨4,true,[Value.slice none 0 0,Value.int IntKind.i64 0,Value.int IntKind.i64 0,Value.slice none 0 0],[(0,1,false),(1,2,true),(3,1,false)],none,64,6,none,false⟩
theorem JJ:TypOk Tryz.prog 62 TTO_62:=by constructor <;> kernel_rfl
def TTO_22:TI:=⟨1,false,[Value.slice none 0 0],[],some 104,24,5,none,false⟩
theorem JC:TypOk Tryz.prog 22 TTO_22:=by constructor <;> kernel_rfl
def TTO_41:TI:=⟨1,false,[Value.slice none 0 0],[],some 106,24,5,none,false⟩
theorem JG:TypOk Tryz.prog 41 TTO_41:=by constructor <;> kernel_rfl
def TTO_29:TI:=⟨1,false,[Value.slice none 0 0],[],some 31,24,5,none,false⟩
theorem JE:TypOk Tryz.prog 29 TTO_29:=by constructor <;> kernel_rfl
def TTO_60:TI:=⟨1,false,[Value.slice none 0 0],[],some 62,24,5,none,false⟩
theorem JI:TypOk Tryz.prog 60 TTO_60:=by constructor <;> kernel_rfl
def TTO_28:TI:=⟨2,true,[Value.int IntKind.i64 0,Value.int IntKind.i64 0],[(0,1,false),(1,1,false)],none,16,6,none,true⟩
theorem JD:TypOk Tryz.prog 28 TTO_28:=by constructor <;> kernel_rfl
def TTO_59:TI:=⟨2,true,[Value.int IntKind.i64 0,Value.int IntKind.i64 0],[(0,1,false),(1,1,false)],none,16,6,none,true⟩
theorem JH:TypOk Tryz.prog 59 TTO_59:=by constructor <;> kernel_rfl
def TTO:List (Nat×TI):=[(3,TTO_3),(104,TTO_104),(106,TTO_106),(31,TTO_31),(62,TTO_62),(22,TTO_22),(41,TTO_41),(29,TTO_29),(60,TTO_60),(28,TTO_28),(59,TTO_59)]
theorem ZN:Zh Tryz.prog TTO:=((((((((((((Zh.nil _).cons JH).cons JD).cons JI).cons JE).cons JG).cons JC).cons JJ).cons JF).cons Og).cons Oe).cons EJ)
theorem X7 (l:List Ty)(j:Nat)(h:j≤l.length):(eTys (l.take j)).length=j:=by rw[Zr,List.length_take];omega
theorem V6 (l:List Tm)(j:Nat)(h:j≤l.length):(eTms (l.take j)).length=j:=by rw[Zs,List.length_take];omega
theorem CG:∀ t:Ty,t.size≤900000→Zd Tryz.prog 79 [.ag (eTy t)] (.ag (eTy t)):=by
 intro t
 induction t using Ty.ind with
 | h ar base ih=>
  intro hz
  rw[Ty.size_eq] at hz
  have hal:=Ty.le_sizes ar
  rw[Zb]
  dsimp only[Ty.args,Ty.base]
  refine Zm 0 27 [ResultVar.cell 2 106] ZN Tryz.func79 rfl Tryz.ntmps79 rfl fun cx hnt hn0=>?_
  ·skip
   refine Zz ?_;refine Zx [] ZN hnt fun _ z9=>z9 _ _ ?_;refine Zz ?_;refine Zx [] ZN hnt fun _ z9=>z9 _ _ ?_
   refine DW.vs (VS.row (k:=5) (off:=0) 106 2 rfl) ?_
   refine Zz ?_;refine Zz ?_;refine Zx [] ZN hnt fun _ z9=>z9 _ _ ?_;refine Zt ?_
   refine Z4 (ι:={ j:Nat // j≤ar.length }) (fun j=>[(.t 1,.p 0 0),(.t 2,.p 1 0),(.t 3,.p 5 0),(.t 4,.v (.int .i64 ↑j.1)),(.c 0 0,.sl 2 (eTys ar) none),(.c 0 1,.v (.int .i64 base)),(.c 1 0,.v (.slice none 0 0)),(.c 1 1,.v (.int .i64 0)),(.c 5 0,.sl 2 (eTys (ar.take j.1)) (some 7)),(.c 5 1,.v (.int .i64 base)),(.r 7,.rw 106 2 j.1)]) 8 (fun j=>ar.length-j.1) (⟨0,Nat.zero_le _⟩) ((VS.toK (by omega) (by repeat first | exact trivial | refine And.intro (And.intro (by first | rfl | simp[D.ok,D.oks,D.okss,D.okm,YM,Xx,Y0]) (by first | exact Or.inl rfl | exact Or.inr ⟨_,rfl,(by repeat first | exact Zn.refl _ | exact Zn.nil _ | exact Zn.untag _ _ _ | refine Zn.ag ?_ | refine Zn.tu ?_ | refine ZS.cons ?_ ?_ | exact ZS.nil),trivial⟩ | simp[get,Key.eq,Y0])) ?_))) fun j=>?_
   obtain⟨j,hj⟩:=j
   dsimp only
   by_cases hlt:j<ar.length
   ·have hmem:=List.getElem_mem hlt
    have hsz:=Ty.size_mem hmem
    have hc:=ih _ hmem (by omega)
    rw[Zb] at hc
    have hl1:=X7 ar j hj
    have hl2:=X7 ar (j+1) hlt
    refine Zz ?_;refine Zz ?_;refine Zx [(11,.v (.int .i64 (↑ar.length))),(12,.v (.bool true))] ZN hnt fun K hK=>?_;refine And.intro (Zq (by rw[Zr])) ?_;refine And.intro YD ?_;refine hK _ _ ?_;clear hK K;refine Zy (t:=true) rfl ?_;rw[if_pos rfl];refine Zw ?_;refine Zz ?_;refine Zt ?_;refine ZP [(20,.q [.sl 2 (eTys ar[j].args) none,.v (.int .i64 ar[j].base)])] ZN hnt fun K hK=>?_
    refine And.intro (Xg (Zr ar)) ?_;refine And.intro (Xh (ZU ar j) (Zb _)) ?_;refine Ze (hc) ?_;refine And.intro (⟨by omega,by rw[hl1];simp;omega⟩) ?_;refine hK _ _ (by kernel_rfl) ?_;clear hK K
    rw[WX ar j hlt,hl2]
    refine Zx [(14,.v (.int .i64 (↑(j+1))))] ZN hnt fun K hK=>?_;refine And.intro XR ?_;refine hK _ _ ?_;clear hK K
    refine⟨⟨j+1,hlt⟩,by first | omega | (dsimp only;omega),VS.toA⟩
   ·rw[List.take_of_length_le (by omega)]
    refine Zz ?_;refine Zz ?_;refine Zx [(11,.v (.int .i64 (↑ar.length))),(12,.v (.bool false))] ZN hnt fun K hK=>?_;refine And.intro (Zq (by rw[Zr])) ?_;refine And.intro Xq ?_;refine hK _ _ ?_;clear hK K;refine Zy (t:=false) rfl ?_;rw[if_neg (by simp)];refine Zc ?_;refine Zz ?_;refine Zx [] ZN hnt fun _ z9=>z9 _ _ ?_
    refine Zu ?_
    exact Zj rfl
theorem Bg:∀ t:Ty,t.size≤900000→Zd Tryz.prog 95 [.ag (eTy t)] (.ag (eTy t)):=by
 intro t
 induction t using Ty.ind with
 | h ar base ih=>
  intro hz
  rw[Ty.size_eq] at hz
  have hal:=Ty.le_sizes ar
  rw[Zb]
  dsimp only[Ty.args,Ty.base]
  refine Zm 0 27 [ResultVar.cell 2 104] ZN Tryz.func95 rfl Tryz.ntmps95 rfl fun cx hnt hn0=>?_
  ·skip
   refine Zz ?_;refine Zx [] ZN hnt fun _ z9=>z9 _ _ ?_;refine Zz ?_;refine Zx [] ZN hnt fun _ z9=>z9 _ _ ?_
   refine DW.vs (VS.row (k:=5) (off:=0) 104 2 rfl) ?_
   refine Zz ?_;refine Zz ?_;refine Zx [] ZN hnt fun _ z9=>z9 _ _ ?_;refine Zt ?_
   refine Z4 (ι:={ j:Nat // j≤ar.length }) (fun j=>[(.t 1,.p 0 0),(.t 2,.p 1 0),(.t 3,.p 5 0),(.t 4,.v (.int .i64 ↑j.1)),(.c 0 0,.sl 2 (eTys ar) none),(.c 0 1,.v (.int .i64 base)),(.c 1 0,.v (.slice none 0 0)),(.c 1 1,.v (.int .i64 0)),(.c 5 0,.sl 2 (eTys (ar.take j.1)) (some 7)),(.c 5 1,.v (.int .i64 base)),(.r 7,.rw 104 2 j.1)]) 8 (fun j=>ar.length-j.1) (⟨0,Nat.zero_le _⟩) ((VS.toK (by omega) (by repeat first | exact trivial | refine And.intro (And.intro (by first | rfl | simp[D.ok,D.oks,D.okss,D.okm,YM,Xx,Y0]) (by first | exact Or.inl rfl | exact Or.inr ⟨_,rfl,(by repeat first | exact Zn.refl _ | exact Zn.nil _ | exact Zn.untag _ _ _ | refine Zn.ag ?_ | refine Zn.tu ?_ | refine ZS.cons ?_ ?_ | exact ZS.nil),trivial⟩ | simp[get,Key.eq,Y0])) ?_))) fun j=>?_
   obtain⟨j,hj⟩:=j
   dsimp only
   by_cases hlt:j<ar.length
   ·have hmem:=List.getElem_mem hlt
    have hsz:=Ty.size_mem hmem
    have hc:=ih _ hmem (by omega)
    rw[Zb] at hc
    have hl1:=X7 ar j hj
    have hl2:=X7 ar (j+1) hlt
    refine Zz ?_;refine Zz ?_;refine Zx [(11,.v (.int .i64 (↑ar.length))),(12,.v (.bool true))] ZN hnt fun K hK=>?_;refine And.intro (Zq (by rw[Zr])) ?_;refine And.intro YD ?_;refine hK _ _ ?_;clear hK K;refine Zy (t:=true) rfl ?_;rw[if_pos rfl];refine Zw ?_;refine Zz ?_;refine Zt ?_;refine ZP [(20,.q [.sl 2 (eTys ar[j].args) none,.v (.int .i64 ar[j].base)])] ZN hnt fun K hK=>?_
    refine And.intro (Xg (Zr ar)) ?_;refine And.intro (Xh (ZU ar j) (Zb _)) ?_;refine Ze (hc) ?_;refine And.intro (⟨by omega,by rw[hl1];simp;omega⟩) ?_;refine hK _ _ (by kernel_rfl) ?_;clear hK K
    rw[WX ar j hlt,hl2]
    refine Zx [(14,.v (.int .i64 (↑(j+1))))] ZN hnt fun K hK=>?_;refine And.intro XR ?_;refine hK _ _ ?_;clear hK K
    refine⟨⟨j+1,hlt⟩,by first | omega | (dsimp only;omega),VS.toA⟩
   ·rw[List.take_of_length_le (by omega)]
    refine Zz ?_;refine Zz ?_;refine Zx [(11,.v (.int .i64 (↑ar.length))),(12,.v (.bool false))] ZN hnt fun K hK=>?_;refine And.intro (Zq (by rw[Zr])) ?_;refine And.intro Xq ?_;refine hK _ _ ?_;clear hK K;refine Zy (t:=false) rfl ?_;rw[if_neg (by simp)];refine Zc ?_;refine Zz ?_;refine Zx [] ZN hnt fun _ z9=>z9 _ _ ?_
    refine Zu ?_
    exact Zj rfl
theorem UI (l:List Ty)(hz:Ty.sizes l≤900000):Zd Tryz.prog 44 [.sl 2 (eTys l) none] (.sl 2 (eTys l) none):=by
 have hal:=Ty.le_sizes l
 refine Zm 0 20 [ResultVar.tmp 2] ZN Tryz.func44 rfl Tryz.ntmps44 rfl fun cx hnt hn0=>?_
 ·skip
  refine Zz ?_;refine Zx [] ZN hnt fun _ z9=>z9 _ _ ?_
  refine XW (τ:=[(.t 0,.sl 2 (eTys l) none),(.t 3,.v (.slice none 0 0))]) (N1:=0) ?_ ?_
  ·skip
   refine Zx [] ZN hnt fun _ z9=>z9 _ _ ?_
   exact Ym (VS.toK (by omega) (by repeat first | exact trivial | refine And.intro (And.intro (by first | rfl | simp[D.ok,D.oks,D.okss,D.okm,YM,Xx,Y0]) (by first | exact Or.inl rfl | exact Or.inr ⟨_,rfl,(by repeat first | exact Zn.refl _ | exact Zn.nil _ | exact Zn.untag _ _ _ | refine Zn.ag ?_ | refine Zn.tu ?_ | refine ZS.cons ?_ ?_ | exact ZS.nil),trivial⟩ | simp[get,Key.eq,Y0])) ?_))
  ·refine DW.vs (VS.rowT (x:=3) (by rw[hnt];decide) 106 2 rfl) ?_
   refine Zz ?_;refine Zz ?_;refine Zx [] ZN hnt fun _ z9=>z9 _ _ ?_;refine Zt ?_
   refine Z4 (ι:={ j:Nat // j≤l.length }) (fun j=>[(.t 0,.sl 2 (eTys l) none),(.t 3,.sl 2 (eTys (l.take j.1)) (some 0)),(.t 4,.v (.int .i64 ↑j.1)),(.r 0,.rw 106 2 j.1)]) 1 (fun j=>l.length-j.1) (⟨0,Nat.zero_le _⟩) ((VS.toK (by omega) (by repeat first | exact trivial | refine And.intro (And.intro (by first | rfl | simp[D.ok,D.oks,D.okss,D.okm,YM,Xx,Y0]) (by first | exact Or.inl rfl | exact Or.inr ⟨_,rfl,(by repeat first | exact Zn.refl _ | exact Zn.nil _ | exact Zn.untag _ _ _ | refine Zn.ag ?_ | refine Zn.tu ?_ | refine ZS.cons ?_ ?_ | exact ZS.nil),trivial⟩ | simp[get,Key.eq,Y0])) ?_))) fun j=>?_
   obtain⟨j,hj⟩:=j
   dsimp only
   by_cases hlt:j<l.length
   ·have hsz:=Ty.size_mem (List.getElem_mem hlt)
    have hc:=CG l[j] (by omega)
    rw[Zb] at hc
    have hl1:=X7 l j hj
    have hl2:=X7 l (j+1) hlt
    refine Zz ?_;refine Zz ?_;refine Zx [(7,.v (.int .i64 (↑l.length))),(8,.v (.bool true))] ZN hnt fun K hK=>?_;refine And.intro (Zq (by rw[Zr])) ?_;refine And.intro YD ?_;refine hK _ _ ?_;clear hK K;refine Zy (t:=true) rfl ?_;rw[if_pos rfl];refine Zw ?_;refine Zz ?_;refine Zt ?_;refine Zx [(14,.q [.sl 2 (eTys l[j].args) none,.v (.int .i64 l[j].base)])] ZN hnt fun K hK=>?_
    refine And.intro (Xg (Zr l)) ?_;refine And.intro (Xh (ZU l j) (Zb _)) ?_;refine Ze (hc) ?_;refine And.intro (⟨by omega,by rw[hl1];simp;omega⟩) ?_;refine hK _ _ ?_;clear hK K
    rw[WX l j hlt,hl2]
    refine Zx [(10,.v (.int .i64 (↑(j+1))))] ZN hnt fun K hK=>?_;refine And.intro XR ?_;refine hK _ _ ?_;clear hK K
    refine⟨⟨j+1,hlt⟩,by first | omega | (dsimp only;omega),VS.toA⟩
   ·rw[List.take_of_length_le (by omega)]
    refine Zz ?_;refine Zz ?_;refine Zx [(7,.v (.int .i64 (↑l.length))),(8,.v (.bool false))] ZN hnt fun K hK=>?_;refine And.intro (Zq (by rw[Zr])) ?_;refine And.intro Xq ?_;refine hK _ _ ?_;clear hK K;refine Zy (t:=false) rfl ?_;rw[if_neg (by simp)];refine Zc ?_;refine Zz ?_;refine Zx [] ZN hnt fun _ z9=>z9 _ _ ?_;refine Zu ?_
    exact Zj rfl
theorem DH (l:List Ty)(hz:Ty.sizes l≤900000):Zd Tryz.prog 64 [.sl 2 (eTys l) none] (.sl 2 (eTys l) none):=by
 have hal:=Ty.le_sizes l
 refine Zm 0 20 [ResultVar.tmp 2] ZN Tryz.func64 rfl Tryz.ntmps64 rfl fun cx hnt hn0=>?_
 ·skip
  refine Zz ?_;refine Zx [] ZN hnt fun _ z9=>z9 _ _ ?_
  refine XW (τ:=[(.t 0,.sl 2 (eTys l) none),(.t 3,.v (.slice none 0 0))]) (N1:=0) ?_ ?_
  ·skip
   refine Zx [] ZN hnt fun _ z9=>z9 _ _ ?_
   exact Ym (VS.toK (by omega) (by repeat first | exact trivial | refine And.intro (And.intro (by first | rfl | simp[D.ok,D.oks,D.okss,D.okm,YM,Xx,Y0]) (by first | exact Or.inl rfl | exact Or.inr ⟨_,rfl,(by repeat first | exact Zn.refl _ | exact Zn.nil _ | exact Zn.untag _ _ _ | refine Zn.ag ?_ | refine Zn.tu ?_ | refine ZS.cons ?_ ?_ | exact ZS.nil),trivial⟩ | simp[get,Key.eq,Y0])) ?_))
  ·refine DW.vs (VS.rowT (x:=3) (by rw[hnt];decide) 104 2 rfl) ?_
   refine Zz ?_;refine Zz ?_;refine Zx [] ZN hnt fun _ z9=>z9 _ _ ?_;refine Zt ?_
   refine Z4 (ι:={ j:Nat // j≤l.length }) (fun j=>[(.t 0,.sl 2 (eTys l) none),(.t 3,.sl 2 (eTys (l.take j.1)) (some 0)),(.t 4,.v (.int .i64 ↑j.1)),(.r 0,.rw 104 2 j.1)]) 1 (fun j=>l.length-j.1) (⟨0,Nat.zero_le _⟩) ((VS.toK (by omega) (by repeat first | exact trivial | refine And.intro (And.intro (by first | rfl | simp[D.ok,D.oks,D.okss,D.okm,YM,Xx,Y0]) (by first | exact Or.inl rfl | exact Or.inr ⟨_,rfl,(by repeat first | exact Zn.refl _ | exact Zn.nil _ | exact Zn.untag _ _ _ | refine Zn.ag ?_ | refine Zn.tu ?_ | refine ZS.cons ?_ ?_ | exact ZS.nil),trivial⟩ | simp[get,Key.eq,Y0])) ?_))) fun j=>?_
   obtain⟨j,hj⟩:=j
   dsimp only
   by_cases hlt:j<l.length
   ·have hsz:=Ty.size_mem (List.getElem_mem hlt)
    have hc:=Bg l[j] (by omega)
    rw[Zb] at hc
    have hl1:=X7 l j hj
    have hl2:=X7 l (j+1) hlt
    refine Zz ?_;refine Zz ?_;refine Zx [(7,.v (.int .i64 (↑l.length))),(8,.v (.bool true))] ZN hnt fun K hK=>?_;refine And.intro (Zq (by rw[Zr])) ?_;refine And.intro YD ?_;refine hK _ _ ?_;clear hK K;refine Zy (t:=true) rfl ?_;rw[if_pos rfl];refine Zw ?_;refine Zz ?_;refine Zt ?_;refine Zx [(14,.q [.sl 2 (eTys l[j].args) none,.v (.int .i64 l[j].base)])] ZN hnt fun K hK=>?_
    refine And.intro (Xg (Zr l)) ?_;refine And.intro (Xh (ZU l j) (Zb _)) ?_;refine Ze (hc) ?_;refine And.intro (⟨by omega,by rw[hl1];simp;omega⟩) ?_;refine hK _ _ ?_;clear hK K
    rw[WX l j hlt,hl2]
    refine Zx [(10,.v (.int .i64 (↑(j+1))))] ZN hnt fun K hK=>?_;refine And.intro XR ?_;refine hK _ _ ?_;clear hK K
    refine⟨⟨j+1,hlt⟩,by first | omega | (dsimp only;omega),VS.toA⟩
   ·rw[List.take_of_length_le (by omega)]
    refine Zz ?_;refine Zz ?_;refine Zx [(7,.v (.int .i64 (↑l.length))),(8,.v (.bool false))] ZN hnt fun K hK=>?_;refine And.intro (Zq (by rw[Zr])) ?_;refine And.intro Xq ?_;refine hK _ _ ?_;clear hK K;refine Zy (t:=false) rfl ?_;rw[if_neg (by simp)];refine Zc ?_;refine Zz ?_;refine Zx [] ZN hnt fun _ z9=>z9 _ _ ?_;refine Zu ?_
    exact Zj rfl
theorem P2 : ∀ t : Tm, t.full ≤ 900000 → Zd Tryz.prog 27 [.ag (eTm t)] (.ag (eTm t)) := by
  intro t
  induction t using Tm.ind with
  | h bs k i ar ih =>
    intro hz
    rw [Tm.full_eq] at hz
    have hbs := UI bs (by omega)
    have hal : ar.length ≤ Tm.fulls ar := by
      clear ih hz
      induction ar with
      | nil => simp
      | cons u l ih => have : 1 ≤ u.full := by obtain ⟨b, k, i, a⟩ := u; rw [Tm.full_eq]; omega
                       simp only [List.length_cons, Tm.fulls]; omega
    rw [Zv]
    dsimp only [Tm.binds, Tm.kind, Tm.index, Tm.args]
    refine Zm 0 35 [ResultVar.cell 2 62] ZN Tryz.func27 rfl Tryz.ntmps27 rfl fun cx hnt hn0 => ?_
    · skip
      refine Zz ?_
      refine Zx [] ZN hnt fun K hK => ?_
      refine hK _ _ ?_; clear hK K
      refine Zz ?_
      refine ZP [] ZN hnt fun K hK => ?_
      refine Ze (hbs) ?_
      refine hK _ _ (by kernel_rfl) ?_; clear hK K
      refine DW.vs (VS.row (k := 13) (off := 3) 62 4 rfl) ?_
      refine Zz ?_
      refine Zz ?_
      refine Zx [] ZN hnt fun K hK => ?_
      refine hK _ _ ?_; clear hK K
      refine Zt ?_
      refine Z4 (ι := { j : Nat // j ≤ ar.length }) (fun j => [(.t 1, .p 0 0), (.t 2, .p 1 0), (.t 3, .p 13 0), (.t 4, .v (.int .i64 ↑j.1)), (.c 0 0, .sl 2 (eTys bs) none), (.c 0 1, .v (.int .i64 k)), (.c 0 2, .v (.int .i64 i)), (.c 0 3, .sl 4 (eTms ar) none), (.c 1 0, .v (.slice none 0 0)), (.c 1 1, .v (.int .i64 0)), (.c 1 2, .v (.int .i64 0)), (.c 1 3, .v (.slice none 0 0)), (.c 13 0, .sl 2 (eTys bs) none), (.c 13 1, .v (.int .i64 k)), (.c 13 2, .v (.int .i64 i)), (.c 13 3, .sl 4 (eTms (ar.take j.1)) (some 15)), (.r 15, .rw 62 4 j.1)]) 16 (fun j => ar.length - j.1) (⟨0, Nat.zero_le _⟩) ((VS.toK (by omega) (by repeat first | exact trivial | refine And.intro (And.intro (by first | rfl | simp [D.ok, D.oks, D.okss, D.okm, YM, Xx, Y0]) (by first | exact Or.inl rfl | exact Or.inr ⟨_, rfl, (by repeat first | exact Zn.refl _ | exact Zn.nil _ | exact Zn.untag _ _ _ | refine Zn.ag ?_ | refine Zn.tu ?_ | refine ZS.cons ?_ ?_ | exact ZS.nil), trivial⟩ | simp [get, Key.eq, Y0])) ?_))) fun j => ?_
      obtain ⟨j, hj⟩ := j
      dsimp only
      by_cases hlt : j < ar.length
      · have hmem := List.getElem_mem hlt
        have hsz := Tm.full_mem hmem
        have hc := ih _ hmem (by omega)
        rw [Zv] at hc
        have hl1 := V6 ar j hj
        have hl2 := V6 ar (j + 1) hlt
        refine Zz ?_
        refine Zz ?_
        refine Zx [(19, .v (.int .i64 (↑ar.length))), (20, .v (.bool true))] ZN hnt fun K hK => ?_
        refine And.intro (Zq (by rw [Zs])) ?_
        refine And.intro YD ?_
        refine hK _ _ ?_; clear hK K
        refine Zy (t := true) rfl ?_
        rw [if_pos rfl]
        refine Zw ?_
        refine Zz ?_
        refine Zt ?_
        refine ZP [(28, .q [.sl 2 (eTys ar[j].binds) none, .v (.int .i64 ar[j].kind), .v (.int .i64 ar[j].index), .sl 4 (eTms ar[j].args) none])] ZN hnt fun K hK => ?_
        refine And.intro (Xg (Zs ar)) ?_
        refine And.intro (Xh (ZX ar j) (Zv _)) ?_
        refine Ze (hc) ?_
        refine And.intro (⟨by omega, by rw [hl1]; simp; omega⟩) ?_
        refine hK _ _ (by kernel_rfl) ?_; clear hK K
        rw [S2 ar j hlt, hl2]
        refine Zx [(22, .v (.int .i64 (↑(j + 1))))] ZN hnt fun K hK => ?_
        refine And.intro XR ?_
        refine hK _ _ ?_; clear hK K
        refine ⟨⟨j + 1, hlt⟩, by first | omega | (dsimp only; omega), VS.toA⟩
      · rw [List.take_of_length_le (by omega)]
        refine Zz ?_
        refine Zz ?_
        refine Zx [(19, .v (.int .i64 (↑ar.length))), (20, .v (.bool false))] ZN hnt fun K hK => ?_
        refine And.intro (Zq (by rw [Zs])) ?_
        refine And.intro Xq ?_
        refine hK _ _ ?_; clear hK K
        refine Zy (t := false) rfl ?_
        rw [if_neg (by simp)]
        refine Zc ?_
        refine Zz ?_
        refine Zx [] ZN hnt fun K hK => ?_
        refine hK _ _ ?_; clear hK K
        refine Zu ?_
        exact Zj rfl
theorem Bh : ∀ t : Tm, t.full ≤ 900000 → Zd Tryz.prog 31 [.ag (eTm t)] (.ag (eTm t)) := by
  intro t
  induction t using Tm.ind with
  | h bs k i ar ih =>
    intro hz
    rw [Tm.full_eq] at hz
    have hbs := DH bs (by omega)
    have hal : ar.length ≤ Tm.fulls ar := by
      clear ih hz
      induction ar with
      | nil => simp
      | cons u l ih => have : 1 ≤ u.full := by obtain ⟨b, k, i, a⟩ := u; rw [Tm.full_eq]; omega
                       simp only [List.length_cons, Tm.fulls]; omega
    rw [Zv]
    dsimp only [Tm.binds, Tm.kind, Tm.index, Tm.args]
    refine Zm 0 35 [ResultVar.cell 2 31] ZN Tryz.func31 rfl Tryz.ntmps31 rfl fun cx hnt hn0 => ?_
    · skip
      refine Zz ?_
      refine Zx [] ZN hnt fun K hK => ?_
      refine hK _ _ ?_; clear hK K
      refine Zz ?_
      refine ZP [] ZN hnt fun K hK => ?_
      refine Ze (hbs) ?_
      refine hK _ _ (by kernel_rfl) ?_; clear hK K
      refine DW.vs (VS.row (k := 13) (off := 3) 31 4 rfl) ?_
      refine Zz ?_
      refine Zz ?_
      refine Zx [] ZN hnt fun K hK => ?_
      refine hK _ _ ?_; clear hK K
      refine Zt ?_
      refine Z4 (ι := { j : Nat // j ≤ ar.length }) (fun j => [(.t 1, .p 0 0), (.t 2, .p 1 0), (.t 3, .p 13 0), (.t 4, .v (.int .i64 ↑j.1)), (.c 0 0, .sl 2 (eTys bs) none), (.c 0 1, .v (.int .i64 k)), (.c 0 2, .v (.int .i64 i)), (.c 0 3, .sl 4 (eTms ar) none), (.c 1 0, .v (.slice none 0 0)), (.c 1 1, .v (.int .i64 0)), (.c 1 2, .v (.int .i64 0)), (.c 1 3, .v (.slice none 0 0)), (.c 13 0, .sl 2 (eTys bs) none), (.c 13 1, .v (.int .i64 k)), (.c 13 2, .v (.int .i64 i)), (.c 13 3, .sl 4 (eTms (ar.take j.1)) (some 15)), (.r 15, .rw 31 4 j.1)]) 16 (fun j => ar.length - j.1) (⟨0, Nat.zero_le _⟩) ((VS.toK (by omega) (by repeat first | exact trivial | refine And.intro (And.intro (by first | rfl | simp [D.ok, D.oks, D.okss, D.okm, YM, Xx, Y0]) (by first | exact Or.inl rfl | exact Or.inr ⟨_, rfl, (by repeat first | exact Zn.refl _ | exact Zn.nil _ | exact Zn.untag _ _ _ | refine Zn.ag ?_ | refine Zn.tu ?_ | refine ZS.cons ?_ ?_ | exact ZS.nil), trivial⟩ | simp [get, Key.eq, Y0])) ?_))) fun j => ?_
      obtain ⟨j, hj⟩ := j
      dsimp only
      by_cases hlt : j < ar.length
      · have hmem := List.getElem_mem hlt
        have hsz := Tm.full_mem hmem
        have hc := ih _ hmem (by omega)
        rw [Zv] at hc
        have hl1 := V6 ar j hj
        have hl2 := V6 ar (j + 1) hlt
        refine Zz ?_
        refine Zz ?_
        refine Zx [(19, .v (.int .i64 (↑ar.length))), (20, .v (.bool true))] ZN hnt fun K hK => ?_
        refine And.intro (Zq (by rw [Zs])) ?_
        refine And.intro YD ?_
        refine hK _ _ ?_; clear hK K
        refine Zy (t := true) rfl ?_
        rw [if_pos rfl]
        refine Zw ?_
        refine Zz ?_
        refine Zt ?_
        refine ZP [(28, .q [.sl 2 (eTys ar[j].binds) none, .v (.int .i64 ar[j].kind), .v (.int .i64 ar[j].index), .sl 4 (eTms ar[j].args) none])] ZN hnt fun K hK => ?_
        refine And.intro (Xg (Zs ar)) ?_
        refine And.intro (Xh (ZX ar j) (Zv _)) ?_
        refine Ze (hc) ?_
        refine And.intro (⟨by omega, by rw [hl1]; simp; omega⟩) ?_
        refine hK _ _ (by kernel_rfl) ?_; clear hK K
        rw [S2 ar j hlt, hl2]
        refine Zx [(22, .v (.int .i64 (↑(j + 1))))] ZN hnt fun K hK => ?_
        refine And.intro XR ?_
        refine hK _ _ ?_; clear hK K
        refine ⟨⟨j + 1, hlt⟩, by first | omega | (dsimp only; omega), VS.toA⟩
      · rw [List.take_of_length_le (by omega)]
        refine Zz ?_
        refine Zz ?_
        refine Zx [(19, .v (.int .i64 (↑ar.length))), (20, .v (.bool false))] ZN hnt fun K hK => ?_
        refine And.intro (Zq (by rw [Zs])) ?_
        refine And.intro Xq ?_
        refine hK _ _ ?_; clear hK K
        refine Zy (t := false) rfl ?_
        rw [if_neg (by simp)]
        refine Zc ?_
        refine Zz ?_
        refine Zx [] ZN hnt fun K hK => ?_
        refine hK _ _ ?_; clear hK K
        refine Zu ?_
        exact Zj rfl
def TPR_33:TI:=⟨9,true,[Value.slice none 0 0,Value.int IntKind.i64 0,Value.int IntKind.i64 0,Value.slice none 0 0,Value.slice none 0 0,Value.int IntKind.i64 0,Value.int IntKind.i64 0,Value.slice none 0 0,Value.slice none 0 0],[(0,4,true),(4,4,true),(8,1,false)],none,152,6,none,false⟩
theorem H5:TypOk Tryz.prog 33 TPR_33:=by constructor <;> kernel_rfl
def TPR_31:TI:=⟨4,true,[Value.slice none 0 0,Value.int IntKind.i64 0,Value.int IntKind.i64 0,Value.slice none 0 0],[(0,1,false),(1,2,true),(3,1,false)],none,64,6,none,false⟩
theorem H6:TypOk Tryz.prog 31 TPR_31:=by constructor <;> kernel_rfl
def TPR_22:TI:=⟨1,false,[Value.slice none 0 0],[],some 104,24,5,none,false⟩
theorem HZ:TypOk Tryz.prog 22 TPR_22:=by constructor <;> kernel_rfl
def TPR_64:TI:=⟨9,true,[Value.slice none 0 0,Value.int IntKind.i64 0,Value.int IntKind.i64 0,Value.slice none 0 0,Value.slice none 0 0,Value.int IntKind.i64 0,Value.int IntKind.i64 0,Value.slice none 0 0,Value.slice none 0 0],[(0,4,true),(4,4,true),(8,1,false)],none,152,6,none,false⟩
theorem H0:TypOk Tryz.prog 64 TPR_64:=by constructor <;> kernel_rfl
def TPR_25:TI:=⟨1,false,[Value.slice none 0 0],[],some 33,24,5,none,false⟩
theorem H8:TypOk Tryz.prog 25 TPR_25:=by constructor <;> kernel_rfl
def TPR_3:TI:=⟨1,false,[Value.int IntKind.i64 0],[],none,8,2,none,false⟩
theorem Dv:TypOk Tryz.prog 3 TPR_3:=by constructor <;> kernel_rfl
def TPR_62:TI:=⟨4,true,[Value.slice none 0 0,Value.int IntKind.i64 0,Value.int IntKind.i64 0,Value.slice none 0 0],[(0,1,false),(1,2,true),(3,1,false)],none,64,6,none,false⟩
theorem H3:TypOk Tryz.prog 62 TPR_62:=by constructor <;> kernel_rfl
def TPR_29:TI:=⟨1,false,[Value.slice none 0 0],[],some 31,24,5,none,false⟩
theorem H7:TypOk Tryz.prog 29 TPR_29:=by constructor <;> kernel_rfl
def TPR_104:TI:=⟨2,true,[Value.slice none 0 0,Value.int IntKind.i64 0],[(0,1,false),(1,1,false)],none,32,6,none,false⟩
theorem NY:TypOk Tryz.prog 104 TPR_104:=by constructor <;> kernel_rfl
def TPR_41:TI:=⟨1,false,[Value.slice none 0 0],[],some 106,24,5,none,false⟩
theorem H4:TypOk Tryz.prog 41 TPR_41:=by constructor <;> kernel_rfl
def TPR_24:TI:=⟨3,true,[Value.int IntKind.i64 0,Value.slice none 0 0,Value.slice none 0 0],[(0,1,false),(1,1,false),(2,1,false)],none,56,6,none,false⟩
theorem H9:TypOk Tryz.prog 24 TPR_24:=by constructor <;> kernel_rfl
def TPR_106:TI:=⟨2,true,[Value.slice none 0 0,Value.int IntKind.i64 0],[(0,1,false),(1,1,false)],none,32,6,none,false⟩
theorem NZ:TypOk Tryz.prog 106 TPR_106:=by constructor <;> kernel_rfl
def TPR:List (Nat×TI):=[(33,TPR_33),(31,TPR_31),(22,TPR_22),(64,TPR_64),(25,TPR_25),(3,TPR_3),(62,TPR_62),(29,TPR_29),(104,TPR_104),(41,TPR_41),(24,TPR_24),(106,TPR_106)]
theorem YG:Zh Tryz.prog TPR:=(((((((((((((Zh.nil _).cons NZ).cons H9).cons H4).cons NY).cons H7).cons H3).cons Dv).cons H8).cons H0).cons HZ).cons H6).cons H5)
namespace Li
structure Pr where
 l:Tm
 r:Tm
 m:List Ty
instance:DecidableEq Pr:=fun p q=>decidable_of_iff (p.l=q.l∧p.r=q.r∧p.m=q.m) (by cases p;cases q;simp)
def Pr.z:Pr:=⟨Tm.zero,Tm.zero,[]⟩
end Li
def VG (p:Li.Pr):List D:=[.sl 2 (eTys p.l.binds) none,.v (.int .i64 p.l.kind),.v (.int .i64 p.l.index),.sl 4 (eTms p.l.args) none,.sl 2 (eTys p.r.binds) none,.v (.int .i64 p.r.kind),.v (.int .i64 p.r.index),.sl 4 (eTms p.r.args) none,.sl 2 (eTys p.m) none]
theorem Oz (L R:Tm)(M:List Ty):VG ⟨L,R,M⟩=[.sl 2 (eTys L.binds) none,.v (.int .i64 L.kind),.v (.int .i64 L.index),.sl 4 (eTms L.args) none,.sl 2 (eTys R.binds) none,.v (.int .i64 R.kind),.v (.int .i64 R.index),.sl 4 (eTms R.args) none,.sl 2 (eTys M) none]:=rfl
theorem Yf (p:Li.Pr):VG p=[.sl 2 (eTys p.l.binds) none,.v (.int .i64 p.l.kind),.v (.int .i64 p.l.index),.sl 4 (eTms p.l.args) none,.sl 2 (eTys p.r.binds) none,.v (.int .i64 p.r.kind),.v (.int .i64 p.r.index),.sl 4 (eTms p.r.args) none,.sl 2 (eTys p.m) none]:=rfl
@[simp] theorem BI (f g:Nat→Bool) (p:Li.Pr):D.oks f g (VG p)=true:=by simp[VG,D.oks,D.ok]
def Yp (l:List Li.Pr):List (List D):=l.map VG
theorem Z5 (l:List Li.Pr):(Yp l).length=l.length:=List.length_map ..
theorem Wr (l:List Li.Pr)(i:Nat)(h:i<l.length):(Yp l).getD i []=VG l[i]:=by
 rw[Yp,List.getD_eq_getElem?_getD,List.getElem?_map,List.getElem?_eq_getElem h];rfl
@[simp] theorem UC (f g:Nat→Bool) (l:List Li.Pr):D.okss f g (Yp l)=true:=D.okss_map _ l fun l _=>BI f g l
theorem CF (p:Li.Pr)(h1:p.l.full≤900000)(h2:p.r.full≤900000)(h3:Ty.sizes p.m≤900000):Zd Tryz.prog 21 [.ag (VG p)] (.ag (VG p)):=by
 obtain⟨L,R,M⟩:=p
 have c1:=P2 L h1
 have c2:=P2 R h2
 have c3:=UI M h3
 rw[Zv] at c1 c2
 rw[Oz]
 refine Zm 0 13 [ResultVar.cell 2 64] YG Tryz.func21 rfl Tryz.ntmps21 rfl fun cx hnt hn0=>?_
 ·skip
  refine Zz ?_;refine Zx [] YG hnt fun _ z9=>z9 _ _ ?_;refine Zz ?_;refine ZP [] YG hnt fun K hK=>?_;refine Ze (c1) ?_;refine Ze (c2) ?_;refine Ze (c3) ?_;refine hK _ _ (by kernel_rfl) ?_;clear hK K;refine Zu ?_
  exact Zj rfl
/-! Few -/
def VH (p:Li.Pr):Bool:=(([p.l,p.r].all VW)&&(decide (p.m.length≤20)&&p.m.all WY))&&lowsB [p.l,p.r]
theorem GB (X:List Ty):Zd Tryz.prog 8 [.ag [.v (.int .i64 0),.sl 2 (eTys []) none,.sl 2 (eTys []) none],.sl 2 (eTys X) none] (.v (.bool (decide (X.length≤20)&&X.all WY))):=by
 by_cases h:X.length≤20
 ·have:=Kb 0 [] [] X (by simp) (by simp) h
  rw[List.append_nil,List.nil_append] at this
  rw[decide_eq_true h,Bool.true_and];exact this
 ·rw[decide_eq_false h,Bool.false_and]
  exact Re 0 [] [] X (fun h2=>h h2.2.2)
theorem KQ {p:Li.Pr}(h:VH p=true):(p.l.full≤150∧p.r.full≤150)∧p.m.length≤20∧(∀ t∈p.m,t.size≤60):=by
 unfold VH at h
 simp only[Bool.and_eq_true,List.all_cons,List.all_nil,and_true,decide_eq_true_eq] at h
 exact⟨⟨(Ws h.1.1.1).1,(Ws h.1.1.2).1⟩,h.1.2.1,fun t ht=>Eo (List.all_eq_true.1 h.1.2.2 t ht)⟩
set_option maxHeartbeats 2000000 in
theorem Cn (l:List Li.Pr)(hl:l.length≤1000000):Zd Tryz.prog 10 [.sl 9 (Yp l) none] (.v (.bool (l.all VH))):=by
 refine Zm 0 48 [ResultVar.tmp 2] YG Tryz.func10 rfl Tryz.ntmps10 rfl fun cx hnt hn0=>?_
 ·skip
  refine Zz ?_;refine Zx [] YG hnt fun _ z9=>z9 _ _ ?_;refine Zz ?_;refine Zz ?_;refine Zx [] YG hnt fun _ z9=>z9 _ _ ?_;refine Zt ?_
  refine Z4 (ι:={ j:Nat // ∀ i (h:i<l.length),i<j→VH l[i]=true }) (fun j=>[(.t 0,.sl 9 (Yp l) none),(.t 3,.v (.int .i64 ↑j.1))]) 1 (fun j=>l.length-j.1) (⟨0,fun i h1 h2=>by omega⟩) (VS.toA) fun j=>?_
  obtain⟨j,hj⟩:=j
  dsimp only
  by_cases hlt:j<l.length
  ·obtain⟨p,hp⟩:∃ p,l[j]=p:=⟨_,rfl⟩
   have hgd:(Yp l).getD j []=[.sl 2 (eTys p.l.binds) none,.v (.int .i64 p.l.kind),.v (.int .i64 p.l.index),.sl 4 (eTms p.l.args) none,.sl 2 (eTys p.r.binds) none,.v (.int .i64 p.r.kind),.v (.int .i64 p.r.index),.sl 4 (eTms p.r.args) none,.sl 2 (eTys p.m) none]:=by rw[Wr l j hlt,hp,Yf]
   have hF:=RR [p.l,p.r] (by simp)
   have hS:=GB p.m
   have hbad:VH p=false→l.all VH=false:=fun h=>by rw[List.all_eq_false];exact⟨l[j],List.getElem_mem hlt,by rw[hp,h];simp⟩
   have e2:eTms [p.l,p.r]=[[.sl 2 (eTys p.l.binds) none,.v (.int .i64 p.l.kind),.v (.int .i64 p.l.index),.sl 4 (eTms p.l.args) none],[.sl 2 (eTys p.r.binds) none,.v (.int .i64 p.r.kind),.v (.int .i64 p.r.index),.sl 4 (eTms p.r.args) none]]:=by rw[←Zv,←Zv];rfl
   cases h1:[p.l,p.r].all VW with
   | false=>
    rw[h1] at hF
    rw[hbad (by rw[VH,h1];rfl)]
    refine Zz ?_;refine Zz ?_;refine Zx [(6,.v (.int .i64 (↑l.length))),(7,.v (.bool true))] YG hnt fun K hK=>?_;refine And.intro (Zq (by rw[Z5])) ?_;refine And.intro YD ?_;refine hK _ _ ?_;clear hK K;refine Zy (t:=true) rfl ?_;rw[if_pos rfl];refine Zw ?_;refine Zz ?_;refine Zt ?_;refine Zz ?_;refine ZP [(12,.q [.sl 2 (eTys p.l.binds) none,.v (.int .i64 p.l.kind),.v (.int .i64 p.l.index),.sl 4 (eTms p.l.args) none,.sl 2 (eTys p.r.binds) none,.v (.int .i64 p.r.kind),.v (.int .i64 p.r.index),.sl 4 (eTms p.r.args) none,.sl 2 (eTys p.m) none]),(17,.q [.sl 2 (eTys p.l.binds) none,.v (.int .i64 p.l.kind),.v (.int .i64 p.l.index),.sl 4 (eTms p.l.args) none,.sl 2 (eTys p.r.binds) none,.v (.int .i64 p.r.kind),.v (.int .i64 p.r.index),.sl 4 (eTms p.r.args) none,.sl 2 (eTys p.m) none]),(20,.sl 4 (eTms [p.l,p.r]) none)] YG hnt fun K hK=>?_
    refine And.intro (⟨by omega,by rw[Z5];omega⟩) ?_;refine And.intro (Zn.of_eq (by rw[Int.toNat_natCast,hgd])) ?_;refine And.intro (⟨by omega,by rw[Z5];omega⟩) ?_;refine And.intro (Zn.of_eq (by rw[Int.toNat_natCast,hgd])) ?_;refine And.intro ((by rw[e2];exact Zn.untag _ _ _)) ?_;refine Ze (hF) ?_;refine hK _ _ (by kernel_rfl) ?_;clear hK K;refine Zy (t:=true) rfl ?_
    rw[if_pos rfl];refine Zz ?_;refine Zx [] YG hnt fun _ z9=>z9 _ _ ?_;refine Zu ?_
    exact Zj rfl
   | true=>
    rw[h1] at hF
    cases h2:(decide (p.m.length≤20)&&p.m.all WY) with
    | false=>
     rw[h2] at hS
     rw[hbad (by rw[VH,h1,h2];rfl)]
     refine Zz ?_;refine Zz ?_;refine Zx [(6,.v (.int .i64 (↑l.length))),(7,.v (.bool true))] YG hnt fun K hK=>?_;refine And.intro (Zq (by rw[Z5])) ?_;refine And.intro YD ?_;refine hK _ _ ?_;clear hK K;refine Zy (t:=true) rfl ?_;rw[if_pos rfl];refine Zw ?_;refine Zz ?_;refine Zt ?_;refine Zz ?_;refine ZP [(12,.q [.sl 2 (eTys p.l.binds) none,.v (.int .i64 p.l.kind),.v (.int .i64 p.l.index),.sl 4 (eTms p.l.args) none,.sl 2 (eTys p.r.binds) none,.v (.int .i64 p.r.kind),.v (.int .i64 p.r.index),.sl 4 (eTms p.r.args) none,.sl 2 (eTys p.m) none]),(17,.q [.sl 2 (eTys p.l.binds) none,.v (.int .i64 p.l.kind),.v (.int .i64 p.l.index),.sl 4 (eTms p.l.args) none,.sl 2 (eTys p.r.binds) none,.v (.int .i64 p.r.kind),.v (.int .i64 p.r.index),.sl 4 (eTms p.r.args) none,.sl 2 (eTys p.m) none]),(20,.sl 4 (eTms [p.l,p.r]) none),(24,.ag [.v (.int .i64 0),.sl 2 (eTys []) none,.sl 2 (eTys []) none]),(27,.q [.sl 2 (eTys p.l.binds) none,.v (.int .i64 p.l.kind),.v (.int .i64 p.l.index),.sl 4 (eTms p.l.args) none,.sl 2 (eTys p.r.binds) none,.v (.int .i64 p.r.kind),.v (.int .i64 p.r.index),.sl 4 (eTms p.r.args) none,.sl 2 (eTys p.m) none])] YG hnt fun K hK=>?_
     refine And.intro (⟨by omega,by rw[Z5];omega⟩) ?_;refine And.intro (Zn.of_eq (by rw[Int.toNat_natCast,hgd])) ?_;refine And.intro (⟨by omega,by rw[Z5];omega⟩) ?_;refine And.intro (Zn.of_eq (by rw[Int.toNat_natCast,hgd])) ?_;refine And.intro ((by rw[e2];exact Zn.untag _ _ _)) ?_;refine Ze (hF) ?_;refine And.intro (Xl) ?_;refine And.intro (⟨by omega,by rw[Z5];omega⟩) ?_
     refine And.intro (Zn.of_eq (by rw[Int.toNat_natCast,hgd])) ?_;refine Ze (hS) ?_;refine hK _ _ (by kernel_rfl) ?_;clear hK K;refine Zy (t:=true) rfl ?_;rw[if_pos rfl];refine Zz ?_;refine Zx [] YG hnt fun _ z9=>z9 _ _ ?_;refine Zu ?_
     exact Zj rfl
    | true=>
     rw[h2] at hS
     have h1':=h1
     simp only[List.all_cons,List.all_nil,Bool.and_true,Bool.and_eq_true] at h1'
     have hL:=FU [p.l,p.r] (by simp) (fun t ht=>by
      rcases List.mem_cons.1 ht with rfl | ht
      ·exact X2 _ (by have:=(Ws h1'.1).1;omega)
      ·rw[List.mem_singleton] at ht;subst ht;exact X2 _ (by have:=(Ws h1'.2).1;omega))
     cases h3:lowsB [p.l,p.r] with
     | false=>
      rw[h3] at hL
      rw[hbad (by rw[VH,h1,h2,h3];rfl)]
      refine Zz ?_;refine Zz ?_;refine Zx [(6,.v (.int .i64 (↑l.length))),(7,.v (.bool true))] YG hnt fun K hK=>?_;refine And.intro (Zq (by rw[Z5])) ?_;refine And.intro YD ?_;refine hK _ _ ?_;clear hK K;refine Zy (t:=true) rfl ?_;rw[if_pos rfl];refine Zw ?_;refine Zz ?_;refine Zt ?_;refine Zz ?_;refine ZP [(12,.q [.sl 2 (eTys p.l.binds) none,.v (.int .i64 p.l.kind),.v (.int .i64 p.l.index),.sl 4 (eTms p.l.args) none,.sl 2 (eTys p.r.binds) none,.v (.int .i64 p.r.kind),.v (.int .i64 p.r.index),.sl 4 (eTms p.r.args) none,.sl 2 (eTys p.m) none]),(17,.q [.sl 2 (eTys p.l.binds) none,.v (.int .i64 p.l.kind),.v (.int .i64 p.l.index),.sl 4 (eTms p.l.args) none,.sl 2 (eTys p.r.binds) none,.v (.int .i64 p.r.kind),.v (.int .i64 p.r.index),.sl 4 (eTms p.r.args) none,.sl 2 (eTys p.m) none]),(20,.sl 4 (eTms [p.l,p.r]) none),(24,.ag [.v (.int .i64 0),.sl 2 (eTys []) none,.sl 2 (eTys []) none]),(27,.q [.sl 2 (eTys p.l.binds) none,.v (.int .i64 p.l.kind),.v (.int .i64 p.l.index),.sl 4 (eTms p.l.args) none,.sl 2 (eTys p.r.binds) none,.v (.int .i64 p.r.kind),.v (.int .i64 p.r.index),.sl 4 (eTms p.r.args) none,.sl 2 (eTys p.m) none]),(36,.q [.sl 2 (eTys p.l.binds) none,.v (.int .i64 p.l.kind),.v (.int .i64 p.l.index),.sl 4 (eTms p.l.args) none,.sl 2 (eTys p.r.binds) none,.v (.int .i64 p.r.kind),.v (.int .i64 p.r.index),.sl 4 (eTms p.r.args) none,.sl 2 (eTys p.m) none]),(41,.q [.sl 2 (eTys p.l.binds) none,.v (.int .i64 p.l.kind),.v (.int .i64 p.l.index),.sl 4 (eTms p.l.args) none,.sl 2 (eTys p.r.binds) none,.v (.int .i64 p.r.kind),.v (.int .i64 p.r.index),.sl 4 (eTms p.r.args) none,.sl 2 (eTys p.m) none]),(44,.sl 4 (eTms [p.l,p.r]) none)] YG hnt fun K hK=>?_
      refine And.intro (⟨by omega,by rw[Z5];omega⟩) ?_;refine And.intro (Zn.of_eq (by rw[Int.toNat_natCast,hgd])) ?_;refine And.intro (⟨by omega,by rw[Z5];omega⟩) ?_;refine And.intro (Zn.of_eq (by rw[Int.toNat_natCast,hgd])) ?_;refine And.intro ((by rw[e2];exact Zn.untag _ _ _)) ?_;refine Ze (hF) ?_;refine And.intro (Xl) ?_;refine And.intro (⟨by omega,by rw[Z5];omega⟩) ?_
      refine And.intro (Zn.of_eq (by rw[Int.toNat_natCast,hgd])) ?_;refine Ze (hS) ?_;refine And.intro (⟨by omega,by rw[Z5];omega⟩) ?_;refine And.intro (Zn.of_eq (by rw[Int.toNat_natCast,hgd])) ?_;refine And.intro (⟨by omega,by rw[Z5];omega⟩) ?_;refine And.intro (Zn.of_eq (by rw[Int.toNat_natCast,hgd])) ?_;refine And.intro ((by rw[e2];exact Zn.untag _ _ _)) ?_;refine Ze (hL) ?_
      refine hK _ _ (by kernel_rfl) ?_;clear hK K;refine Zy (t:=true) rfl ?_;rw[if_pos rfl];refine Zz ?_;refine Zx [] YG hnt fun _ z9=>z9 _ _ ?_;refine Zu ?_
      exact Zj rfl
     | true=>
      rw[h3] at hL
      refine Zz ?_;refine Zz ?_;refine Zx [(6,.v (.int .i64 (↑l.length))),(7,.v (.bool true))] YG hnt fun K hK=>?_;refine And.intro (Zq (by rw[Z5])) ?_;refine And.intro YD ?_;refine hK _ _ ?_;clear hK K;refine Zy (t:=true) rfl ?_;rw[if_pos rfl];refine Zw ?_;refine Zz ?_;refine Zt ?_;refine Zz ?_;refine ZP [(12,.q [.sl 2 (eTys p.l.binds) none,.v (.int .i64 p.l.kind),.v (.int .i64 p.l.index),.sl 4 (eTms p.l.args) none,.sl 2 (eTys p.r.binds) none,.v (.int .i64 p.r.kind),.v (.int .i64 p.r.index),.sl 4 (eTms p.r.args) none,.sl 2 (eTys p.m) none]),(17,.q [.sl 2 (eTys p.l.binds) none,.v (.int .i64 p.l.kind),.v (.int .i64 p.l.index),.sl 4 (eTms p.l.args) none,.sl 2 (eTys p.r.binds) none,.v (.int .i64 p.r.kind),.v (.int .i64 p.r.index),.sl 4 (eTms p.r.args) none,.sl 2 (eTys p.m) none]),(20,.sl 4 (eTms [p.l,p.r]) none),(24,.ag [.v (.int .i64 0),.sl 2 (eTys []) none,.sl 2 (eTys []) none]),(27,.q [.sl 2 (eTys p.l.binds) none,.v (.int .i64 p.l.kind),.v (.int .i64 p.l.index),.sl 4 (eTms p.l.args) none,.sl 2 (eTys p.r.binds) none,.v (.int .i64 p.r.kind),.v (.int .i64 p.r.index),.sl 4 (eTms p.r.args) none,.sl 2 (eTys p.m) none]),(36,.q [.sl 2 (eTys p.l.binds) none,.v (.int .i64 p.l.kind),.v (.int .i64 p.l.index),.sl 4 (eTms p.l.args) none,.sl 2 (eTys p.r.binds) none,.v (.int .i64 p.r.kind),.v (.int .i64 p.r.index),.sl 4 (eTms p.r.args) none,.sl 2 (eTys p.m) none]),(41,.q [.sl 2 (eTys p.l.binds) none,.v (.int .i64 p.l.kind),.v (.int .i64 p.l.index),.sl 4 (eTms p.l.args) none,.sl 2 (eTys p.r.binds) none,.v (.int .i64 p.r.kind),.v (.int .i64 p.r.index),.sl 4 (eTms p.r.args) none,.sl 2 (eTys p.m) none]),(44,.sl 4 (eTms [p.l,p.r]) none)] YG hnt fun K hK=>?_
      refine And.intro (⟨by omega,by rw[Z5];omega⟩) ?_;refine And.intro (Zn.of_eq (by rw[Int.toNat_natCast,hgd])) ?_;refine And.intro (⟨by omega,by rw[Z5];omega⟩) ?_;refine And.intro (Zn.of_eq (by rw[Int.toNat_natCast,hgd])) ?_;refine And.intro ((by rw[e2];exact Zn.untag _ _ _)) ?_;refine Ze (hF) ?_;refine And.intro (Xl) ?_;refine And.intro (⟨by omega,by rw[Z5];omega⟩) ?_
      refine And.intro (Zn.of_eq (by rw[Int.toNat_natCast,hgd])) ?_;refine Ze (hS) ?_;refine And.intro (⟨by omega,by rw[Z5];omega⟩) ?_;refine And.intro (Zn.of_eq (by rw[Int.toNat_natCast,hgd])) ?_;refine And.intro (⟨by omega,by rw[Z5];omega⟩) ?_;refine And.intro (Zn.of_eq (by rw[Int.toNat_natCast,hgd])) ?_;refine And.intro ((by rw[e2];exact Zn.untag _ _ _)) ?_;refine Ze (hL) ?_
      refine hK _ _ (by kernel_rfl) ?_;clear hK K;refine Zy (t:=false) rfl ?_;rw[if_neg (by simp)];refine Zw ?_;refine Zx [(9,.v (.int .i64 (↑(j+1))))] YG hnt fun K hK=>?_;refine And.intro XR ?_;refine hK _ _ ?_;clear hK K
      refine⟨⟨j+1,fun i h1' h2'=>if e:i=j then by subst e;rw[hp,VH,h1,h2,h3];rfl else hj i h1' (by omega)⟩,by first | omega | (dsimp only;omega),VS.toA⟩
  ·have ha:l.all VH=true:=by
    rw[List.all_eq_true]
    intro t ht
    obtain⟨i,hi,rfl⟩:=List.getElem_of_mem ht
    exact hj i hi (by omega)
   rw[ha]
   refine Zz ?_;refine Zz ?_;refine Zx [(6,.v (.int .i64 (↑l.length))),(7,.v (.bool false))] YG hnt fun K hK=>?_;refine And.intro (Zq (by rw[Z5])) ?_;refine And.intro Xq ?_;refine hK _ _ ?_;clear hK K;refine Zy (t:=false) rfl ?_;rw[if_neg (by simp)];refine Zc ?_;refine Zz ?_;refine Zx [] YG hnt fun _ z9=>z9 _ _ ?_;refine Zu ?_
   exact Zj rfl
end Go.Proofs.YtclihnccilkohaaGreat
namespace Go.Proofs.YtclihnccilkohaaGreat
open Go.RowKit Go.ChangeShapes Go.WideShapes Go.ChangeAt
theorem Qi:Tryz.prog.cellsOf 33=9:=by kernel_rfl
theorem DF {α:Type}{cs:List α}(h:cs.length=9):∃ a b c d e f g i j,cs=[a,b,c,d,e,f,g,i,j]:=by
 match cs,h with
 | [a,b,c,d,e,f,g,i,j],_=>exact⟨a,b,c,d,e,f,g,i,j,rfl⟩
structure Za2 (F:Nat→Prop) (w:World) (v1 v2 v3 v4 v5 v6 v7 v8 v9:Value) (p:Li.Pr):Prop where
 l:Xv F w v1 v2 v3 v4 p.l
 r:Xv F w v5 v6 v7 v8 p.r
 m:Yd YO F w v9 p.m
section
variable {H:Type} {enc:TypeId×Value→H} {P:Program} {w:World} {base:Nat} {spare:Nat→Bool} {held:Bool}
end
def Ae:Rp Int where
 n:=1
 R _ _ x v:=x=[.int .i64 v]
 len:=by rintro F w x a rfl;rfl
 one:=by rintro F w x a rfl u hu;simp at hu;subst hu;rfl
 keep:=by intro F w w' x a h _;exact h
 weaken:=by intro F F' w x a h _;exact h
theorem rdI {H:Type}(enc:TypeId×Value→H)(W:World)(base:Nat)(sp:Nat→Bool)(hd:Bool):∀ n,Rd enc W base sp hd 3 Ae (fun _ _=>True) n:=by
 intro n cs x h
 obtain⟨k,hk,_,hw⟩:=DataW.trod_int Tryz.underlying3 h
 exact⟨k,hk,trivial⟩
theorem DM {m:Mp}{w:World}{F:Nat→Prop}{v:Value}{l:List Int}(h:Yd Ae F w v l):ZD m (VQ F w) w v (.sl 1 (Y4 l) none):=
 X4 (r:=Ae) (e:=fun x=>[D.v (.int .i64 x)]) XV (fun _=>rfl) (fun x p hx=>by
  have hx:x=[.int .i64 p]:=hx
  subst hx
  exact⟨.v _,trivial⟩) h
end Go.Proofs.YtclihnccilkohaaGreat
namespace Go.Proofs.YtclihnccilkohaaGreat
open Go.RowKit
def eBd (b:Pn.Bd):List (Int×D):=b.map fun p=>(p.1,.ag (eTm p.2))
@[simp] theorem Zb8 (f g:Nat→Bool) (b:Pn.Bd):D.okm f g (eBd b)=true:=SP _ b fun p _=>by simp[D.ok,Y5]
namespace Pn
abbrev nb (t:Tm):Tm:=.mk [] t.kind t.index t.args
end Pn
/-! slices.Concat of terms -/
def AI (ls:List (List Tm)):List (List D):=ls.map fun l=>[.sl 4 (eTms l) none]
@[simp] theorem AJ (f g:Nat→Bool) (l:List (List Tm)):D.okss f g (AI l)=true:=D.okss_map _ l fun l _=>by simp[D.oks,D.ok,Yk]
/-! variables -/
namespace Li
def vars (B:List Ty)(n:Int):List Tm:=B.mapIdx fun i b=>Ty.Eta b 0 (n+B.length-1-i)
end Li
namespace Pn
end Pn
variable {β:Type} {Ok:Obj→Prop} {B:Nat} {I I':β→World→Prop}
end Go.Proofs.YtclihnccilkohaaGreat
namespace Go.Proofs.YtclihnccilkohaaGreat
open Go.RowKit
def K4:Rp Int where
 n:=1
 R _ _ x v:=x=[.int .i64 v]
 len:=by rintro F w x a rfl;rfl
 one:=by rintro F w x a rfl u hu;simp at hu;subst hu;rfl
 keep:=fun h _=>h
 weaken:=fun h _=>h
theorem AS:(Tryz.prog.info? 3).map (fun i=>(i.zero,i.size,i.bytes))=some (some (.int .i64 0),1,8):=by kernel_rfl
def SW (l:List Int)(w:World)(e:Ending)(w':World):Prop:=∃ a c,e=.returned (.slice a l.length c)∧Yd K4 (fun q=>w.heap.size≤q) w' (.slice a l.length c) l∧Below w.heap.size w w'
namespace Tm
mutual
def heads:Tm→Int→List (Int×Int)
 | .mk b k i a,n=>(if k≠0 then [(k,i)] else if n+(b.length:Int)≤i then [(0,i-(n+(b.length:Int)))] else [])++headss a (n+(b.length:Int))
def headss:List Tm→Int→List (Int×Int)
 | [],_=>[]
 | t :: l,n=>heads t n++headss l n
end
theorem heads_eq (b:List Ty)(k i:Int)(a:List Tm)(n m:Int)(hm:n+(b.length:Int)=m):heads (.mk b k i a) n=(if k≠0 then [(k,i)] else if m≤i then [(0,i-m)] else [])++headss a m:=by subst hm;rw[heads]
theorem headss_append (l l':List Tm)(n:Int):headss (l++l') n=headss l n++headss l' n:=by
 induction l with
 | nil=>simp[headss]
 | cons t l ih=>simp[headss,ih]
theorem headss_take (l:List Tm)(n:Int)(j:Nat)(h:j<l.length):headss (l.take (j+1)) n=headss (l.take j) n++heads l[j] n:=by
 rw[List.take_succ_eq_append_getElem h,headss_append];simp[headss]
theorem headss_len_of {l:List Tm}(h:∀ t∈l,∀ n,(t.heads n).length≤t.full):∀ n,(headss l n).length≤fulls l:=by
 intro n
 induction l with
 | nil=>simp[headss,fulls]
 | cons t l ih=>
  have h1:=h t (by simp) n
  have h2:=ih fun u hu=>h u (by simp[hu])
  simp only[headss,fulls,List.length_append];omega
theorem heads_len (t:Tm):∀ n,(t.heads n).length≤t.full:=by
 induction t using Tm.ind with
 | h b k i a ih=>
  intro n
  have h:=headss_len_of ih (n+b.length)
  rw[heads_eq _ _ _ _ _ _ rfl,full_eq,List.length_append]
  have:(if k≠0 then [(k,i)] else if n+(b.length:Int)≤i then [(0,i-(n+(b.length:Int)))] else []).length≤1:=by
   split
   ·simp
   ·split <;> simp
  omega
theorem headss_len (l:List Tm)(n:Int):(headss l n).length≤fulls l:=headss_len_of (fun t _ n=>heads_len t n) n
end Tm
end Go.Proofs.YtclihnccilkohaaGreat
namespace Go.Proofs.YtclihnccilkohaaGreat
open Go.RowKit Go.Shelf
attribute [local go_sem] Oper.semAt_some
def hdOf (p:Nat×Nat×Tm):Option (Int×Int):=if p.2.2.kind≠0 then some (p.2.2.kind,p.2.2.index) else if (p.1:Int)≤p.2.2.index then some (0,IntKind.i64.wrap (p.2.2.index-p.1)) else none
theorem TE {l:List Tm}(h:∀ t∈l,∀ (s d:Nat),t.Fit→t.heads s=(t.pre s d).filterMap hdOf):∀ (s d:Nat),(∀ t∈l,t.Fit)→Tm.headss l s=(Tm.pres l s d).filterMap hdOf:=by
 induction l with
 | nil=>intro s d _;simp[Tm.pres,Tm.headss]
 | cons t l ih=>
  intro s d hf
  rw[Tm.pres,Tm.headss,List.filterMap_append,h t (by simp) s d (hf t (by simp)),ih (fun u hu=>h u (by simp[hu])) s d (fun u hu=>hf u (by simp[hu]))]
theorem J9 (t:Tm):∀ (s d:Nat),t.Fit→t.heads s=(t.pre s d).filterMap hdOf:=by
 induction t using Tm.ind with
 | h b k i a ih=>
  intro s d hf
  obtain⟨hi0,hi1,hfa⟩:=Tm.fit_iff.1 hf
  rw[Tm.pre_eq,Tm.heads_eq _ _ _ _ _ ((s+b.length:Nat):Int) (by simp),List.filterMap_cons,TE ih _ _ hfa]
  have e:hdOf (s+b.length,d,.mk b k i a)=if k≠0 then some (k,i) else if ((s+b.length:Nat):Int)≤i then some (0,IntKind.i64.wrap (i-((s+b.length:Nat):Int))) else none:=rfl
  rw[e]
  by_cases hk:k=0
  ·have hk':¬ (k≠0):=by simpa using hk
   by_cases h:((s+b.length:Nat):Int)≤i
   ·have hw:IntKind.i64.wrap (i-((s+b.length:Nat):Int))=i-((s+b.length:Nat):Int):=IntWalk.i64_in _ (by omega)
    simp only[if_neg hk',if_pos h,hw];rfl
   ·simp only[if_neg hk',if_neg h];rfl
  ·simp only[if_pos hk];rfl
end Go.Proofs.YtclihnccilkohaaGreat
