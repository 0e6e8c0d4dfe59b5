/-
  Parts of the proof.
-/
import Derived.Test.YtclihnccilkohaaGreatRowAuditChecksp6
import Derived.Test.YtclihnccilkohaaGreatRowAuditChecksp1
import Derived.Carry
import Derived.Test.YtclihnccilkohaaGreatRowAuditChecksp5
import Derived.Deep.QuietTactic
import Derived.BigQuiet
import Derived.WalkSmall
import Derived.Lib.OwnBridge
import Derived.Sort.OwnSortedInts
import Derived.RangeFuncBox
import Derived.Test.YtclihnccilkohaaGreatRowAuditChecksp4
import Derived.Maps.RangeRun
set_option maxRecDepth 100000
set_option maxHeartbeats 1000000
set_option linter.unusedVariables false
set_option linter.unusedSimpArgs false
namespace Go.Proofs.YtclihnccilkohaaGreat
open Go.RowKit Go.ChangeShapes Go.WideShapes Go.ChangeAt
theorem Th:Tryz.prog.cellsOf 33=9:=by kernel_rfl
theorem OE {α:Type}{cs:List α}(h:cs.length=9):∃ a b c d e f g i j,cs=[a,b,c,d,e,f,g,i,j]:=by
 match cs,h with
 | [a,b,c,d,e,f,g,i,j],_=>exact⟨a,b,c,d,e,f,g,i,j,rfl⟩
structure N7 (F:Nat->Prop) (w:World) (v1 v2 v3 v4 v5 v6 v7 v8 v9:Value) (p:Li.Pr):Prop where
 l:XS F w v1 v2 v3 v4 p.l
 r:XS F w v5 v6 v7 v8 p.r
 m:Y6 YD F w v9 p.m
set_option maxRecDepth 100000 in
theorem KD {H:Type}{enc:TypeId×Value->H}{W:World}{base:Nat}{sp:Nat->Bool}{hd:Bool}{r:Reach}{b0:Nat}{v:Value}{d:DataW H}{p:List MemPlace} 
  (hval:Value.okWide Tryz.prog W r b0 33 v) (h:DataW.Trod enc Tryz.prog W base sp hd 33 v d p) :
  ∃ v1 v2 v3 v4 v5 v6 v7 v8 v9 q,v=.agg #[v1,v2,v3,v4,v5,v6,v7,v8,v9]/\N7 (λ _=>True) W v1 v2 v3 v4 v5 v6 v7 v8 v9 q/\(q.l.Fit/\q.r.Fit):=by
 obtain⟨n,h⟩:=h
 obtain⟨xs,m,_,_,hl,hlen,hf⟩:=DataW.trod_struct Tryz.underlying33 h
 rw[Th] at hl
 obtain⟨v0,v1,v2,v3,v4,v5,v6,v7,v8,hv⟩:=OE hl
 rw[hv] at hf
 have h0:DataW.trod enc Tryz.prog W base sp hd m 31 ([v0,v1,v2,v3,v4,v5,v6,v7,v8].take (Tryz.prog.cellsOf 31))=xs[0]?:=hf 0 _ rfl
 have h1:DataW.trod enc Tryz.prog W base sp hd m 31 ([v4,v5,v6,v7,v8].take (Tryz.prog.cellsOf 31))=xs[1]?:=hf 1 _ rfl
 have h2:DataW.trod enc Tryz.prog W base sp hd m 22 ([v8].take (Tryz.prog.cellsOf 22))=xs[2]?:=hf 2 _ rfl
 rw[V5] at h0 h1
 rw[Ti] at h2
 have hlen:xs.length=3:=hlen
 rw[List.getElem?_eq_getElem (by omega)] at h0 h1 h2
 obtain⟨t,⟨b,k,j,a,hx,ht⟩,hfit⟩:=HP enc W base sp hd m _ _ h0
 obtain⟨t',⟨b',k',j',a',hx',ht'⟩,hfit'⟩:=HP enc W base sp hd m _ _ h1
 obtain⟨ma,mn,mc,M,hmv,_,hM,_⟩:=YH Tryz.underlying22 UQ (by decide) (λ j hj=>HQ enc W base sp hd j) h2
 have e0:[v0,v1,v2,v3]=[b,k,j,a]:=hx
 have e1:[v4,v5,v6,v7]=[b',k',j',a']:=hx'
 have e2:[v8]=[.slice ma mn mc]:=hmv
 simp only[List.cons.injEq,and_true] at e0 e1 e2
 obtain⟨rfl,rfl,rfl,rfl⟩:=e0
 obtain⟨rfl,rfl,rfl,rfl⟩:=e1
 subst e2
 obtain⟨cs,rfl,_⟩:=okWide_struct Tryz.underlying33 hval
 refine⟨_,_,_,_,_,_,_,_,_,⟨t,t',M⟩,?_,⟨ht,ht',hM⟩,hfit,hfit'⟩
 have:cs.toList=[v0,v1,v2,v3,v4,v5,v6,v7,.slice ma mn mc]:=hv
 rw[<-Array.toList_inj.1 (show cs.toList=(#[v0,v1,v2,v3,v4,v5,v6,v7,.slice ma mn mc]:Array Value).toList from this)]
theorem Ih {m:Mp}{w:World}{F:Nat->Prop}{v1 v2 v3 v4 v5 v6 v7 v8 v9:Value}{p:Li.Pr}(h:N7 F w v1 v2 v3 v4 v5 v6 v7 v8 v9 p):Yz m (Uk F w) w (.agg #[v1,v2,v3,v4,v5,v6,v7,v8,v9]) (.ag (WG p)):=by
 have e:WG p=eTm p.l++(eTm p.r++[.sl 2 (eTys p.m) none]):=by rw[Zu,Zu];rfl
 rw[e]
 exact Wa.2 ⟨[v1,v2,v3,v4,v5,v6,v7,v8,v9],rfl,(Wb Xt p.l h.l).append ((Wb Xt p.r h.r).append ⟨Sg h.m,trivial⟩)⟩
section
variable {H:Type} {enc:TypeId×Value->H} {P:Program} {w:World} {base:Nat} {spare:Nat->Bool} {held:Bool}
end
def G8:Rp Int where
 n:=1
 R _ _ x v:=x=[.int .i64 v]
 len:=by rintro F w x a rfl;rfl
 one:=by rintro F w x a rfl u hu;simp at hu;subst hu;rfl
 keep:=by intro F w w' x a h _;exact h
 weaken:=by intro F F' w x a h _;exact h
theorem Fw {H:Type}(enc:TypeId×Value->H)(W:World)(base:Nat)(sp:Nat->Bool)(hd:Bool):∀ n,Rd enc W base sp hd 3 G8 (λ _ _=>True) n:=by
 intro n cs x h
 obtain⟨k,hk,_,hw⟩:=DataW.trod_int Tryz.underlying3 h
 exact⟨k,hk,trivial⟩
theorem KH {m:Mp}{w:World}{F:Nat->Prop}{v:Value}{l:List Int}(h:Y6 G8 F w v l):Yz m (Uk F w) w v (.sl 1 (YJ l) none):=
 X9 (r:=G8) (e:=λ x=>[D.v (.int .i64 x)]) Xt (λ _=>rfl) (λ x p hx=>by
  have hx:x=[.int .i64 p]:=hx
  subst hx
  exact⟨.v _,trivial⟩) h
end Go.Proofs.YtclihnccilkohaaGreat
namespace Go.Proofs.YtclihnccilkohaaGreat
open Go.RowKit
def Fs (b:Pn.Bd):List (Int×D):=b.map λ p=>(p.1,.ag (eTm p.2))
@[simp] theorem GF (f g:Nat->Bool) (b:Pn.Bd):D.okm f g (Fs b)=true:=Qw _ b λ p _=>by simp[D.ok,YK]
namespace Pn
abbrev nb (t:Tm):Tm:=.mk [] t.kind t.index t.args
end Pn
/-! slices.Concat of terms -/
def Gg (ls:List (List Tm)):List (List D):=ls.map λ l=>[.sl 4 (eTms l) none]
@[simp] theorem Gh (f g:Nat->Bool) (l:List (List Tm)):D.okss f g (Gg l)=true:=D.okss_map _ l λ l _=>by simp[D.oks,D.ok,Y8]
/-! variables -/
namespace Li
def vars (B:List Ty)(n:Int):List Tm:=B.mapIdx λ i b=>Ty.Eta b 0 (n+B.length-1-i)
end Li
namespace Pn
end Pn
variable {β:Type} {Ok:Obj->Prop} {B:Nat} {I I':β->World->Prop}
end Go.Proofs.YtclihnccilkohaaGreat
namespace Go.Proofs.YtclihnccilkohaaGreat
open Go.RowKit
def OI:Rp Int where
 n:=1
 R _ _ x v:=x=[.int .i64 v]
 len:=by rintro F w x a rfl;rfl
 one:=by rintro F w x a rfl u hu;simp at hu;subst hu;rfl
 keep:=λ h _=>h
 weaken:=λ h _=>h
theorem Gs:(Tryz.prog.info? 3).map (λ i=>(i.zero,i.size,i.bytes))=some (some (.int .i64 0),1,8):=by kernel_rfl
def RF (l:List Int)(w:World)(e:Ending)(w':World):Prop:=∃ a c,e=.returned (.slice a l.length c)/\Y6 OI (λ q=>w.heap.size<=q) w' (.slice a l.length c) l/\Below w.heap.size w w'
namespace Tm
mutual
def heads:Tm->Int->List (Int×Int)
 | .mk b k i a,n=>(if k≠0 then [(k,i)] else if n+(b.length:Int)<=i then [(0,i-(n+(b.length:Int)))] else [])++headss a (n+(b.length:Int))
def headss:List Tm->Int->List (Int×Int)
 | [],_=>[]
 | t :: l,n=>heads t n++headss l n
end
theorem heads_eq (b:List Ty)(k i:Int)(a:List Tm)(n m:Int)(hm:n+(b.length:Int)=m):heads (.mk b k i a) n=(if k≠0 then [(k,i)] else if m<=i then [(0,i-m)] else [])++headss a m:=by subst hm;rw[heads]
theorem headss_append (l l':List Tm)(n:Int):headss (l++l') n=headss l n++headss l' n:=by
 induction l with
 | nil=>simp[headss]
 | cons t l ih=>simp[headss,ih]
theorem headss_take (l:List Tm)(n:Int)(j:Nat)(h:j<l.length):headss (l.take (j+1)) n=headss (l.take j) n++heads l[j] n:=by
 rw[List.take_succ_eq_append_getElem h,headss_append];simp[headss]
theorem headss_len_of {l:List Tm}(h:∀ t∈l,∀ n,(t.heads n).length<=t.full):∀ n,(headss l n).length<=fulls l:=by
 intro n
 induction l with
 | nil=>simp[headss,fulls]
 | cons t l ih=>
  have h1:=h t (by simp) n
  have h2:=ih λ u hu=>h u (by simp[hu])
  simp only[headss,fulls,List.length_append];omega
theorem heads_len (t:Tm):∀ n,(t.heads n).length<=t.full:=by
 induction t using Tm.ind with
 | h b k i a ih=>
  intro n
  have h:=headss_len_of ih (n+b.length)
  rw[heads_eq _ _ _ _ _ _ rfl,full_eq,List.length_append]
  have:(if k≠0 then [(k,i)] else if n+(b.length:Int)<=i then [(0,i-(n+(b.length:Int)))] else []).length<=1:=by
   split
   ·simp
   split <;> simp
  omega
theorem headss_len (l:List Tm)(n:Int):(headss l n).length<=fulls l:=headss_len_of (λ t _ n=>heads_len t n) n
end Tm
end Go.Proofs.YtclihnccilkohaaGreat
namespace Go.Proofs.YtclihnccilkohaaGreat
open Go.RowKit Go.Shelf
attribute [local go_sem] Oper.semAt_some
def hdOf (p:Nat×Nat×Tm):Option (Int×Int):=if p.2.2.kind≠0 then some (p.2.2.kind,p.2.2.index) else if (p.1:Int)<=p.2.2.index then some (0,IntKind.i64.wrap (p.2.2.index-p.1)) else none
theorem Rs {l:List Tm}(h:∀ t∈l,∀ (s d:Nat),t.Fit->t.heads s=(t.pre s d).filterMap hdOf):∀ (s d:Nat),(∀ t∈l,t.Fit)->Tm.headss l s=(Tm.pres l s d).filterMap hdOf:=by
 induction l with
 | nil=>intro s d _;simp[Tm.pres,Tm.headss]
 | cons t l ih=>
  intro s d hf
  rw[Tm.pres,Tm.headss,List.filterMap_append,h t (by simp) s d (hf t (by simp)),ih (λ u hu=>h u (by simp[hu])) s d (λ u hu=>hf u (by simp[hu]))]
theorem Mm (t:Tm):∀ (s d:Nat),t.Fit->t.heads s=(t.pre s d).filterMap hdOf:=by
 induction t using Tm.ind with
 | h b k i a ih=>
  intro s d hf
  obtain⟨hi0,hi1,hfa⟩:=Tm.fit_iff.1 hf
  rw[Tm.pre_eq,Tm.heads_eq _ _ _ _ _ ((s+b.length:Nat):Int) (by simp),List.filterMap_cons,Rs ih _ _ hfa]
  have e:hdOf (s+b.length,d,.mk b k i a)=if k≠0 then some (k,i) else if ((s+b.length:Nat):Int)<=i then some (0,IntKind.i64.wrap (i-((s+b.length:Nat):Int))) else none:=rfl
  rw[e]
  by_cases hk:k=0
  ·have hk':¬ (k≠0):=by simpa using hk
   by_cases h:((s+b.length:Nat):Int)<=i
   ·have hw:IntKind.i64.wrap (i-((s+b.length:Nat):Int))=i-((s+b.length:Nat):Int):=IntWalk.i64_in _ (by omega)
    simp only[if_neg hk',if_pos h,hw];rfl
   simp only[if_neg hk',if_neg h];rfl
  simp only[if_pos hk];rfl
end Go.Proofs.YtclihnccilkohaaGreat
namespace Go.Proofs.YtclihnccilkohaaGreat
open Go.RowKit
def Wr (zs:List Int):List Int:=Lib.compact (zs.mergeSort λ x y=>decide (x<=y))
theorem Oq (d:Array Int):Lib.keeps d 0=true:=by simp[Lib.keeps]
theorem PO (d:Array Int):∀ m,m<=d.size->(∀ i j,i<=j->j<d.size->d[i]! <= d[j]!)->(Lib.compactUpTo d m).Pairwise (· < ·)/\(∀ x∈Lib.compactUpTo d m,∃ j,j<m/\d[j]! = x)/\(∀ j,j<m->d[j]! ∈ Lib.compactUpTo d m):=by
 intro m
 induction m with
 | zero=>intro _ _;simp[Lib.compactUpTo]
 | succ m ih=>
  intro hm hs
  obtain⟨h1,h2,h3⟩:=ih (by omega) hs
  rw[Lib.compactUpTo_succ]
  by_cases hk:Lib.keeps d m=true
  ·rw[if_pos hk]
   refine⟨?_,?_,?_⟩
   ·rw[List.pairwise_append]
    refine⟨h1,by simp,λ a ha b hb=>?_⟩
    obtain⟨j,hj,rfl⟩:=h2 a ha
    simp at hb;subst hb
    have hle:=hs j (m-1) (by omega) (by omega)
    have hle2:=hs (m-1) m (by omega) (by omega)
    have hne:d[m-1]! ≠ d[m]! := by
     cases m with
     | zero=>omega
     | succ k=>
      have:d[k+1]! ≠ d[k]! := by simpa[Lib.keeps] using hk
      exact λ e=>this e.symm
    omega
   ·intro x hx
    rcases List.mem_append.1 hx with hx | hx
    ·obtain⟨j,hj,e⟩:=h2 x hx;exact⟨j,by omega,e⟩
    simp at hx;exact⟨m,by omega,hx.symm⟩
   intro j hj
   rw[List.mem_append]
   by_cases hjm:j=m
   ·subst hjm;right;simp
   left;exact h3 j (by omega)
  rw[if_neg hk,List.append_nil]
  refine⟨h1,λ x hx=>by obtain⟨j,hj,e⟩:=h2 x hx;exact⟨j,by omega,e⟩,λ j hj=>?_⟩
  by_cases hjm:j=m
  ·subst hjm
   cases j with
   | zero=>exact absurd (Oq d) hk
   | succ k=>
    have:d[k+1]! = d[k]! := by simpa[Lib.keeps] using hk
    rw[this];exact h3 k (by omega)
  exact h3 j (by omega)
theorem X2 (zs:List Int):(Wr zs).Pairwise (· < ·)/\∀ x,x∈Wr zs↔x∈zs:=by
 obtain⟨ss,hss⟩:∃ ss,(zs.mergeSort λ x y=>decide (x<=y))=ss:=⟨_,rfl⟩
 have hp:ss.Perm zs:=by rw[<-hss];exact List.mergeSort_perm _ _
 have hs:ss.Pairwise (λ x y=>x<=y):=by
  have:=List.pairwise_mergeSort (le:=λ x y:Int=>decide (x<=y)) (λ a b c h1 h2=>by simp at *;omega) (λ a b=>by simp;omega) zs
  rw[hss] at this
  simpa using this
 have hs':∀ i j,i<=j->j<ss.toArray.size->ss.toArray[i]! <= ss.toArray[j]! := by
  intro i j hij hj
  have hj':j<ss.length:=by simpa using hj
  have hi':i<ss.length:=by omega
  simp only[List.getElem!_toArray,getElem!_pos ss i hi',getElem!_pos ss j hj']
  by_cases e:i=j
  ·subst e;exact Int.le_refl _
  exact List.pairwise_iff_getElem.1 hs i j hi' hj' (by omega)
 obtain⟨h1,h2,h3⟩:=PO ss.toArray ss.length (by simp) hs'
 unfold Wr
 rw[hss]
 refine⟨h1,λ x=>?_⟩
 rw[<-hp.mem_iff]
 constructor
 ·intro hx
  obtain⟨j,hj,e⟩:=h2 x hx
  rw[<-e]
  simp only[List.getElem!_toArray,getElem!_pos ss j hj]
  exact List.getElem_mem hj
 intro hx
 obtain⟨j,hj,e⟩:=List.getElem_of_mem hx
 have:=h3 j hj
 simp only[List.getElem!_toArray,getElem!_pos ss j hj,e] at this
 exact this
theorem Si:∀ {l r:List Int},l.Pairwise (· < ·)->r.Pairwise (· < ·)->(∀ x,x∈l↔x∈r)->l=r
 | [],[],_,_,_=>rfl
 | [],b :: r,_,_,h=>absurd ((h b).2 (by simp)) (by simp)
 | a :: l,[],_,_,h=>absurd ((h a).1 (by simp)) (by simp)
 | a :: l,b :: r,h1,h2,h=>by
  rw[List.pairwise_cons] at h1 h2
  have hab:a=b:=by
   have ha:=(h a).1 (by simp)
   have hb:=(h b).2 (by simp)
   rcases List.mem_cons.1 ha with e | ha
   ·exact e
   rcases List.mem_cons.1 hb with e | hb
   ·exact e.symm
   have:=h2.1 a ha;have:=h1.1 b hb;omega
  subst hab
  rw[Si h1.2 h2.2 λ x=>?_]
  constructor
  ·intro hx
   rcases List.mem_cons.1 ((h x).1 (by simp[hx])) with e | hx'
   ·have:=h1.1 x hx;omega
   exact hx'
  intro hx
  rcases List.mem_cons.1 ((h x).2 (by simp[hx])) with e | hx'
  ·have:=h2.1 x hx;omega
  exact hx'
theorem QW (zs:List Int):Wr (zs++zs)=Wr zs:=
 Si (X2 _).1 (X2 _).1 λ x=>by rw[(X2 _).2,(X2 _).2];simp
theorem MX {base:Nat}{w:World}{v:Value}{zs:List Int}(h:w.ownsRow base 3 1 v zs.length (zs.map (Value.int .i64)))(hl:zs.length<=1000000):
  Calls Tryz.prog 146 #[v] w λ e w'=>e=.returned (.tuple #[])/\w'.ownsRow base 3 1 v zs.length ((zs.mergeSort λ x y=>decide (x<=y)).map (Value.int .i64))/\w.grownBy w' v.ownBlock:=by
 by_cases hv:v=.slice none 0 0
 ·subst hv
  have h0:zs=[]:=by
   rcases h.2 with⟨_,e⟩ | ⟨_,_,_,e,_⟩
   ·exact List.eq_nil_of_length_eq_zero e
   cases e
  subst h0
  refine(Tryz.slices_Sort_int_none none 0 w).mono ?_
  rintro e w' ⟨rfl,rfl⟩
  exact⟨rfl,by simpa using h,⟨rfl,rfl,rfl,Nat.le_refl _,λ _ _ _=>rfl⟩⟩
 obtain⟨g,cap,rfl,hb,hlt,hn,hm,_,hH⟩:=Lib.holds_of_ownsRow h hv
 refine(Tryz.slices_Sort_int g 0 cap zs w hH hlt (by omega)).mono ?_
 rintro e w' ⟨rfl,n,os,rfl⟩
 refine⟨rfl,?_,grownBy_sortedI _⟩
 rcases h.2 with⟨e,_⟩ | ⟨g',cap',cur,e,_,hg,_,_,hc,_⟩
 ·cases e
 cases e
 exact ownsRow_sortedI (ss:=zs) (by simp) hb hg hn hm hc
theorem P7 {base:Nat}{w:World}{v:Value}{zs:List Int}(h:w.ownsRow base 3 1 v zs.length (zs.map (Value.int .i64)))(hl:zs.length<=1000000):
  Calls Tryz.prog 147 #[v] w λ e w'=>∃ v',e=.returned v'/\w'.ownsRow base 3 1 v' (Lib.compact zs).length ((Lib.compact zs).map (Value.int .i64))/\w.grownBy w' v.ownBlock:=by
 by_cases hv:v=.slice none 0 0
 ·subst hv
  have h0:zs=[]:=by
   rcases h.2 with⟨_,e⟩ | ⟨_,_,_,e,_⟩
   ·exact List.eq_nil_of_length_eq_zero e
   cases e
  subst h0
  refine(Tryz.slices_Compact_int_empty none 0 w).mono ?_
  rintro e w' ⟨rfl,rfl⟩
  exact⟨_,rfl,h,⟨rfl,rfl,rfl,Nat.le_refl _,λ _ _ _=>rfl⟩⟩
 obtain⟨g,cap,rfl,hb,hlt,hn,hm,_,hH⟩:=Lib.holds_of_ownsRow h hv
 refine(Tryz.slices_Compact_int g 0 cap zs w hH (by omega) hn).mono ?_
 rintro e w' ⟨rfl,q,rfl⟩
 have hcl:=Lib.compact_length_le zs
 refine⟨_,rfl,?_,?_⟩
 ·have:=Lib.ownsRow_putRow (q:=q) (k:=(Lib.compact zs).length) (ys:=Lib.compact zs++List.replicate (zs.length-(Lib.compact zs).length) 0) h (by simp;omega) hcl
  simpa using this
 have:=grownBy_sortedI (w:=w) (g:=g) (n:=q) (os:=#[]) (Lib.compact zs++List.replicate (zs.length-(Lib.compact zs).length) 0).toArray
 simpa[Value.ownBlock] using this
theorem Lv {base:Nat}{w:World}{v:Value}{l:List Int}(h:w.ownsRow base 3 1 v l.length (l.map (Value.int .i64))):∃ a c,v=.slice a l.length c/\Y6 OI (λ q=>base<=q) w v l:=by
 have hA:Acc OI 3 base (λ _=>False) w v l:=by
  refine⟨l.map (λ z=>[.int .i64 z]),by simp,?_,λ i hi=>⟨[.int .i64 l[i]],by simp[List.getElem?_eq_getElem hi],rfl⟩⟩
  have:(l.map (λ z=>[Value.int .i64 z])).flatten=l.map (Value.int .i64):=by
   clear h
   induction l with
   | nil=>rfl
   | cons a l ih=>simp only[List.map_cons,List.flatten_cons,ih];rfl
  rw[this];exact h
 obtain⟨a,c,hv⟩:=hA.len_shape
 exact⟨a,c,hv,hA.sl (λ _ _ h=>h.elim) (λ _ h=>h)⟩
theorem Ts {F:Fence}{n:Nat}{P:Program}{fn:Func}{tmps:Array Value}{R:Ending->World->Prop}(B:Nat):∀ (Ds:List Nat) (w:World),Ds.Nodup->B<=w.heap.size->(∀ D∈Ds,B<=D/\w.heap[D]?=some (.deferred (some []))) ->
  (∀ w',Keep (λ _=>True) w w'->Below B w w'->LeavesIn F n P fn tmps R [] .returning w')->LeavesInM F n P fn tmps R (Ds.map λ D=>{ target:=.collected D,args:=#[] }) .returning w
 | [],w,_,_,_,hk=>hk w (Keep.refl _ _) (Below.refl _ _)
 | D :: Ds,w,hd,hB,hD,hk=>by
  rw[List.nodup_cons] at hd
  have h1:=hD D (by simp)
  have hlt:D<w.heap.size:=(Array.getElem?_eq_some_iff.1 h1.2).1
  refine⟨by simp,.inl ⟨D,_,rfl,run_takeDeferred h1.2,?_⟩⟩
  have hbel:Below B w (w.putObj D (.deferred none)):=(Below.refl _ _).grown (grownBy_putObj' w D (.deferred none)) hB (λ r e=>by cases e;exact h1.1)
  have hkp:Keep (λ _=>True) w (w.putObj D (.deferred none)):=λ o v k _ hv=>cell_kept hv (grownBy_putObj' _ D (.deferred none)) (λ r e=>by cases e;exact⟨_,h1.2,rfl⟩)
  refine Ts B Ds _ hd.2 (by simpa using hB) (λ D' hD'=>⟨(hD D' (by simp[hD'])).1,?_⟩) λ w' hk' hb'=>hk w' (hkp.trans hk') (hbel.trans hb')
  have hne:D'≠D:=λ e=>hd.1 (e ▸ hD')
  exact(World.putObj_heap_other hne).trans (hD D' (by simp[hD'])).2
theorem Tq {W W':World}{row:Option Nat}(hg:W.grownBy W' row)(hr:∀ r,row=some r->∃ o:Obj,W.heap[r]?=some o/\o.isCells=true):KeepsOthers W W':=
 ⟨hg.size,λ k o ho hc=>(hg.block k (Array.getElem?_eq_some_iff.1 ho).1 (λ e=>by
  obtain⟨o',ho',hc'⟩:=hr k e.symm
  rw[ho] at ho';cases ho';rw[hc] at hc';cases hc')).trans ho⟩
theorem TF {w:World}{base:Nat}{e:TypeId}{size:Nat}{v:Value}{n:Nat}{xs:List Value}(h:w.ownsRow base e size v n xs):∀ r,v.ownBlock=some r->base<=r/\∃ cs,w.heap[r]?=some (.cells cs e (0,0)):=by
 intro r hr
 rcases h.2 with⟨rfl,_⟩ | ⟨g,cap,cur,rfl,hb,hg,_⟩
 ·cases hr
 cases hr;exact⟨hb,_,hg⟩
theorem Lw {w w':World}{base:Nat}{e:TypeId}{size:Nat}{v:Value}{n:Nat}{xs:List Value}{row:Option Nat}(h:w.ownsRow base e size v n xs)(hg:w.grownBy w' row) 
  (hr:∀ r,row=some r->∃ o:Obj,w.heap[r]?=some o/\∀ cs,o≠.cells cs e (0,0)):w'.ownsRow base e size v n xs:=by
 refine h.kept hg ?_
 cases hv:v.ownBlock with
 | none=>exact .inl rfl
 | some g=>
  refine .inr λ e'=>?_
  obtain⟨_,cs,hc⟩:=TF h g hv
  obtain⟨o,ho,hne⟩:=hr g e'.symm
  rw[hc] at ho;cases ho;exact hne cs rfl
structure OutAt (w:World) (Ds:List Nat) (vv:Value) (zs:List Int) (W:World):Prop where
 box:Blk W w.heap.size #[vv] 71
 own:W.ownsRow (w.heap.size+1) 3 1 vv zs.length (zs.map (Value.int .i64))
 nod:Ds.Nodup
 marks:∀ D∈Ds,w.heap.size+1<=D/\W.heap[D]?=some (.deferred (some []))
 below:Below w.heap.size w W
def Hf (B k:Nat)(t:TypeId):Prop:=k<B∨(B<k/\t≠3)
namespace OutAt
variable {w W W':World} {Ds:List Nat} {vv:Value} {zs:List Int}
theorem lt (h:OutAt w Ds vv zs W):∀ D∈Ds,D<W.heap.size:=λ D hD=>(Array.getElem?_eq_some_iff.1 (h.marks D hD).2).1
theorem blw (h:OutAt w Ds vv zs W)(hb:Below W.heap.size W W'):OutAt w Ds vv zs W':=
 ⟨h.box.below hb,UZ h.own hb,h.nod,λ D hD=>⟨(h.marks D hD).1,(hb.block D (h.lt D hD)).trans (h.marks D hD).2⟩,h.below.trans (hb.mono h.below.size)⟩
theorem alloc (h:OutAt w Ds vv zs W)(o:Obj):OutAt w Ds vv zs (W.alloc o):=h.blw ((Below.refl _ _).alloc (Nat.le_refl _) _)
theorem grown {B:Nat}{row:Option Nat}(h:OutAt w Ds vv zs W)(hlt:∀ D∈Ds,D<B)(hwB:w.heap.size<B)(hg:W.grownBy W' row) 
  (hr:∀ r,row=some r->B<=r/\∃ o:Obj,W.heap[r]?=some o/\∀ cs,o≠.cells cs 3 (0,0)):OutAt w Ds vv zs W':=
 ⟨h.box.grown hg (λ e=>by have:=(hr _ e).1;omega),Lw h.own hg (λ r e=>(hr r e).2),h.nod,
  λ D hD=>⟨(h.marks D hD).1,(hg.block D (h.lt D hD) (λ e=>by have:=(hr _ e.symm).1;have:=hlt D hD;omega)).trans (h.marks D hD).2⟩,
  h.below.grown hg h.below.size (λ r e=>by have:=(hr r e).1;omega)⟩
theorem mark (h:OutAt w Ds vv zs W){D:Nat}(hD:W.heap[D]?=some (.deferred (some [])))(hn:∀ D'∈Ds,D'<D)(hw:w.heap.size+1<=D):OutAt w (D :: Ds) vv zs W:=
 ⟨h.box,h.own,List.nodup_cons.2 ⟨λ hm=>by have:=hn D hm;omega,h.nod⟩,λ D' h'=>by
  rcases List.mem_cons.1 h' with rfl | h'
  ·exact⟨hw,hD⟩
  exact h.marks D' h',h.below⟩
theorem push (h:OutAt w Ds vv zs W)(x:Int){w3:World}{v':Value}(hg:(W.alloc (.cells #[.int .i64 x] 3)).grownBy w3 vv.ownBlock) 
  (hown:w3.ownsRow (w.heap.size+1) 3 1 v' (zs.length+1) (zs.map (Value.int .i64)++[.int .i64 x])) :
  OutAt w Ds v' (zs++[x]) (w3.setCell ⟨w.heap.size,0,none⟩ v')/\KeepsOthers W (w3.setCell ⟨w.heap.size,0,none⟩ v')/\KeepC (Hf w.heap.size) W (w3.setCell ⟨w.heap.size,0,none⟩ v'):=by
 have ho1:=h.own.alloc (.cells #[.int .i64 x] 3)
 have h1:=h.alloc (.cells #[.int .i64 x] 3)
 have hrow:=TF ho1
 have hk3:KeepsOthers (W.alloc (.cells #[.int .i64 x] 3)) w3:=Tq hg (λ r e=>by
  obtain⟨_,cs,hc⟩:=hrow r e;exact⟨_,hc,rfl⟩)
 have hbox3:Blk w3 w.heap.size #[vv] 71:=h1.box.grown hg (λ e=>by have:=(hrow _ e).1;omega)
 have hbel3:Below w.heap.size w w3:=h1.below.grown hg h1.below.size (λ r e=>by have:=(hrow r e).1;omega)
 have hkc:KeepC (Hf w.heap.size) (W.alloc (.cells #[.int .i64 x] 3)) w3:=⟨hg.size,λ k cs t fr hk hc=>(hg.block k (Array.getElem?_eq_some_iff.1 hc).1 (λ e=>by
  obtain⟨hle,cs',hc'⟩:=hrow k e.symm
  rw[hc] at hc';cases hc'
  rcases hk with hk | hk
  ·omega
  exact hk.2 rfl)).trans hc⟩
 refine⟨⟨hbox3.set 0 _,?_,h.nod,λ D hD=>⟨(h1.marks D hD).1,?_⟩,hbel3.setCell (by simp) _⟩,(((KeepsOthers.alloc W _).trans hk3).trans (KeepsOthers.setCell _ _ _)),?_⟩
 ·have:=ownsRow_setCell_below hown (a:=⟨w.heap.size,0,none⟩) (by simp) v'
  simpa using this
 ·exact(KeepsOthers.setCell w3 _ v').same D _ (hk3.same D _ (h1.marks D hD).2 rfl) rfl
 exact(((KeepC.refl _ W).alloc _).trans hkc).setCell _ _ (λ t ht=>by rcases ht with h | h <;> simp at h)
theorem push_box (h:OutAt w Ds vv zs W){x:Int}{w3:World}(hg:(W.alloc (.cells #[.int .i64 x] 3)).grownBy w3 vv.ownBlock):Blk w3 w.heap.size #[vv] 71:=
 (h.alloc (.cells #[.int .i64 x] 3)).box.grown hg (λ e=>by have:=(TF (h.own.alloc (.cells #[.int .i64 x] 3)) _ e).1;omega)
theorem turned (h:OutAt w Ds vv zs W){ys:List Int}{W':World}(hg:W.grownBy W' vv.ownBlock){v':Value}(hown:W'.ownsRow (w.heap.size+1) 3 1 v' ys.length (ys.map (Value.int .i64))):
  (Blk W' w.heap.size #[vv] 71/\∀ D∈Ds,w.heap.size+1<=D/\W'.heap[D]?=some (.deferred (some [])))/\Below w.heap.size w W':=by
 have hrow:=TF h.own
 refine⟨⟨h.box.grown hg (λ e=>by have:=(hrow _ e).1;omega),λ D hD=>⟨(h.marks D hD).1,?_⟩⟩,h.below.grown hg h.below.size (λ r e=>by have:=(hrow r e).1;omega)⟩
 refine(hg.block D (h.lt D hD) (λ e=>?_)).trans (h.marks D hD).2
 obtain⟨_,cs,hc⟩:=hrow D e.symm
 rw[(h.marks D hD).2] at hc;cases hc
theorem sorted (h:OutAt w Ds vv zs W){ys:List Int}{W':World}(hg:W.grownBy W' vv.ownBlock)(hown:W'.ownsRow (w.heap.size+1) 3 1 vv ys.length (ys.map (Value.int .i64))):OutAt w Ds vv ys W':=
 let q:=h.turned hg hown
 ⟨q.1.1,hown,h.nod,q.1.2,q.2⟩
theorem leave (h:OutAt w Ds vv zs W){ys:List Int}{W':World}(hg:W.grownBy W' vv.ownBlock){v':Value}(hown:W'.ownsRow (w.heap.size+1) 3 1 v' ys.length (ys.map (Value.int .i64))) 
  {F:Fence} {n:Nat} {P:Program} {fn:Func} {tmps:Array Value} (hr:∀ w3:World,(results fn tmps).run P w3=.ok v' w3) :
  LeavesInM F n P fn tmps (RF ys w) (Ds.map λ D=>{ target:=.collected D,args:=#[] }) .returning W':=by
 obtain⟨⟨hb,hm⟩,hbel⟩:=h.turned hg hown
 refine Ts (w.heap.size+1) Ds W' h.nod (by have:=hb.lt;omega) hm (λ w3 hk hb3=>?_)
 obtain⟨a,c,hv,hs⟩:=Lv hown
 subst hv
 exact⟨_,hr w3,a,c,rfl,(hs.keep (λ k o u _ hu=>hk k o u trivial hu)).weaken (by decide) (λ q _ hq=>by omega),hbel.trans (hb3.mono (by omega))⟩
end OutAt
end Go.Proofs.YtclihnccilkohaaGreat
namespace Go.Proofs.YtclihnccilkohaaGreat
open Go.RowKit Go.Shelf
attribute [local go_sem] Oper.semAt_some
theorem NW {F:Nat->Prop}{w:World}{v:Value}{l:List Tm}(h:Y6 U6 F w v l):∃ a c,v=.slice a l.length c/\(l.length<=maxLen/\l.length<=c)/\∃ (bl off:Nat),
  (0<l.length->a=some ⟨bl,off,none⟩/\F bl)/\∀ j (hj:j<l.length),∃ b k i s,w.cell? ⟨bl,off+j * 4,none⟩=some b/\w.cell? ⟨bl,off+j * 4+1,none⟩=some k/\w.cell? ⟨bl,off+j * 4+2,none⟩=some i/\w.cell? ⟨bl,off+j * 4+3,none⟩=some s/\XS F w b k i s l[j]:=by
 obtain⟨a,c,bl,off,X,hv,hm,ha,h1,h2⟩:=h
 refine⟨a,c,hv,hm,bl,off,ha,λ j hj=>?_⟩
 obtain⟨b,k,i,s,hx,ht⟩:=h2 j hj
 exact⟨b,k,i,s,h1 j 0 b hj (by rw[hx];rfl),h1 j 1 k hj (by rw[hx];rfl),h1 j 2 i hj (by rw[hx];rfl),h1 j 3 s hj (by rw[hx];rfl),ht⟩
def WQ (l:List (Int×Int)):List Int:=l.filterMap λ p=>if p.1=2 then some p.2 else none
def XV (l:List (Nat×Nat×Tm)):List Int:=l.filterMap λ p=>if p.2.2.kind=2 then some p.2.2.index else none
def Y9 (l:List Tm):List Int:=l.flatMap λ t=>XV (t.pre 0 1)
theorem QD (l:List Tm)(j:Nat)(h:j<l.length):Y9 (l.take (j+1))=Y9 (l.take j)++XV (l[j].pre 0 1):=by
 rw[List.take_succ_eq_append_getElem h];unfold Y9;rw[List.flatMap_append];simp
theorem UW (l:List Tm)(m:Nat)(h:∀ t∈l,t.full<=m):(Y9 l).length<=l.length * m:=by
 induction l with
 | nil=>simp[Y9]
 | cons t l ih=>
  have h1:=h t (by simp)
  have h2:=ih (λ u hu=>h u (by simp[hu]))
  have h3:(Y9 (t :: l)).length=(XV (t.pre 0 1)).length+(Y9 l).length:=by simp[Y9]
  have h4:(XV (t.pre 0 1)).length<=(t.pre 0 1).length:=List.length_filterMap_le _ _
  rw[Tm.pre_length] at h4
  have h5:=Tm.size_le_full t
  rw[h3,List.length_cons,Nat.succ_mul];omega
theorem Oy (t:Tm)(hf:t.Fit):WQ (t.heads 0)=XV (t.pre 0 1):=by
 have e:=Mm t 0 1 hf
 rw[show t.heads 0=t.heads ((0:Nat):Int) from rfl,e]
 unfold WQ XV
 rw[List.filterMap_filterMap]
 congr 1
 funext p
 unfold hdOf
 by_cases h0:p.2.2.kind=0
 ·by_cases h1:(p.1:Int)<=p.2.2.index
  ·simp[h0,h1]
  simp[h0,h1]
 simp[h0]
set_option maxRecDepth 100000 in
set_option maxHeartbeats 4000000 in
theorem Ll {F:Nat->Prop}{w:World}{v:Value}{l:List Tm}(h:Y6 U6 F w v l)(hl:l.length<=9)(hsz:∀ t∈l,t.full<=90000):Calls Tryz.prog 136 #[v] w (RF (Wr (Y9 l)) w):=by
 refine(callsIn_wide (n:=9)).1 ?_
 have Ht:=Lib.hid (h.weaken (F':=λ _=>True) (by decide) λ _ _ _=>trivial)
 obtain⟨a,c,rfl,hm,bl,off,ha,hc⟩:=NW Ht.out
 obtain⟨ll,hll⟩:∃ x,l.length=x:=⟨_,rfl⟩
 clear h Ht
 have Hm:=Lib.hid hm;clear hm
 have Hc:=Lib.hid hc;clear hc
 have Hsz:=Lib.hid hsz;clear hsz
 rw[hll] at ha hl ⊢
 obtain⟨i2,hi2,hz0,hz1,hz2⟩:=info_parts Gs
 refine callsIn_of_wp_marks Tryz.func136 rfl trivial ?_ rfl
 simp only[Tryz.ntmps136,List.size_toArray,List.length_cons,List.length_nil,Nat.reduceAdd,Nat.reduceSub,Array.replicate_succ,Array.replicate_zero,List.push_toArray,List.append_toArray,List.nil_append,List.cons_append]
 gi_wp2_with fail
 refine wpIn_loop (λ a' w'=>∃ (j:Nat) (Ds:List Nat) (zs:List Int) (vv u5 u11 u12 u13 u14 u15 u28:Value),a'={ tmps:=#[.slice a ll c,undef,.slice none 0 0,.pointer (some ⟨w.heap.size,0,none⟩),undef,u5,undef,undef,.slice a ll c,.int .i64 ll,.int .i64 j,u11,u12,u13,u14,u15,undef,undef,undef,undef,undef,undef,undef,undef,undef,undef,undef,undef,u28,undef,undef,undef,undef],defers:=Ds.map λ D=>{ target:=.collected D,args:=#[] } } /\
   j<=ll/\Hid (zs=Y9 (l.take j))/\OutAt w Ds vv zs w') (λ a' _=>ll-(intOf (a'.tmps.getD 10 undef)).toNat) ?start ?round
 case start=>
  refine⟨0,[],[],.slice none 0 0,undef,undef,undef,undef,undef,undef,undef,rfl,by omega,by show _=_;simp[Y9],?_⟩
  exact⟨Blk.new _ _ _ rfl,World.ownsRow_nil _ _ _ _,by simp,by simp,(Below.refl _ _).alloc (Nat.le_refl _) _⟩
 case round=>
  rintro a' W ⟨j,Ds,zs,vv,u5,u11,u12,u13,u14,u15,u28,rfl,hj,hzs,hO⟩
  have hj0:(0:Int)<=(j:Int):=Int.natCast_nonneg _
  have HO:=Lib.hid hO;clear hO
  by_cases hlt:j<ll
  ·have hj1:(j:Int)<(ll:Int):=by omega
   obtain⟨rfl,_⟩:=ha (by omega)
   obtain⟨vb,vk,vi,vs,e1,e2,e3,e4,hty⟩:=Hc.out j (by omega)
   have hW:=HO.out.below
   have e1:=((Keep.refl (λ _=>True) _).below hW) _ _ _ trivial e1
   have e2:=((Keep.refl (λ _=>True) _).below hW) _ _ _ trivial e2
   have e3:=((Keep.refl (λ _=>True) _).below hW) _ _ _ trivial e3
   have e4:=((Keep.refl (λ _=>True) _).below hW) _ _ _ trivial e4
   have Htk:=Lib.hid (QD l j (by omega))
   have hts:=Hsz.out l[j] (List.getElem_mem _)
   obtain⟨t,ht⟩:∃ t,l[j]=t:=⟨_,rfl⟩
   rw[ht] at hty Htk hts
   clear ht
   obtain⟨pa,pc,qa,qc,rfl,rfl,rfl,rfl⟩:=hty.shape
   have Hty:=Lib.hid hty;clear hty
   obtain⟨x1,hx1⟩:∃ x,t.binds.length=x:=⟨_,rfl⟩
   obtain⟨x2,hx2⟩:∃ x,t.args.length=x:=⟨_,rfl⟩
   obtain⟨x3,hx3⟩:∃ x,t.kind=x:=⟨_,rfl⟩
   obtain⟨x4,hx4⟩:∃ x,t.index=x:=⟨_,rfl⟩
   rw[hx1,hx2,hx3,hx4] at Hty
   rw[hx1] at e1
   rw[hx3] at e2
   rw[hx4] at e3
   rw[hx2] at e4
   clear hx1 hx2 hx3 hx4
   gi_wp2_with fail
   refine⟨trivial,(No _ _ _ _ _ _ ⟨_,_,_,rfl⟩ ⟨_,rfl⟩ ⟨_,rfl⟩ ⟨_,_,_,rfl⟩).mono ?_⟩
   rintro e w' ⟨rfl,rfl⟩
   gi_wp2_with fail
   have HO5:=Lib.hid ((HO.out.alloc (.cells #[.slice pa x1 pc,.int .i64 x3,.int .i64 x4,.slice qa x2 qc] 62)).alloc (.cells #[.slice pa x1 pc,.int .i64 x3,.int .i64 x4,.slice qa x2 qc] 62))
   obtain⟨w5,hw5⟩:∃ w5,(W.alloc (.cells #[.slice pa x1 pc,.int .i64 x3,.int .i64 x4,.slice qa x2 qc] 62)).alloc (.cells #[.slice pa x1 pc,.int .i64 x3,.int .i64 x4,.slice qa x2 qc] 62)=w5:=⟨_,rfl⟩
   have hz:w5.heap.size=W.heap.size+2:=by rw[<-hw5];simp
   have y3:Blk w5 (W.heap.size+1) #[.slice pa x1 pc,.int .i64 x3,.int .i64 x4,.slice qa x2 qc] 62:=by rw[<-hw5];exact Blk.new _ _ _ (by simp)
   rw[hw5] at HO5 ⊢
   clear hw5
   have hsz1:=HO.out.box.lt
   have hlts:=HO.out.lt
   clear HO
   have Hlts:Hid (∀ D∈Ds,D<w5.heap.size):=λ D hD=>by have:=hlts D hD;omega
   clear hlts
   refine TV (Ok:=Uf) (λ o h=>.inl h) rfl (by omega) (gf:=98) (lb:=#[.pointer (some ⟨W.heap.size+1,0,none⟩)]) rfl trivial (enters_of Tryz.func98 (by kernel_rfl) rfl)
    (SN (Hf w.heap.size) (λ k _ _ hk=>.inl hk) Hty.out (by omega) (9-1) w5 (λ k _ hk ht=>.inr ⟨by omega,ht⟩) ((Keep.refl _ _).below HO5.out.below) (W.heap.size+1) y3)
    (λ h h'=>h.trans h') (λ W l o o' _ hl ho _=>KeepC.putObj _ W l o o' hl ho) (Below.refl _ _) (λ _=>rfl)
    (λ pre V=>∃ v',OutAt w Ds v' (zs++XV (pre.map X4.key)) V)
    (λ _ _ _=>False)
    (λ pre A B row ⟨v',h⟩ hg hr=>⟨v',h.grown Hlts.out (by omega) hg (λ r e=>by
     obtain⟨h1,o,ho,hc⟩:=hr r e
     refine⟨h1,o,ho,λ cs e=>?_⟩
     subst e
     rcases hc with hc | ⟨cs',fr,hc⟩
     ·simp[Obj.isCells] at hc
     cases hc)⟩)
    (λ _ _ _ _ _ hs _ _=>hs)
    ⟨vv,by simpa[XV] using HO5.out⟩
    (λ x a' V=>∃ Bx,Blk V Bx #[.slice x.pb x.t.binds.length x.cb,.int .i64 x.t.kind,.int .i64 x.t.index,.slice x.pa x.t.args.length x.ca] 62/\a'={ tmps:=#[.slice (some ⟨bl,off,none⟩) ll c,undef,.slice none 0 0,.pointer (some ⟨w.heap.size,0,none⟩),undef,.pointer (some ⟨W.heap.size,0,none⟩),undef,.pointer (some ⟨Bx,0,none⟩),.slice (some ⟨bl,off,none⟩) ll c,.int .i64 ll,.int .i64 j,.bool true,.pointer (some ⟨bl,off+j * 4,none⟩),.agg #[.slice pa x1 pc,.int .i64 x3,.int .i64 x4,.slice qa x2 qc],.agg #[.slice pa x1 pc,.int .i64 x3,.int .i64 x4,.slice qa x2 qc],.func (.func 98) #[] #[.pointer (some ⟨W.heap.size+1,0,none⟩)],.agg #[.int .i64 x.s,.int .i64 x.d],.agg #[.slice x.pb x.t.binds.length x.cb,.int .i64 x.t.kind,.int .i64 x.t.index,.slice x.pa x.t.args.length x.ca],undef,undef,undef,undef,undef,undef,undef,undef,undef,undef,u28,undef,undef,undef,undef],defers:=[] })
    (λ x a' W l o o' hl ho hoc=>by
     rintro⟨Bx,h2,h3⟩
     have hne:l≠Bx:=λ e=>by
      subst e
      have hb:W.heap[l]?=_:=h2
      rw[hb] at ho;cases ho;simp[Obj.isCells] at hoc
     exact⟨Bx,(World.putObj_heap_other (Ne.symm hne)).trans h2,h3⟩) ?assign ?body ?done ?stop
   case assign=>
    rintro l pre x V K ⟨v',hV⟩ hK
    have HK:=Lib.hid hK;clear hK
    have HV:=Lib.hid hV;clear hV
    simp only[X4.enc] at *
    gi_wp2
    exact HK.out _ _ ((KeepsOthers.alloc _ _).from _) ((KeepC.refl _ V).alloc _) ⟨v',HV.out.alloc _⟩ ⟨V.heap.size,Blk.new _ _ _ rfl,rfl⟩
   case body=>
    rintro l' pre x a' V ⟨v',hV⟩ hlt' ⟨Bx,bX,rfl⟩
    have c1:V.cell? ⟨w.heap.size,0,none⟩=some v':=hV.box.cell rfl
    have cx1:V.cell? ⟨Bx,1,none⟩=some (.int .i64 x.t.kind):=bX.cell rfl
    have cx2:V.cell? ⟨Bx,2,none⟩=some (.int .i64 x.t.index):=bX.cell rfl
    have hlen0:(zs++XV (pre.map X4.key)).length<=900000:=by
     have h1:(Y9 (l.take j)).length<=720000:=by
      have:=UW (l.take j) 90000 (λ t ht=>Hsz.out t (List.mem_of_mem_take ht))
      have h2:(l.take j).length<=8:=by simp;omega
      exact Nat.le_trans this (Nat.le_trans (Nat.mul_le_mul_right 90000 h2) (by decide))
     have h2:(XV (pre.map X4.key)).length<=pre.length:=by
      have:=List.length_filterMap_le (λ p:Nat×Nat×Tm=>if p.2.2.kind=2 then some p.2.2.index else none) (pre.map X4.key)
      simpa[XV] using this
     have h3:=Tm.size_le_full t
     rw[hzs.out,List.length_append]
     omega
    have hkey:XV ((pre++[x]).map X4.key)=XV (pre.map X4.key)++(if x.t.kind=2 then [x.t.index] else []):=by
     unfold XV
     rw[List.map_append,List.filterMap_append]
     congr 1
     by_cases hk:x.t.kind=2
     ·simp[X4.key,hk]
     simp[X4.key,hk]
    have hkey2:zs++XV ((pre++[x]).map X4.key)=(zs++XV (pre.map X4.key))++(if x.t.kind=2 then [x.t.index] else []):=by rw[hkey,List.append_assoc]
    clear hkey
    obtain⟨zp,hzp⟩:∃ zp,zs++XV (pre.map X4.key)=zp:=⟨_,rfl⟩
    rw[hzp] at hV hkey2 hlen0
    obtain⟨kk,hkk⟩:∃ k,x.t.kind=k:=⟨_,rfl⟩
    obtain⟨ii,hii⟩:∃ k,x.t.index=k:=⟨_,rfl⟩
    rw[hkk,hii] at hkey2
    rw[hkk] at cx1 ⊢
    rw[hii] at cx2 ⊢
    clear hzp hkk hii
    have HV:=Lib.hid hV;clear hV
    have hsz3:=HV.out.below.size
    have f0:=HV.out.box.free 0
    by_cases hk:kk=2
    ·subst hk
     rw[if_pos rfl] at hkey2
     have Hkey:=Lib.hid hkey2;clear hkey2
     gi_wp2_with (gi_at_builtin;refine wpListIn_append_own _ rfl _ _ 71 rfl (w.heap.size+1) 3 i2 _ 1 8 Tryz.underlying71 hi2 hz0 hz1 hz2 rfl (by decide) v' zp.length (zp.map (Value.int .i64)) rfl (HV.out.own.alloc _) ⟨V.heap.size,0,none⟩ 1 1 [.int .i64 ii] rfl rfl (λ jj u hu=>by
       cases jj with
       | zero=>simp at hu;subst hu;exact(Blk.new V #[.int .i64 ii] 3 rfl).cell rfl
       | succ _=>simp at hu) (by simp[Value.oneCell']) (by simp[maxLen];omega) (by omega) (by have:=HV.out.box.lt;simp;omega) ?_;intro v2 w3 hown3 hg3 hnil3;have Hg3:=Lib.hid hg3;obtain⟨g3,cap3,rfl⟩:=ownsRow_succ hown3;have Hown3:=Lib.hid hown3;clear hown3 hg3 hnil3;have c3:=(HV.out.push_box Hg3.out).cell (i:=0) rfl;have f3:=(HV.out.push_box Hg3.out).free 0)
     obtain⟨q1,q2,q3⟩:=HV.out.push ii Hg3.out Hown3.out
     exact⟨q2.from _,q3,_,by rw[Hkey.out];exact q1⟩
    rw[if_neg hk,List.append_nil] at hkey2
    have Hkey:=Lib.hid hkey2;clear hkey2
    have hk':(kk==2)=false:=by simpa using hk
    gi_wp2
    exact⟨(KeepsOthers.refl _).from _,KeepC.refl _ _,_,by rw[Hkey.out];exact HV.out⟩
   case done=>
    rintro D ys V hD hys ⟨v',hV⟩ hK
    have hV2:=hV.mark hK (λ D' h'=>by have:=Hlts.out D' h';omega) (by omega)
    have Hz:Hid (zs++XV (ys.map X4.key)=Y9 (l.take (j+1))):=by show _=_;rw[hys,Htk.out,hzs.out]
    rw[Hz.out] at hV2
    clear hV hK hys
    have HV:=Lib.hid hV2;clear hV2
    gi_wp2_with fail
    refine⟨⟨j+1,D :: Ds,_,v',_,_,_,_,_,_,_,rfl,by omega,rfl,HV.out⟩,?_⟩
    simp[intOf];omega
   case stop=>
    rintro D cc pre V _ _ h _
    exact h.elim
  have hO:=HO.out
  have hz2:zs=Y9 l:=by rw[hzs.out,List.take_of_length_le (by omega)]
  have hlen:zs.length<=1000000:=by
   have:=UW l 90000 Hsz.out
   rw[hz2]
   exact Nat.le_trans this (Nat.le_trans (Nat.mul_le_mul_right 90000 (show l.length<=9 by omega)) (by decide))
  have c1:W.cell? ⟨w.heap.size,0,none⟩=some vv:=hO.box.cell rfl
  clear hO
  gi_wp2_with fail
  refine⟨trivial,(callsIn_wide.2 (MX (base:=w.heap.size+1) HO.out.own hlen)).mono ?_⟩
  rintro e W2 ⟨rfl,hown2,hg2⟩
  have hl2:=List.length_mergeSort (le:=λ x y:Int=>decide (x<=y)) zs
  have HO2:=Lib.hid (HO.out.sorted hg2 (by rw[hl2];exact hown2))
  clear HO hown2 hg2
  have c2:W2.cell? ⟨w.heap.size,0,none⟩=some vv:=HO2.out.box.cell rfl
  gi_wp2_with fail
  refine⟨trivial,(callsIn_wide.2 (P7 (base:=w.heap.size+1) HO2.out.own (by rw[hl2];exact hlen))).mono ?_⟩
  rintro e W3 ⟨v',rfl,hown3,hg3⟩
  have Hown3:=Lib.hid hown3;have Hg3:=Lib.hid hg3
  clear hown3 hg3
  gi_wp2_with fail
  have h:=HO2.out.leave Hg3.out Hown3.out (F:=Fence.wide) (n:=9) (P:=Tryz.prog) (fn:=Tryz.f136) (tmps:=#[.slice a ll c,undef,v',.pointer (some ⟨w.heap.size,0,none⟩),undef,u5,undef,undef,.slice a ll c,.int .i64 ll,.int .i64 j,.bool false,u12,u13,u14,u15,undef,undef,undef,undef,undef,undef,undef,undef,undef,undef,undef,undef,u28,vv,.tuple #[],vv,v']) (λ w3=>results_tmp (t:=2) rfl _ _ w3)
  rw[hz2] at h
  exact h
end Go.Proofs.YtclihnccilkohaaGreat
namespace Go.Proofs.YtclihnccilkohaaGreat
open Go.RowKit
theorem Jz (l:List Tm)(hl:l.length<=9)(hz:∀ t∈l,t.full<=90000):Zh Tryz.prog 136 [.sl 4 (eTms l) none] (.sl 1 (YJ (Wr (Y9 l))) none):=by
 refine W0 (by kernel_rfl) λ m Im w vs hv=>?_
 match vs,hv with
 | [x],hv=>
  have hs:Y6 U6 (λ _=>True) w x l:=(Te (r:=U6) (e:=eTm) VQ (λ x t hx _=>Rk t hx) (by decide) (by rw[Xw] at hv;exact hv.1)).weaken (by decide) λ _ _ _=>trivial
  refine(Ll hs hl hz).mono ?_
  rintro e w' ⟨a,c,rfl,h1,h2⟩
  refine⟨_,rfl,h2,λ Im' _ hI=>?_⟩
  exact X9 (r:=OI) (e:=λ i=>[.v (.int .i64 i)]) (λ b o v hq hc=>hI b o v hq hc) (λ _=>rfl) (λ x a h=>by
   have:x=[.int .i64 a]:=h
   subst this;exact⟨.v _,trivial⟩) h1
namespace Li
def rt (t:Tm):Bool:=decide (t.size<=5000/\t.depth<=60)
def done (p:Pr):Pr×Int:=if (rt p.l&&rt p.r)=true then (p,0) else (.z,2)
end Li
theorem QG:∀ (l m:List Int),l.Nodup->(∀ x∈l,x∈m)->l.length<=m.length
 | [],m,_,_=>Nat.zero_le _
 | x :: l,m,h1,h2=>by
  have hx:=h2 x (by simp)
  have:=QG l (m.erase x) (List.nodup_cons.1 h1).2 λ y hy=>(List.mem_erase_of_ne λ e=>(List.nodup_cons.1 h1).1 (by rw[<-e];exact hy)).2 (h2 y (by simp[hy]))
  rw[List.length_erase_of_mem hx] at this
  have:=List.length_pos_of_mem hx
  simp;omega
namespace Au
structure St where
 eq:Int
 back:Bool
 path:List Int
 s:List (Int×Tm)
def must (e:Int)(is:Bool)(c:Int):Int:=if e=0/\is=false then c else e
theorem must_true (e c:Int):must e true c=e:=if_neg (λ h=>by cases h.2)
theorem must_ne {e:Int}(h:e≠0)(is:Bool)(c:Int):must e is c=e:=if_neg (λ h2=>h h2.1)
theorem must_0 {e c:Int}{is:Bool}(hc:c≠0)(h:must e is c=0):e=0/\is=true:=by
 unfold must at h
 by_cases h2:e=0/\is=false
 ·rw[if_pos h2] at h;exact absurd h hc
 rw[if_neg h2] at h
 refine⟨h,?_⟩
 cases is with
 | true=>rfl
 | false=>exact absurd ⟨h,rfl⟩ h2
def replP:List Int->Tm->Tm->Option Tm
 | [],t,b=>some (.mk t.binds b.kind b.index b.args)
 | j :: p,t,b=>if 0<=j/\j<(t.args.length:Int) then (replP p (t.args.getD j.toNat Tm.zero) b).map λ x=>.mk t.binds t.kind t.index (t.args.set j.toNat x) else none
def repl (t b:Tm)(p:List Int):Tm×Int:=if b.binds≠[] then (Tm.zero,1) else match replP p t b with
 | none=>(Tm.zero,10)
 | some o=>(o,0)
variable (code:List Ty->Tm->Ty->Int)
def subS (q:Li.Pr)(s:List (Int×Tm))(ar:List Ty)(e:Int):Int:=
 s.foldl (λ e p=>if e=0 then must e (decide (code ar p.2 (q.m.getD p.1.toNat (.mk [] 0))=0)) 5 else e)
  (s.foldl (λ e p=>must e (decide (0<=p.1/\p.1<(q.m.length:Int))) 1) (must e (Sb.right s&&decide (s.map (·.1)=Wr (Y9 [q.l,q.r]))) 1))
def img (s:List (Int×Tm))(t:Tm)(e:Int):Tm×Int:=if e≠0 then (Tm.zero,e) else ((Sb.apply s t 100000 false).1,must e (decide ((Sb.apply s t 100000 false).2.e=0)) (Sb.apply s t 100000 false).2.e)
variable (eqs:List Li.Pr)
def eqAt (x:St):Li.Pr:=eqs.getD x.eq.toNat Li.Pr.z
def fin (x:St)(t th:Tm)(a b:Tm)(e:Int):Tm×Int:=
 if must e (decide (a=Pn.nb th)) 9≠0 then (Tm.zero,must e (decide (a=Pn.nb th)) 9)
 else if must (must (must e (decide (a=Pn.nb th)) 9) (decide ((repl t b x.path).2=0)) (repl t b x.path).2) (Li.rt (repl t b x.path).1) 2≠0 then (Tm.zero,must (must (must e (decide (a=Pn.nb th)) 9) (decide ((repl t b x.path).2=0)) (repl t b x.path).2) (Li.rt (repl t b x.path).1) 2)
 else ((repl t b x.path).1,0)
def step (x:St)(r:Tm×Int):Tm×Int:=
 match Pn.atP x.path r.1 with
 | none=>(Tm.zero,must (must r.2 (decide (0<=x.eq/\x.eq<(eqs.length:Int))) 10) false 10)
 | some (th,ar)=>
  if must r.2 (decide (0<=x.eq/\x.eq<(eqs.length:Int))) 10≠0 then (Tm.zero,must r.2 (decide (0<=x.eq/\x.eq<(eqs.length:Int))) 10)
  else fin x r.1 th (img x.s (if x.back then (eqAt eqs x).r else (eqAt eqs x).l) (subS code (eqAt eqs x) x.s ar 0)).1
   (img x.s (if x.back then (eqAt eqs x).l else (eqAt eqs x).r) (img x.s (if x.back then (eqAt eqs x).r else (eqAt eqs x).l) (subS code (eqAt eqs x) x.s ar 0)).2).1
   (img x.s (if x.back then (eqAt eqs x).l else (eqAt eqs x).r) (img x.s (if x.back then (eqAt eqs x).r else (eqAt eqs x).l) (subS code (eqAt eqs x) x.s ar 0)).2).2
def chain (l:List St)(t:Tm):Tm×Int:=
 if (l.foldl (λ r x=>step code eqs x r) (t,0)).2≠0 then (Tm.zero,(l.foldl (λ r x=>step code eqs x r) (t,0)).2) else l.foldl (λ r x=>step code eqs x r) (t,0)
theorem fin_e {x:St}{t th a b:Tm}{e:Int}(h:e≠0):fin x t th a b e=(Tm.zero,e):=by
 unfold fin
 rw[must_ne h,if_pos h]
theorem fin_ne {x:St}{t th a b:Tm}{e:Int}(h:(fin x t th a b e).2≠0):(fin x t th a b e).1=Tm.zero:=by
 unfold fin at h ⊢
 by_cases h1:must e (decide (a=Pn.nb th)) 9≠0
 ·rw[if_pos h1]
 rw[if_neg h1] at h ⊢
 by_cases h2:must (must (must e (decide (a=Pn.nb th)) 9) (decide ((repl t b x.path).2=0)) (repl t b x.path).2) (Li.rt (repl t b x.path).1) 2≠0
 ·rw[if_pos h2]
 rw[if_neg h2] at h;exact absurd rfl h
theorem step_e {x:St}{r:Tm×Int}(h:r.2≠0):step code eqs x r=(Tm.zero,r.2):=by
 unfold step
 rw[must_ne h,must_ne h]
 cases Pn.atP x.path r.1 with
 | none=>rfl
 | some y=>exact if_pos h
theorem step_ne {x:St}{r:Tm×Int}(h:(step code eqs x r).2≠0):(step code eqs x r).1=Tm.zero:=by
 unfold step at h ⊢
 cases ha:Pn.atP x.path r.1 with
 | none=>rfl
 | some y=>
  obtain⟨th,ar⟩:=y
  rw[ha] at h
  dsimp only at h ⊢
  by_cases h1:must r.2 (decide (0<=x.eq/\x.eq<(eqs.length:Int))) 10≠0
  ·rw[if_pos h1]
  rw[if_neg h1] at h ⊢
  exact fin_ne h
end Au
def TS2_243:TI:=⟨3,true,[Value.pointer none,Value.slice none 0 0,Value.int IntKind.i64 0],[(0,1,false),(1,1,false),(2,1,false)],none,40,6,none,false⟩
theorem OY:TypOk Tryz.prog 243 TS2_243:=by constructor <;> kernel_rfl
def TS2_241:TI:=⟨1,false,[Value.pointer none],[],none,8,4,none,false⟩
theorem OX:TypOk Tryz.prog 241 TS2_241:=by constructor <;> kernel_rfl
def TS2_270:TI:=⟨1,false,[Value.pointer none],[],none,8,4,none,false⟩
theorem OZ:TypOk Tryz.prog 270 TS2_270:=by constructor <;> kernel_rfl
def TS2:List (Nat×TI):=[(62,TG_62),(243,TS2_243),(50,TN1_50),(3,TG_3),(60,TG_60),(41,TG_41),(233,TN1_233),(59,TG_59),(84,TS1_84),(241,TS2_241),(110,TS1_110),(270,TS2_270),(106,TG_106)]
theorem ZN:Zd Tryz.prog TS2:=((((((((((((((Zd.nil _).cons Yx).cons OZ).cons YG).cons OX).cons Xb).cons XI).cons VI).cons Ym).cons Xs).cons ZW).cons Y0).cons OY).cons Yu)
def KV (l:List (Int×Tm))(s:Nm.St):List (Key×D):=[(.c 0 0,.o 1),(.c 0 1,.sl 5 (Z5 l) none),(.c 0 2,.v (.int .i64 s.e)),(.o 1,.ob (Uc s.left s.dry))]
theorem PG (l:List (Int×Tm))(t u:Tm)(s:Nm.St)(h0:0<=s.left)(h1:s.left<=1000000000)(hu:Yv u)(ha:∀ a∈t.args,Yv a) 
  (ho:u.binds.length=t.args.length->(Nm.put 100001 u t.args ⟨s.left,s.dry,0,0⟩).2.e=0->VG (Nm.put 100001 u t.args ⟨s.left,s.dry,0,0⟩).1) (he:s.e=0) :
  ZB Tryz.prog 159 [.p 0 0,.ag (eTm t),.ag (eTm u)] (KV l s) (KV l (Sb.replaced t u s).2) (.ag (eTm (Sb.replaced t u s).1)):=by
 have hP:=G3 u t.args s.left s.dry h0 h1 hu ha
 obtain⟨left,dry,count,er⟩:=s
 dsimp only at he h0 h1 ho hP
 subst he
 obtain⟨bs,k,i,a⟩:=t
 dsimp only[Tm.args] at ho hP ha
 obtain⟨p,hp⟩:∃ p,Sb.replaced (.mk bs k i a) u ⟨left,dry,count,0⟩=p:=⟨_,rfl⟩
 rw[hp]
 have hpd:=hp.symm
 clear hp
 have hp1:u.binds.length≠a.length->p=(Nm.tz,⟨left,dry,count,1⟩):=λ h=>hpd.trans (if_pos h)
 have hp2:u.binds.length=a.length->p=if (Nm.Put u a left dry).2.e≠0 then (Nm.tz,⟨(Nm.Put u a left dry).2.left,(Nm.Put u a left dry).2.dry,count,(Nm.Put u a left dry).2.e⟩) else (.mk bs (Nm.Put u a left dry).1.kind (Nm.Put u a left dry).1.index (Nm.Put u a left dry).1.args,⟨(Nm.Put u a left dry).2.left,(Nm.Put u a left dry).2.dry,count,0⟩):=λ h=>hpd.trans (if_neg (λ h'=>h' h))
 clear hpd
 obtain⟨ub,uk,ui,ua⟩:=u
 rw[Zu,Zu (.mk ub uk ui ua)]
 dsimp only[Tm.binds] at hp1 hp2 ho
 refine ZX 2 42 [ResultVar.cell 6 62] ZN (by kernel_rfl) Tryz.func159 rfl Tryz.ntmps159 rfl (by simp) ?dwords ?dbody
 case dwords=>simp[ZA,KV,D.ok,D.oks,ZM,Xa,WO,YK,Y8,Yi,YS]
 case dbody=>
  intro cx hnt hn0
  dsimp only[Tm.binds,Tm.kind,Tm.index,Tm.args]
  refine Zz ?_;refine Zx [] ZN hnt λ _ z9=>z9 _ _ ?_;refine Zz (Zz ?_)
  by_cases hl:ub.length=a.length
  ·have hpd:=hp2 hl
   have hP:=hP (ho hl)
   obtain⟨r,hr⟩:∃ r,Nm.Put (.mk ub uk ui ua) a left dry=r:=⟨_,rfl⟩
   rw[hr] at hP hpd
   clear hr
   obtain⟨rt,rs⟩:=r
   dsimp only at hP hpd
   rw[Zu,Zu rt] at hP
   refine Zx [(15,.v (.bool false))] ZN hnt λ K hK=>?_;refine And.intro (Zm.of_eq (by simp[Zs,Zq,hl])) ?_;refine hK _ _ ?_;clear hK K;refine Zy (t:=false) rfl ?_;rw[if_neg (by simp)];refine Zw ?_;refine Zz ?_;refine ZQ [] ZN hnt λ K hK=>?_;refine Zk (hP) ?_;refine hK _ _ (by kernel_rfl) ?_;clear hK K;refine Zz (Zz ?_)
   by_cases hre:rs.e=0
   ·rw[if_neg (by simp[hre])] at hpd
    subst hpd
    refine Zx [(32,.v (.bool false))] ZN hnt λ K hK=>?_;refine And.intro (Zm.of_eq (by simp[hre])) ?_;refine hK _ _ ?_;clear hK K;refine Zy (t:=false) rfl ?_;rw[if_neg (by simp)];refine Zw ?_;refine Zz ?_;refine Zx [] ZN hnt λ _ z9=>z9 _ _ ?_;refine Zz ?_;refine Zx [] ZN hnt λ _ z9=>z9 _ _ ?_;refine Zv ?_
    rw[Zu]
    exact Yd (N:=0) (.inr rfl) rfl (by repeat first | exact Zm.refl _ | exact Zm.nil _ | exact Zm.untag _ _ _ | refine Zm.ag ?_ | refine Zm.tu ?_ | refine ZO.cons ?_ ?_ | exact ZO.nil) (by repeat first | exact trivial | refine And.intro rfl ?_)
   rw[if_pos hre] at hpd
   subst hpd
   refine Zx [(32,.v (.bool true))] ZN hnt λ K hK=>?_;refine And.intro (Zm.of_eq (by simp[hre])) ?_;refine hK _ _ ?_;clear hK K;refine Zy (t:=true) rfl ?_;rw[if_pos rfl];refine Zz ?_;refine Zx [] ZN hnt λ _ z9=>z9 _ _ ?_;refine Zz ?_;refine Zx [] ZN hnt λ _ z9=>z9 _ _ ?_;refine Zv ?_
   rw[X6]
   exact Yd (N:=0) (.inr rfl) rfl (by repeat first | exact Zm.refl _ | exact Zm.nil _ | exact Zm.untag _ _ _ | refine Zm.ag ?_ | refine Zm.tu ?_ | refine ZO.cons ?_ ?_ | exact ZO.nil) (by repeat first | exact trivial | refine And.intro rfl ?_)
  have hpd:=hp1 hl
  subst hpd
  refine Zx [(15,.v (.bool true))] ZN hnt λ K hK=>?_;refine And.intro (Zm.of_eq (by simp[Zs,Zq];omega)) ?_;refine hK _ _ ?_;clear hK K;refine Zy (t:=true) rfl ?_;rw[if_pos rfl];refine Zz ?_;refine Zx [] ZN hnt λ _ z9=>z9 _ _ ?_;refine Zz ?_;refine Zx [] ZN hnt λ _ z9=>z9 _ _ ?_;refine Zv ?_
  rw[X6]
  exact Yd (N:=0) (.inr rfl) rfl (by repeat first | exact Zm.refl _ | exact Zm.nil _ | exact Zm.untag _ _ _ | refine Zm.ag ?_ | refine Zm.tu ?_ | refine ZO.cons ?_ ?_ | exact ZO.nil) (by repeat first | exact trivial | refine And.intro rfl ?_)
def HR (l:List (Int×Tm))(k i ins:Int)(q:List Tm×Nm.St):Prop:=k=2->q.2.e=0->∀ u,Sb.find l i=some u ->
 Yv u/\Yv (Nm.lift ins u 0)/\(∀ a∈q.1,Yv a)/\((Nm.lift ins u 0).binds.length=q.1.length->(Nm.put 100001 (Nm.lift ins u 0) q.1 ⟨q.2.left,q.2.dry,0,0⟩).2.e=0->VG (Nm.put 100001 (Nm.lift ins u 0) q.1 ⟨q.2.left,q.2.dry,0,0⟩).1)
mutual
def Sv (l:List (Int×Tm)):Tm->Int->Nm.St->Prop
 | .mk b k i a,ins,s=>s.e=0->(Nm.spend s).1=true->thOks l a (Nm.wr (ins+b.length)) (Nm.spend s).2/\HR l k i (Nm.wr (ins+b.length)) (Sb.throughs l a (Nm.wr (ins+b.length)) (Nm.spend s).2)
def thOks (l:List (Int×Tm)):List Tm->Int->Nm.St->Prop
 | [],_,_=>True
 | t :: r,ins,s=>Sv l t ins s/\thOks l r ins (Sb.through l t ins s).2
end
def UJ (s:Nm.St):Prop:=0<=s.left/\s.left<=1000000000
theorem Uv {s:Nm.St}(h:UJ s):UJ (Nm.spend s).2:=by
 unfold UJ at *
 unfold Nm.spend
 split
 ·exact⟨Int.le_refl _,by show (0:Int)<=1000000000;decide⟩
 rename_i hc;dsimp only;omega
theorem Jd {p:Tm×Nm.St}(h:UJ p.2):UJ (Nm.done p).2:=by
 unfold Nm.done
 dsimp only
 have:UJ (if p.2.e=0/\¬ (p.1.size<=5000/\p.1.depth<=60) then Nm.fail p.2 2 else p.2):=by
  split
  ·unfold Nm.fail;split <;> exact h
  exact h
 generalize (if p.2.e=0/\¬ (p.1.size<=5000/\p.1.depth<=60) then Nm.fail p.2 2 else p.2)=s at this ⊢
 split <;> exact this
theorem Hj {t:Tm}{xs:List Tm}{left:Int}{dry:Bool}(h:0<=left/\left<=1000000000):UJ (Nm.Put t xs left dry).2:=
 Jd (TH (XN 100001) t xs ⟨left,dry,0,0⟩ ⟨h,⟨Int.le_refl 0,(by decide:(0:Int)<=100001)⟩,λ _=>(by decide:(0:Int)<=100000)⟩).left
theorem QL {t u:Tm}{s:Nm.St}(h:UJ s):UJ (Sb.replaced t u s).2:=by
 unfold Sb.replaced
 dsimp only
 split
 ·exact h
 have:=Hj (t:=u) (xs:=t.args) (dry:=s.dry) h
 split <;> exact this
theorem UB {g:Tm->Nm.St->Tm×Nm.St}:∀ (l:List Tm) (hg:∀ t∈l,∀ s,UJ s->UJ (g t s).2) (s:Nm.St),UJ s->UJ (Nm.seqM g l s).2
 | [],_,_,h=>h
 | t :: l,hg,s,h=>UB l (λ u hu=>hg u (by simp[hu])) _ (hg t (by simp) s h)
theorem Xo (l:List (Int×Tm)):∀ (t:Tm) (ins:Int) (s:Nm.St),UJ s->UJ (Sb.through l t ins s).2:=by
 intro t
 induction t using Tm.ind with
 | h bs k i a ih=>
  intro ins s h
  rw[Sb.through]
  dsimp only
  rw[Sb.throughs_seq]
  have hq:=UB (g:=λ t s=>Sb.through l t (Nm.wr (ins+bs.length)) s) a (λ t ht s hs=>ih t ht _ s hs) _ (Uv h)
  split
  ·exact h
  split
  ·exact Uv h
  split
  ·exact hq
  split
  ·exact hq
  exact QL hq
theorem QZ (l:List (Int×Tm))(ins:Int):∀ (a:List Tm) (s:Nm.St),thOks l a ins s->∀ j (h:j<a.length),Sv l a[j] ins (Nm.seqM (λ t s=>Sb.through l t ins s) (a.take j) s).2
 | t :: a,s,h,0,_=>by rw[thOks] at h;exact h.1
 | t :: a,s,h,j+1,hj=>by
  rw[thOks] at h
  exact QZ l ins a _ h.2 j (by simpa using hj)
theorem PT (l:List (Int×Tm))(m:Int):Sb.find l m=((Xf m l).bind λ i=>l[i]?).map (·.2):=by
 rw[Pf]
 cases Xf m l <;> rfl
def KS (l:List (Int×Tm))(s:Nm.St)(bs:List Ty)(k i:Int)(a:List Tm)(ins:Int):List (Key×D):=
  [(.t 0,.p 0 0),(.t 2,.v (.int .i64 ins)),(.t 4,.p 2 0),(.t 6,.p 3 0),(.t 7,.p 26 0),(.c 2 0,.sl 2 (eTys bs) none),(.c 2 1,.v (.int .i64 k)),(.c 2 2,.v (.int .i64 i)),(.c 2 3,.sl 4 (eTms a) none),
   (.c 3 0,.v (.slice none 0 0)),(.c 3 1,.v (.int .i64 0)),(.c 3 2,.v (.int .i64 0)),(.c 3 3,.v (.slice none 0 0)),(.c 26 0,.sl 2 (eTys bs) none),(.c 26 1,.v (.int .i64 k)),(.c 26 2,.v (.int .i64 i)),
   (.c 0 0,.o 1),(.c 0 1,.sl 5 (Z5 l) none),(.c 0 2,.v (.int .i64 s.e)),(.o 1,.ob (Uc s.left s.dry))]
set_option maxHeartbeats 4000000 in
theorem Iw (l:List (Int×Tm))(hl:l.length<=1000000):∀ (t:Tm) (_:Yv t) (ins:Int) (s:Nm.St),UJ s->Sv l t ins s ->
  ZB Tryz.prog 149 [.p 0 0,.ag (eTm t),.v (.int .i64 ins)] (KV l s) (KV l (Sb.through l t ins s).2) (.ag (eTm (Sb.through l t ins s).1)):=by
 intro t
 induction t using Tm.ind with
 | h bs k i a ih=>
 intro ht ins s hs hok
 obtain⟨w1,w2,w3⟩:=ht.inv
 obtain⟨p,hp⟩:∃ p,Sb.through l (.mk bs k i a) ins s=p:=⟨_,rfl⟩
 rw[Sb.through,Sb.throughs_seq] at hp
 rw[Sv,Sb.throughs_seq] at hok
 obtain⟨m,hm⟩:∃ m,Nm.wr (ins+(bs.length:Int))=m:=⟨_,rfl⟩
 rw[hm] at hp hok
 have hp':Sb.through l (.mk bs k i a) ins s=p:=by rw[<-hp,Sb.through,Sb.throughs_seq,hm]
 rw[hp',Zu]
 have hpd:=hp.symm
 dsimp only at hpd
 clear hp hp'
 have hsp:=OO 1 s hs.1 hs.2
 have hsi:=Uv hs
 have hse:=(Nm.spend_keeps s).2
 obtain⟨g,hg⟩:∃ g:Tm->Nm.St->Tm×Nm.St,(λ t s=>Sb.through l t m s)=g:=⟨_,rfl⟩
 have hat:=QZ l m a (Nm.spend s).2
 rw[hg] at hpd hok hat
 obtain⟨left,dry,count,er⟩:=s
 dsimp only at hsp hsi hse hpd hok hat
 refine ZX 2 86 [ResultVar.cell 6 62] ZN (by kernel_rfl) Tryz.func149 rfl Tryz.ntmps149 rfl (by simp) ?dwords ?dbody
 case dwords=>simp[ZA,KV,D.ok,D.oks,ZM,Xa,WO,YK,Y8,Yi,YS]
 case dbody=>
  intro cx hnt hn0
  dsimp only[Tm.binds,Tm.kind,Tm.index,Tm.args]
  refine Zz ?_;refine Zx [] ZN hnt λ _ z9=>z9 _ _ ?_;refine Zz (Zz ?_)
  by_cases he:er=0
  ·subst he
   refine Zx [(15,.v (.bool false))] ZN hnt λ K hK=>?_;refine And.intro (Zm.refl _) ?_;refine hK _ _ ?_;clear hK K;refine Zy (t:=false) rfl ?_;rw[if_neg (by simp)];refine Zw ?_;rw[if_neg (by simp)] at hpd;refine Zz (Zz ?_)
   obtain⟨sp,hspq⟩:∃ sp,Nm.spend ⟨left,dry,count,0⟩=sp:=⟨_,rfl⟩
   rw[hspq] at hsp hsi hse hpd hok hat
   clear hspq
   obtain⟨b,s1⟩:=sp
   dsimp only at hsp hsi hse hpd hok hat
   cases b with
   | false=>
    rw[if_pos rfl] at hpd
    subst hpd
    refine Zx [] ZN hnt λ K hK=>?_;refine Zk (hsp) ?_;refine hK _ _ ?_;clear hK K;refine Zy (t:=true) rfl ?_;rw[if_pos rfl];refine Zz ?_;refine Zx [] ZN hnt λ _ z9=>z9 _ _ ?_;refine Zz ?_;refine Zx [] ZN hnt λ _ z9=>z9 _ _ ?_;refine Zv ?_
    rw[X6]
    exact Yd (N:=0) (.inr rfl) rfl (by repeat first | exact Zm.refl _ | exact Zm.nil _ | exact Zm.untag _ _ _ | refine Zm.ag ?_ | refine Zm.tu ?_ | refine ZO.cons ?_ ?_ | exact ZO.nil) (by repeat first | exact trivial | refine And.intro rfl ?_)
   | true=>
    rw[if_neg (by simp)] at hpd
    obtain⟨hok1,hok2⟩:=hok rfl rfl
    have hat:=hat hok1
    clear hok hok1
    refine Zx [] ZN hnt λ K hK=>?_;refine Zk (hsp) ?_;refine hK _ _ ?_;clear hK K;refine Zy (t:=false) rfl ?_;rw[if_neg (by simp)];refine Zw ?_;refine Zz ?_;refine Zx [(31,.v (.int .i64 m))] ZN hnt λ K hK=>?_;refine And.intro (Zm.of_eq (by rw[Zs,<-YX,hm])) ?_;refine hK _ _ ?_;clear hK K
    refine Wi (τ:=(.c 26 3,.v (.slice none 0 0)) :: KS l ⟨s1.left,s1.dry,s1.count,0⟩ bs k i a m) (N1:=27) ?_ ?_
    ·skip
     refine Zx [] ZN hnt λ _ z9=>z9 _ _ ?_
     exact Y4 VS.toA
    have hs1:(⟨s1.left,s1.dry,s1.count,0⟩:Nm.St)=s1:=by rw[<-hse]
    rw[hs1]
    dsimp only[KS]
    refine Zz ?_;refine Zz ?_;refine Zx [(39,.v (.int .i64 a.length))] ZN hnt λ K hK=>?_;refine And.intro (Zr (by rw[Zq])) ?_;refine hK _ _ ?_;clear hK K;refine Zt ?_
    refine Z6 (ι:=Nat) (λ j=>(.t 38,.sl 4 (eTms a) none) :: (.t 39,.v (.int .i64 a.length)) :: (.t 40,.v (.int .i64 j)) :: (.c 26 3,.sl 4 (eTms (Nm.seqM g (a.take j) s1).1) (some 31)) :: (.r 31,.rw 62 4 j) :: KS l (Nm.seqM g (a.take j) s1).2 bs k i a m) 32 (λ j=>a.length-j) 0 (VS.trans (VS.row (k:=26) (off:=3) 62 4 rfl) VS.toA) λ j=>?_
    dsimp only[KS]
    have hst:UJ (Nm.seqM g (a.take j) s1).2:=UB _ (λ t _ s h=>by rw[<-hg];exact Xo l t m s h) _ hsi
    have hll:(Nm.seqM g (a.take j) s1).1.length=(a.take j).length:=Nm.seqM_length ..
    refine Zz ?_
    by_cases hlt:j<a.length
    ·have hcon:=ih a[j] (List.getElem_mem hlt) (w3 _ (List.getElem_mem hlt)) m (Nm.seqM g (a.take j) s1).2 hst (hat j hlt)
     have hg2:Sb.through l a[j] m (Nm.seqM g (a.take j) s1).2=g a[j] (Nm.seqM g (a.take j) s1).2:=by rw[<-hg]
     rw[hg2] at hcon
     have hsq:=Nm.seqM_take g a j hlt s1
     rw[Zu,Zu] at hcon
     refine Zx [(41,.v (.bool true))] ZN hnt λ K hK=>?_;refine And.intro (Z7 (by omega)) ?_;refine hK _ _ ?_;clear hK K;refine Zz (Zy (t:=true) rfl ?_);rw[if_pos rfl];refine Zw (Zz (Zt (Zz ?_)));refine Zx [(42,.q [.sl 2 (eTys a[j].binds) none,.v (.int .i64 a[j].kind),.v (.int .i64 a[j].index),.sl 4 (eTms a[j].args) none])] ZN hnt λ K hK=>?_
     refine And.intro (⟨by omega,by rw[Zq];omega⟩) ?_;refine And.intro (Zm.of_eq (by rw[Int.toNat_natCast,ZT a j hlt,Zu])) ?_;refine hK _ _ ?_;clear hK K;refine ZQ [(51,.sl 4 (eTms (Nm.seqM g (a.take (j+1)) s1).1) (some 31))] ZN hnt λ K hK=>?_;refine Zk (hcon) ?_;refine And.intro (⟨by rw[Zq,hll,List.length_take];omega,by rw[Zq,hll,List.length_take];simp;omega⟩) ?_
     refine And.intro (Zm.of_eq (by rw[hsq,Xv,eTms,eTms,Zu (g a[j] _).1])) ?_;refine hK _ _ (by kernel_rfl) ?_;clear hK K;refine Zx [(53,.v (.int .i64 ((j+1:Nat):Int)))] ZN hnt λ K hK=>?_;refine And.intro (Zr (by rw[IntWalk.i64_in _ (by omega)];omega)) ?_;refine hK _ _ ?_;clear hK K
     refine⟨j+1,by omega,?_⟩
     have hl2:(eTms (Nm.seqM g (a.take j) s1).1).length=j:=by rw[Zq,hll,List.length_take];omega
     rw[hsq]
     exact(by try simp only[List.length_append,List.length_take,List.length_cons,List.length_nil,Nat.zero_add,hl2];exact VS.toA)
    rw[List.take_of_length_le (by omega)] at hst hll ⊢
    obtain⟨q,hq⟩:∃ q,Nm.seqM g a s1=q:=⟨_,rfl⟩
    rw[hq] at hst hll hpd hok2 ⊢
    clear hq
    obtain⟨as',s2⟩:=q
    dsimp only at hst hll hpd hok2 ⊢
    have hen:=Zq as'
    obtain⟨left,dry,count,er⟩:=s2
    dsimp only at hst hpd hok2 ⊢
    refine Zx [(41,.v (.bool false))] ZN hnt λ K hK=>?_;refine And.intro (Ze (by omega)) ?_;refine hK _ _ ?_;clear hK K;refine Zz (Zy (t:=false) rfl ?_);rw[if_neg (by simp)];refine Zg ?_;refine Zz ?_;refine Zz ?_
    by_cases hk:k≠2
    ·rw[if_pos (.inl hk)] at hpd
     subst hpd
     refine Zx [(57,.v (.bool true))] ZN hnt λ K hK=>?_;refine And.intro (Zm.of_eq (by simp[hk])) ?_;refine hK _ _ ?_;clear hK K;refine Zy (t:=true) rfl ?_;rw[if_pos rfl];refine Zz ?_;refine Zx [] ZN hnt λ _ z9=>z9 _ _ ?_;refine Zv ?_
     rw[Zu]
     exact Yd (N:=0) (.inr rfl) rfl (by repeat first | exact Zm.refl _ | exact Zm.nil _ | exact Zm.untag _ _ _ | refine Zm.ag ?_ | refine Zm.tu ?_ | refine ZO.cons ?_ ?_ | exact ZO.nil) (by repeat first | exact trivial | refine And.intro rfl ?_)
    have hk:k=2:=by simpa using hk
    by_cases her:er≠0
    ·rw[if_pos (.inr her)] at hpd
     subst hpd
     refine Zx [(57,.v (.bool false)),(63,.v (.bool true))] ZN hnt λ K hK=>?_;refine And.intro (Zm.of_eq (by simp[hk])) ?_;refine And.intro (Zm.of_eq (by simp[her])) ?_;refine hK _ _ ?_;clear hK K;refine Zy (t:=true) rfl ?_;rw[if_pos rfl];refine Zz ?_;refine Zx [] ZN hnt λ _ z9=>z9 _ _ ?_;refine Zv ?_
     rw[Zu]
     exact Yd (N:=0) (.inr rfl) rfl (by repeat first | exact Zm.refl _ | exact Zm.nil _ | exact Zm.untag _ _ _ | refine Zm.ag ?_ | refine Zm.tu ?_ | refine ZO.cons ?_ ?_ | exact ZO.nil) (by repeat first | exact trivial | refine And.intro rfl ?_)
    have her:er=0:=by simpa using her
    rw[if_neg (λ h=>h.elim (λ h=>h hk) λ h=>h her)] at hpd
    subst her
    have hok2:=hok2 hk rfl
    have hfind:=KO l hl i
    rw[PT] at hpd hok2
    refine Zx [(57,.v (.bool false)),(63,.v (.bool false))] ZN hnt λ K hK=>?_;refine And.intro (Zm.of_eq (by simp[hk])) ?_;refine And.intro (Zm.refl _) ?_;refine hK _ _ ?_;clear hK K;refine Zy (t:=false) rfl ?_;rw[if_neg (by simp)];refine Zw ?_;refine Zz ?_
    cases hx:(Xf i l).bind λ i=>l[i]? with
    | none=>
     rw[hx] at hfind hpd
     dsimp only at hfind
     simp only[Option.map_none] at hpd
     subst hpd
     refine ZQ [] ZN hnt λ K hK=>?_;refine Zk (hfind) ?_;refine hK _ _ (by kernel_rfl) ?_;clear hK K;refine Zz (Zz ?_);refine Zx [] ZN hnt λ _ z9=>z9 _ _ ?_;refine Zy (t:=true) rfl ?_;rw[if_pos rfl];refine Zz ?_;refine Zx [] ZN hnt λ _ z9=>z9 _ _ ?_;refine Zv ?_
     rw[Zu]
     exact Yd (N:=0) (.inr rfl) rfl (by repeat first | exact Zm.refl _ | exact Zm.nil _ | exact Zm.untag _ _ _ | refine Zm.ag ?_ | refine Zm.tu ?_ | refine ZO.cons ?_ ?_ | exact ZO.nil) (by repeat first | exact trivial | refine And.intro rfl ?_)
    | some pr=>
     rw[hx] at hfind hpd hok2
     simp only[Option.map_some] at hpd hok2
     obtain⟨o1,o2,o3,o4⟩:=hok2 pr.2 rfl
     have hgr:=Jp pr.2 o1 m 0
     obtain⟨v,hv⟩:∃ v,Nm.lift m pr.2 0=v:=⟨_,rfl⟩
     rw[hv] at hpd hgr o2 o4
     have hrep:=PG l (.mk bs k i as') v ⟨left,dry,count,0⟩ hst.1 hst.2 o2 o3 o4 rfl
     rw[<-hpd] at hrep
     dsimp only at hfind
     rw[ZG] at hfind
     rw[Zu,Zu] at hgr
     rw[Zu,Zu,Zu] at hrep
     refine ZQ [] ZN hnt λ K hK=>?_;refine Zk (hfind) ?_;refine hK _ _ (by kernel_rfl) ?_;clear hK K;refine Zz (Zz ?_);refine Zx [] ZN hnt λ _ z9=>z9 _ _ ?_;refine Zy (t:=false) rfl ?_;rw[if_neg (by simp)];refine Zw ?_;refine Zz ?_;refine ZQ [(78,.ag [.sl 2 (eTys bs) none,.v (.int .i64 k),.v (.int .i64 i),.sl 4 (eTms as') none])] ZN hnt λ K hK=>?_
     refine And.intro (XP) ?_;refine Zk (hgr) ?_;refine Zk (hrep) ?_;refine hK _ _ (by kernel_rfl) ?_;clear hK K;refine Zv ?_
     rw[Zu]
     exact Yd (N:=0) (.inr rfl) rfl (by repeat first | exact Zm.refl _ | exact Zm.nil _ | exact Zm.untag _ _ _ | refine Zm.ag ?_ | refine Zm.tu ?_ | refine ZO.cons ?_ ?_ | exact ZO.nil) (by repeat first | exact trivial | refine And.intro rfl ?_)
  rw[if_pos he] at hpd
  subst hpd
  refine Zx [(15,.v (.bool true))] ZN hnt λ K hK=>?_;refine And.intro (Zm.of_eq (by simp[he])) ?_;refine hK _ _ ?_;clear hK K;refine Zy (t:=true) rfl ?_;rw[if_pos rfl];refine Zz ?_;refine Zx [] ZN hnt λ _ z9=>z9 _ _ ?_;refine Zv ?_
  rw[X6]
  exact Yd (N:=0) (.inr rfl) rfl (by repeat first | exact Zm.refl _ | exact Zm.nil _ | exact Zm.untag _ _ _ | refine Zm.ag ?_ | refine Zm.tu ?_ | refine ZO.cons ?_ ?_ | exact ZO.nil) (by repeat first | exact trivial | refine And.intro rfl ?_)
inductive Bnd (B:Nat):Tm->Prop where
 | mk (b:List Ty) (k i:Int) (a:List Tm):Ty.sizes b<=B->-9223372036854775808<=i/\i<=9223372036854775807->(∀ u∈a,Bnd B u)->Bnd B (.mk b k i a)
namespace Bnd
variable {B:Nat}
theorem inv {b:List Ty}{k i:Int}{a:List Tm}(h:Bnd B (.mk b k i a)):Ty.sizes b<=B/\(-9223372036854775808<=i/\i<=9223372036854775807)/\∀ u∈a,Bnd B u:=by
 cases h with
 | mk _ _ _ _ h1 h2 h3=>exact⟨h1,h2,h3⟩
theorem parts {t:Tm}(h:Bnd B t):Ty.sizes t.binds<=B/\(-9223372036854775808<=t.index/\t.index<=9223372036854775807)/\∀ u∈t.args,Bnd B u:=by
 obtain⟨b,k,i,a⟩:=t;exact h.inv
theorem fit (t:Tm):Bnd B t->t.Fit:=by
 induction t using Tm.ind with
 | h b k i a ih=>
  intro h
  obtain⟨_,h2,h3⟩:=h.inv
  exact Tm.fit_iff.2 ⟨h2.1,h2.2,λ u hu=>ih u hu (h3 u hu)⟩
theorem fulls_of {l:List Tm}(h:∀ t∈l,t.full<=t.size * (B+1)):Tm.fulls l<=Tm.sizes l * (B+1):=by
 induction l with
 | nil=>simp[Tm.fulls,Tm.sizes]
 | cons t l ih=>
  have h1:=h t (by simp)
  have h2:=ih λ u hu=>h u (by simp[hu])
  simp only[Tm.fulls,Tm.sizes]
  rw[Nat.add_mul];omega
theorem full (t:Tm):Bnd B t->t.full<=t.size * (B+1):=by
 induction t using Tm.ind with
 | h b k i a ih=>
  intro h
  obtain⟨h1,_,h3⟩:=h.inv
  have:=fulls_of λ u hu=>ih u hu (h3 u hu)
  rw[Tm.full_eq,Tm.size_eq,Nat.add_mul];omega
theorem of_full (t:Tm):t.full<=B->t.Fit->Bnd B t:=by
 induction t using Tm.ind with
 | h b k i a ih=>
  intro h hf
  rw[Tm.full_eq] at h
  obtain⟨f1,f2,f3⟩:=Tm.fit_iff.1 hf
  exact .mk _ _ _ _ (by omega) ⟨f1,f2⟩ λ u hu=>ih u hu (by have:=Tm.full_mem hu;omega) (f3 u hu)
theorem wr_in (x:Int):-9223372036854775808<=Nm.wr x/\Nm.wr x<=9223372036854775807:=RC (wrap64_wf x)
theorem lift (t:Tm)(y ins:Int):Bnd B t->Bnd B (Nm.lift y t ins):=by
 induction t using Tm.ind generalizing ins with
 | h b k i a ih=>
  intro h
  obtain⟨h1,h2,h3⟩:=h.inv
  rw[Nm.lift_eq,Nm.lifts_map]
  refine .mk _ _ _ _ h1 (by split;exact wr_in _;exact h2) λ u hu=>?_
  obtain⟨v,hv,rfl⟩:=List.mem_map.1 hu
  exact ih v hv _ (h3 v hv)
theorem grown {t:Tm}(h:Bnd B t)(y:Int):Bnd B (Nm.grown t y):=by
 unfold Nm.grown;split
 ·exact h
 exact lift t y 0 h
theorem tz:Bnd B Nm.tz:=.mk _ _ _ _ (by simp[Ty.sizes]) (by decide) λ u h=>by cases h
theorem body {t:Tm}(h:Bnd B t):Bnd B (.mk [] t.kind t.index t.args):=.mk _ _ _ _ (by simp[Ty.sizes]) h.parts.2.1 h.parts.2.2
theorem drop_sizes (l:List Ty)(n:Nat):Ty.sizes (l.drop n)<=Ty.sizes l:=by
 have:=Ty.sizes_append (l.take n) (l.drop n)
 rw[List.take_append_drop] at this;omega
theorem getD {xs:List Tm}(h:∀ x∈xs,Bnd B x)(j:Nat):Bnd B (xs.getD j Nm.tz):=by
 rw[List.getD_eq_getElem?_getD]
 by_cases hj:j<xs.length
 ·rw[List.getElem?_eq_getElem hj];exact h _ (List.getElem_mem hj)
 rw[List.getElem?_eq_none (by omega)];exact tz
theorem wide (t:Tm):Bnd B t->t.size<=100000->B<=100000->Yv t:=by
 induction t using Tm.ind with
 | h b k i a ih=>
  intro h hs hB
  obtain⟨h1,_,h3⟩:=h.inv
  rw[Tm.size_eq] at hs
  refine .mk _ _ _ _ (by have:=Ty.le_sizes b;omega) (by have:=Tm.len_sizes a;omega) λ u hu=>ih u hu (h3 u hu) (by have:=Tm.size_mem hu;omega) hB
end Bnd
namespace Nm
theorem unit_left {s:St}(h:(unit s).1=true):(unit s).2.left=s.left-1:=by
 unfold unit at h ⊢
 split
 ·rename_i he;rw[if_pos he] at h;cases h
 rename_i he
 rw[if_neg he] at h
 split
 ·rename_i hc;rw[if_pos hc] at h;cases h
 rename_i hc
 rw[if_neg hc] at h
 have hsp:∀ p,spend s=p->p.1=true->p.2.left=s.left-1:=λ p hp h1=>by
  unfold spend at hp
  split at hp
  ·subst hp;cases h1
  subst hp;rfl
 generalize hp:spend s=p at h ⊢
 obtain⟨ok,s'⟩:=p
 cases ok
 ·cases h
 exact hsp (true,s') hp rfl
def Gr (B f:Nat)(t:Tm)(s:St)(p:Tm×St):Prop:=p.2.e=0->s.e=0/\(p.1.size:Int)+p.2.left<=s.left/\Bnd B p.1
def Fu (f:Nat)(s:St):Prop:=s.e=0->100001-s.count<=f
theorem seqM_grow {B f:Nat}{g:Tm->St->Tm×St}:∀ (l:List Tm) (hg:∀ t∈l,∀ s,X1 s->Fu f s->Gr B f t s (g t s)) (hw:∀ t s,X1 s->X1 (g t s).2) (hc:∀ t s,s.count<=(g t s).2.count) (s:St),X1 s->Fu f s ->
  (seqM g l s).2.e=0->s.e=0/\(Tm.sizes (seqM g l s).1:Int)+(seqM g l s).2.left<=s.left/\∀ u∈(seqM g l s).1,Bnd B u
 | [],_,_,_,s,_,_,h=>⟨h,by simp[seqM,Tm.sizes],λ u hu=>by cases hu⟩
 | t :: l,hg,hw,hc,s,hs,hf,h=>by
  have h1:=hg t (by simp) s hs hf
  have h2:=seqM_grow l (λ u hu=>hg u (by simp[hu])) hw hc (g t s).2 (hw t s hs) (λ e=>by
   have:=hf (h1 e).1
   have:=hc t s
   omega) h
  have h3:=h1 h2.1
  refine⟨h3.1,?_,λ u hu=>?_⟩
  ·simp only[seqM,Tm.sizes]
   have:=h2.2.1
   have:=h3.2.1
   omega
  rcases List.mem_cons.1 hu with rfl | hu
  ·exact h3.2.2
  exact h2.2.2 u hu
theorem fail_ne (s:St):(fail s 1).e≠0:=by
 unfold fail;split
 ·show (1:Int)≠0;decide
 assumption
def GrThr (B f:Nat)(thr:Thr):Prop:=∀ xs n t ins s,X1 s->Fu f s->(∀ x∈xs,Bnd B x)->Bnd B t->Gr B f t s (thr xs n t ins s)
theorem putW_grow {B f:Nat}{thr:Thr}(h:GrThr B f thr){t:Tm}{xs:List Tm}{s:St}(hs:X1 s)(hf:Fu f s)(ht:Bnd B t)(hx:∀ x∈xs,Bnd B x):Gr B f t s (putW thr t xs s):=by
 unfold putW
 split
 ·intro e;exact absurd e (fail_ne s)
 intro e
 have h1:=h xs t.binds.length (.mk [] t.kind t.index t.args) 0 s hs hf hx ht.body e
 refine⟨h1.1,?_,?_⟩
 ·have hsz:(Tm.mk (t.binds.drop xs.length) (thr xs t.binds.length (.mk [] t.kind t.index t.args) 0 s).1.kind (thr xs t.binds.length (.mk [] t.kind t.index t.args) 0 s).1.index (thr xs t.binds.length (.mk [] t.kind t.index t.args) 0 s).1.args).size=(thr xs t.binds.length (.mk [] t.kind t.index t.args) 0 s).1.size:=by
   generalize (thr xs t.binds.length (.mk [] t.kind t.index t.args) 0 s).1=r
   obtain⟨b,k,i,a⟩:=r
   rw[Tm.size_eq,Tm.size_eq];rfl
  dsimp only
  rw[hsz];exact h1.2.1
 ·have hr:=h1.2.2.parts
  exact .mk _ _ _ _ (Nat.le_trans (Bnd.drop_sizes _ _) ht.parts.1) hr.2.1 hr.2.2
theorem hit_grow {B f:Nat}{thr:Thr}(h:GrThr B f thr){xs:List Tm}{n:Nat}{t:Tm}{ins:Int}{args:List Tm}{s:St}(hs:X1 s)(hf:Fu f s)(ht:Bnd B t)(hx:∀ x∈xs,Bnd B x)(ha:∀ a∈args,Bnd B a):
  (hit thr xs n t ins args s).2.e=0->s.e=0/\((hit thr xs n t ins args s).1.size:Int)+(hit thr xs n t ins args s).2.left<=s.left+Tm.sizes args+1/\Bnd B (hit thr xs n t ins args s).1:=by
 obtain⟨t1,t2,t3⟩:=ht.parts
 unfold hit
 split
 ·intro e;exact⟨e,by dsimp only;rw[Tm.size_eq];omega,.mk _ _ _ _ t1 t2 ha⟩
 dsimp only
 split
 ·intro e;exact⟨e,by dsimp only;rw[Tm.size_eq];omega,.mk _ _ _ _ t1 t2 ha⟩
 split
 ·intro e;exact⟨e,by dsimp only;rw[Tm.size_eq];omega,.mk _ _ _ _ t1 (Bnd.wr_in _) ha⟩
 split
 ·intro e;exact absurd e (fail_ne s)
 intro e
 have hu:Bnd B (grown (xs.getD ((n:Int)-1-wr (t.index-ins)).toNat tz) (wr (wr (ins+n)-xs.length))):=(Bnd.getD hx _).grown _
 have h1:=putW_grow h hs hf hu ha e
 refine⟨h1.1,?_,?_⟩
 ·have h2:=h1.2.1
  generalize (putW thr (grown (xs.getD ((n:Int)-1-wr (t.index-ins)).toNat tz) (wr (wr (ins+n)-xs.length))) args s)=r at h2 ⊢
  obtain⟨⟨b,k,i,a⟩,s'⟩:=r
  dsimp only at h2 ⊢
  rw[Tm.size_eq] at h2 ⊢
  show ((Tm.sizes a+1:Nat):Int)+s'.left<=_
  omega
 have h2:=h1.2.2.parts
 exact .mk _ _ _ _ t1 h2.2.1 h2.2.2
theorem through_grow (B:Nat):∀ f,GrThr B f (through f)
 | 0=>λ xs n t ins s hs hf _ _ e=>by
  have e':s.e=0:=e
  have h1:=hf e'
  have h2:=hs.e0 e'
  omega
 | f+1=>λ xs n t ins s hs hf hx ht=>by
  have ih:=through_grow B f
  intro e
  unfold through at e ⊢
  dsimp only at e ⊢
  by_cases hu:(unit s).1=true
  ·rw[if_pos hu] at e ⊢
   obtain⟨u1,u2,u3⟩:=(unit_count s).2 hu
   have ul:=unit_left hu
   have hw:=UG hs
   have hf1:Fu f (unit s).2:=λ _=>by have:=hf u2;omega
   have hq:=seqM_grow (B:=B) (f:=f) (g:=λ a s=>through f xs n a (wr (ins+t.binds.length)) s) t.args (λ u hu s hs hf=>ih xs n u _ s hs hf hx (ht.parts.2.2 u hu)) (λ u s h=>XN f _ _ _ _ _ h) (λ u s=>through_count f _ _ _ _ _) (unit s).2 hw hf1
   have hqw:=UC (g:=λ a s=>through f xs n a (wr (ins+t.binds.length)) s) (λ u s h=>XN f _ _ _ _ _ h) t.args _ hw
   have hqc:=seqM_count (g:=λ a s=>through f xs n a (wr (ins+t.binds.length)) s) (λ u s=>through_count f _ _ _ _ _) t.args (unit s).2
   generalize seqM (λ a s=>through f xs n a (wr (ins+t.binds.length)) s) t.args (unit s).2=q at e hq hqw hqc ⊢
   by_cases hqe:q.2.e=0
   ·have hq:=hq hqe
    have h1:=hit_grow ih (xs:=xs) (n:=n) (t:=t) (ins:=wr (ins+t.binds.length)) (args:=q.1) (s:=q.2) hqw (λ _=>by have:=hf1 u3;omega) ht hx hq.2.2 e
    exact⟨u2,by have:=h1.2.1;have:=hq.2.1;omega,h1.2.2⟩
   exfalso
   have hx2:∀ p,hit (through f) xs n t (wr (ins+t.binds.length)) q.1 q.2=p->p.2.e=0->q.2.e=0:=λ p hp hpe=>by
    unfold hit at hp
    split at hp
    ·subst hp;exact hpe
    dsimp only at hp
    split at hp
    ·subst hp;exact hpe
    split at hp
    ·subst hp;exact hpe
    split at hp
    ·subst hp;exact absurd hpe (fail_ne _)
    subst hp
    unfold putW at hpe
    rw[if_pos (.inl hqe)] at hpe
    exact absurd hpe (fail_ne _)
   exact hqe (hx2 _ rfl e)
  rw[if_neg hu] at e
  exfalso
  have:(unit s).1=false:=by simpa using hu
  have h2:∀ p,unit s=p->p.1=false->p.2.e≠0:=λ p hp h1=>by
   unfold unit at hp
   split at hp
   ·subst hp;assumption
   split at hp
   ·subst hp;show (2:Int)≠0;decide
   generalize spend s=r at hp
   obtain⟨ok,s'⟩:=r
   cases ok
   ·subst hp;show (11:Int)≠0;decide
   subst hp;cases h1
  exact h2 _ rfl this e
end Nm
theorem O0 {P:Program}{cx:Cx}{σ:List (Key×D)}{N:Nat}{Q:Exit->List (Key×D)->Nat->Prop}{c:Code}{k off g E n len:Nat}{l:List (List D)}(hx:get σ (.c k off)=some (.ps g len))(hg:get σ (.r g)=some (.rp E n l))(hl:l.length=len) 
  (h:DW P cx c (XW (.c k off) (.sl n l (some g)) (XW (.r g) (.rw E n l.length) σ)) N Q):DW P cx c σ N Q:=λ m Im w a hs=>by
 obtain⟨Im',hi,h2,h3⟩:=hs.freeze hg
 subst hl
 obtain⟨b,v,q1,q2,q3⟩:=hs.ce k off _ hx
 have hr:=h3 _ q3
 refine h m Im' w a { h2 with tm:=λ y d hy=>?_,ce:=λ k' off' d hy=>?_,ro:=λ k' d hy=>?_,jk:=λ d hy=>?_,ok:=λ k' d hy=>?_ }
 ·rw[Zo,if_neg (by simp[Key.eq])] at hy;exact h2.tm y d hy
 ·rw[Zo] at hy
  by_cases e:Key.eq (.c k off) (.c k' off')=true
  ·rw[if_pos e] at hy
   have:=Key.eq_iff.1 e;cases this
   cases hy;exact⟨b,v,q1,q2,hr⟩
  rw[if_neg e] at hy
  exact h2.ce k' off' d hy
 ·rw[Zo,if_neg (by simp[Key.eq])] at hy;exact h2.ro k' d hy
 ·rw[Zo,if_neg (by simp[Key.eq])] at hy;exact h2.jk d hy
 rw[Zo,if_neg (by simp[Key.eq])] at hy;exact h2.ok k' d hy
def TAUC:List (Nat×TI):=[(62,TG_62),(60,TG_60),(71,TTY_71),(3,TG_3),(41,TG_41),(50,TN1_50),(59,TG_59),(106,TG_106)]
theorem Z9:Zd Tryz.prog TAUC:=(((((((((Zd.nil _).cons Yx).cons XI).cons Y0).cons Ym).cons ZW).cons YV).cons Xs).cons Yu)
theorem O3 (a:Option Addr)(c nm:Nat):Vn Tryz.prog 151 [.v (.slice a 0 c)] [] nm [(.r nm,.rp 62 4 [])] (.ps nm 0):=by
 refine Xe 8 [ResultVar.tmp 2] Z9 (by kernel_rfl) Tryz.func151 rfl Tryz.ntmps151 rfl (by simp) (by simp[D.ok]) (by simp[D.okss]) ?dbody nm
 case dbody=>
  intro cx hnt hn0
  refine Zz ?_;refine Zx [] Z9 hnt λ _ z9=>z9 _ _ ?_
  cases a with
  | none=>
   refine Zz ?_;refine Zz ?_;refine Zx [(4,.v (.bool true))] Z9 hnt λ K hK=>?_;refine And.intro (Zm.refl _) ?_;refine hK _ _ ?_;clear hK K;refine Zy (t:=true) rfl ?_;rw[if_pos rfl];refine Zz ?_;refine Zx [] Z9 hnt λ _ z9=>z9 _ _ ?_
   refine DW.vs (VS.rowPT (x:=2) (by rw[hnt];decide) 62 4 rfl) ?_
   refine Zv ?_
   exact⟨.inr rfl,_,rfl,rfl⟩
  | some a=>
   refine Zz ?_;refine Zz ?_;refine Zx [(4,.v (.bool false))] Z9 hnt λ K hK=>?_;refine And.intro (Zm.refl _) ?_;refine hK _ _ ?_;clear hK K;refine Zy (t:=false) rfl ?_;rw[if_neg (by simp)];refine Zw ?_;refine Zz ?_;refine Zx [(5,.ps 3 0)] Z9 hnt λ K hK=>?_;refine And.intro (Zm.ps0 _ _) ?_;refine And.intro (by decide) ?_;refine hK _ _ ?_;clear hK K
   refine Zv ?_
   exact⟨.inr rfl,_,rfl,rfl⟩
theorem PZ (x:Tm)(l:List Tm)(hl:l.length<=900000)(nm:Nat):Vn Tryz.prog 151 [.sl 4 (eTms (x :: l)) none] [] nm [(.r nm,.rp 62 4 (eTms (x :: l)))] (.ps nm (x :: l).length):=by
 refine Xe 8 [ResultVar.tmp 2] Z9 (by kernel_rfl) Tryz.func151 rfl Tryz.ntmps151 rfl (by simp) (by simp[D.ok,Y8]) (by simp[D.okss,Y8]) ?dbody nm
 case dbody=>
  intro cx hnt hn0
  refine Zz ?_;refine Zx [] Z9 hnt λ _ z9=>z9 _ _ ?_;refine Zz ?_;refine Zz ?_;refine Zx [(4,.v (.bool false))] Z9 hnt λ K hK=>?_;refine And.intro (Zm.refl _) ?_;refine hK _ _ ?_;clear hK K;refine Zy (t:=false) rfl ?_;rw[if_neg (by simp)];refine Zw ?_;refine Zz ?_;refine Zx [(5,.ps 3 0)] Z9 hnt λ K hK=>?_
  refine And.intro (Zm.ps0 _ _) ?_;refine And.intro (by rw[Zq];simp;omega) ?_;refine hK _ _ ?_;clear hK K;refine Zv ?_
  exact⟨.inr rfl,3,by rw[show (x :: l).length=(eTms (x :: l)).length by rw[Zq]];rfl,rfl⟩
theorem Kn (l:List Tm)(hl:l.length<=900000)(nm:Nat):Vn Tryz.prog 151 [.sl 4 (eTms l) none] [] nm [(.r nm,.rp 62 4 (eTms l))] (.ps nm l.length):=by
 cases l with
 | cons x l=>exact PZ x l (by simp at hl;omega) nm
 | nil=>
  refine⟨by kernel_rfl,λ cx Fr m Im w a σ vs hnm hs hv hR=>?_⟩
  match vs,hv with
  | [v],hv=>
   obtain⟨a0,c,bl,off,X,rfl,_⟩:=Wk hv.1
   exact(O3 a0 c nm).2 cx Fr m Im w a σ _ hnm hs ⟨.v _,trivial⟩ hR
theorem T7:eTm Tm.zero=[.sl 2 [] none,.v (.int .i64 0),.v (.int .i64 0),.sl 4 [] none]:=rfl
theorem P3 (j:Int)(p:List Int):D.sl 1 (List.drop ((some (1:Int)).getD 0).toNat (List.take ((none:Option Int).getD ((YJ (j :: p)).length:Nat)).toNat (YJ (j :: p)))) none=D.sl 1 (YJ p) none:=by
 have h:List.take ((none:Option Int).getD ((YJ (j :: p)).length:Nat)).toNat (YJ (j :: p))=YJ (j :: p):=List.take_of_length_le (Nat.le_refl _)
 rw[h];rfl
theorem LD (l:List Tm)(n:Nat)(x:Tm)(h:n<l.length):(eTms l).set n [.sl 2 (eTys x.binds) none,.v (.int .i64 x.kind),.v (.int .i64 x.index),.sl 4 (eTms x.args) none]=eTms (l.set n x):=by
 rw[<-Zu,Xw,Xw,List.map_set]
theorem LC (l:List Tm)(n:Nat)(x:Tm)(h:n<l.length):(eTms l).set n (T0 ((eTms l).getD n []) 0 4 [.sl 2 (eTys x.binds) none,.v (.int .i64 x.kind),.v (.int .i64 x.index),.sl 4 (eTms x.args) none])=eTms (l.set n x):=by
 rw[ZT l n h,Zu,show T0 [.sl 2 (eTys (l[n]).binds) none,.v (.int .i64 (l[n]).kind),.v (.int .i64 (l[n]).index),.sl 4 (eTms (l[n]).args) none] 0 4 [.sl 2 (eTys x.binds) none,.v (.int .i64 x.kind),.v (.int .i64 x.index),.sl 4 (eTms x.args) none]=[.sl 2 (eTys x.binds) none,.v (.int .i64 x.kind),.v (.int .i64 x.index),.sl 4 (eTms x.args) none] from rfl]
 exact LD l n x h
theorem Ri:∀ (l:List Tm) (n:Nat) (x:Tm) (h:n<l.length),Tm.sizes (l.set n x)+l[n].size=Tm.sizes l+x.size/\Tm.fulls (l.set n x)+l[n].full=Tm.fulls l+x.full
 | [],n,x,h=>by simp at h
 | t :: l,0,x,h=>by
  show Tm.sizes (x :: l)+t.size=_/\Tm.fulls (x :: l)+t.full=_
  rw[Tm.sizes,Tm.sizes,Tm.fulls,Tm.fulls];omega
 | t :: l,n+1,x,h=>by
  have h':n<l.length:=by simpa using h
  have ih:=Ri l n x h'
  show Tm.sizes (t :: l.set n x)+l[n].size=_/\Tm.fulls (t :: l.set n x)+l[n].full=_
  rw[Tm.sizes,Tm.sizes,Tm.fulls,Tm.fulls];omega
def PF (r:Option Tm):D:=match r with
 | some o=>.tu [.ag (eTm o),.v (.int .i64 0)]
 | none=>.tu [.ag (eTm Tm.zero),.v (.int .i64 10)]
set_option maxHeartbeats 2000000 in
theorem QX (b:Tm):∀ (p:List Int) (t:Tm),p.length<=100000->t.full<=800000->Zh Tryz.prog 142 [.ag (eTm t),.ag (eTm b),.sl 1 (YJ p) none] (PF (Au.replP p t b)):=by
 intro p
 induction p with
 | nil=>
  intro t _ _
  rw[Au.replP]
  unfold PF
  rw[Zu,Zu,Zu]
  refine Zn 0 60 [ResultVar.cell 6 62,ResultVar.tmp 7] Z9 Tryz.func142 rfl Tryz.ntmps142 rfl λ cx hnt hn0=>?_
  skip
  refine Zz ?_;refine Zx [] Z9 hnt λ _ z9=>z9 _ _ ?_;refine Zz ?_;refine Zz ?_;refine Zx [(12,.v (.int .i64 (0))),(13,.v (.bool true))] Z9 hnt λ K hK=>?_;refine And.intro (Zr (by rfl)) ?_;refine And.intro (Zm.refl _) ?_;refine hK _ _ ?_;clear hK K;refine Zy (t:=true) rfl ?_;rw[if_pos rfl];refine Zz ?_;refine Zx [] Z9 hnt λ K hK=>?_
  refine hK _ _ ?_;clear hK K;refine Zv ?_
  exact Zi rfl
 | cons j p ih=>
  intro t hp hz
  have hft:=XD t
  have hal:=RU t.args
  have hpl:p.length<=100000:=by rw[List.length_cons] at hp;omega
  rw[Au.replP]
  by_cases hj:0<=j/\j<(t.args.length:Int)
  ·rw[if_pos hj]
   obtain⟨n,rfl⟩:∃ n:Nat,j=n:=⟨j.toNat,by omega⟩
   have hn:n<t.args.length:=by omega
   have hg:t.args.getD ((n:Int)).toNat Tm.zero=t.args[n]:=by rw[Int.toNat_natCast,List.getD_eq_getElem?_getD,List.getElem?_eq_getElem hn];rfl
   rw[hg]
   have hsub:=Tm.full_mem (List.getElem_mem hn)
   have hi:=ih t.args[n] hpl (by omega)
   have hcl:=Kn t.args (by omega)
   have hgx:(eTms t.args).getD n []=[.sl 2 (eTys (t.args[n]).binds) none,.v (.int .i64 (t.args[n]).kind),.v (.int .i64 (t.args[n]).index),.sl 4 (eTms (t.args[n]).args) none]:=by rw[ZT t.args n hn,Zu]
   have hj0:¬ ((n:Int)<0):=by omega
   cases hr:Au.replP p t.args[n] b with
   | none=>
    rw[hr] at hi
    unfold PF at hi ⊢
    simp only[Option.map_none] at hi ⊢
    rw[Zu t.args[n],Zu b,T7] at hi
    rw[Zu t,Zu b,T7]
    refine Zn 0 60 [ResultVar.cell 6 62,ResultVar.tmp 7] Z9 Tryz.func142 rfl Tryz.ntmps142 rfl λ cx hnt hn0=>?_
    skip
    refine Zz ?_;refine Zx [] Z9 hnt λ _ z9=>z9 _ _ ?_;refine Zz ?_;refine Zz ?_;refine Zx [(12,.v (.int .i64 (↑(p.length+1)))),(13,.v (.bool false))] Z9 hnt λ K hK=>?_;refine And.intro (Zr (by rw[Zb];simp)) ?_;refine And.intro (Zm.of_eq (by simp;omega)) ?_;refine hK _ _ ?_;clear hK K;refine Zy (t:=false) rfl ?_;rw[if_neg (by simp)]
    refine Zw ?_;refine Zz ?_;refine Zx [(22,.q [.v (.int .i64 ↑n)])] Z9 hnt λ K hK=>?_;refine And.intro (⟨by omega,by rw[Zb];simp⟩) ?_;refine And.intro (Zm.of_eq rfl) ?_;refine hK _ _ ?_;clear hK K;refine Zz ?_;refine Zz ?_;refine Zx [(25,.v (.bool false)),(30,.v (.int .i64 (↑t.args.length))),(31,.v (.bool false))] Z9 hnt λ K hK=>?_;refine And.intro (Ze hj0) ?_
    refine And.intro (Zr (by rw[Zq])) ?_;refine And.intro X5 ?_;refine hK _ _ ?_;clear hK K;refine Zy (t:=false) rfl ?_;rw[if_neg (by simp)];refine Zw ?_;refine Zz ?_;refine ZQ [(38,.q [.sl 2 (eTys (t.args[n]).binds) none,.v (.int .i64 (t.args[n]).kind),.v (.int .i64 (t.args[n]).index),.sl 4 (eTms (t.args[n]).args) none]),(42,.sl 1 (YJ p) none)] Z9 hnt λ K hK=>?_
    refine And.intro (⟨by omega,by rw[Zq];omega⟩) ?_;refine And.intro (Zm.of_eq (by rw[Int.toNat_natCast,hgx])) ?_;refine And.intro (⟨by omega,by rw[Zb];simp;omega⟩) ?_;refine And.intro (Zm.of_eq (P3 _ _)) ?_;refine Zk (hi) ?_;refine hK _ _ (by kernel_rfl) ?_;clear hK K;refine Zz ?_;refine Zz ?_;refine Zx [(47,.v (.bool true))] Z9 hnt λ K hK=>?_
    refine And.intro (YO (by decide)) ?_;refine hK _ _ ?_;clear hK K;refine Zy (t:=true) rfl ?_;rw[if_pos rfl];refine Zz ?_;refine Zx [] Z9 hnt λ _ z9=>z9 _ _ ?_;refine Zv ?_
    exact Zi rfl
   | some x=>
    rw[hr] at hi
    unfold PF at hi ⊢
    simp only[Option.map_some] at hi ⊢
    rw[Zu,Zu,Zu] at hi
    rw[Zu,Zu,Zu]
    refine Zn 0 60 [ResultVar.cell 6 62,ResultVar.tmp 7] Z9 Tryz.func142 rfl Tryz.ntmps142 rfl λ cx hnt hn0=>?_
    skip
    refine Zz ?_;refine Zx [] Z9 hnt λ _ z9=>z9 _ _ ?_;refine Zz ?_;refine Zz ?_;refine Zx [(12,.v (.int .i64 (↑(p.length+1)))),(13,.v (.bool false))] Z9 hnt λ K hK=>?_;refine And.intro (Zr (by rw[Zb];simp)) ?_;refine And.intro (Zm.of_eq (by simp;omega)) ?_;refine hK _ _ ?_;clear hK K;refine Zy (t:=false) rfl ?_;rw[if_neg (by simp)]
    refine Zw ?_;refine Zz ?_;refine Zx [(22,.q [.v (.int .i64 ↑n)])] Z9 hnt λ K hK=>?_;refine And.intro (⟨by omega,by rw[Zb];simp⟩) ?_;refine And.intro (Zm.of_eq rfl) ?_;refine hK _ _ ?_;clear hK K;refine Zz ?_;refine Zz ?_;refine Zx [(25,.v (.bool false)),(30,.v (.int .i64 (↑t.args.length))),(31,.v (.bool false))] Z9 hnt λ K hK=>?_;refine And.intro (Ze hj0) ?_
    refine And.intro (Zr (by rw[Zq])) ?_;refine And.intro X5 ?_;refine hK _ _ ?_;clear hK K;refine Zy (t:=false) rfl ?_;rw[if_neg (by simp)];refine Zw ?_;refine Zz ?_;refine ZQ [(38,.q [.sl 2 (eTys (t.args[n]).binds) none,.v (.int .i64 (t.args[n]).kind),.v (.int .i64 (t.args[n]).index),.sl 4 (eTms (t.args[n]).args) none]),(42,.sl 1 (YJ p) none)] Z9 hnt λ K hK=>?_
    refine And.intro (⟨by omega,by rw[Zq];omega⟩) ?_;refine And.intro (Zm.of_eq (by rw[Int.toNat_natCast,hgx])) ?_;refine And.intro (⟨by omega,by rw[Zb];simp;omega⟩) ?_;refine And.intro (Zm.of_eq (P3 _ _)) ?_;refine Zk (hi) ?_;refine hK _ _ (by kernel_rfl) ?_;clear hK K;refine Zz ?_;refine Zz ?_;refine Zx [(47,.v (.bool false))] Z9 hnt λ K hK=>?_
    refine And.intro (Yq rfl) ?_;refine hK _ _ ?_;clear hK K;refine Zy (t:=false) rfl ?_;rw[if_neg (by simp)];refine Zw ?_;refine Zz ?_;refine Zx [] Z9 hnt λ K hK=>?_;refine H6 (hcl _) ?_;refine hK _ _ ?_;clear hK K;refine Zz ?_;refine Zx [(58,.pr 39 t.args.length 4 (n) 0)] Z9 hnt λ K hK=>?_;refine And.intro ((by constructor <;> omega)) ?_;refine And.intro (Zm.of_eq (by simp;rfl)) ?_
    refine And.intro (⟨by rw[Zq],by omega⟩) ?_;refine hK _ _ ?_;clear hK K
    rw[LC t.args n x hn]
    refine O0 (k:=0) (off:=3) (g:=39) rfl rfl (by rw[Zq,List.length_set]) ?_
    refine Zz ?_;refine Zx [] Z9 hnt λ _ z9=>z9 _ _ ?_;refine Zv ?_
    exact Zi rfl
  rw[if_neg hj]
  unfold PF
  dsimp only
  rw[Zu t,Zu b,T7]
  by_cases h0:j<0
  ·skip
   refine Zn 0 60 [ResultVar.cell 6 62,ResultVar.tmp 7] Z9 Tryz.func142 rfl Tryz.ntmps142 rfl λ cx hnt hn0=>?_
   skip
   refine Zz ?_;refine Zx [] Z9 hnt λ _ z9=>z9 _ _ ?_;refine Zz ?_;refine Zz ?_;refine Zx [(12,.v (.int .i64 (↑(p.length+1)))),(13,.v (.bool false))] Z9 hnt λ K hK=>?_;refine And.intro (Zr (by rw[Zb];simp)) ?_;refine And.intro (Zm.of_eq (by simp;omega)) ?_;refine hK _ _ ?_;clear hK K;refine Zy (t:=false) rfl ?_;rw[if_neg (by simp)]
   refine Zw ?_;refine Zz ?_;refine Zx [(22,.q [.v (.int .i64 j)])] Z9 hnt λ K hK=>?_;refine And.intro (⟨by omega,by rw[Zb];simp⟩) ?_;refine And.intro (Zm.of_eq rfl) ?_;refine hK _ _ ?_;clear hK K;refine Zz ?_;refine Zz ?_;refine Zx [(25,.v (.bool true))] Z9 hnt λ K hK=>?_;refine And.intro (Z7 h0) ?_;refine hK _ _ ?_;clear hK K;refine Zy (t:=true) rfl ?_
   rw[if_pos rfl];refine Zz ?_;refine Zx [] Z9 hnt λ _ z9=>z9 _ _ ?_;refine Zv ?_
   exact Zi rfl
  skip
  refine Zn 0 60 [ResultVar.cell 6 62,ResultVar.tmp 7] Z9 Tryz.func142 rfl Tryz.ntmps142 rfl λ cx hnt hn0=>?_
  skip
  refine Zz ?_;refine Zx [] Z9 hnt λ _ z9=>z9 _ _ ?_;refine Zz ?_;refine Zz ?_;refine Zx [(12,.v (.int .i64 (↑(p.length+1)))),(13,.v (.bool false))] Z9 hnt λ K hK=>?_;refine And.intro (Zr (by rw[Zb];simp)) ?_;refine And.intro (Zm.of_eq (by simp;omega)) ?_;refine hK _ _ ?_;clear hK K;refine Zy (t:=false) rfl ?_;rw[if_neg (by simp)]
  refine Zw ?_;refine Zz ?_;refine Zx [(22,.q [.v (.int .i64 j)])] Z9 hnt λ K hK=>?_;refine And.intro (⟨by omega,by rw[Zb];simp⟩) ?_;refine And.intro (Zm.of_eq rfl) ?_;refine hK _ _ ?_;clear hK K;refine Zz ?_;refine Zz ?_;refine Zx [(25,.v (.bool false)),(30,.v (.int .i64 (↑t.args.length))),(31,.v (.bool true))] Z9 hnt λ K hK=>?_;refine And.intro (Ze h0) ?_
  refine And.intro (Zr (by rw[Zq])) ?_;refine And.intro Xd ?_;refine hK _ _ ?_;clear hK K;refine Zy (t:=true) rfl ?_;rw[if_pos rfl];refine Zz ?_;refine Zx [] Z9 hnt λ _ z9=>z9 _ _ ?_;refine Zv ?_
  exact Zi rfl
set_option maxHeartbeats 1000000 in
theorem NY:∀ t:Tm,∀ ins:Int,0<=ins->ins+t.full<=4000000->t.size<=900000->Bnd 170 t->Zh Tryz.prog 118 [.ag (eTm t),.v (.int .i64 ins),.fn 119 []] (.ag (eTm t)):=by
 intro t
 induction t using Tm.ind with
 | h bs k i ar ih=>
  intro ins h0 hz hsz0 hbn
  rw[Tm.full_eq] at hz
  rw[Tm.size_eq] at hsz0
  have hft:=Bnd.fit _ hbn
  obtain⟨hb1,_,hb3⟩:=hbn.inv
  have hbl:=Ty.le_sizes bs
  obtain⟨hi0,hi1,_⟩:=Tm.fit_iff.1 hft
  have hs1:(Ty.mk [] 0).size=1:=by simp[Ty.size,Ty.sizes]
  have harr:=Sz (.mk [] 0) bs (by omega)
  dsimp only[Ty.args,Ty.base] at harr
  rw[List.append_nil,Zc,Zc] at harr
  dsimp only[Ty.args,Ty.base,eTys] at harr
  have hal:ar.length<=Tm.sizes ar:=Tm.len_sizes ar
  rw[Zu]
  dsimp only[Tm.binds,Tm.kind,Tm.index,Tm.args]
  obtain⟨n,hn⟩:∃ n:Int,n=ins+bs.length:=⟨_,rfl⟩
  refine Zn 0 63 [ResultVar.cell 6 62] Yn Tryz.func118 rfl Tryz.ntmps118 rfl λ cx hnt hn0=>?_
  skip
  refine Zz ?_;refine Zx [] Yn hnt λ _ z9=>z9 _ _ ?_;refine Zz ?_;refine Zx [(14,.v (.int .i64 (n)))] Yn hnt λ K hK=>?_;refine And.intro (Zr (by rw[Zs,IntWalk.i64_in _ (by omega)];omega)) ?_;refine hK _ _ ?_;clear hK K;refine Zz ?_;refine ZQ [(15,.ag [.sl 2 [] none,.v (.int .i64 0)])] Yn hnt λ K hK=>?_;refine And.intro (XP) ?_
  refine Zk (harr) ?_;refine hK _ _ (by kernel_rfl) ?_;clear hK K
  refine Wi (τ:=[(.t 1,.v (.int .i64 n)),(.t 2,.fn 119 []),(.t 3,.p 0 0),(.t 6,.p 1 0),(.t 7,.p 16 0),(.c 0 0,.sl 2 (eTys bs) none),(.c 0 1,.v (.int .i64 k)),(.c 0 2,.v (.int .i64 i)),(.c 0 3,.sl 4 (eTms ar) none),(.c 1 0,.v (.slice none 0 0)),(.c 1 1,.v (.int .i64 0)),(.c 1 2,.v (.int .i64 0)),(.c 1 3,.v (.slice none 0 0)),(.c 16 0,.sl 2 (eTys bs) none),(.c 16 1,.v (.int .i64 k)),(.c 16 2,.v (.int .i64 i)),(.c 16 3,.v (.slice none 0 0))]) (N1:=17) ?_ ?_
  ·by_cases hk:k=0
   ·by_cases hge:i>=n
    ·have hc1:=Nh (i-n)
     refine Zz ?_;refine Zx [(26,.v (.bool true)),(32,.v (.bool true))] Yn hnt λ K hK=>?_;refine And.intro (Zm.of_eq (by simp[hk])) ?_;refine And.intro Xd ?_;refine hK _ _ ?_;clear hK K;refine Zy (t:=true) rfl ?_;rw[if_pos rfl];refine Zx [(40,.v (.int .i64 ((i-n)))),(42,.v (.int .i64 (i)))] Yn hnt λ K hK=>?_;refine And.intro (Zr (by exact IntWalk.i64_in _ (by omega))) ?_
     refine Zk (hc1) ?_;refine And.intro (Zr (by (rw[show n+(i-n)=i by omega];exact IntWalk.i64_in _ (by omega)))) ?_;refine hK _ _ ?_;clear hK K
     exact Y4 VS.toA
    skip
    refine Zz ?_;refine Zx [(26,.v (.bool true)),(32,.v (.bool false))] Yn hnt λ K hK=>?_;refine And.intro (Zm.of_eq (by simp[hk])) ?_;refine And.intro X5 ?_;refine hK _ _ ?_;clear hK K;refine Zy (t:=false) rfl ?_;rw[if_neg (by simp)];refine Zw ?_
    exact Y4 VS.toA
   skip
   refine Zz ?_;refine Zx [(26,.v (.bool false))] Yn hnt λ K hK=>?_;refine And.intro (Zm.of_eq (by simp[hk])) ?_;refine hK _ _ ?_;clear hK K;refine Zy (t:=false) rfl ?_;rw[if_neg (by simp)];refine Zw ?_
   exact Y4 VS.toA
  refine DW.vs (VS.row (k:=16) (off:=3) 62 4 rfl) ?_
  refine Zz ?_;refine Zz ?_;refine Zx [(47,.v (.int .i64 (↑ar.length)))] Yn hnt λ K hK=>?_;refine And.intro (Zr (by rw[Zq])) ?_;refine hK _ _ ?_;clear hK K;refine Zt ?_
  refine Z6 (ι:={ j:Nat // j<=ar.length }) (λ j=>[(.t 1,.v (.int .i64 n)),(.t 2,.fn 119 []),(.t 6,.p 1 0),(.t 7,.p 16 0),(.t 46,.sl 4 (eTms ar) none),(.t 47,.v (.int .i64 ↑ar.length)),(.t 48,.v (.int .i64 ↑j.1)),(.c 1 0,.v (.slice none 0 0)),(.c 1 1,.v (.int .i64 0)),(.c 1 2,.v (.int .i64 0)),(.c 1 3,.v (.slice none 0 0)),(.c 16 0,.sl 2 (eTys bs) none),(.c 16 1,.v (.int .i64 k)),(.c 16 2,.v (.int .i64 i)),(.c 16 3,.sl 4 (eTms (ar.take j.1)) (some 17)),(.r 17,.rw 62 4 j.1)]) 18 (λ j=>ar.length-j.1) (⟨0,Nat.zero_le _⟩) (VS.toA) λ j=>?_
  obtain⟨j,hj⟩:=j
  dsimp only
  by_cases hlt:j<ar.length
  ·have hmem:=List.getElem_mem hlt
   have hsz:=Tm.full_mem hmem
   have hsz1:=Tm.size_mem hmem
   have hc:=ih _ hmem n (by omega) (by omega) (by omega) (hb3 _ hmem)
   rw[Zu] at hc
   have hl1:(eTms (ar.take j)).length=j:=by rw[Zq,List.length_take];omega
   have hl2:(eTms (ar.take (j+1))).length=j+1:=by rw[Zq,List.length_take];omega
   refine Zz ?_;refine Zx [(49,.v (.bool true))] Yn hnt λ K hK=>?_;refine And.intro Xd ?_;refine hK _ _ ?_;clear hK K;refine Zz ?_;refine Zy (t:=true) rfl ?_;rw[if_pos rfl];refine Zw ?_;refine Zz ?_;refine Zt ?_;refine Zz ?_;refine Zx [(50,.q [.sl 2 (eTys ar[j].binds) none,.v (.int .i64 ar[j].kind),.v (.int .i64 ar[j].index),.sl 4 (eTms ar[j].args) none])] Yn hnt λ K hK=>?_
   refine And.intro (XQ (Zq ar)) ?_;refine And.intro (XR (ZT ar j) (Zu _)) ?_;refine hK _ _ ?_;clear hK K;refine ZQ [] Yn hnt λ K hK=>?_;refine Zk (hc) ?_;refine And.intro (⟨by omega,by rw[hl1];simp;omega⟩) ?_;refine hK _ _ (by kernel_rfl) ?_;clear hK K
   rw[RH ar j hlt,hl2]
   refine Zx [(61,.v (.int .i64 (↑(j+1))))] Yn hnt λ K hK=>?_;refine And.intro Ww ?_;refine hK _ _ ?_;clear hK K
   refine⟨⟨j+1,hlt⟩,by first | omega | (dsimp only;omega),VS.toA⟩
  rw[List.take_of_length_le (by omega)]
  refine Zz ?_;refine Zx [(49,.v (.bool false))] Yn hnt λ K hK=>?_;refine And.intro X5 ?_;refine hK _ _ ?_;clear hK K;refine Zz ?_;refine Zy (t:=false) rfl ?_;rw[if_neg (by simp)];refine Zg ?_;refine Zz ?_;refine Zx [] Yn hnt λ _ z9=>z9 _ _ ?_;refine Zv ?_
  exact Zi rfl
theorem Ja (t:Tm)(hsz:t.full<=4000000)(hs:t.size<=900000)(hb:Bnd 170 t):Zh Tryz.prog 96 [.ag (eTm t)] (.ag (eTm t)):=by
 have h:=NY t 0 (Int.le_refl _) (by omega) hs hb
 rw[Zu] at h ⊢
 refine Zn 0 5 [ResultVar.cell 2 62] Yn Tryz.func96 rfl Tryz.ntmps96 rfl λ cx hnt hn0=>?_
 skip
 refine Zz ?_;refine Zx [] Yn hnt λ _ z9=>z9 _ _ ?_;refine Zz ?_;refine Zx [] Yn hnt λ K hK=>?_;refine Zk (h) ?_;refine hK _ _ ?_;clear hK K;refine Zv ?_
 exact Zi rfl
theorem VZ:∀ (p:List Int) (t b o:Tm),Au.replP p t b=some o->o.size<=t.size+b.size/\o.full<=t.full+b.full/\(Bnd 170 t->Bnd 170 b->Bnd 170 o)
 | [],t,b,o,h=>by
  rw[Au.replP] at h
  cases h
  obtain⟨tb,tk,ti,ta⟩:=t
  obtain⟨bb,bk,bi,ba⟩:=b
  refine⟨?_,?_,λ h1 h2=>.mk _ _ _ _ h1.inv.1 h2.inv.2.1 h2.inv.2.2⟩
  ·show (Tm.mk tb bk bi ba).size<=_
   rw[Tm.size_eq,Tm.size_eq,Tm.size_eq];omega
  show (Tm.mk tb bk bi ba).full<=_
  rw[Tm.full_eq,Tm.full_eq,Tm.full_eq];omega
 | j :: p,t,b,o,h=>by
  rw[Au.replP] at h
  by_cases hj:0<=j/\j<(t.args.length:Int)
  ·rw[if_pos hj] at h
   cases hr:Au.replP p (t.args.getD j.toNat Tm.zero) b with
   | none=>rw[hr] at h;cases h
   | some x=>
    rw[hr] at h
    have h:=Option.some.inj h
    have hn:j.toNat<t.args.length:=by omega
    rw[List.getD_eq_getElem?_getD,List.getElem?_eq_getElem hn,Option.getD_some] at hr
    obtain⟨h1,h2,h3⟩:=VZ p _ b x hr
    obtain⟨tb,tk,ti,ta⟩:=t
    have hn:j.toNat<ta.length:=hn
    have hs1:=Ri ta j.toNat x hn
    subst h
    refine⟨?_,?_,λ g1 g2=>.mk _ _ _ _ g1.inv.1 g1.inv.2.1 λ u hu=>?_⟩
    ·show (Tm.mk tb tk ti (ta.set j.toNat x)).size<=_
     rw[Tm.size_eq,Tm.size_eq]
     have h1:x.size<=(ta[j.toNat]).size+b.size:=h1
     omega
    ·show (Tm.mk tb tk ti (ta.set j.toNat x)).full<=_
     rw[Tm.full_eq,Tm.full_eq]
     have h2:x.full<=(ta[j.toNat]).full+b.full:=h2
     omega
    rcases List.mem_or_eq_of_mem_set hu with hu | rfl
    ·exact g1.inv.2.2 u hu
    exact h3 (g1.inv.2.2 _ (List.getElem_mem hn)) g2
  rw[if_neg hj] at h;cases h
theorem Sr (t b:Tm)(p:List Int)(hp:p.length<=100000)(ht:t.full<=800000/\t.size<=100000/\Bnd 170 t)(hb:b.full<=800000/\b.size<=100000/\Bnd 170 b):
  Zh Tryz.prog 125 [.ag (eTm t),.ag (eTm b),.sl 1 (YJ p) none] (.tu [.ag (eTm (Au.repl t b p).1),.v (.int .i64 (Au.repl t b p).2)]):=by
 have hbl:=Ty.le_sizes b.binds
 have hft:=XD b
 have hr:=QX b p t hp ht.1
 unfold Au.repl
 by_cases h0:b.binds≠[]
 ·rw[if_pos h0]
  have hpos:0<b.binds.length:=List.length_pos_iff.2 h0
  dsimp only
  rw[Zu t,Zu b,T7]
  refine Zn 0 28 [ResultVar.cell 6 62,ResultVar.tmp 7] Z9 Tryz.func125 rfl Tryz.ntmps125 rfl λ cx hnt hn0=>?_
  skip
  refine Zz ?_;refine Zx [] Z9 hnt λ _ z9=>z9 _ _ ?_;refine Zz ?_;refine Zz ?_;refine Zx [(12,.v (.int .i64 (↑b.binds.length))),(13,.v (.bool true))] Z9 hnt λ K hK=>?_;refine And.intro (Zr (by rw[Zs])) ?_;refine And.intro (Zm.of_eq (by simp;omega)) ?_;refine hK _ _ ?_;clear hK K;refine Zy (t:=true) rfl ?_;rw[if_pos rfl]
  refine Zz ?_;refine Zx [] Z9 hnt λ _ z9=>z9 _ _ ?_;refine Zv ?_
  exact Zi rfl
 rw[if_neg h0]
 have hb0:b.binds.length=0:=by rw[Classical.byContradiction h0];rfl
 cases hx:Au.replP p t b with
 | none=>
  rw[hx] at hr
  unfold PF at hr
  dsimp only at hr ⊢
  rw[Zu t,Zu b,T7] at hr ⊢
  refine Zn 0 28 [ResultVar.cell 6 62,ResultVar.tmp 7] Z9 Tryz.func125 rfl Tryz.ntmps125 rfl λ cx hnt hn0=>?_
  skip
  refine Zz ?_;refine Zx [] Z9 hnt λ _ z9=>z9 _ _ ?_;refine Zz ?_;refine Zz ?_;refine Zx [(12,.v (.int .i64 (↑b.binds.length))),(13,.v (.bool false))] Z9 hnt λ K hK=>?_;refine And.intro (Zr (by rw[Zs])) ?_;refine And.intro (Zm.of_eq (by rw[hb0];rfl)) ?_;refine hK _ _ ?_;clear hK K;refine Zy (t:=false) rfl ?_;rw[if_neg (by simp)]
  refine Zw ?_;refine Zz ?_;refine Zx [] Z9 hnt λ K hK=>?_;refine Zk (hr) ?_;refine hK _ _ ?_;clear hK K;refine Zz ?_;refine Zz ?_;refine Zx [(23,.v (.bool true))] Z9 hnt λ K hK=>?_;refine And.intro (YO (by decide)) ?_;refine hK _ _ ?_;clear hK K;refine Zy (t:=true) rfl ?_;rw[if_pos rfl];refine Zz ?_;refine Zx [] Z9 hnt λ K hK=>?_
  refine hK _ _ ?_;clear hK K;refine Zv ?_
  exact Zi rfl
 | some o=>
  rw[hx] at hr
  unfold PF at hr
  dsimp only at hr ⊢
  obtain⟨g1,g2,g3⟩:=VZ p t b o hx
  have hc:=Ja o (by omega) (by omega) (g3 ht.2.2 hb.2.2)
  rw[Zu t,Zu b,Zu o] at hr
  rw[Zu] at hc
  rw[Zu t,Zu b,Zu o]
  refine Zn 0 28 [ResultVar.cell 6 62,ResultVar.tmp 7] Z9 Tryz.func125 rfl Tryz.ntmps125 rfl λ cx hnt hn0=>?_
  skip
  refine Zz ?_;refine Zx [] Z9 hnt λ _ z9=>z9 _ _ ?_;refine Zz ?_;refine Zz ?_;refine Zx [(12,.v (.int .i64 (↑b.binds.length))),(13,.v (.bool false))] Z9 hnt λ K hK=>?_;refine And.intro (Zr (by rw[Zs])) ?_;refine And.intro (Zm.of_eq (by rw[hb0];rfl)) ?_;refine hK _ _ ?_;clear hK K;refine Zy (t:=false) rfl ?_;rw[if_neg (by simp)]
  refine Zw ?_;refine Zz ?_;refine Zx [] Z9 hnt λ K hK=>?_;refine Zk (hr) ?_;refine hK _ _ ?_;clear hK K;refine Zz ?_;refine Zz ?_;refine Zx [(23,.v (.bool false))] Z9 hnt λ K hK=>?_;refine And.intro (Yq rfl) ?_;refine hK _ _ ?_;clear hK K;refine Zy (t:=false) rfl ?_;rw[if_neg (by simp)];refine Zw ?_;refine Zz ?_;refine Zx [] Z9 hnt λ K hK=>?_
  refine Zk (hc) ?_;refine hK _ _ ?_;clear hK K;refine Zv ?_
  exact Zi rfl
namespace Sb
variable {B:Nat}
theorem find_mem {l:List (Int×Tm)}{i:Int}{u:Tm}(h:find l i=some u):∃ p∈l,p.2=u:=by
 unfold find at h
 cases hf:l.find? (λ p=>p.1==i) with
 | none=>rw[hf] at h;cases h
 | some p=>rw[hf] at h;cases h;exact⟨p,List.mem_of_find?_eq_some hf,rfl⟩
theorem Put_grow {u:Tm}{xs:List Tm}{left:Int}{dry:Bool}(h0:0<=left/\left<=1000000000)(hu:Bnd B u)(hx:∀ x∈xs,Bnd B x):
  (Nm.Put u xs left dry).2.e=0->((Nm.Put u xs left dry).1.size:Int)+(Nm.Put u xs left dry).2.left<=left/\Bnd B (Nm.Put u xs left dry).1:=by
 have h1:=Nm.putW_grow (Nm.through_grow B 100001) (t:=u) (xs:=xs) (s:=⟨left,dry,0,0⟩) ⟨h0,⟨Int.le_refl 0,(by decide:(0:Int)<=100001)⟩,λ _=>(by decide:(0:Int)<=100000)⟩ (λ _=>by show (100001:Int)-0<=((100001:Nat):Int);decide) hu hx
 unfold Nm.Put Nm.done
 dsimp only
 show _
 have h2:Nm.put 100001 u xs ⟨left,dry,0,0⟩=Nm.putW (Nm.through 100001) u xs ⟨left,dry,0,0⟩:=rfl
 rw[h2]
 generalize Nm.putW (Nm.through 100001) u xs ⟨left,dry,0,0⟩=p at h1
 intro e
 have key:p.2.e=0/\(p.1.size<=5000/\p.1.depth<=60):=by
  by_cases hc:p.2.e=0/\¬ (p.1.size<=5000/\p.1.depth<=60)
  ·exfalso
   rw[if_pos hc] at e
   have hf:(Nm.fail p.2 2).e=2:=by unfold Nm.fail;rw[if_pos hc.1]
   rw[if_pos (by rw[hf];decide)] at e
   rw[hf] at e;cases e
  rw[if_neg hc] at e
  by_cases hp:p.2.e=0
  ·exact⟨hp,by
    by_cases h5:p.1.size<=5000/\p.1.depth<=60
    ·exact h5
    exact absurd ⟨hp,h5⟩ hc⟩
  ·rw[if_pos hp] at e;exact absurd e hp
 have hc:¬ (p.2.e=0/\¬ (p.1.size<=5000/\p.1.depth<=60)):=λ h=>h.2 key.2
 rw[if_neg hc,if_neg (λ h=>h key.1)]
 have h3:=h1 key.1
 exact⟨h3.2.1,h3.2.2⟩
theorem seq_grow {g:Tm->Nm.St->Tm×Nm.St}:∀ (a:List Tm) (hg:∀ t∈a,∀ s,UJ s->(g t s).2.e=0->s.e=0/\((g t s).1.size:Int)+(g t s).2.left<=s.left/\Bnd B (g t s).1) (hi:∀ t∈a,∀ s,UJ s->UJ (g t s).2) (s:Nm.St),UJ s ->
  (Nm.seqM g a s).2.e=0->s.e=0/\(Tm.sizes (Nm.seqM g a s).1:Int)+(Nm.seqM g a s).2.left<=s.left/\∀ u∈(Nm.seqM g a s).1,Bnd B u
 | [],_,_,s,_,h=>⟨h,by simp[Nm.seqM,Tm.sizes],λ u hu=>by cases hu⟩
 | t :: a,hg,hi,s,hs,h=>by
  have h2:=seq_grow a (λ u hu=>hg u (by simp[hu])) (λ u hu=>hi u (by simp[hu])) (g t s).2 (hi t (by simp) s hs) h
  have h3:=hg t (by simp) s hs h2.1
  refine⟨h3.1,?_,λ u hu=>?_⟩
  ·simp only[Nm.seqM,Tm.sizes]
   have:=h2.2.1
   have:=h3.2.1
   omega
  rcases List.mem_cons.1 hu with rfl | hu
  ·exact h3.2.2
  exact h2.2.2 u hu
theorem spend_ok {s:Nm.St}(h:(Nm.spend s).1=true):(Nm.spend s).2.left=s.left-1/\(Nm.spend s).2.e=s.e:=by
 unfold Nm.spend at h ⊢
 split
 ·rename_i hc;rw[if_pos hc] at h;cases h
 exact⟨rfl,rfl⟩
theorem grow (l:List (Int×Tm))(hl:∀ p∈l,Bnd B p.2):∀ t:Tm,Bnd B t->∀ (ins:Int) (s:Nm.St),UJ s->(through l t ins s).2.e=0->s.e=0/\((through l t ins s).1.size:Int)+(through l t ins s).2.left<=s.left/\Bnd B (through l t ins s).1:=by
 intro t
 induction t using Tm.ind with
 | h b k i a ih=>
  intro ht ins s hs
  obtain⟨t1,t2,t3⟩:=ht.inv
  rw[through]
  dsimp only
  split
  ·intro e;exact absurd e (by assumption)
  rename_i he
  have he0:s.e=0:=by omega
  split
  ·intro e;cases e
  rename_i hsp
  have hsp:(Nm.spend s).1=true:=by simpa using hsp
  obtain⟨s1,s2⟩:=spend_ok hsp
  rw[throughs_seq]
  have hin:=Uv hs
  have hq:=seq_grow (B:=B) (g:=λ t s=>through l t (Nm.wr (ins+b.length)) s) a (λ u hu s hs=>ih u hu (t3 u hu) _ s hs) (λ u hu s hs=>Xo l u _ s hs) (Nm.spend s).2 hin
  have hqi:=UB (g:=λ t s=>through l t (Nm.wr (ins+b.length)) s) a (λ u hu s hs=>Xo l u _ s hs) _ hin
  generalize Nm.seqM (λ t s=>through l t (Nm.wr (ins+b.length)) s) a (Nm.spend s).2=q at hq hqi ⊢
  have plain:q.2.e=0->s.e=0/\((Tm.mk b k i q.1).size:Int)+q.2.left<=s.left/\Bnd B (.mk b k i q.1):=λ e=>by
   have h1:=hq e
   refine⟨he0,?_,.mk _ _ _ _ t1 t2 h1.2.2⟩
   rw[Tm.size_eq]
   have:=h1.2.1
   omega
  split
  ·exact plain
  rename_i hk
  have hqe:q.2.e=0:=by
   by_cases h:q.2.e=0
   ·exact h
   exact absurd (.inr h) hk
  have h1:=hq hqe
  split
  ·exact plain
  rename_i u hu
  obtain⟨p,hp,rfl⟩:=find_mem hu
  unfold replaced
  split
  ·intro e;cases e
  dsimp only
  have hP:=Put_grow (B:=B) (u:=Nm.lift (Nm.wr (ins+b.length)) p.2 0) (xs:=q.1) (left:=q.2.left) (dry:=q.2.dry) hqi (Bnd.lift _ _ _ (hl p hp)) h1.2.2
  have harg:(Tm.mk b k i q.1).args=q.1:=rfl
  rw[harg]
  generalize Nm.Put (Nm.lift (Nm.wr (ins+b.length)) p.2 0) q.1 q.2.left q.2.dry=r at hP
  split
  ·rename_i hr;intro e;exact absurd e hr
  rename_i hr
  have hr0:r.2.e=0:=by omega
  obtain⟨h2,h3⟩:=hP hr0
  intro _
  obtain⟨⟨rb,rk,ri,rg⟩,rs⟩:=r
  dsimp only at h2 h3 ⊢
  have hp3:=h3.inv
  rw[Tm.size_eq] at h2
  have h4:=h1.2.1
  refine⟨he0,?_,.mk _ _ _ _ t1 hp3.2.1 hp3.2.2⟩
  show (((Tm.sizes rg+1:Nat)):Int)+rs.left<=s.left
  omega
theorem put_grow {u:Tm}{xs:List Tm}{left:Int}{dry:Bool}(h0:0<=left/\left<=1000000000)(hu:Bnd B u)(hx:∀ x∈xs,Bnd B x):
  (Nm.put 100001 u xs ⟨left,dry,0,0⟩).2.e=0->((Nm.put 100001 u xs ⟨left,dry,0,0⟩).1.size:Int)<=left/\Bnd B (Nm.put 100001 u xs ⟨left,dry,0,0⟩).1:=λ e=>by
 have hw:X1 ⟨left,dry,0,0⟩:=⟨h0,⟨Int.le_refl 0,(by decide:(0:Int)<=100001)⟩,λ _=>(by decide:(0:Int)<=100000)⟩
 have h1:=Nm.putW_grow (Nm.through_grow B 100001) (t:=u) (xs:=xs) hw (λ _=>by show (100001:Int)-0<=((100001:Nat):Int);decide) hu hx e
 have h2:=(TH (XN 100001) u xs _ hw).left.1
 have h3:=h1.2.1
 have h4:Nm.put 100001 u xs ⟨left,dry,0,0⟩=Nm.putW (Nm.through 100001) u xs ⟨left,dry,0,0⟩:=rfl
 rw[h4]
 exact⟨by dsimp only at h3;omega,h1.2.2⟩
theorem done_ok {L:Nat}(hLB:L * (B+1)<=17100000)(hB:B<=170){t:Tm}(h:Bnd B t)(hs:t.size<=L):VG t:=by
 have h1:=Bnd.full t h
 have h2:t.size * (B+1)<=L * (B+1):=Nat.mul_le_mul_right _ hs
 refine⟨by omega,λ h3=>⟨?_,Bnd.fit t h⟩⟩
 have h4:t.size * (B+1)<=5000 * 171:=Nat.mul_le_mul h3.1 (by omega)
 omega
theorem size_mem' {t:Tm}{l:List Tm}(h:t∈l):t.size<=Tm.sizes l:=Tm.size_mem h
theorem th_ok (L:Nat)(hLB:L * (B+1)<=17100000)(hB:B<=170)(hL:L<=100000)(l:List (Int×Tm))(hl:∀ p∈l,Bnd B p.2/\Yv p.2):∀ t:Tm,Bnd B t->∀ (ins:Int) (s:Nm.St),UJ s->(s.e=0->s.left<=L)->Sv l t ins s:=by
 have hl1:∀ p∈l,Bnd B p.2:=λ p hp=>(hl p hp).1
 intro t
 induction t using Tm.ind with
 | h b k i a ih=>
  intro ht ins s hs hle
  obtain⟨t1,t2,t3⟩:=ht.inv
  rw[Sv]
  intro he hsp
  obtain⟨s1,s2⟩:=spend_ok hsp
  have hin:=Uv hs
  have hle0:=hle he
  constructor
  ·have key:∀ (a:List Tm),(∀ u∈a,Bnd B u)->(∀ u∈a,∀ ins s,UJ s->(s.e=0->s.left<=L)->Sv l u ins s)->∀ (ins:Int) (s:Nm.St),UJ s->(s.e=0->s.left<=L)->thOks l a ins s:=by
    intro a
    induction a with
    | nil=>intro _ _ ins s _ _;rw[thOks];trivial
    | cons u a ih2=>
     intro hb h ins s hs hle
     rw[thOks]
     refine⟨h u (by simp) ins s hs hle,ih2 (λ v hv=>hb v (by simp[hv])) (λ v hv=>h v (by simp[hv])) ins _ (Xo l u ins s hs) λ e=>?_⟩
     have h1:=grow l hl1 u (hb u (by simp)) ins s hs e
     have:=hle h1.1
     have:=h1.2.1
     omega
   exact key a t3 (λ u hu ins s=>ih u hu (t3 u hu) ins s) _ _ hin (λ _=>by omega)
  ·intro hk hqe u hu
   obtain⟨p,hp,rfl⟩:=find_mem hu
   rw[throughs_seq] at hqe ⊢
   have hq:=seq_grow (B:=B) (g:=λ t s=>through l t (Nm.wr (ins+b.length)) s) a (λ u hu s hs=>grow l hl1 u (t3 u hu) _ s hs) (λ u hu s hs=>Xo l u _ s hs) (Nm.spend s).2 hin
   have hqi:=UB (g:=λ t s=>through l t (Nm.wr (ins+b.length)) s) a (λ u hu s hs=>Xo l u _ s hs) _ hin
   generalize Nm.seqM (λ t s=>through l t (Nm.wr (ins+b.length)) s) a (Nm.spend s).2=q at hqe hq hqi ⊢
   have h1:=hq hqe
   have hsz:=h1.2.1
   have hl0:=hqi.1
   refine⟨(hl p hp).2,(hl p hp).2.lift _ _,λ x hx=>Bnd.wide x (h1.2.2 x hx) (by have:=size_mem' hx;omega) (by omega),λ _ hpe=>?_⟩
   have h2:=put_grow (B:=B) (dry:=q.2.dry) hqi (Bnd.lift _ (Nm.wr (ins+b.length)) 0 (hl p hp).1) h1.2.2 hpe
   exact done_ok hLB hB h2.2 (by have:=h2.1;omega)
theorem apply_ok (L:Nat)(hLB:L * (B+1)<=17100000)(hB:B<=170)(hL:L<=100000)(l:List (Int×Tm))(hl:∀ p∈l,Bnd B p.2/\Yv p.2)(t:Tm)(ht:Bnd B t)(left:Int)(h0:0<=left/\left<=L)(dry:Bool):
  Sv l t 0 ⟨left,dry,0,0⟩/\((through l t 0 ⟨left,dry,0,0⟩).2.e=0->VG (through l t 0 ⟨left,dry,0,0⟩).1):=by
 have hin:UJ ⟨left,dry,0,0⟩:=⟨h0.1,by show left<=1000000000;omega⟩
 refine⟨th_ok L hLB hB hL l hl t ht 0 _ hin (λ _=>h0.2),λ e=>?_⟩
 have h1:=grow l (λ p hp=>(hl p hp).1) t ht 0 _ hin e
 have h2:=(Xo l t 0 _ hin).1
 have h3:=h1.2.1
 exact done_ok hLB hB h1.2.2 (by dsimp only at h3;omega)
end Sb
def YZ (C M X:List Ty)(k i:Int):Option Ty:=
 if i<0 then none else if k=0 then X.reverse[i.toNat]? else if k=1 then C[i.toNat]? else if k=2 then M[i.toNat]? else none
theorem VT {C M X:List Ty}{k i:Int}(h:i<0):YZ C M X k i=none:=by rw[YZ,if_pos h]
theorem Pi {C M X:List Ty}(i:Nat):YZ C M X 0 i=X.reverse[i]?:=by rw[YZ,if_neg (by omega),if_pos rfl];rfl
theorem Pj {C M X:List Ty}(i:Nat):YZ C M X 1 i=C[i]?:=by rw[YZ,if_neg (by omega),if_neg (by decide),if_pos rfl];rfl
theorem Pk {C M X:List Ty}(i:Nat):YZ C M X 2 i=M[i]?:=by rw[YZ,if_neg (by omega),if_neg (by decide),if_neg (by decide),if_pos rfl];rfl
theorem Pl {C M X:List Ty}{k i:Int}(h0:k≠0)(h1:k≠1)(h2:k≠2):YZ C M X k i=none:=by
 rw[YZ,if_neg h0,if_neg h1,if_neg h2];split <;> rfl
def H7:Ty:=.mk [] 0
theorem MU {G F:Nat->Prop}{w:World}{a:Option Addr}{n c:Nat}{l:List Ty}(h:IsSl2 YD G F w (.slice a n c) l)(j:Nat)(hj:j<l.length):∃ bl off A N C B,a=some ⟨bl,off,none⟩/\G bl /\
  w.cell? ⟨bl,off+j * 2,none⟩=some (.slice A N C)/\w.cell? ⟨bl,off+j * 2+1,none⟩=some (.int .i64 B)/\Xj F w (.slice A N C) (.int .i64 B) l[j]:=by
 obtain⟨a',c',bl,off,X,hv,_,ha,h1,h2⟩:=h
 cases hv
 obtain⟨ha,hG⟩:=ha (by omega)
 obtain⟨s,b,hx,ht⟩:=h2 j hj
 obtain⟨sa,sc,rfl,rfl⟩:=ht.shape
 exact⟨bl,off,_,_,_,_,ha,hG,h1 j 0 _ hj (by rw[hx];rfl),h1 j 1 _ hj (by rw[hx];rfl),ht⟩
mutual
def Wz (C M:List Ty):Tm->List Ty->Ty->Prop
 | .mk b k i a,X,u=>b=u.args/\∃ h,YZ C M (X++b) k i=some h/\h.base=u.base/\IsOfs C M a (X++b) h.args
def IsOfs (C M:List Ty):List Tm->List Ty->List Ty->Prop
 | [],_,[]=>True
 | [],_,_ :: _=>False
 | _ :: _,_,[]=>False
 | t :: l,X,u :: l'=>Wz C M t X u/\IsOfs C M l X l'
end
theorem Qp {C M:List Ty}{b:List Ty}{k i:Int}{a:List Tm}{X:List Ty}{u:Ty}:Wz C M (.mk b k i a) X u↔b=u.args/\∃ h,YZ C M (X++b) k i=some h/\h.base=u.base/\IsOfs C M a (X++b) h.args:=by rw[Wz]
theorem WC {C M:List Ty}{X:List Ty}:∀ {l:List Tm} {l':List Ty},IsOfs C M l X l'↔l'.length=l.length/\∀ i (h:i<l.length) (h':i<l'.length),Wz C M l[i] X l'[i]
 | [],[]=>by simp[IsOfs]
 | [],_ :: _=>by simp[IsOfs]
 | _ :: _,[]=>by simp[IsOfs]
 | t :: l,u :: l'=>by
  rw[IsOfs,WC]
  constructor
  ·rintro⟨h1,h2,h3⟩
   refine⟨by simp[h2],λ i h h'=>?_⟩
   cases i with
   | zero=>exact h1
   | succ i=>exact h3 i (by simpa using h) (by simpa using h')
  rintro⟨h1,h2⟩
  exact⟨h2 0 (by simp) (by simp),by simpa using h1,λ i h h'=>h2 (i+1) (by simpa using h) (by simpa using h')⟩
section
variable {C M:List Ty}
end
namespace Nm
variable {C M:List Ty} {B:Nat}
end Nm
namespace Sb
variable {C M:List Ty} {B:Nat}
end Sb
namespace Ru
def ix (m:Int):List Int->Nat
 | []=>0
 | x :: l=>if x=m then 0 else ix m l+1
def met (o:List Int)(m:Int):List Int:=if m∈o then o else o++[m]
mutual
def tr:Tm->List Int->List Int×Tm
 | .mk b k i a,o=>((trs a (if k=2 then met o i else o)).1,.mk b k (if k=2 then (ix i o:Int) else i) (trs a (if k=2 then met o i else o)).2)
def trs:List Tm->List Int->List Int×List Tm
 | [],o=>(o,[])
 | t :: l,o=>((trs l (tr t o).1).1,(tr t o).2 :: (trs l (tr t o).1).2)
end
theorem tr_eq (b:List Ty)(k i:Int)(a:List Tm)(o:List Int):tr (.mk b k i a) o=((trs a (if k=2 then met o i else o)).1,.mk b k (if k=2 then (ix i o:Int) else i) (trs a (if k=2 then met o i else o)).2):=by rw[tr]
theorem met_len (o:List Int)(m:Int):(met o m).length<=o.length+1:=by
 unfold met;split
 ·omega
 simp
theorem trs_grow_of {l:List Tm}(h:∀ t∈l,∀ o,(tr t o).1.length<=o.length+t.full):∀ o,(trs l o).1.length<=o.length+Tm.fulls l:=by
 induction l with
 | nil=>intro o;simp[trs,Tm.fulls]
 | cons t l ih=>
  intro o
  have h1:=h t (by simp) o
  have h2:=ih (λ u hu=>h u (by simp[hu])) (tr t o).1
  rw[trs,Tm.fulls]
  dsimp only
  omega
theorem tr_grow (t:Tm):∀ o,(tr t o).1.length<=o.length+t.full:=by
 induction t using Tm.ind with
 | h b k i a ih=>
  intro o
  have h2:(if k=2 then met o i else o).length<=o.length+1:=by
   split
   ·exact met_len o i
   omega
  rw[tr_eq,Tm.full_eq]
  dsimp only
  generalize (if k=2 then met o i else o)=o1 at h2 ⊢
  have h1:=trs_grow_of ih o1
  omega
def eN:List Int->Nat->List (Int×D)
 | [],_=>[]
 | x :: l,n=>(x,.v (.int .i64 ((n:Nat):Int))) :: eN l (n+1)
@[simp] theorem eN_ok (f g:Nat->Bool):∀ (o:List Int) (n:Nat),D.okm f g (eN o n)=true
 | [],_=>by simp[eN,D.okm]
 | x :: l,n=>by simp[eN,D.okm,D.ok,eN_ok f g l (n+1)]
end Ru
def TRB:List (Nat×TI):=[(106,TG_106),(41,TG_41),(64,TPR_64),(62,TG_62),(3,TG_3),(143,TTY_143)]
theorem VJ:Zd Tryz.prog TRB:=(((((((Zd.nil _).cons Vw).cons ZW).cons Yu).cons Yk).cons Ym).cons Yx)
namespace Ru
open Li (Pr)
def bad (M:List Ty)(x:Int):Bool:=decide (x<0∨(M.length:Int)<=x)
def mt (M:List Ty)(x:Int):Ty:=M.getD x.toNat (.mk [] 0)
def own (p:Pr):Pr×Int:=
 if (tr p.r (tr p.l []).1).1.any (bad p.m) then (.z,10) else (⟨(tr p.l []).2,(tr p.r (tr p.l []).1).2,(tr p.r (tr p.l []).1).1.map (mt p.m)⟩,0)
theorem trs_full_of {l:List Tm}(h:∀ t∈l,∀ o,(tr t o).2.full=t.full):∀ o,Tm.fulls (trs l o).2=Tm.fulls l:=by
 induction l with
 | nil=>intro o;simp[trs]
 | cons t l ih=>
  intro o
  have h1:=h t (by simp) o
  have h2:=ih (λ u hu=>h u (by simp[hu])) (tr t o).1
  rw[trs,Tm.fulls]
  try dsimp only
  rw[Tm.fulls];omega
theorem tr_full (t:Tm):∀ o,(tr t o).2.full=t.full:=by
 induction t using Tm.ind with
 | h b k i a ih=>
  intro o
  rw[tr_eq,Tm.full_eq]
  try dsimp only
  rw[Tm.full_eq,trs_full_of ih]
theorem ix_le (m:Int):∀ o:List Int,ix m o<=o.length
 | []=>Nat.le_refl _
 | x :: l=>by
  rw[ix];split
  ·exact Nat.zero_le _
  have:=ix_le m l;simp;omega
theorem trs_fit_of {l:List Tm}(h:∀ t∈l,∀ o,o.length+t.full<=1000000->t.Fit->(tr t o).2.Fit):∀ o,o.length+Tm.fulls l<=1000000->(∀ t∈l,t.Fit)->∀ u∈(trs l o).2,u.Fit:=by
 induction l with
 | nil=>intro o _ _ u hu;simp[trs] at hu
 | cons t l ih=>
  intro o hz hf u hu
  rw[Tm.fulls] at hz
  have h1:=tr_grow t o
  rw[trs] at hu
  dsimp only at hu
  rcases List.mem_cons.1 hu with rfl | hu
  ·exact h t (by simp) o (by omega) (hf t (by simp))
  exact ih (λ u hu=>h u (by simp[hu])) (tr t o).1 (by omega) (λ u hu=>hf u (by simp[hu])) u hu
theorem tr_fit (t:Tm):∀ o,o.length+t.full<=1000000->t.Fit->(tr t o).2.Fit:=by
 induction t using Tm.ind with
 | h b k i a ih=>
  intro o hz hf
  rw[Tm.full_eq] at hz
  obtain⟨f1,f2,f3⟩:=Tm.fit_iff.1 hf
  have h1:=ix_le i o
  have h2:=met_len o i
  rw[tr_eq]
  try dsimp only
  refine Tm.fit_iff.2 ⟨?_,?_,trs_fit_of ih _ ?_ f3⟩
  ·split <;> omega
  ·split <;> omega
  split <;> omega
end Ru
theorem NS (p q:Li.Pr):Zh Tryz.prog 52 [.ag (WG p),.ag (WG q)] (.v (.bool (decide (p=q)))):=by
 obtain⟨L,R,M⟩:=p
 obtain⟨L',R',M'⟩:=q
 have c1:=Um L L'
 have c2:=Um R R'
 have c3:=Qh M M' 67 rfl
 have e:decide ((⟨L,R,M⟩:Li.Pr)=⟨L',R',M'⟩)=((decide (L=L')&&decide (R=R'))&&decide (M=M')):=by
  rw[Bool.eq_iff_iff];simp[and_assoc]
 rw[e]
 rw[Zu L,Zu L'] at c1
 rw[Zu R,Zu R'] at c2
 rw[T8,T8]
 cases hA:decide (L=L') with
 | false=>
  rw[hA] at c1
  rw[Bool.false_and,Bool.false_and]
  refine Zn 0 24 [ResultVar.tmp 4] VJ Tryz.func52 rfl Tryz.ntmps52 rfl λ cx hnt hn0=>?_
  skip
  refine Zz ?_;refine Zx [] VJ hnt λ _ z9=>z9 _ _ ?_;refine Zz ?_;refine Zx [] VJ hnt λ K hK=>?_;refine Zk (c1) ?_;refine hK _ _ ?_;clear hK K;refine Zv ?_
  exact Zi rfl
 | true=>
  rw[hA] at c1
  cases hB:decide (R=R') with
  | false=>
   rw[hB] at c2
   rw[Bool.and_false,Bool.false_and]
   refine Zn 0 24 [ResultVar.tmp 4] VJ Tryz.func52 rfl Tryz.ntmps52 rfl λ cx hnt hn0=>?_
   skip
   refine Zz ?_;refine Zx [] VJ hnt λ _ z9=>z9 _ _ ?_;refine Zz ?_;refine Zx [] VJ hnt λ K hK=>?_;refine Zk (c1) ?_;refine Zk (c2) ?_;refine hK _ _ ?_;clear hK K;refine Zv ?_
   exact Zi rfl
  | true=>
   rw[hB] at c2
   rw[Bool.and_true,Bool.true_and]
   refine Zn 0 24 [ResultVar.tmp 4] VJ Tryz.func52 rfl Tryz.ntmps52 rfl λ cx hnt hn0=>?_
   skip
   refine Zz ?_;refine Zx [] VJ hnt λ _ z9=>z9 _ _ ?_;refine Zz ?_;refine Zx [] VJ hnt λ K hK=>?_;refine Zk (c1) ?_;refine Zk (c2) ?_;refine Zk (c3) ?_;refine hK _ _ ?_;clear hK K;refine Zv ?_
   exact Zi rfl
namespace Ru
end Ru
namespace Ru
end Ru
namespace Ru
end Ru
namespace Ru
end Ru
section
variable {P:Program} {T:List (Nat×TI)} {cx:Cx} {Fr:Nat->Prop} {m:Mp} {Im:Nat->Nat->Prop} {w w':World} {a:Act} {σ σ':List (Key×D)}
end
section
variable {P:Program} {T:List (Nat×TI)} {cx:Cx} {m:Mp} {Im:Nat->Nat->Prop} {w:World} {a:Act} {σ:List (Key×D)} {ops:Array Oper} {Q:Exit->Act->World->Prop}
end
def GI (p:Tm×Tm):List D:=eTm p.1++eTm p.2
def GJ (l:List (Tm×Tm)):List (List D):=l.map GI
theorem IE (p:Tm×Tm):GI p=[.sl 2 (eTys p.1.binds) none,.v (.int .i64 p.1.kind),.v (.int .i64 p.1.index),.sl 4 (eTms p.1.args) none,.sl 2 (eTys p.2.binds) none,.v (.int .i64 p.2.kind),.v (.int .i64 p.2.index),.sl 4 (eTms p.2.args) none]:=by unfold GI;rw[Zu,Zu];rfl
@[simp] theorem GY (f g:Nat->Bool) (l:List (Tm×Tm)):D.okss f g (GJ l)=true:=D.okss_map _ l λ p _=>by simp[IE,D.oks,D.ok,Y8,Yi]
namespace Pn
end Pn
def mc (i:Int)(l:List Tm):Tm:=.mk [] 1 i l
theorem HH (t:Tm)(h:t.full<=900000):Zh Tryz.prog 31 [.ag (eTm t)] (.ag (eTm t)):=Oz t h
theorem TQ (l:List (Int×Tm))(j:Nat)(h:j<l.length):Z5 (l.take (j+1))=Z5 (l.take j)++[Vp l[j]]:=by
 unfold Z5;rw[List.take_succ_eq_append_getElem h,List.map_append];rfl
set_option maxHeartbeats 1000000 in
theorem HI (l:List (Int×Tm))(hl:l.length<=100000)(hf:∀ p∈l,p.2.full<=900000):Zh Tryz.prog 62 [.sl 5 (Z5 l) none] (.sl 5 (Z5 l) none):=by
 refine ZX 0 27 [ResultVar.tmp 2] VH (by kernel_rfl) Tryz.func62 rfl Tryz.ntmps62 rfl (by simp) ?dwords ?dbody
 case dwords=>simp[ZA,D.ok,D.oks,ZM,YS]
 case dbody=>
  intro cx hnt hn0
  refine Zz ?_;refine Zx [] VH hnt λ _ z9=>z9 _ _ ?_;refine Zz ?_;refine Zx [] VH hnt λ _ z9=>z9 _ _ ?_;refine Zz (Zz ?_);refine Zx [] VH hnt λ _ z9=>z9 _ _ ?_;refine Zt ?_
  refine Z6 (ι:=Nat) (λ j=>(.t 0,.sl 5 (Z5 l) none) :: (.t 4,.v (.int .i64 (j:Int))) :: (.t 3,.sl 5 (Z5 (l.take j)) (some 3)) :: (.r 3,.rw 130 5 (l.take j).length) :: []) 4 (λ j=>l.length-j) 0 (VS.trans (VS.rowT (x:=3) (by rw[hnt];decide) 130 5 rfl) VS.toA) λ j=>?_
  refine Zz (Zz ?_)
  by_cases hlt:j<l.length
  ·have ho:=HH l[j].2 (hf _ (List.getElem_mem hlt))
   rw[Zu] at ho
   have hq:(Z5 l).getD (j:Int).toNat []=[.v (.int .i64 l[j].1),.sl 2 (eTys l[j].2.binds) none,.v (.int .i64 l[j].2.kind),.v (.int .i64 l[j].2.index),.sl 4 (eTms l[j].2.args) none]:=by rw[Int.toNat_natCast,ZP l j hlt,ZG]
   have hb:(0:Int)<=(j:Int)/\(j:Int)<((Z5 l).length:Int):=⟨by omega,by rw[Zf];omega⟩
   refine Zx [(8,.v (.bool true))] VH hnt λ K hK=>?_;refine And.intro (Z7 (by rw[Zf];omega)) ?_;refine hK _ _ ?_;clear hK K;refine Zy (t:=true) rfl ?_;rw[if_pos rfl];refine Zw ?_;refine Zz (Zt ?_);refine ZQ [(14,.q [.v (.int .i64 l[j].1),.sl 2 (eTys l[j].2.binds) none,.v (.int .i64 l[j].2.kind),.v (.int .i64 l[j].2.index),.sl 4 (eTms l[j].2.args) none]),(19,.q [.v (.int .i64 l[j].1),.sl 2 (eTys l[j].2.binds) none,.v (.int .i64 l[j].2.kind),.v (.int .i64 l[j].2.index),.sl 4 (eTms l[j].2.args) none]),(25,.sl 5 (Z5 (l.take (j+1))) (some 3))] VH hnt λ K hK=>?_
   refine And.intro (hb) ?_;refine And.intro (Zm.of_eq (by rw[hq])) ?_;refine And.intro (hb) ?_;refine And.intro (Zm.of_eq (by rw[hq])) ?_;refine Zk (ho) ?_;refine And.intro (⟨by rw[Zf],by rw[Zf,List.length_take];simp;omega⟩) ?_;refine And.intro (Zm.of_eq (by rw[TQ l j hlt,ZG])) ?_;refine hK _ _ (by kernel_rfl) ?_;clear hK K;refine Zx [(10,.v (.int .i64 ((j+1:Nat):Int)))] VH hnt λ K hK=>?_
   refine And.intro (Zr (by rw[IntWalk.i64_in _ (by omega)];omega)) ?_;refine hK _ _ ?_;clear hK K
   have hl2:(l.take (j+1)).length=j+1:=by rw[List.length_take];omega
   have hl3:(Z5 (l.take j)).length=j:=by rw[Zf,List.length_take];omega
   refine⟨j+1,by omega,?_⟩
   rw[hl2]
   exact(by try simp only[List.length_append,List.length_take,List.length_cons,List.length_nil,Nat.zero_add,hl3];exact VS.toA)
  skip
  refine Zx [(8,.v (.bool false))] VH hnt λ K hK=>?_;refine And.intro (Ze (by rw[Zf];omega)) ?_;refine hK _ _ ?_;clear hK K;refine Zy (t:=false) rfl ?_;rw[if_neg (by simp)];refine Zg ?_;refine Zz ?_
  rw[List.take_of_length_le (by omega)]
  refine Zx [] VH hnt λ _ z9=>z9 _ _ ?_;refine Zv ?_
  exact Yd (N:=0) (.inr rfl) rfl (by repeat first | exact Zm.refl _ | exact Zm.nil _ | exact Zm.untag _ _ _ | refine Zm.ag ?_ | refine Zm.tu ?_ | refine ZO.cons ?_ ?_ | exact ZO.nil) trivial
def TL10:List (Nat×TI):=[(3,TG_3),(72,TL9_72),(130,TL9_130),(31,TTM_31),(29,TTM_29),(84,TS1_84),(110,TS1_110)]
theorem Y3:Zd Tryz.prog TL10:=((((((((Zd.nil _).cons YG).cons Xb).cons Y5).cons Yl).cons XJ).cons Wm).cons ZW)
theorem HZ (t:Tm)(h:t.full<=900000):Zh Tryz.prog 27 [.ag (eTm t)] (.ag (eTm t)):=PM t h
set_option maxHeartbeats 1000000 in
theorem H9 (l:List (Int×Tm))(hl:l.length<=9223372036854775807)(hf:∀ p∈l.take 10,p.2.full<=900000):Zh Tryz.prog 55 [.sl 5 (Z5 l) none] (.sl 5 (Z5 (l.take 10)) none):=by
 refine ZX 0 31 [ResultVar.tmp 2] Y3 (by kernel_rfl) Tryz.func55 rfl Tryz.ntmps55 rfl (by simp) ?dwords ?dbody
 case dwords=>simp[ZA,D.ok,D.oks,ZM,YS]
 case dbody=>
  intro cx hnt hn0
  refine Zz ?_;refine Zx [] Y3 hnt λ _ z9=>z9 _ _ ?_;refine Zz ?_;refine Zx [] Y3 hnt λ _ z9=>z9 _ _ ?_;refine Zz (Zz ?_);refine Zx [] Y3 hnt λ _ z9=>z9 _ _ ?_;refine Zt ?_
  refine Z6 (ι:={ j:Nat // j<=10 }) (λ j=>(.t 0,.sl 5 (Z5 l) none) :: (.t 4,.v (.int .i64 (j.1:Int))) :: (.t 3,.sl 5 (Z5 (l.take j.1)) (some 3)) :: (.r 3,.rw 110 5 (l.take j.1).length) :: []) 4 (λ j=>l.length-j.1) ⟨0,by decide⟩ (VS.trans (VS.rowT (x:=3) (by rw[hnt];decide) 110 5 rfl) VS.toA) λ j=>?_
  obtain⟨j,hj⟩:=j
  dsimp only
  refine Zz (Zz ?_)
  have end_:¬ (j<l.length/\j<10)->l.take j=l.take 10:=λ h=>by
   by_cases h1:j<10
   ·have:l.length<=j:=by omega
    rw[List.take_of_length_le this,List.take_of_length_le (by omega)]
   rw[show j=10 by omega]
  by_cases hlt:j<l.length
  ·by_cases h10:j<10
   ·have hjt:l[j]∈l.take 10:=by
     have:j<(l.take 10).length:=by rw[List.length_take];omega
     have h2:(l.take 10)[j]=l[j]:=by simp
     rw[<-h2];exact List.getElem_mem this
    have ho:=HZ l[j].2 (hf _ hjt)
    rw[Zu] at ho
    have hq:(Z5 l).getD (j:Int).toNat []=[.v (.int .i64 l[j].1),.sl 2 (eTys l[j].2.binds) none,.v (.int .i64 l[j].2.kind),.v (.int .i64 l[j].2.index),.sl 4 (eTms l[j].2.args) none]:=by rw[Int.toNat_natCast,ZP l j hlt,ZG]
    have hb:(0:Int)<=(j:Int)/\(j:Int)<((Z5 l).length:Int):=⟨by omega,by rw[Zf];omega⟩
    refine Zx [(8,.v (.bool true)),(11,.v (.bool true))] Y3 hnt λ K hK=>?_;refine And.intro (Z7 (by rw[Zf];omega)) ?_;refine And.intro (Z7 (by omega)) ?_;refine hK _ _ ?_;clear hK K;refine Zy (t:=true) rfl ?_;rw[if_pos rfl];refine Zw ?_;refine Zz (Zt ?_);refine ZQ [(18,.q [.v (.int .i64 l[j].1),.sl 2 (eTys l[j].2.binds) none,.v (.int .i64 l[j].2.kind),.v (.int .i64 l[j].2.index),.sl 4 (eTms l[j].2.args) none]),(23,.q [.v (.int .i64 l[j].1),.sl 2 (eTys l[j].2.binds) none,.v (.int .i64 l[j].2.kind),.v (.int .i64 l[j].2.index),.sl 4 (eTms l[j].2.args) none]),(29,.sl 5 (Z5 (l.take (j+1))) (some 3))] Y3 hnt λ K hK=>?_
    refine And.intro (hb) ?_;refine And.intro (Zm.of_eq (by rw[hq])) ?_;refine And.intro (hb) ?_;refine And.intro (Zm.of_eq (by rw[hq])) ?_;refine Zk (ho) ?_;refine And.intro (⟨by rw[Zf],by rw[Zf,List.length_take];simp;omega⟩) ?_;refine And.intro (Zm.of_eq (by rw[TQ l j hlt,ZG])) ?_;refine hK _ _ (by kernel_rfl) ?_;clear hK K;refine Zx [(14,.v (.int .i64 ((j+1:Nat):Int)))] Y3 hnt λ K hK=>?_
    refine And.intro (Zr (by rw[IntWalk.i64_in _ (by omega)];omega)) ?_;refine hK _ _ ?_;clear hK K
    have hl2:(l.take (j+1)).length=j+1:=by rw[List.length_take];omega
    have hl3:(Z5 (l.take j)).length=j:=by rw[Zf,List.length_take];omega
    refine⟨⟨j+1,by omega⟩,by dsimp only;omega,?_⟩
    rw[hl2]
    exact(by try simp only[List.length_append,List.length_take,List.length_cons,List.length_nil,Nat.zero_add,hl3];exact VS.toA)
   ·skip
    refine Zx [(8,.v (.bool true)),(11,.v (.bool false))] Y3 hnt λ K hK=>?_;refine And.intro (Z7 (by rw[Zf];omega)) ?_;refine And.intro (Ze (by omega)) ?_;refine hK _ _ ?_;clear hK K;refine Zy (t:=false) rfl ?_;rw[if_neg (by simp)];refine Zg ?_;refine Zz ?_
    rw[end_ (λ h=>h10 h.2)]
    refine Zx [] Y3 hnt λ _ z9=>z9 _ _ ?_;refine Zv ?_
    exact Yd (N:=0) (.inr rfl) rfl (by repeat first | exact Zm.refl _ | exact Zm.nil _ | exact Zm.untag _ _ _ | refine Zm.ag ?_ | refine Zm.tu ?_ | refine ZO.cons ?_ ?_ | exact ZO.nil) trivial
  skip
  refine Zx [(8,.v (.bool false))] Y3 hnt λ K hK=>?_;refine And.intro (Ze (by rw[Zf];omega)) ?_;refine hK _ _ ?_;clear hK K;refine Zy (t:=false) rfl ?_;rw[if_neg (by simp)];refine Zg ?_;refine Zz ?_
  rw[end_ (λ h=>hlt h.1)]
  refine Zx [] Y3 hnt λ _ z9=>z9 _ _ ?_;refine Zv ?_
  exact Yd (N:=0) (.inr rfl) rfl (by repeat first | exact Zm.refl _ | exact Zm.nil _ | exact Zm.untag _ _ _ | refine Zm.ag ?_ | refine Zm.tu ?_ | refine ZO.cons ?_ ?_ | exact ZO.nil) trivial
def Qi (l:List (Int×Tm)):Bool:=(l.take 10).all λ p=>Uz p.2&&Qs p.2
set_option maxHeartbeats 1000000 in
theorem IN (l:List (Int×Tm))(hl:l.length<=9223372036854775807)(hw:∀ p∈l.take 10,Uz p.2=true->Yv p.2):Zh Tryz.prog 54 [.sl 5 (Z5 l) none] (.v (.bool (Qi l))):=by
 refine ZX 0 32 [ResultVar.tmp 2] Y3 (by kernel_rfl) Tryz.func54 rfl Tryz.ntmps54 rfl (by simp) ?dwords ?dbody
 case dwords=>simp[ZA,D.ok,D.oks,ZM,YS]
 case dbody=>
  intro cx hnt hn0
  refine Zz ?_;refine Zx [] Y3 hnt λ _ z9=>z9 _ _ ?_;refine Zz (Zz ?_);refine Zx [] Y3 hnt λ _ z9=>z9 _ _ ?_;refine Zt ?_
  refine Z6 (ι:={ j:Nat // j<=10/\∀ i (h:i<l.length),i<j->(Uz l[i].2&&Qs l[i].2)=true }) (λ j=>[(.t 0,.sl 5 (Z5 l) none),(.t 3,.v (.int .i64 (j.1:Int)))]) 1 (λ j=>l.length-j.1) ⟨0,by decide,λ i h1 h2=>by omega⟩ VS.toA λ j=>?_
  obtain⟨j,hj10,hj⟩:=j
  dsimp only
  refine Zz (Zz ?_)
  have end_:¬ (j<l.length/\j<10)->Qi l=true:=λ h=>by
   unfold Qi
   rw[List.all_eq_true]
   intro p hp
   obtain⟨i,hi,rfl⟩:=List.getElem_of_mem hp
   rw[List.length_take] at hi
   have:=hj i (by omega) (by omega)
   simpa using this
  by_cases hlt:j<l.length
  ·by_cases h10:j<10
   ·have hjt:l[j]∈l.take 10:=by
     have:j<(l.take 10).length:=by rw[List.length_take];omega
     have h2:(l.take 10)[j]=l[j]:=by simp
     rw[<-h2];exact List.getElem_mem this
    have hF:=S0 [l[j].2] (by simp)
    have hq:(Z5 l).getD (j:Int).toNat []=[.v (.int .i64 l[j].1),.sl 2 (eTys l[j].2.binds) none,.v (.int .i64 l[j].2.kind),.v (.int .i64 l[j].2.index),.sl 4 (eTms l[j].2.args) none]:=by rw[Int.toNat_natCast,ZP l j hlt,ZG]
    have hb:(0:Int)<=(j:Int)/\(j:Int)<((Z5 l).length:Int):=⟨by omega,by rw[Zf];omega⟩
    have hs:∀ g,Zm (.sl 4 [[.sl 2 (eTys l[j].2.binds) none,.v (.int .i64 l[j].2.kind),.v (.int .i64 l[j].2.index),.sl 4 (eTms l[j].2.args) none]] g) (.sl 4 (eTms [l[j].2]) none):=λ g=>by
     rw[eTms,eTms,Zu];exact Zm.untag _ _ _
    refine Zx [(7,.v (.bool true)),(10,.v (.bool true))] Y3 hnt λ K hK=>?_;refine And.intro (Z7 (by rw[Zf];omega)) ?_;refine And.intro (Z7 (by omega)) ?_;refine hK _ _ ?_;clear hK K;refine Zy (t:=true) rfl ?_;rw[if_pos rfl];refine Zw ?_;refine Zz (Zt (Zz ?_))
    cases hf:Uz l[j].2 with
    | false=>
     have hn:Qi l=false:=by
      unfold Qi;rw[List.all_eq_false];exact⟨l[j],hjt,by rw[hf];simp⟩
     rw[hn]
     simp only[List.all_cons,List.all_nil,Bool.and_true,hf] at hF
     refine Zx [(16,.q [.v (.int .i64 l[j].1),.sl 2 (eTys l[j].2.binds) none,.v (.int .i64 l[j].2.kind),.v (.int .i64 l[j].2.index),.sl 4 (eTms l[j].2.args) none]),(19,.sl 4 (eTms [l[j].2]) none)] Y3 hnt λ K hK=>?_;refine And.intro (hb) ?_;refine And.intro (Zm.of_eq (by rw[hq])) ?_;refine And.intro (hs _) ?_;refine Zk (hF) ?_;refine hK _ _ ?_;clear hK K;refine Zy (t:=true) rfl ?_
     rw[if_pos rfl];refine Zz ?_;refine Zx [] Y3 hnt λ _ z9=>z9 _ _ ?_;refine Zv ?_
     exact Yd (N:=0) (.inr rfl) rfl (Zm.refl _) trivial
    | true=>
     have hL:=JK [l[j].2] (by simp) (λ t ht=>by simp at ht;subst ht;exact hw _ hjt hf)
     simp only[List.all_cons,List.all_nil,Bool.and_true,hf] at hF
     simp only[lowsB,Bool.and_true] at hL
     cases hlo:Qs l[j].2 with
     | false=>
      have hn:Qi l=false:=by
       unfold Qi;rw[List.all_eq_false];exact⟨l[j],hjt,by rw[hlo];simp⟩
      rw[hn]
      rw[hlo] at hL
      refine Zx [(16,.q [.v (.int .i64 l[j].1),.sl 2 (eTys l[j].2.binds) none,.v (.int .i64 l[j].2.kind),.v (.int .i64 l[j].2.index),.sl 4 (eTms l[j].2.args) none]),(19,.sl 4 (eTms [l[j].2]) none),(25,.q [.v (.int .i64 l[j].1),.sl 2 (eTys l[j].2.binds) none,.v (.int .i64 l[j].2.kind),.v (.int .i64 l[j].2.index),.sl 4 (eTms l[j].2.args) none]),(28,.sl 4 (eTms [l[j].2]) none)] Y3 hnt λ K hK=>?_
      refine And.intro (hb) ?_;refine And.intro (Zm.of_eq (by rw[hq])) ?_;refine And.intro (hs _) ?_;refine Zk (hF) ?_;refine And.intro (hb) ?_;refine And.intro (Zm.of_eq (by rw[hq])) ?_;refine And.intro (hs _) ?_;refine Zk (hL) ?_;refine hK _ _ ?_;clear hK K;refine Zy (t:=true) rfl ?_;rw[if_pos rfl];refine Zz ?_;refine Zx [] Y3 hnt λ _ z9=>z9 _ _ ?_
      refine Zv ?_
      exact Yd (N:=0) (.inr rfl) rfl (Zm.refl _) trivial
     | true=>
      rw[hlo] at hL
      refine Zx [(16,.q [.v (.int .i64 l[j].1),.sl 2 (eTys l[j].2.binds) none,.v (.int .i64 l[j].2.kind),.v (.int .i64 l[j].2.index),.sl 4 (eTms l[j].2.args) none]),(19,.sl 4 (eTms [l[j].2]) none),(25,.q [.v (.int .i64 l[j].1),.sl 2 (eTys l[j].2.binds) none,.v (.int .i64 l[j].2.kind),.v (.int .i64 l[j].2.index),.sl 4 (eTms l[j].2.args) none]),(28,.sl 4 (eTms [l[j].2]) none)] Y3 hnt λ K hK=>?_
      refine And.intro (hb) ?_;refine And.intro (Zm.of_eq (by rw[hq])) ?_;refine And.intro (hs _) ?_;refine Zk (hF) ?_;refine And.intro (hb) ?_;refine And.intro (Zm.of_eq (by rw[hq])) ?_;refine And.intro (hs _) ?_;refine Zk (hL) ?_;refine hK _ _ ?_;clear hK K;refine Zy (t:=false) rfl ?_;rw[if_neg (by simp)];refine Zw ?_;refine Zx [(13,.v (.int .i64 ((j+1:Nat):Int)))] Y3 hnt λ K hK=>?_
      refine And.intro (Zr (by rw[IntWalk.i64_in _ (by omega)];omega)) ?_;refine hK _ _ ?_;clear hK K
      refine⟨⟨j+1,by omega,λ i h1 h2=>?_⟩,by dsimp only;omega,VS.toA⟩
      by_cases he:i=j
      ·subst he;rw[hf,hlo];rfl
      exact hj i h1 (by omega)
   ·rw[end_ (λ h=>h10 h.2)]
    refine Zx [(7,.v (.bool true)),(10,.v (.bool false))] Y3 hnt λ K hK=>?_;refine And.intro (Z7 (by rw[Zf];omega)) ?_;refine And.intro (Ze (by omega)) ?_;refine hK _ _ ?_;clear hK K;refine Zy (t:=false) rfl ?_;rw[if_neg (by simp)];refine Zg ?_;refine Zz ?_;refine Zx [] Y3 hnt λ _ z9=>z9 _ _ ?_;refine Zv ?_
    exact Yd (N:=0) (.inr rfl) rfl (Zm.refl _) trivial
  rw[end_ (λ h=>hlt h.1)]
  refine Zx [(7,.v (.bool false))] Y3 hnt λ K hK=>?_;refine And.intro (Ze (by rw[Zf];omega)) ?_;refine hK _ _ ?_;clear hK K;refine Zy (t:=false) rfl ?_;rw[if_neg (by simp)];refine Zg ?_;refine Zz ?_;refine Zx [] Y3 hnt λ _ z9=>z9 _ _ ?_;refine Zv ?_
  exact Yd (N:=0) (.inr rfl) rfl (Zm.refl _) trivial
def TSQ:List (Nat×TI):=[(110,TS1_110),(3,TG_3),(71,TTY_71),(84,TS1_84)]
theorem Vk:Zd Tryz.prog TSQ:=(((((Zd.nil _).cons Xb).cons YV).cons ZW).cons YG)
theorem Kv (l:List (Int×Tm))(hl:l.length<=900000):Zh Tryz.prog 139 [.sl 5 (Z5 l) none] (.sl 1 (YJ (l.map (·.1))) none):=by
 refine Zn 0 19 [ResultVar.tmp 2] Vk Tryz.func139 rfl Tryz.ntmps139 rfl λ cx hnt hn0=>?_
 skip
 refine Zz ?_;refine Zx [] Vk hnt λ _ z9=>z9 _ _ ?_
 refine Wi (τ:=[(.t 0,.sl 5 (Z5 l) none),(.t 3,.v (.slice none 0 0))]) (N1:=0) ?_ ?_
 ·skip
  refine Zx [] Vk hnt λ _ z9=>z9 _ _ ?_
  exact Y4 (VS.toK (by omega) (by repeat first | exact trivial | refine And.intro (And.intro (by first | rfl | simp[D.ok,D.oks,D.okss,D.okm,Xi,X7,YQ]) (by first | exact Or.inl rfl | exact Or.inr ⟨_,rfl,(by repeat first | exact Zm.refl _ | exact Zm.nil _ | exact Zm.untag _ _ _ | refine Zm.ag ?_ | refine Zm.tu ?_ | refine ZO.cons ?_ ?_ | exact ZO.nil),trivial⟩ | simp[get,Key.eq,YQ])) ?_))
 refine DW.vs (VS.rowT (x:=3) (by rw[hnt];decide) 3 1 rfl) ?_
 refine Zz ?_;refine Zz ?_;refine Zx [(7,.v (.int .i64 (↑l.length)))] Vk hnt λ K hK=>?_;refine And.intro (Zr (by rw[Zf])) ?_;refine hK _ _ ?_;clear hK K;refine Zt ?_
 refine Z6 (ι:={ k:Nat // k<=l.length }) (λ k=>[(.t 3,.sl 1 (YJ ((l.take k.1).map (·.1))) (some 0)),(.t 6,.sl 5 (Z5 l) none),(.t 7,.v (.int .i64 ↑l.length)),(.t 8,.v (.int .i64 ↑k.1)),(.r 0,.rw 3 1 k.1)]) 1 (λ k=>l.length-k.1) (⟨0,Nat.zero_le _⟩) ((VS.toK (by omega) (by repeat first | exact trivial | refine And.intro (And.intro (by first | rfl | simp[D.ok,D.oks,D.okss,D.okm,Xi,X7,YQ]) (by first | exact Or.inl rfl | exact Or.inr ⟨_,rfl,(by repeat first | exact Zm.refl _ | exact Zm.nil _ | exact Zm.untag _ _ _ | refine Zm.ag ?_ | refine Zm.tu ?_ | refine ZO.cons ?_ ?_ | exact ZO.nil),trivial⟩ | simp[get,Key.eq,YQ])) ?_))) λ k=>?_
 obtain⟨k,hk⟩:=k
 dsimp only
 by_cases hlt:k<l.length
 ·have htk:YJ ((l.take k).map (·.1))++[[.v (.int .i64 l[k].1)]]=YJ ((l.take (k+1)).map (·.1)):=by
   rw[List.take_add_one,List.getElem?_eq_getElem hlt,Option.toList_some,List.map_append,Vx];rfl
  have hle:(YJ ((l.take k).map (·.1))).length=k:=by rw[Zb];simp;omega
  have hle2:(YJ ((l.take (k+1)).map (·.1))).length=k+1:=by rw[Zb];simp;omega
  refine Zz ?_;refine Zx [(9,.v (.bool true))] Vk hnt λ K hK=>?_;refine And.intro Xd ?_;refine hK _ _ ?_;clear hK K;refine Zz ?_;refine Zy (t:=true) rfl ?_;rw[if_pos rfl];refine Zw ?_;refine Zz ?_;refine Zt ?_;refine Zz ?_;refine Zx [(10,.q [.v (.int .i64 l[k].1),.sl 2 (eTys l[k].2.binds) none,.v (.int .i64 l[k].2.kind),.v (.int .i64 l[k].2.index),.sl 4 (eTms l[k].2.args) none])] Vk hnt λ K hK=>?_
  refine And.intro (XQ (Zf l)) ?_;refine And.intro (XR (ZP l k) (ZG _)) ?_;refine hK _ _ ?_;clear hK K;refine Zx [] Vk hnt λ K hK=>?_;refine And.intro (⟨by omega,by rw[hle];simp;omega⟩) ?_;refine hK _ _ ?_;clear hK K
  rw[htk,hle2]
  refine Zx [(17,.v (.int .i64 (↑(k+1))))] Vk hnt λ K hK=>?_;refine And.intro Ww ?_;refine hK _ _ ?_;clear hK K
  refine⟨⟨k+1,by omega⟩,by first | omega | (dsimp only;omega),VS.toA⟩
 ·rw[List.take_of_length_le (by omega)]
  refine Zz ?_;refine Zx [(9,.v (.bool false))] Vk hnt λ K hK=>?_;refine And.intro X5 ?_;refine hK _ _ ?_;clear hK K;refine Zz ?_;refine Zy (t:=false) rfl ?_;rw[if_neg (by simp)];refine Zg ?_;refine Zz ?_;refine Zx [] Vk hnt λ _ z9=>z9 _ _ ?_;refine Zv ?_
  exact Zi rfl
def LL (l:List (Int×Tm))(m:Int):Option (Int×Tm):=(Xf m l).bind λ i=>l[i]?
def Qn (l:List (Int×Tm))(m:Int):Tm×Bool:=match LL l m with
 | some p=>(p.2,true)
 | none=>(.mk [] 0 0 [],false)
def TSR:List (Nat×TI):=[(31,TTM_31),(3,TG_3),(72,TL9_72),(130,TL9_130)]
theorem Vv:Zd Tryz.prog TSR:=(((((Zd.nil _).cons XJ).cons Wm).cons ZW).cons Yl)
theorem Io (l:List (Int×Tm))(hl:l.length<=900000)(m:Int):Zh Tryz.prog 115 [.sl 5 (Z5 l) none,.v (.int .i64 m)] (.tu [.ag (eTm (Qn l m).1),.v (.bool (Qn l m).2)]):=by
 refine Zn 0 26 [ResultVar.cell 4 31,ResultVar.tmp 5] Vv Tryz.func115 rfl Tryz.ntmps115 rfl λ cx hnt hn0=>?_
 skip
 refine Zz ?_;refine Zx [] Vv hnt λ _ z9=>z9 _ _ ?_;refine Zz ?_;refine Zz ?_;refine Zx [] Vv hnt λ _ z9=>z9 _ _ ?_;refine Zt ?_
 refine Z6 (ι:={ j:Nat // ∀ i (h:i<l.length),i<j->l[i].1≠m }) (λ j=>[(.t 0,.sl 5 (Z5 l) none),(.t 1,.v (.int .i64 m)),(.t 4,.p 0 0),(.t 6,.v (.int .i64 ↑j.1)),(.c 0 0,.v (.slice none 0 0)),(.c 0 1,.v (.int .i64 0)),(.c 0 2,.v (.int .i64 0)),(.c 0 3,.v (.slice none 0 0))]) 1 (λ j=>l.length-j.1) (⟨0,λ i h1 h2=>by omega⟩) ((VS.toK (by omega) (by repeat first | exact trivial | refine And.intro (And.intro (by first | rfl | simp[D.ok,D.oks,D.okss,D.okm,Xi,X7,YQ]) (by first | exact Or.inl rfl | exact Or.inr ⟨_,rfl,(by repeat first | exact Zm.refl _ | exact Zm.nil _ | exact Zm.untag _ _ _ | refine Zm.ag ?_ | refine Zm.tu ?_ | refine ZO.cons ?_ ?_ | exact ZO.nil),trivial⟩ | simp[get,Key.eq,YQ])) ?_))) λ j=>?_
 obtain⟨j,hj⟩:=j
 dsimp only
 by_cases hlt:j<l.length
 ·by_cases hm:l[j].1=m
  ·have hi:Xf m l=some j:=US hlt hm λ k hk=>hj k (by omega) hk
   have e:Qn l m=(l[j].2,true):=by unfold Qn LL;rw[hi,Option.bind_some,List.getElem?_eq_getElem hlt]
   rw[e,Zu]
   refine Zz ?_;refine Zz ?_;refine Zx [(9,.v (.int .i64 (↑l.length))),(10,.v (.bool true))] Vv hnt λ K hK=>?_;refine And.intro (Zr (by rw[Zf])) ?_;refine And.intro Xd ?_;refine hK _ _ ?_;clear hK K;refine Zy (t:=true) rfl ?_;rw[if_pos rfl];refine Zw ?_;refine Zz ?_;refine Zt ?_;refine Zz ?_;refine Zx [(15,.q [.v (.int .i64 l[j].1),.sl 2 (eTys l[j].2.binds) none,.v (.int .i64 l[j].2.kind),.v (.int .i64 l[j].2.index),.sl 4 (eTms l[j].2.args) none]),(19,.v (.bool true))] Vv hnt λ K hK=>?_
   refine And.intro (XQ (Zf l)) ?_;refine And.intro (XR (ZP l j) (ZG _)) ?_;refine And.intro (YT hm) ?_;refine hK _ _ ?_;clear hK K;refine Zy (t:=true) rfl ?_;rw[if_pos rfl];refine Zz ?_;refine Zx [(22,.q [.v (.int .i64 l[j].1),.sl 2 (eTys l[j].2.binds) none,.v (.int .i64 l[j].2.kind),.v (.int .i64 l[j].2.index),.sl 4 (eTms l[j].2.args) none])] Vv hnt λ K hK=>?_
   refine And.intro (XQ (Zf l)) ?_;refine And.intro (XR (ZP l j) (ZG _)) ?_;refine hK _ _ ?_;clear hK K;refine Zv ?_
   exact Zi rfl
  have hj':∀ i (h:i<l.length),i<j+1->l[i].1≠m:=λ i h1 h2=>by
   rcases Nat.lt_or_ge i j with h | h
   ·exact hj i h1 h
   have:i=j:=by omega
   subst this;exact hm
  refine Zz ?_;refine Zz ?_;refine Zx [(9,.v (.int .i64 (↑l.length))),(10,.v (.bool true))] Vv hnt λ K hK=>?_;refine And.intro (Zr (by rw[Zf])) ?_;refine And.intro Xd ?_;refine hK _ _ ?_;clear hK K;refine Zy (t:=true) rfl ?_;rw[if_pos rfl];refine Zw ?_;refine Zz ?_;refine Zt ?_;refine Zz ?_;refine Zx [(15,.q [.v (.int .i64 l[j].1),.sl 2 (eTys l[j].2.binds) none,.v (.int .i64 l[j].2.kind),.v (.int .i64 l[j].2.index),.sl 4 (eTms l[j].2.args) none]),(19,.v (.bool false))] Vv hnt λ K hK=>?_
  refine And.intro (XQ (Zf l)) ?_;refine And.intro (XR (ZP l j) (ZG _)) ?_;refine And.intro (XM hm) ?_;refine hK _ _ ?_;clear hK K;refine Zy (t:=false) rfl ?_;rw[if_neg (by simp)];refine Zw ?_;refine Zx [(12,.v (.int .i64 (↑(j+1))))] Vv hnt λ K hK=>?_;refine And.intro Ww ?_;refine hK _ _ ?_;clear hK K
  refine⟨⟨j+1,hj'⟩,by first | omega | (dsimp only;omega),VS.toA⟩
 have hi:Xf m l=none:=UR λ k hk=>hj k hk (by omega)
 have e:Qn l m=(.mk [] 0 0 [],false):=by unfold Qn LL;rw[hi];rfl
 rw[e,Zu]
 dsimp only[Tm.binds,Tm.kind,Tm.index,Tm.args,eTys,eTms]
 refine Zz ?_;refine Zz ?_;refine Zx [(9,.v (.int .i64 (↑l.length))),(10,.v (.bool false))] Vv hnt λ K hK=>?_;refine And.intro (Zr (by rw[Zf])) ?_;refine And.intro X5 ?_;refine hK _ _ ?_;clear hK K;refine Zy (t:=false) rfl ?_;rw[if_neg (by simp)];refine Zg ?_;refine Zz ?_;refine Zx [] Vv hnt λ _ z9=>z9 _ _ ?_
 refine Zv ?_
 exact Zi rfl
/-! the example -/
namespace Li
def kA:Ty:=.mk [] 0
def kB:Tm:=.mk [] 0 0 []
def kP:Pr:=⟨.mk [kA] 1 0 [.mk [] 2 0 [kB]],.mk [kA] 2 0 [kB],[.mk [kA] 0]⟩
end Li
/-! the law -/
theorem UX {l:List Ty}{n:Nat}(h:∀ t∈l,t.size<=n):Ty.sizes l<=l.length * n:=by
 induction l with
 | nil=>simp[Ty.sizes]
 | cons t l ih=>
  have h1:=h t (by simp)
  have h2:=ih λ u hu=>h u (by simp[hu])
  rw[Ty.sizes,List.length_cons,Nat.add_mul];omega
namespace Li
end Li
namespace Pn
end Pn
end Go.Proofs.YtclihnccilkohaaGreat
