/-
  A rule in its own numbers is a rule, in plain Lean. A typed pair in its own numbers: typed, a rule just where the pair is one; plain. subst.Apply, walked in the deep way. The known answer of the laws of layer 9. rule.Instance, walked in the deep way. What the law SubstKeeps asks of the plain model: one substitution behind the other, as subst.Compose makes it. Variables' long forms put for variables are a renaming, without errors; what is put twice; plain. Long forms and shifted terms are well typed: the plain law. Lifted terms are typed, and patterns stay patterns: the plain law of LiftKeeps. What a substitution, closed, makes of a term that is lifted, without errors; plain. What is asked of the forms on the way of subst.Apply, where the terms' own binders are large; plain. LiftOvers, walked in the deep way. Swap of rule and of the document. Orders: rule's and the document's. kind.Compare. term.all: which of two lists is less. term.Compare. RuleOrders, walked in the deep way. LiftKeeps: what the law asks, in plain words; the pair's types by the program alone. A pattern matches what a substitution made of it: by the pattern; plain. The document's lists of pairs, walked in the deep way: Sorted and Without hand back rows of their own; Like. The document's matching, walked in the deep way: rigid, All. The document's matching, walked in the deep way: several at once. MatchAlls, walked in the deep way. Variants and what is more general, walked in the deep way; MatchOrders. match.Find in plain words, and the document's answer for it. What the law MatchSound asks of the plain model. What the law MatchBack asks of the plain model. What the law LiftImages asks of the plain model. Loops over an iterator that hands out what it has just made. A region that draws its order where several operations can come up. A region that draws its order, walked outside any fence, is taken into the fence that asks nothing, in a round of a loop or not. spot.Each: all places, each handed out as copies that have just been made. spot.Each as an iterator; match.Find. match.Find: the first place where a pattern matches. The law MatchFinds. spot.At, walked in the deep way. RuleChecks, walked in the deep way. rule.Typed alone. The law RuleKeeps. The law MatchSound. subst.Check, by the deep walks of package term. The law LiftImages.
-/
import Derived.Test.YtflbnonbfmmchaaGreatRowLiftImagesp9
import Derived.Test.YtflbnonbfmmchaaGreatRowLiftImagesp7
import Derived.Test.YtflbnonbfmmchaaGreatRowLiftImagesp1
import Derived.Test.YtflbnonbfmmchaaGreatRowLiftImagesp8
import Derived.Test.YtflbnonbfmmchaaGreatRowLiftImagesp5
import Derived.Test.YtflbnonbfmmchaaGreatRowLiftImagesp4
import Derived.RegionTactic
import Derived.OrdersIn
import Derived.RangeFuncCalls
set_option maxRecDepth 100000
set_option maxHeartbeats 1000000
set_option linter.unusedVariables false
set_option linter.unusedSimpArgs false
namespace Go.Proofs.YtflbnonbfmmchaaGreat
open Go.RowKit
namespace Ru
/-! metavariables -/
mutual
def AllIn (o:List Int):Tm→Prop
 | .mk _ k i a=>(k=2→i∈o)∧AllIns o a
def AllIns (o:List Int):List Tm→Prop
 | []=>True
 | t :: l=>AllIn o t∧AllIns o l
end
/-! typed -/
variable {C M:List Ty} {o:List Int}
/-! patterns -/
mutual
def K0:Tm→Prop
 | .mk _ k _ a=>k≠2∧K0s a
def K0s:List Tm→Prop
 | []=>True
 | t :: l=>K0 t∧K0s l
end
theorem k0_eq (b:List Ty)(k i:Int)(a:List Tm):K0 (.mk b k i a)↔k≠2∧K0s a:=by rw[K0]
theorem etas_k0_of {l:List Ty}(h:∀ t∈l,∀ i,K0 (Ty.eta t 0 i)):K0s (Ty.etas l):=by
 induction l with
 | nil=>simp[Ty.etas,K0s]
 | cons t l ih=>
  rw[Ty.etas,K0s]
  exact⟨h t (by simp) _,ih fun u hu=>h u (by simp[hu])⟩
theorem eta_k0 (t:Ty):∀ i,K0 (Ty.eta t 0 i):=by
 induction t using Ty.ind with
 | h l b ih=>
  intro i
  rw[Ty.eta_eq,k0_eq]
  exact⟨by decide,etas_k0_of ih⟩
/-! which metavariables -/
def g (f:List Int)(x:Int):Int:=if x∈f then (ix x f:Int) else x
theorem metasP_app (a b:List (Nat×Nat×Tm)):metasP (a++b)=metasP a++metasP b:=List.filterMap_append ..
end Ru
end Go.Proofs.YtflbnonbfmmchaaGreat
namespace Go.Proofs.YtflbnonbfmmchaaGreat
open Go.RowKit
namespace Ru
variable {C M:List Ty}
end Ru
def swR (kw kb:Nat)(l:List (Int×Tm))(s:Nm.St):List (Key×D):=[(.c kw 0,.o kb),(.c kw 1,.sl 5 (ePairs l) none),(.c kw 2,.v (.int .i64 s.e)),(.o kb,.ob (BudJ s.left s.dry))]
theorem sthr_at (kw kb:Nat)(hk:kw≠kb)(l:List (Int×Tm))(hl:l.length≤1000000)(t:Tm)(ht:Wide t)(ins:Int)(s:Nm.St)(hs:InR s)(ho:thOk l t ins s):
  CallC Tryz.prog 65 [.p kw 0,.ag (eTm t),.v (.int .i64 ins)] (swR kw kb l s) (swR kw kb l (Sb.through l t ins s).2) (.ag (eTm (Sb.through l t ins s).1)):=by
 have h:=(sthr_d l hl t ht ins s hs ho).ren (ren2 kw kb) (by simp[renOk,swE,D.ok,D.oks,rnames,inN,ckey,eTm_ok,eTms_ok,eTys_ok,ePairs_ok]) (by
  intro k h1 k' h2
  simp[rnames,swE] at h1 h2
  rcases h1 with rfl | rfl <;> rcases h2 with rfl | rfl <;> simp[ren2,hk,hk.symm])
 simpa[D.ren,eTm_ren,eTms_ren,ePairs_ren,swE,swR,renE,Key.ren,ren2] using h
theorem app_1 {l:List (Int×Tm)}{t:Tm}{left:Int}{dry:Bool}(h:Sb.right l=false):Sb.apply l t left dry=(Nm.tz,⟨left,dry,0,1⟩):=if_pos h
theorem app_2 {l:List (Int×Tm)}{t:Tm}{left:Int}{dry:Bool}(h:Sb.right l=true):Sb.apply l t left dry =
  (let r:=Sb.through l t 0 ⟨left,dry,0,0⟩;let s:Nm.St:=if r.2.e=0∧¬ (r.1.size≤5000∧r.1.depth≤60) then { r.2 with e:=2 } else r.2;if s.e≠0 then (Nm.tz,s) else (r.1,s)):=if_neg (by rw[h];simp)
def endA (t:Tm)(s:Nm.St):Tm×Nm.St:=let s':Nm.St:=if s.e=0∧¬ (t.size≤5000∧t.depth≤60) then { s with e:=2 } else s;if s'.e≠0 then (Nm.tz,s') else (t,s')
theorem end_1 {t:Tm}(h:t.size≤5000∧t.depth≤60)(l:Int)(d:Bool)(c:Int):endA t ⟨l,d,c,0⟩=(t,⟨l,d,c,0⟩):=by
 have:¬ ((0:Int)=0∧¬ (t.size≤5000∧t.depth≤60)):=fun h'=>h'.2 h
 unfold endA;dsimp only;rw[if_neg this];simp
theorem end_2 {t:Tm}(h:¬ (t.size≤5000∧t.depth≤60))(l:Int)(d:Bool)(c:Int):endA t ⟨l,d,c,0⟩=(Nm.tz,⟨l,d,c,2⟩):=by
 have:(0:Int)=0∧¬ (t.size≤5000∧t.depth≤60):=⟨rfl,h⟩
 unfold endA;dsimp only;rw[if_pos this];rfl
theorem end_3 {t:Tm}{e:Int}(h:e≠0)(l:Int)(d:Bool)(c:Int):endA t ⟨l,d,c,e⟩=(Nm.tz,⟨l,d,c,e⟩):=by
 have:¬ (e=0∧¬ (t.size≤5000∧t.depth≤60)):=fun h'=>h h'.1
 unfold endA;dsimp only;rw[if_neg this];exact if_pos h
set_option maxHeartbeats 1000000 in
theorem apply_d (l:List (Int×Tm))(hl:l.length≤1000000)(t:Tm)(ht:Wide t)(left:Int)(dry:Bool)(h0:0≤left∧left≤1000000000)(ho:Sb.right l=true→thOk l t 0 ⟨left,dry,0,0⟩∧((Sb.through l t 0 ⟨left,dry,0,0⟩).2.e=0→DoneOk (Sb.through l t 0 ⟨left,dry,0,0⟩).1)):
  CallC Tryz.prog 18 [.sl 5 (ePairs l) none,.ag (eTm t),.o 1] [(.o 1,.ob (BudJ left dry))] [(.o 1,.ob (BudJ (Sb.apply l t left dry).2.left (Sb.apply l t left dry).2.dry))] (.tu [.ag (eTm (Sb.apply l t left dry).1),.v (.int .i64 (Sb.apply l t left dry).2.e)]):=by
 obtain⟨p,hp⟩:∃ p,Sb.apply l t left dry=p:=⟨_,rfl⟩
 rw[hp]
 have hrt:=sright_d l hl
 have hth:=fun h=>sthr_at 15 1 (by decide) l hl t ht 0 ⟨left,dry,0,0⟩ h0 (ho h).1
 rw[eTm_eq t] at hth ⊢
 refine call_of_dw 2 50 [ResultVar.cell 6 41,ResultVar.tmp 7] TS2_ok (by kernel_rfl) Tryz.func18 rfl Tryz.ntmps18 rfl (by simp) ?dwords ?dbody
 case dwords=>simp[wordsOk,D.ok,D.oks,rnames,inN,ckey,eTm_ok,eTms_ok,eTys_ok,ePairs_ok]
 case dbody=>
  intro cx hnt hn0
  refine dw_seq ?_;refine dwk [] TS2_ok hnt fun _ z9=>z9 _ _ ?_;refine dw_seq (dw_seq ?_)
  cases hr:Sb.right l with
  | false=>
   rw[hr] at hrt
   rw[app_1 hr] at hp
   subst hp
   refine dwk [] TS2_ok hnt fun K hK=>?_;refine dcl (hrt) ?_;refine hK _ _ ?_;clear hK K;refine dw_cond (t:=true) rfl ?_;rw[if_pos rfl];refine dw_seq ?_;refine dwk [] TS2_ok hnt fun _ z9=>z9 _ _ ?_;refine dw_ret ?_
   rw[tz_eq]
   exact retv (N:=0) (.inr rfl) rfl (by repeat first | exact VLe.refl _ | exact VLe.nil _ | exact VLe.untag _ _ _ | refine VLe.ag ?_ | refine VLe.tu ?_ | refine VLeL.cons ?_ ?_ | exact VLeL.nil) (by repeat first | exact trivial | refine And.intro rfl ?_)
  | true=>
   rw[hr] at hrt
   have ho:=(ho hr).2
   have hth:=hth hr
   rw[app_2 hr] at hp
   obtain⟨r,hrr⟩:∃ r,Sb.through l t 0 ⟨left,dry,0,0⟩=r:=⟨_,rfl⟩
   rw[hrr] at hp ho hth
   have hp:endA r.1 r.2=p:=hp
   clear hrr
   obtain⟨u,s1⟩:=r
   obtain⟨left',dry',count,er⟩:=s1
   dsimp only at hp ho hth
   refine dwk [] TS2_ok hnt fun K hK=>?_;refine dcl (hrt) ?_;refine hK _ _ ?_;clear hK K;refine dw_cond (t:=false) rfl ?_;rw[if_neg (by simp)];refine dw_skip ?_;refine dw_seq ?_;refine dwk [] TS2_ok hnt fun _ z9=>z9 _ _ ?_;refine dw_seq ?_
   have hru:er=0→PureC Tryz.prog 61 [.ag (eTm u)] (.v (.bool (decide (u.size≤5000∧u.depth≤60)))):=fun h=>right_d u (by have:=(ho h).right;omega)
   have hcu:er=0→(u.size≤5000∧u.depth≤60)→PureC Tryz.prog 66 [.ag (eTm u)] (.ag (eTm u)):=fun h h'=>copyW_d u ((ho h).copy h').1 ((ho h).copy h').2
   rw[eTm_eq u] at hth hru hcu
   refine dwk [] TS2_ok hnt fun K hK=>?_;refine dcl (hth) ?_;refine hK _ _ ?_;clear hK K;refine dw_seq (dw_seq ?_)
   by_cases he:er=0
   ·subst he
    have hru:=hru rfl
    by_cases hR:u.size≤5000∧u.depth≤60
    ·have hcu:=hcu rfl hR
     rw[end_1 hR] at hp
     subst hp
     rw[decide_eq_true hR] at hru
     refine dwk [(29,.v (.bool true))] TS2_ok hnt fun K hK=>?_;refine And.intro (VLe.refl _) ?_;refine dcl (hru) ?_;refine hK _ _ ?_;clear hK K;refine dw_cond (t:=false) rfl ?_;rw[if_neg (by simp)];refine dw_skip ?_;refine dw_seq (dw_seq ?_);refine dwk [(42,.v (.bool false))] TS2_ok hnt fun K hK=>?_;refine And.intro (VLe.refl _) ?_;refine hK _ _ ?_;clear hK K;refine dw_cond (t:=false) rfl ?_
     rw[if_neg (by simp)];refine dw_skip ?_;refine dw_seq ?_;refine dwk [] TS2_ok hnt fun K hK=>?_;refine dcl (hcu) ?_;refine hK _ _ ?_;clear hK K;refine dw_ret ?_
     rw[eTm_eq]
     exact retv (N:=0) (.inr rfl) rfl (by repeat first | exact VLe.refl _ | exact VLe.nil _ | exact VLe.untag _ _ _ | refine VLe.ag ?_ | refine VLe.tu ?_ | refine VLeL.cons ?_ ?_ | exact VLeL.nil) (by repeat first | exact trivial | refine And.intro rfl ?_)
    ·rw[end_2 hR] at hp
     subst hp
     rw[decide_eq_false hR] at hru
     refine dwk [(29,.v (.bool true))] TS2_ok hnt fun K hK=>?_;refine And.intro (VLe.refl _) ?_;refine dcl (hru) ?_;refine hK _ _ ?_;clear hK K;refine dw_cond (t:=true) rfl ?_;rw[if_pos rfl];refine dwk [] TS2_ok hnt fun _ z9=>z9 _ _ ?_;refine dw_seq (dw_seq ?_);refine dwk [(42,.v (.bool true))] TS2_ok hnt fun K hK=>?_;refine And.intro (VLe.refl _) ?_;refine hK _ _ ?_;clear hK K
     refine dw_cond (t:=true) rfl ?_;rw[if_pos rfl];refine dw_seq ?_;refine dwkD [] TS2_ok hnt fun K hK=>?_;refine hK _ _ (by kernel_rfl) ?_;clear hK K;refine dw_ret ?_
     rw[tz_eq]
     exact retv (N:=0) (.inr rfl) rfl (by repeat first | exact VLe.refl _ | exact VLe.nil _ | exact VLe.untag _ _ _ | refine VLe.ag ?_ | refine VLe.tu ?_ | refine VLeL.cons ?_ ?_ | exact VLeL.nil) (by repeat first | exact trivial | refine And.intro rfl ?_)
   ·rw[end_3 he] at hp
    subst hp
    refine dwk [(29,.v (.bool false))] TS2_ok hnt fun K hK=>?_;refine And.intro (VLe.of_eq (by simp[he])) ?_;refine hK _ _ ?_;clear hK K;refine dw_cond (t:=false) rfl ?_;rw[if_neg (by simp)];refine dw_skip ?_;refine dw_seq (dw_seq ?_);refine dwk [(42,.v (.bool true))] TS2_ok hnt fun K hK=>?_;refine And.intro (VLe.of_eq (by simp[he])) ?_;refine hK _ _ ?_;clear hK K;refine dw_cond (t:=true) rfl ?_
    rw[if_pos rfl];refine dw_seq ?_;refine dwkD [] TS2_ok hnt fun K hK=>?_;refine hK _ _ (by kernel_rfl) ?_;clear hK K;refine dw_ret ?_
    rw[tz_eq]
    exact retv (N:=0) (.inr rfl) rfl (by repeat first | exact VLe.refl _ | exact VLe.nil _ | exact VLe.untag _ _ _ | refine VLe.ag ?_ | refine VLe.tu ?_ | refine VLeL.cons ?_ ?_ | exact VLeL.nil) (by repeat first | exact trivial | refine And.intro rfl ?_)
theorem apply_at (kb:Nat)(l:List (Int×Tm))(hl:l.length≤1000000)(t:Tm)(ht:Wide t)(left:Int)(dry:Bool)(h0:0≤left∧left≤1000000000)(ho:Sb.right l=true→thOk l t 0 ⟨left,dry,0,0⟩∧((Sb.through l t 0 ⟨left,dry,0,0⟩).2.e=0→DoneOk (Sb.through l t 0 ⟨left,dry,0,0⟩).1)):
  CallC Tryz.prog 18 [.sl 5 (ePairs l) none,.ag (eTm t),.o kb] [(.o kb,.ob (BudJ left dry))] [(.o kb,.ob (BudJ (Sb.apply l t left dry).2.left (Sb.apply l t left dry).2.dry))] (.tu [.ag (eTm (Sb.apply l t left dry).1),.v (.int .i64 (Sb.apply l t left dry).2.e)]):=by
 have h:=(apply_d l hl t ht left dry h0 ho).ren (fun _=>kb) (by simp[renOk,D.ok,D.oks,rnames,inN,ckey,eTm_ok,ePairs_ok]) (by
  intro k h1 k' h2 _
  simp[rnames] at h1 h2
  rw[h1,h2])
 simpa[D.ren,D.rens,eTm_ren,ePairs_ren,renE,Key.ren] using h
namespace Ru
end Ru
theorem apply_less {l:List (Int×Tm)}{t:Tm}{left:Int}{dry:Bool}{B:Nat}(hl:∀ p∈l,Bnd B p.2)(ht:Bnd B t)(h:0≤left∧left≤1000000000):(Sb.apply l t left dry).2.e=0→(Sb.apply l t left dry).2.left≤left∧((Sb.apply l t left dry).1.size≤5000∧(Sb.apply l t left dry).1.depth≤60)∧Bnd B (Sb.apply l t left dry).1:=by
 unfold Sb.apply
 by_cases hr:Sb.right l=false
 ·rw[if_pos hr];intro e;cases e
 ·rw[if_neg hr]
  have h1:=Sb.grow l hl t ht 0 ⟨left,dry,0,0⟩ h
  dsimp only
  generalize Sb.through l t 0 ⟨left,dry,0,0⟩=r at h1
  by_cases hc:r.2.e=0∧¬ (r.1.size≤5000∧r.1.depth≤60)
  ·rw[if_pos hc]
   rw[if_pos (by show (2:Int)≠0;decide)]
   intro e;cases e
  ·rw[if_neg hc]
   by_cases hp:r.2.e=0
   ·rw[if_neg (fun h=>h hp)]
    intro _
    have h2:=h1 hp
    have h3:=Tm.size_pos r.1
    refine⟨by have:=h2.2.1;dsimp only at this ⊢;omega,?_,h2.2.2⟩
    by_cases h5:r.1.size≤5000∧r.1.depth≤60
    ·exact h5
    ·exact absurd ⟨hp,h5⟩ hc
   ·rw[if_pos hp]
    intro e;exact absurd e hp
namespace Sb
variable {C M:List Ty}
def Ok (C M:List Ty)(l:List (Int×Tm)):Prop:=∀ q∈l,(∃ h,headTy C M [] 2 q.1=some h∧IsOf C M q.2 [] h)∧Bnd 150 q.2∧q.2.full≤1000000
theorem full_of {t:Tm}(h:Bnd 150 t)(hs:t.size≤5000):t.full≤755000:=by
 have h1:=Bnd.full t h
 have h2:t.size * (150+1)≤5000 * 151:=Nat.mul_le_mul hs (by decide)
 omega
theorem find_map (w:Tm→Tm)(i:Int):∀ s:List (Int×Tm),find (s.map fun p=>(p.1,w p.2)) i=(find s i).map w
 | []=>rfl
 | p :: s=>by
  unfold find
  rw[List.map_cons]
  by_cases h:p.1=i
  ·rw[List.find?_cons_of_pos (by simpa using h),List.find?_cons_of_pos (by simpa using h)];rfl
  ·rw[List.find?_cons_of_neg (by simpa using h),List.find?_cons_of_neg (by simpa using h)]
   exact find_map w i s
end Sb
namespace Hs
theorem eta_low (P:Tm→List Tm→Tm)(ρ:Nat→Img)(T:Ty):∀ (i z:Nat),i<z→HW P ρ (Ty.eta T 0 i) z=Ty.eta T 0 i:=by
 induction T using Ty.ind with
 | h a b ih=>
  intro i z hi
  rw[Ty.eta_eq,if_pos rfl,HW_out _ _ _ _ _ _ _ (by rintro⟨_,h⟩;omega)]
  congr 1
  refine List.ext_getElem (by simp) fun j h1 h2=>?_
  have hj:j<a.length:=by rw[Ty.etas_len] at h2;exact h2
  rw[List.getElem_map,Nm.etas_nth h2]
  exact ih a[j] (List.getElem_mem hj) _ _ (by omega)
theorem etas_low (P:Tm→List Tm→Tm)(ρ:Nat→Img)(Q:List Ty)(z:Nat)(hz:Q.length≤z):((Ty.etas Q).map fun t=>HW P ρ t z)=Ty.etas Q:=by
 refine List.ext_getElem (by simp) fun j h1 h2=>?_
 have hj:j<Q.length:=by rw[Ty.etas_len] at h2;exact h2
 rw[List.getElem_map,Nm.etas_nth h2]
 exact eta_low _ _ _ _ _ (by omega)
theorem eta_v (P:Tm→List Tm→Tm)(ρ:Nat→Img)(T:Ty)(i k:Nat)(h:ρ i=.v k):HW P ρ (Ty.eta T 0 i) 0=Ty.eta T 0 k:=by
 obtain⟨a,b⟩:=T
 rw[Ty.eta_eq,if_pos rfl,Ty.eta_eq,if_pos rfl,show ((i:Int)+(a.length:Nat))=((0+a.length+i:Nat):Int) by omega,HW_v _ _ _ _ _ _ _ h]
 congr 1
 ·omega
 ·exact etas_low _ _ _ _ (by omega)
variable {C M:List Ty}
structure AB (C M:List Ty) (f:Nat):Prop where
 a:∀ (ρ:Nat→Img) (r:Nat→Nat) (X Y:List Ty) (t:Tm) (Z:List Ty) (u:Ty),(∀ d h,Y.reverse[d]?=some h→(ρ d=.v (r d)∨(ρ d=.t (Ty.eta h 0 (r d:Nat))∧h.size<f))∧X.reverse[r d]?=some h)→IsOf C M t (Y++Z) u→H f ρ t Z.length=Rn r t Z.length
 b:∀ (xs:List Tm) (P X:List Ty) (j:Nat) (h:j<xs.length) (h':j<P.length),IsOfs C M xs X P→P[j].size<f→H f (sg xs) (Ty.eta P[j] 0 (xs.length-1-j:Nat)) 0=xs[j]
theorem ab_a {f:Nat}(hb:∀ g,f=g+1→AB C M g)(ρ:Nat→Img)(r:Nat→Nat)(X Y:List Ty)(hρ:∀ d h,Y.reverse[d]?=some h→(ρ d=.v (r d)∨(ρ d=.t (Ty.eta h 0 (r d:Nat))∧h.size<f))∧X.reverse[r d]?=some h)(t:Tm):
  ∀ (Z:List Ty) (u:Ty),IsOf C M t (Y++Z) u→H f ρ t Z.length=Rn r t Z.length:=by
 induction t using Tm.ind with
 | h b k i a ih=>
  intro Z u ht
  obtain⟨hbu,h,hh,hbase,hargs⟩:=isOf_mk.1 ht
  rw[List.append_assoc] at hh hargs
  have hZb:(Z++b).length=Z.length+b.length:=List.length_append
  have hal:=isOfs_len hargs
  have ha:(a.map fun t=>H f ρ t (Z.length+b.length))=a.map fun t=>Rn r t (Z.length+b.length):=List.map_congr_left fun t ht=>by
   obtain⟨j,hj,rfl⟩:=List.getElem_of_mem ht
   have:=ih a[j] ht (Z++b) _ ((isOfs_iff.1 hargs).2 j hj (by omega))
   rw[hZb] at this;exact this
  rcases cases_ix b k i Z.length with hc | ⟨rfl,d,rfl⟩
  ·rw[Rn_out _ _ _ _ _ _ hc,←ha,H_is f];exact HW_out _ _ _ _ _ _ _ hc
  ·rw[headTy_0,rev_app,if_neg (by omega),hZb,show Z.length+b.length+d-(Z.length+b.length)=d by omega] at hh
   obtain⟨h1,h2⟩:=hρ d h hh
   rw[Rn_v]
   rcases h1 with h1 | ⟨h1,h3⟩
   ·rw[←ha,H_is f];exact HW_v _ _ _ _ _ _ _ h1
   ·obtain⟨g,rfl⟩:∃ g,f=g+1:=⟨f-1,by omega⟩
    have e1:H (g+1) ρ (.mk b 0 ((Z.length+b.length+d:Nat):Int) a) Z.length=wb b (PF (g+1) (Rn (· + (Z.length+b.length)) (Ty.eta h 0 (r d:Nat)) 0) (a.map fun t=>H (g+1) ρ t (Z.length+b.length))):=by rw[H_is];exact HW_t _ _ _ _ _ _ _ h1
    rw[e1,ha,Rn_eta]
    have has:IsOfs C M (a.map fun t=>Rn r t (Z.length+b.length)) (X++(Z++b)) h.args:=isOfs_map hargs fun v hv w hw=>by
     rw[←hZb]
     exact Rn_isOf r v X Y (Z++b) w (fun d h hd=>(hρ d h hd).2) hw
    have hml:(a.map fun t=>Rn r t (Z.length+b.length)).length=a.length:=List.length_map _
    generalize (a.map fun t=>Rn r t (Z.length+b.length))=xs at has hml ⊢
    obtain⟨P,q⟩:=h
    have has:IsOfs C M xs (X++(Z++b)) P:=has
    have hal:P.length=a.length:=hal
    rw[ty_size] at h3
    show wb b (pt (H g) (Ty.eta (.mk P q) 0 _) xs)=_
    unfold pt
    rw[Ty.eta_eq,if_pos rfl]
    rw[if_neg (fun hne=>hne (show P.length=xs.length by omega))]
    have e2:H g (sg xs) (bo (.mk P 0 (((r d+(Z.length+b.length):Nat):Int)+(P.length:Nat)) (Ty.etas P))) 0=.mk [] 0 ((Z.length+b.length+r d:Nat):Int) xs:=by
     show H g (sg xs) (.mk [] 0 (((r d+(Z.length+b.length):Nat):Int)+(P.length:Nat)) (Ty.etas P)) 0=_
     rw[show (((r d+(Z.length+b.length):Nat):Int)+(P.length:Nat))=((0+([]:List Ty).length+(xs.length+(Z.length+b.length+r d)):Nat):Int) by simp;omega]
     have e3:H g (sg xs) (.mk [] 0 ((0+([]:List Ty).length+(xs.length+(Z.length+b.length+r d)):Nat):Int) (Ty.etas P)) 0=.mk [] 0 ((0+([]:List Ty).length+(Z.length+b.length+r d):Nat):Int) ((Ty.etas P).map fun t=>H g (sg xs) t (0+([]:List Ty).length)):=by
      rw[H_is g]
      exact HW_v _ _ _ _ (Z.length+b.length+r d) _ _ (by rw[sg_high (by omega)];congr 1;omega)
     rw[e3]
     congr 1
     ·simp
     ·refine List.ext_getElem (by rw[List.length_map,Ty.etas_len];omega) fun j h1 h2=>?_
      have hj:j<P.length:=by omega
      have hje:j<(Ty.etas P).length:=by rw[Ty.etas_len];exact hj
      rw[List.getElem_map,Nm.etas_nth hje]
      have:=(hb g rfl).b xs P (X++(Z++b)) j h2 hj has (by have:=Nm.size_le hj;omega)
      rw[show P.length-1-j=xs.length-1-j by omega]
      exact this
    rw[e2];rfl
theorem ab_b {f:Nat}(hb:∀ g,f=g+1→AB C M g)(xs:List Tm)(P X:List Ty)(j:Nat)(h:j<xs.length)(h':j<P.length)(hx:IsOfs C M xs X P)(hs:P[j].size<f):H f (sg xs) (Ty.eta P[j] 0 (xs.length-1-j:Nat)) 0=xs[j]:=by
 obtain⟨g,rfl⟩:∃ g,f=g+1:=⟨f-1,by omega⟩
 have hxj:=(isOfs_iff.1 hx).2 j h h'
 obtain⟨T,hT⟩:∃ T,P[j]=T:=⟨_,rfl⟩
 rw[hT] at hs hxj ⊢
 obtain⟨Q,q⟩:=T
 rw[ty_size] at hs
 obtain⟨x,hxx⟩:∃ x,xs[j]=x:=⟨_,rfl⟩
 rw[hxx] at hxj ⊢
 obtain⟨b,k,i,a⟩:=x
 obtain⟨hb1,h2,g1,g2,g3⟩:=isOf_mk.1 hxj
 have hb1:b=Q:=hb1
 subst hb1
 rw[Ty.eta_eq,if_pos rfl,show (((xs.length-1-j:Nat):Int)+(b.length:Nat))=((0+b.length+(xs.length-1-j):Nat):Int) by omega]
 have hsg:sg xs (xs.length-1-j)=.t (.mk b k i a):=by
  rw[sg_low (by omega),show xs.length-1-(xs.length-1-j)=j by omega,List.getD_eq_getElem?_getD,List.getElem?_eq_getElem h,hxx];rfl
 have e1:H (g+1) (sg xs) (.mk b 0 ((0+b.length+(xs.length-1-j):Nat):Int) (Ty.etas b)) 0=wb b (PF (g+1) (Rn (· + (0+b.length)) (.mk b k i a) 0) ((Ty.etas b).map fun t=>H (g+1) (sg xs) t (0+b.length))):=by rw[H_is];exact HW_t _ _ _ _ _ _ _ hsg
 rw[e1]
 have e2:((Ty.etas b).map fun t=>H (g+1) (sg xs) t (0+b.length))=Ty.etas b:=by rw[H_is];exact etas_low _ _ _ _ (by omega)
 rw[e2,Nat.zero_add]
 show wb b (pt (H g) _ _)=_
 unfold pt
 rw[Rn_binds,Ty.etas_len,if_neg (show ¬ (Tm.mk b k i a).binds.length≠b.length from fun h=>h rfl),Rn_bo]
 show wb b (bo (H g (sg (Ty.etas b)) (Rn (· + b.length) (.mk [] k i a) (0+b.length)) 0))=_
 rw[Nat.zero_add]
 have hbt:IsOf C M (.mk [] k i a) (X++b) (.mk [] q):=isOf_mk.2 ⟨rfl,h2,by rw[List.append_nil];exact g1,g2,by rw[List.append_nil];exact g3⟩
 have hbt2:=Rn_isOf (C:=C) (M:=M) (· + b.length) (.mk [] k i a) (X++b) X b (.mk [] q) (fun d h hd=>by rw[rev_app,if_neg (by omega),Nat.add_sub_cancel];exact hd) hbt
 have hA:=(hb g rfl).a (sg (Ty.etas b)) (fun d=>if d<b.length then d else d-b.length) (X++b) (X++b++b) (Rn (· + b.length) (.mk [] k i a) b.length) [] (.mk [] q) (fun d h hd=>by
  rw[rev_app] at hd
  by_cases hdb:d<b.length
  ·rw[if_pos hdb] at hd
   rw[if_pos hdb,rev_app,if_pos hdb]
   refine⟨.inr ⟨?_,?_⟩,hd⟩
   ·rw[sg_low (by rw[Ty.etas_len];exact hdb),Ty.etas_len,List.getD_eq_getElem?_getD,List.getElem?_eq_getElem (by rw[Ty.etas_len];omega),Option.getD_some,Nm.etas_nth]
    rw[List.getElem?_reverse hdb,List.getElem?_eq_getElem (by omega)] at hd
    rw[Option.some.inj hd,show b.length-1-(b.length-1-d)=d by omega]
   ·rw[List.getElem?_reverse hdb,List.getElem?_eq_getElem (by omega)] at hd
    have:=Nm.size_le (l:=b) (j:=b.length-1-d) (by omega)
    rw[Option.some.inj hd] at this
    omega
  ·rw[if_neg hdb] at hd
   rw[if_neg hdb]
   exact⟨.inl (by rw[sg_high (by rw[Ty.etas_len];omega),Ty.etas_len]),hd⟩) (by rw[List.append_nil];exact hbt2)
 have hA:H g (sg (Ty.etas b)) (Rn (· + b.length) (.mk [] k i a) b.length) 0=Rn (fun d=>if d<b.length then d else d-b.length) (Rn (· + b.length) (.mk [] k i a) b.length) 0:=hA
 rw[hA]
 have hup:=Rn_up (· + b.length) b.length (.mk [] k i a) 0
 rw[Nat.zero_add] at hup
 rw[hup,Rn_Rn,Rn_id _ _ _ (fun d=>by
  unfold up
  dsimp only
  by_cases hd:d<b.length
  ·rw[if_pos hd,if_pos hd]
  ·rw[if_neg hd,if_neg (by omega)];omega)]
 rfl
theorem ab (C M:List Ty):∀ f,AB C M f
 | 0=>⟨fun ρ r X Y t Z u h ht=>ab_a (fun g hg=>by omega) ρ r X Y h t Z u ht,fun xs P X j h h' hx hs=>ab_b (fun g hg=>by omega) xs P X j h h' hx hs⟩
 | f+1=>by
  have ih:=ab C M f
  have hb:∀ g,f+1=g+1→AB C M g:=fun g hg=>by
   have e:f=g:=by omega
   exact e ▸ ih
  exact⟨fun ρ r X Y t Z u h ht=>ab_a hb ρ r X Y h t Z u ht,fun xs P X j h h' hx hs=>ab_b hb xs P X j h h' hx hs⟩
def cmpI (f:Nat)(ρ θ:Nat→Img)(d:Nat):Img:=match θ d with
 | .v k=>ρ k
 | .t y=>.t (H f ρ y 0)
theorem comp_H (f:Nat)(ρ θ:Nat→Img)(t:Tm):∀ z,H f ρ (H f θ t z) z=H f (cmpI f ρ θ) t z:=by
 induction t using Tm.ind with
 | h b k i a ih=>
  intro z
  have ha:((a.map fun t=>H f θ t (z+b.length)).map fun t=>H f ρ t (z+b.length))=a.map fun t=>H f (cmpI f ρ θ) t (z+b.length):=by
   rw[List.map_map];exact List.map_congr_left fun t ht=>ih t ht _
  rcases cases_ix b k i z with h | ⟨rfl,d,rfl⟩
  ·rw[H_is f,HW_out _ _ _ _ _ _ _ h,HW_out _ _ _ _ _ _ _ h,HW_out _ _ _ _ _ _ _ h,←H_is f,ha]
  ·cases hd:θ d with
   | v k=>
    have e1:H f θ (.mk b 0 ((z+b.length+d:Nat):Int) a) z=.mk b 0 ((z+b.length+k:Nat):Int) (a.map fun t=>H f θ t (z+b.length)):=by rw[H_is f];exact HW_v _ _ _ _ _ _ _ hd
    rw[e1]
    cases hk:ρ k with
    | v l=>
     have e2:H f (cmpI f ρ θ) (.mk b 0 ((z+b.length+d:Nat):Int) a) z=.mk b 0 ((z+b.length+l:Nat):Int) (a.map fun t=>H f (cmpI f ρ θ) t (z+b.length)):=by rw[H_is f];exact HW_v _ _ _ _ _ _ _ (by unfold cmpI;rw[hd];exact hk)
     rw[e2,←ha,H_is f];exact HW_v _ _ _ _ _ _ _ hk
    | t x=>
     have e2:H f (cmpI f ρ θ) (.mk b 0 ((z+b.length+d:Nat):Int) a) z=wb b (PF f (Rn (· + (z+b.length)) x 0) (a.map fun t=>H f (cmpI f ρ θ) t (z+b.length))):=by rw[H_is f];exact HW_t _ _ _ _ _ _ _ (by unfold cmpI;rw[hd];exact hk)
     rw[e2,←ha,H_is f];exact HW_t _ _ _ _ _ _ _ hk
   | t y=>
    have e1:H f θ (.mk b 0 ((z+b.length+d:Nat):Int) a) z=wb b (PF f (Rn (· + (z+b.length)) y 0) (a.map fun t=>H f θ t (z+b.length))):=by rw[H_is f];exact HW_t _ _ _ _ _ _ _ hd
    have e2:H f (cmpI f ρ θ) (.mk b 0 ((z+b.length+d:Nat):Int) a) z=wb b (PF f (Rn (· + (z+b.length)) (H f ρ y 0) 0) (a.map fun t=>H f (cmpI f ρ θ) t (z+b.length))):=by rw[H_is f];exact HW_t _ _ _ _ _ _ _ (by unfold cmpI;rw[hd,H_is f])
    rw[e1,e2,←ha,←HW_lift,←put_H,H_is f,HW_wb,PF_bo]
end Hs
theorem headTy_cons {C M X Y:List Ty}{k i:Int}(h:k≠0):headTy C M X k i=headTy C M Y k i:=by
 unfold headTy
 simp[h]
theorem headTy_0i {C M X:List Ty}{i:Int}(h:0≤i):headTy C M X 0 i=X.reverse[i.toNat]?:=by
 rw[headTy,if_neg (by omega),if_pos rfl]
theorem headTy_beyond {C M X l:List Ty}{i:Int}(h:0≤i):headTy C M (X++l) 0 (i+l.length)=headTy C M X 0 i:=by
 rw[headTy_0i (by omega),headTy_0i h,List.reverse_append,List.getElem?_append_right (by simp;omega)]
 congr 1
 simp;omega
theorem headTy_last {C M X l:List Ty}{i:Int}(h:0≤i)(hl:i<l.length):headTy C M (X++l) 0 i=headTy C M l 0 i:=by
 rw[headTy_0i h,headTy_0i h,List.reverse_append,List.getElem?_append_left (by simp;omega)]
theorem eta_isOf {C M:List Ty}(a:Ty):∀ (X:List Ty) (k i:Int),headTy C M X k i=some a→IsOf C M (Ty.eta a k i) X a:=by
 induction a using Ty.ind with
 | h l b ih=>
  intro X k i hh
  rw[Ty.eta_eq,isOf_mk]
  have hi:0≤i:=by
   rcases Int.lt_or_le i 0 with h | h
   ·rw[headTy_neg h] at hh;cases hh
   ·exact h
  refine⟨rfl,.mk l b,?_,rfl,?_⟩
  ·by_cases hk:k=0
   ·subst hk
    rw[if_pos rfl,headTy_beyond hi,hh]
   ·rw[if_neg hk,headTy_cons (Y:=X) hk,hh]
  ·rw[isOfs_iff]
   refine⟨by rw[Ty.etas_len];rfl,fun j h h'=>?_⟩
   have hj:j<l.length:=by rw[Ty.etas_len] at h;exact h
   rw[Ty.etas_get l j hj]
   refine ih _ (List.getElem_mem hj) _ _ _ ?_
   rw[headTy_last (by omega) (by omega),headTy_0i (by omega),show ((l.length:Int)-1-(j:Int)).toNat=l.length-1-j by omega,List.getElem?_reverse (by omega),show l.length-1-(l.length-1-j)=j by omega,List.getElem?_eq_getElem hj]
theorem isOf_loose {C M X:List Ty}(t:Tm):∀ (Y:List Ty) (u:Ty),IsOf C M t (X++Y) u→∀ x∈t.looses Y.length,x<X.length:=by
 induction t using Tm.ind with
 | h b k i a ih=>
  intro Y u h x hx
  rw[isOf_mk] at h
  obtain⟨rfl,h1,hh,_,hs⟩:=h
  rw[Tm.looses_eq _ _ _ _ _ ((Y++u.args).length:Int) (by simp)] at hx
  rcases List.mem_append.1 hx with h5 | hx
  ·by_cases hc:k=0∧((Y++u.args).length:Int)≤i
   ·obtain⟨rfl,hi⟩:=hc
    rw[if_pos ⟨rfl,hi⟩] at h5
    have h6:x=i-((Y++u.args).length:Int):=List.mem_singleton.1 h5
    rw[h6]
    rw[List.append_assoc,headTy_0i (by omega)] at hh
    have:=(List.getElem?_eq_some_iff.1 hh).1
    rw[List.length_reverse,List.length_append] at this
    omega
   ·rw[if_neg hc] at h5;cases h5
  ·rw[isOfs_iff] at hs
   have key:∀ (l:List Tm),(∀ t∈l,t∈a∧∃ u',IsOf C M t ((X++Y)++u.args) u')→∀ x∈Tm.loosess l ((Y++u.args).length:Int),x<X.length:=by
    intro l
    induction l with
    | nil=>intro _ x hx;simp[Tm.loosess] at hx
    | cons t l ihl=>
     intro hl x hx
     rw[Tm.loosess] at hx
     rcases List.mem_append.1 hx with hx | hx
     ·obtain⟨hm,u',hu'⟩:=hl t (by simp)
      rw[List.append_assoc] at hu'
      exact ih t hm (Y++u.args) u' hu' x hx
     ·exact ihl (fun t ht=>hl t (by simp[ht])) x hx
   refine key a (fun t ht=>⟨ht,?_⟩) x hx
   obtain⟨j,hj,rfl⟩:=List.getElem_of_mem ht
   exact⟨_,hs.2 j hj (by omega)⟩
namespace Li
variable {C M B:List Ty}
theorem arr_args (B:List Ty)(t:Ty):(arr B t).args=B++t.args:=rfl
theorem head_lif {Y:List Ty}{k i:Int}{h:Ty}(hh:headTy C M Y k i=some h):headTy C (M.map (arr B)) (B++Y) k i=some (if k=2 then arr B h else h):=by
 by_cases hn:i<0
 ·rw[headTy_neg hn] at hh;cases hh
 ·by_cases h0:k=0
  ·subst h0
   rw[if_neg (by decide)]
   have hl:i<Y.length:=by
    rw[headTy_0i (by omega)] at hh
    have:=(List.getElem?_eq_some_iff.1 hh).1
    rw[List.length_reverse] at this;omega
   rw[headTy_last (by omega) hl]
   rw[←hh,headTy_0i (by omega),headTy_0i (by omega)]
  ·by_cases h1:k=1
   ·subst h1
    rw[if_neg (by decide)]
    obtain⟨n,rfl⟩:=Int.eq_ofNat_of_zero_le (Int.not_lt.1 hn)
    rw[headTy_1] at hh ⊢
    exact hh
   ·by_cases h2:k=2
    ·subst h2
     rw[if_pos rfl]
     obtain⟨n,rfl⟩:=Int.eq_ofNat_of_zero_le (Int.not_lt.1 hn)
     rw[headTy_2] at hh ⊢
     rw[List.getElem?_map,hh];rfl
    ·rw[headTy_o h0 h1 h2] at hh;cases hh
theorem var_isOf (hB:(B.length:Int)≤1000){Y:List Ty}(hY:(Y.length:Int)+B.length≤1000)(j:Nat)(hj:j<B.length):IsOf C M (Ty.Eta B[j] 0 ((Y.length:Int)+B.length-1-j)) (B++Y) B[j]:=by
 unfold Ty.Eta
 rw[if_neg (by omega)]
 refine eta_isOf B[j] (B++Y) 0 _ ?_
 rw[headTy_0i (by omega),List.getElem?_reverse (by simp;omega)]
 rw[show (B++Y).length-1-((Y.length:Int)+B.length-1-j).toNat=j by rw[List.length_append];omega]
 rw[List.getElem?_append_left hj,List.getElem?_eq_getElem hj]
theorem isOfs_app {X:List Ty}:∀ {l r:List Tm} {l' r':List Ty},IsOfs C M l X l'→IsOfs C M r X r'→IsOfs C M (l++r) X (l'++r')
 | [],r,[],r',_,h=>h
 | [],_,_ :: _,_,h,_=>by simp[IsOfs] at h
 | _ :: _,_,[],_,h,_=>by simp[IsOfs] at h
 | t :: l,r,u :: l',r',h,h2=>by
  rw[IsOfs] at h
  rw[List.cons_append,List.cons_append,IsOfs]
  exact⟨h.1,isOfs_app h.2 h2⟩
theorem vars_isOf {Y:List Ty}(hY:(Y.length:Int)+B.length≤1000):IsOfs C M (vars B Y.length) (B++Y) B:=by
 rw[isOfs_iff]
 refine⟨(vars_len B _).symm,fun i h h'=>?_⟩
 rw[vars_get B _ i h']
 exact var_isOf (by omega) hY i h'
theorem isOfs_lif_of {l:List Tm}(h:∀ t∈l,∀ X u,(X.length:Int)+t.full+B.length≤1000→IsOf C M t X u→IsOf C (M.map (arr B)) (lif B t X.length) (B++X) u):∀ X us,(X.length:Int)+Tm.fulls l+B.length≤1000→IsOfs C M l X us→IsOfs C (M.map (arr B)) (lifs B l X.length) (B++X) us:=by
 induction l with
 | nil=>
  intro X us _ hu
  rw[lifs]
  cases us with
  | nil=>rw[IsOfs];trivial
  | cons u us=>rw[IsOfs] at hu;exact hu.elim
 | cons t l ih=>
  intro X us hz hu
  rw[Tm.fulls] at hz
  rw[lifs]
  cases us with
  | nil=>rw[IsOfs] at hu;exact hu.elim
  | cons u us=>
   rw[IsOfs] at hu ⊢
   exact⟨h t (by simp) X u (by omega) hu.1,ih (fun v hv=>h v (by simp[hv])) X us (by omega) hu.2⟩
theorem lif_isOf (t:Tm):∀ (X:List Ty) (u:Ty),(X.length:Int)+t.full+B.length≤1000→IsOf C M t X u→IsOf C (M.map (arr B)) (lif B t X.length) (B++X) u:=by
 induction t using Tm.ind with
 | h b k i a ih=>
  intro X u hz hu
  rw[Tm.full_eq] at hz
  have hbl:=Ty.le_sizes b
  obtain⟨h1,h,h2,h3,h4⟩:=isOf_mk.1 hu
  have e:((X.length:Int)+(b.length:Int))=((X++b).length:Nat):=by rw[List.length_append];omega
  have hl:((X++b).length:Nat)=X.length+b.length:=List.length_append
  have h5:=isOfs_lif_of ih (X++b) h.args (by omega) h4
  rw[lif_eq,e]
  refine isOf_mk.2 ⟨h1,_,by rw[List.append_assoc];exact head_lif h2,?_,?_⟩
  ·rw[←h3];split <;> rfl
  ·rw[List.append_assoc]
   by_cases hk:k=2
   ·rw[if_pos hk,if_pos hk,arr_args]
    exact isOfs_app (vars_isOf (by omega)) h5
   ·rw[if_neg hk,if_neg hk,List.nil_append];exact h5
theorem cl_isOf {t:Tm}{u:Ty}(h:IsOf C M t B u):IsOf C M (cl t B) [] (arr B u):=by
 obtain⟨b,k,i,a⟩:=t
 obtain⟨h1,h,h2,h3,h4⟩:=isOf_mk.1 h
 unfold cl
 refine isOf_mk.2 ⟨?_,h,?_,h3,?_⟩
 ·show B++b=_
  rw[h1];rfl
 ·show headTy C M ([]++(B++b)) k i=some h
  rw[List.nil_append];exact h2
 ·show IsOfs C M a ([]++(B++b)) h.args
  rw[List.nil_append];exact h4
/-! metavariables are there -/
theorem metas_in_of {l:List Tm}(h:∀ t∈l,∀ X u,IsOf C M t X u→∀ s d,∀ x∈metasP (t.pre s d),0≤x∧x<M.length):∀ X us,IsOfs C M l X us→∀ s d,∀ x∈metasP (Tm.pres l s d),0≤x∧x<M.length:=by
 induction l with
 | nil=>intro X us _ s d x hx;simp[Tm.pres,metasP] at hx
 | cons t l ih=>
  intro X us hu s d x hx
  cases us with
  | nil=>rw[IsOfs] at hu;exact hu.elim
  | cons u us=>
   rw[IsOfs] at hu
   rw[Tm.pres,Ru.metasP_app] at hx
   rcases List.mem_append.1 hx with hx | hx
   ·exact h t (by simp) X u hu.1 s d x hx
   ·exact ih (fun v hv=>h v (by simp[hv])) X us hu.2 s d x hx
theorem metas_in (t:Tm):∀ X u,IsOf C M t X u→∀ s d,∀ x∈metasP (t.pre s d),0≤x∧x<M.length:=by
 induction t using Tm.ind with
 | h b k i a ih=>
  intro X u hu s d x hx
  obtain⟨h1,h,h2,h3,h4⟩:=isOf_mk.1 hu
  have hr:=metas_in_of ih _ _ h4 (s+b.length) (d+1)
  rw[Tm.pre_eq] at hx
  unfold metasP at hx hr
  rw[List.filterMap_cons] at hx
  by_cases hk:k=2
  ·simp only[kindT,indexT,hk,if_true,List.mem_cons] at hx
   rcases hx with rfl | hx
   ·subst hk
    by_cases hn:x<0
    ·rw[headTy_neg hn] at h2;cases h2
    ·obtain⟨n,rfl⟩:=Int.eq_ofNat_of_zero_le (Int.not_lt.1 hn)
     rw[headTy_2] at h2
     have:=(List.getElem?_eq_some_iff.1 h2).1
     omega
   ·exact hr x hx
  ·simp only[kindT,hk,if_false] at hx
   exact hr x hx
/-! patterns -/
theorem long_Eta (t:Ty)(i:Int)(h:0≤i∧i≤1000):longB (Ty.Eta t 0 i)=true∧(Ty.Eta t 0 i).kind=0∧(Ty.Eta t 0 i).headIx=i:=by
 unfold Ty.Eta
 rw[if_neg (by omega)]
 obtain⟨l,b⟩:=t
 rw[Ty.eta_eq,if_pos rfl]
 refine⟨?_,rfl,?_⟩
 ·unfold longB
  show (decide (Ty.etas l=Ty.etas l)&&(!decide ((0:Int)=0)||decide ((l.length:Int)≤i+l.length)))=true
  simp;omega
 ·show (if (0:Int)=0 then i+(l.length:Nat)-(l.length:Nat) else i+(l.length:Nat))=i
  rw[if_pos rfl];omega
theorem lifs_k0_of {B:List Ty}{l:List Tm}(h:∀ t∈l,∀ n,Ru.K0 t→lif B t n=t):∀ n,Ru.K0s l→lifs B l n=l:=by
 induction l with
 | nil=>intro n _;rw[lifs]
 | cons t l ih=>
  intro n hk
  rw[Ru.K0s] at hk
  rw[lifs,h t (by simp) n hk.1,ih (fun u hu=>h u (by simp[hu])) n hk.2]
theorem lif_k0 (B:List Ty)(t:Tm):∀ n,Ru.K0 t→lif B t n=t:=by
 induction t using Tm.ind with
 | h b k i a ih=>
  intro n hk
  rw[Ru.k0_eq] at hk
  rw[lif_eq,if_neg hk.1,List.nil_append,lifs_k0_of ih _ hk.2]
theorem k0s_lif_of {B:List Ty}{l:List Tm}(h:∀ t∈l,∀ n,Ru.K0 (lif B t n)→Ru.K0 t):∀ n,Ru.K0s (lifs B l n)→Ru.K0s l:=by
 induction l with
 | nil=>intro n _;rw[Ru.K0s];trivial
 | cons t l ih=>
  intro n hk
  rw[lifs,Ru.K0s] at hk
  rw[Ru.K0s]
  exact⟨h t (by simp) n hk.1,ih (fun u hu=>h u (by simp[hu])) n hk.2⟩
theorem k0_lif (B:List Ty)(t:Tm):∀ n,Ru.K0 (lif B t n)→Ru.K0 t:=by
 induction t using Tm.ind with
 | h b k i a ih=>
  intro n hk
  rw[lif_eq,Ru.k0_eq] at hk
  rw[if_neg hk.1,List.nil_append] at hk
  exact(Ru.k0_eq ..).2 ⟨hk.1,k0s_lif_of ih _ hk.2⟩
theorem lifs_etas (B:List Ty)(a:List Tm)(n:Int)(b:List Ty):lifs B a n=Ty.etas b↔a=Ty.etas b:=by
 constructor
 ·intro h
  have h1:Ru.K0s (lifs B a n):=by rw[h];exact Ru.etas_k0_of fun t _=>Ru.eta_k0 t
  rw[←lifs_k0_of (fun t _=>lif_k0 B t) n (k0s_lif_of (fun t _=>k0_lif B t) n h1),h]
 ·rintro rfl;exact lifs_k0_of (fun t _=>lif_k0 B t) n (Ru.etas_k0_of fun t _=>Ru.eta_k0 t)
def ixs (m b:Int)(j:Nat):List Int:=(List.range j).map fun i=>m+b-1-(i:Nat)
theorem ixs_succ (m b:Int)(j:Nat):ixs m b (j+1)=ixs m b j++[m+b-1-(j:Nat)]:=by unfold ixs;rw[List.range_succ,List.map_append];rfl
theorem ixs_mem {m b:Int}{j:Nat}{x:Int}(h:x∈ixs m b j):m+b-1-j<x∧x≤m+b-1:=by
 unfold ixs at h
 obtain⟨i,hi,rfl⟩:=List.mem_map.1 h
 have:=List.mem_range.1 hi
 omega
theorem varsL_vars (B:List Ty)(m:Nat)(hm:(m:Int)+B.length≤1000):∀ j,j≤B.length→Pn.varsL (m+B.length:Nat) ((vars B m).take j) []=some (ixs m B.length j)
 | 0,_=>by simp[Pn.varsL,ixs]
 | j+1,h=>by
  have hl:j<(vars B (m:Int)).length:=by rw[vars_len];omega
  have ih:=varsL_vars B m hm j (by omega)
  rw[Pn.varsL_take _ _ j hl ih,vars_get B m j (by omega)]
  obtain⟨h1,h2,h3⟩:=long_Eta B[j] ((m:Int)+B.length-1-j) (by omega)
  have hv:Pn.isVar (m+B.length:Nat) (ixs m B.length j) (Ty.Eta B[j] 0 ((m:Int)+B.length-1-j))=true:=by
   unfold Pn.isVar
   rw[h1,h2,h3,Bool.true_and,decide_eq_true rfl,Bool.true_and,Bool.and_eq_true,decide_eq_true_eq]
   refine⟨by omega,?_⟩
   rw[Bool.not_eq_true',Bool.eq_false_iff]
   intro hc
   have:=ixs_mem (List.contains_iff_mem.1 hc)
   omega
  rw[if_pos hv,h3,ixs_succ]
theorem isVar_lif {Y:List Ty}{acc:List Int}{t:Tm}{u:Ty}(hu:IsOf C M t Y u)(hb:(Y.length:Int)+B.length≤1000):
  Pn.isVar (Y.length+B.length:Nat) (ixs Y.length B.length B.length++acc) (lif B t Y.length)=Pn.isVar (Y.length:Nat) acc t∧(Pn.isVar (Y.length:Nat) acc t=true→(lif B t Y.length).headIx=t.headIx):=by
 obtain⟨b,k,i,a⟩:=t
 rw[lif_eq]
 by_cases hk:k=0
 ·subst hk
  rw[if_neg (by decide),List.nil_append]
  obtain⟨h1,h,h2,_⟩:=isOf_mk.1 hu
  refine⟨?_,fun _=>rfl⟩
  have e:longB (.mk b 0 i (lifs B a (Y.length+b.length)))=longB (.mk b 0 i a):=by
   unfold longB
   have:decide (lifs B a (Y.length+b.length)=Ty.etas b)=decide (a=Ty.etas b):=by rw[decide_eq_decide];exact lifs_etas B a _ b
   show (decide (lifs B a (Y.length+b.length)=Ty.etas b)&&_)=(decide (a=Ty.etas b)&&_)
   rw[this];rfl
  have hx:i-b.length<Y.length:=by
   by_cases hn:i<0
   ·rw[headTy_neg hn] at h2;cases h2
   ·rw[headTy_0i (by omega)] at h2
    have:=(List.getElem?_eq_some_iff.1 h2).1
    rw[List.length_reverse,List.length_append] at this;omega
  have hH:∀ c,(Tm.mk b 0 i c).headIx=i-b.length:=fun c=>by show (if (0:Int)=0 then _ else _)=_;rw[if_pos rfl];rfl
  unfold Pn.isVar
  rw[e,hH,hH]
  have d1:decide (i-(b.length:Int)<(Y.length+B.length:Nat))=true:=decide_eq_true (by omega)
  have d2:decide (i-(b.length:Int)<(Y.length:Nat))=true:=decide_eq_true (by omega)
  have d3:(ixs Y.length B.length B.length++acc).contains (i-(b.length:Int))=acc.contains (i-(b.length:Int)):=by
   rw[Bool.eq_iff_iff,List.contains_iff_mem,List.contains_iff_mem,List.mem_append]
   constructor
   ·rintro(h | h)
    ·have:=ixs_mem h;omega
    ·exact h
   ·exact .inr
  rw[d1,d2,d3];rfl
 ·have h1:∀ (n x:Int) (acc:List Int) (c:List Tm),Pn.isVar n acc (.mk b k x c)=false:=fun n x acc c=>by
   unfold Pn.isVar
   rw[show decide ((Tm.mk b k x c).kind=0)=false from decide_eq_false hk,Bool.false_and,Bool.and_false]
  rw[h1,h1]
  exact⟨rfl,fun h=>by cases h⟩
theorem varsL_lif {Y:List Ty}(hb:(Y.length:Int)+B.length≤1000):∀ (l:List Tm) (us:List Ty) (acc:List Int),IsOfs C M l Y us→(Pn.varsL (Y.length+B.length:Nat) (lifs B l Y.length) (ixs Y.length B.length B.length++acc)).isSome=(Pn.varsL (Y.length:Nat) l acc).isSome
 | [],_,_,_=>by rw[lifs,Pn.varsL,Pn.varsL];first | done | rfl
 | _ :: _,[],_,h=>by rw[IsOfs] at h;exact h.elim
 | t :: l,u :: us,acc,h=>by
  rw[IsOfs] at h
  obtain⟨h1,h2⟩:=isVar_lif (acc:=acc) h.1 hb
  rw[lifs,Pn.varsL,Pn.varsL,h1]
  by_cases hv:Pn.isVar (Y.length:Nat) acc t=true
  ·rw[if_pos hv,if_pos hv,h2 hv,List.append_assoc,varsL_lif hb l us _ h.2]
  ·rw[if_neg hv,if_neg hv]
theorem usess_lif_of {l:List Tm}(h:∀ t∈l,∀ X u,(X.length:Int)+t.full+B.length≤1000→IsOf C M t X u→∀ p,(Pn.uses (lif B t X.length) (B++X) p).2=(Pn.uses t X p).2):∀ X us,(X.length:Int)+Tm.fulls l+B.length≤1000→IsOfs C M l X us→∀ p j,(Pn.usess (lifs B l X.length) (B++X) p j).2=(Pn.usess l X p j).2:=by
 induction l with
 | nil=>intro X us _ _ p j;rw[lifs,Pn.usess,Pn.usess]
 | cons t l ih=>
  intro X us hz hu p j
  rw[Tm.fulls] at hz
  cases us with
  | nil=>rw[IsOfs] at hu;exact hu.elim
  | cons u us=>
   rw[IsOfs] at hu
   rw[lifs,Pn.usess,Pn.usess,h t (by simp) X u (by omega) hu.1]
   split
   ·exact ih (fun v hv=>h v (by simp[hv])) X us (by omega) hu.2 p (j+1)
   ·rfl
theorem uses_lif (t:Tm):∀ (X:List Ty) (u:Ty),(X.length:Int)+t.full+B.length≤1000→IsOf C M t X u→∀ p,(Pn.uses (lif B t X.length) (B++X) p).2=(Pn.uses t X p).2:=by
 induction t using Tm.ind with
 | h b k i a ih=>
  intro X u hz hu p
  rw[Tm.full_eq] at hz
  have hbl:=Ty.le_sizes b
  obtain⟨h1,h,h2,h3,h4⟩:=isOf_mk.1 hu
  have e:((X.length:Int)+(b.length:Int))=((X++b).length:Nat):=by rw[List.length_append];omega
  have hl:((X++b).length:Nat)=X.length+b.length:=List.length_append
  rw[lif_eq,e,Pn.uses_eq,Pn.uses_eq]
  by_cases hk:k=2
  ·rw[if_pos hk,if_pos hk,if_pos hk]
   have hv:=varsL_lif (C:=C) (M:=M) (B:=B) (Y:=X++b) (by omega) a h.args [] h4
   rw[List.append_nil] at hv
   have hw:=varsL_vars B (X++b).length (by omega) B.length (Nat.le_refl _)
   rw[List.take_of_length_le (by rw[vars_len];exact Nat.le_refl _)] at hw
   have en:((B++X++b).length:Nat)=(X++b).length+B.length:=by simp only[List.length_append];omega
   rw[en,Pn.varsL_app,hw,Option.bind_some]
   have key:∀ (o:Option (List Int)) (f g:List Int→List Pn.Use),(match o with | some v=>(f v,true) | none=>(g [],false)).2=o.isSome:=fun o f g=>by cases o <;> rfl
   cases h5:Pn.varsL ((X++b).length+B.length:Nat) (lifs B a ((X++b).length:Nat)) (ixs ((X++b).length:Nat) B.length B.length) with
   | none=>
    rw[h5] at hv
    cases h6:Pn.varsL ((X++b).length:Nat) a [] with
    | none=>rfl
    | some v=>rw[h6] at hv;cases hv
   | some w=>
    rw[h5] at hv
    cases h6:Pn.varsL ((X++b).length:Nat) a [] with
    | none=>rw[h6] at hv;cases hv
    | some v=>rfl
  ·rw[if_neg hk,if_neg hk,if_neg hk,List.nil_append,List.append_assoc]
   exact usess_lif_of ih (X++b) h.args (by omega) h4 p 0
theorem uses_cl (t:Tm)(B:List Ty):(Pn.uses (cl t B) [] []).2=(Pn.uses t B []).2:=by
 obtain⟨b,k,i,a⟩:=t
 unfold cl
 show (Pn.uses (.mk (B++b) k i a) [] []).2=_
 rw[Pn.uses_eq,Pn.uses_eq,List.nil_append]
theorem uses_closed {t:Tm}{u:Ty}(hz:(t.full:Int)+B.length≤1000)(hu:IsOf C M t [] u):(Pn.uses (cl (lif B t 0) B) [] []).2=(Pn.uses t [] []).2:=by
 have h:=uses_lif (B:=B) t [] u (by simpa using hz) hu []
 rw[List.append_nil] at h
 rw[uses_cl]
 exact h
end Li
namespace Hs
variable {C M:List Ty}
theorem Rn_closed (r:Nat→Nat)(t:Tm):∀ (Z:List Ty) (u:Ty),IsOf C M t Z u→Rn r t Z.length=t:=by
 induction t using Tm.ind with
 | h b k i a ih=>
  intro Z u ht
  obtain⟨rfl,h,h1,h2,h3⟩:=isOf_mk.1 ht
  have hzl:(Z++u.args).length=Z.length+u.args.length:=List.length_append
  have ha:(a.map fun t=>Rn r t (Z.length+u.args.length))=a:=by
   refine Eq.trans (List.map_congr_left (g:=fun t=>t) fun t ht=>?_) (List.map_id' a)
   obtain⟨j,hj,rfl⟩:=List.getElem_of_mem ht
   have hl:=isOfs_len h3
   have:=ih a[j] ht (Z++u.args) _ ((isOfs_iff.1 h3).2 j hj (by omega))
   rw[hzl] at this;exact this
  rcases cases_ix u.args k i Z.length with hc | ⟨rfl,d,rfl⟩
  ·rw[Rn_out _ _ _ _ _ _ hc,ha]
  ·rw[headTy_0] at h1
   have:=(List.getElem?_eq_some_iff.1 h1).1
   rw[List.length_reverse] at this;omega
theorem eta_T (F:Nat)(τ:Int→Option Tm)(T':Ty)(i:Int)(z:Nat):T F τ (Ty.eta T' 0 i) z=Ty.eta T' 0 i:=
 T_none F τ _ (fun n hn=>by rw[Pn.eta_mtt] at hn;cases hn) z
theorem put_cl (f:Nat){B:List Ty}{v:Tm}{u:Ty}(hB:∀ T∈B,T.size<f)(hv:IsOf C M v B u)(m:Nat)(hm:m+B.length≤1000)(xs:List Tm):
  PF (f+1) (Li.cl v B) (Li.vars B m++xs)=PF (f+1) (Rn (· + m) v 0) xs:=by
 obtain⟨b,k,i,a⟩:=v
 obtain⟨hbu,h,h1,h2,h3⟩:=isOf_mk.1 hv
 show pt (H f) (.mk (B++b) k i a) _=pt (H f) _ xs
 unfold pt
 have hvl:=Li.vars_len B (m:Int)
 rw[Rn_binds,List.length_append,hvl]
 show (if (B++b).length≠B.length+xs.length then jk else bo (H f (sg (Li.vars B m++xs)) (.mk [] k i a) 0))=if b.length≠xs.length then jk else _
 rw[List.length_append]
 by_cases hn:b.length=xs.length
 rotate_left
 ·rw[if_pos (by omega),if_pos hn]
 rw[if_neg (by omega),if_neg (by omega),Rn_bo]
 congr 1
 show _=H f (sg xs) (Rn (· + m) (.mk [] k i a) (0+b.length)) 0
 rw[Rn_up,H_is f,HW_Rn,←H_is f]
 have hbt:IsOf C M (.mk [] k i a) (B++b) (.mk [] u.base):=isOf_mk.2 ⟨rfl,h,by rw[List.append_nil];exact h1,h2,by rw[List.append_nil];exact h3⟩
 obtain⟨θ,hθ⟩:∃ θ:Nat→Img,θ=fun d=>if h0:d<b.length then .v d else if h:d<b.length+B.length then .t (Ty.eta (B[B.length-1-(d-b.length)]'(by omega)) 0 ((d+m:Nat):Int)) else .v (d-B.length):=⟨_,rfl⟩
 have hr:=(ab C M f).a θ (fun d=>if d<b.length then d else d+m) (B++List.replicate m (.mk [] 0)++b) (B++b) (.mk [] k i a) [] (.mk [] u.base) (fun d h hd=>by
  rw[rev_app] at hd
  rw[hθ]
  dsimp only
  by_cases hdb:d<b.length
  ·rw[if_pos hdb] at hd
   rw[dif_pos hdb,if_pos hdb,rev_app,if_pos hdb]
   exact⟨.inl rfl,hd⟩
  ·rw[if_neg hdb] at hd
   have hlt:=(List.getElem?_eq_some_iff.1 hd).1
   rw[List.length_reverse] at hlt
   rw[dif_neg hdb,if_neg hdb,dif_pos (show d<b.length+B.length by omega),rev_app,if_neg (by omega),rev_app,List.length_replicate,if_neg (by omega),show d+m-b.length-m=d-b.length by omega]
   refine⟨.inr ?_,hd⟩
   rw[List.getElem?_reverse hlt,List.getElem?_eq_getElem (by omega)] at hd
   have hd:=Option.some.inj hd
   rw[hd]
   exact⟨rfl,hB h (hd ▸ List.getElem_mem _)⟩) (by rw[List.append_nil];exact hbt)
 have hr:H f θ (.mk [] k i a) 0=Rn (fun d=>if d<b.length then d else d+m) (.mk [] k i a) 0:=hr
 have h4:=comp_H f (sg xs) θ (.mk [] k i a) 0
 rw[hr] at h4
 have h5:H f (sg xs) (Rn (fun d=>if d<b.length then d else d+m) (.mk [] k i a) 0) 0=H f (fun d=>sg xs (up b.length (· + m) d)) (.mk [] k i a) 0:=by
  rw[H_is f,HW_Rn]
  refine HW_ext (fun d=>?_) _ _
  unfold up
  dsimp only
  by_cases hd:d<b.length
  ·rw[if_pos hd,if_pos hd]
  ·rw[if_neg hd,if_neg hd];congr 1;omega
 rw[←h5,h4,H_is f]
 refine HW_ext (fun d=>?_) _ _
 have hll:(Li.vars B (m:Int)++xs).length=B.length+xs.length:=by rw[List.length_append,hvl]
 unfold cmpI
 rw[hθ]
 dsimp only
 by_cases hdb:d<b.length
 ·rw[dif_pos hdb]
  show sg _ d=sg xs d
  rw[sg_low (by omega),sg_low (by omega),hll]
  congr 1
  rw[List.getD_eq_getElem?_getD,List.getD_eq_getElem?_getD,List.getElem?_append_right (by omega),hvl]
  congr 2;omega
 ·rw[dif_neg hdb]
  by_cases hd2:d<b.length+B.length
  ·rw[dif_pos hd2]
   show sg _ d=.t (H f (sg xs) _ 0)
   rw[H_is f,eta_v _ _ _ _ (d+m-b.length) (by rw[sg_high (by omega),hn])]
   rw[sg_low (by omega),hll]
   congr 1
   have hj:B.length+xs.length-1-d=B.length-1-(d-b.length):=by omega
   have hj2:B.length-1-(d-b.length)<B.length:=by omega
   rw[hj,List.getD_eq_getElem?_getD,List.getElem?_append_left (by omega),List.getElem?_eq_getElem (by omega),Option.getD_some,Li.vars_get _ _ _ hj2]
   unfold Ty.Eta
   rw[if_neg (by rintro⟨_,h⟩;omega)]
   congr 1;omega
  ·rw[dif_neg hd2]
   show sg _ d=sg xs (d-B.length)
   rw[sg_high (by omega),sg_high (by omega),hll]
   congr 1;omega
theorem lif_T (f:Nat){B:List Ty}(hB:∀ T∈B,T.size<f)(σ σ':Int→Option Tm)(hσ:∀ i v,σ i=some v→σ' i=some (Li.cl v B)∧∃ u,IsOf C M v B u)(t:Tm):
  (∀ i∈Pn.mtt t,σ i≠none)→∀ z:Nat,z+t.full+B.length≤1000→T (f+1) σ' (Li.lif B t (z:Nat)) (z+B.length)=T (f+1) σ t z:=by
 induction t using Tm.ind with
 | h b k i a ih=>
  intro hm z hz
  rw[Pn.mtt_eq] at hm
  rw[Tm.full_eq] at hz
  have hbl:=Ty.le_sizes b
  rw[Li.lif_eq,Li.lifs_map,show ((z:Nat):Int)+(b.length:Nat)=((z+b.length:Nat):Int) by omega]
  have ha:(a.map fun t=>T (f+1) σ' (Li.lif B t ((z+b.length:Nat):Int)) (z+B.length+b.length))=a.map fun t=>T (f+1) σ t (z+b.length):=List.map_congr_left fun t ht=>by
   have:=Tm.full_mem ht
   rw[show z+B.length+b.length=z+b.length+B.length by omega]
   exact ih t ht (fun n hn=>hm n (List.mem_append_right _ (Pn.mtts_mem.2 ⟨t,ht,hn⟩))) _ (by omega)
  by_cases hk:k=2
  ·subst hk
   obtain⟨v,hv⟩:∃ v,σ i=some v:=by
    cases h:σ i with
    | none=>exact absurd h (hm i (by simp))
    | some v=>exact⟨v,rfl⟩
   obtain⟨hv',u,hvt⟩:=hσ i v hv
   have e1:T (f+1) σ (.mk b 2 i a) z=wb b (PF (f+1) (Rn (· + (z+b.length)) v 0) (a.map fun t=>T (f+1) σ t (z+b.length))):=TW_m _ _ _ _ _ hv
   rw[if_pos rfl]
   have e2:T (f+1) σ' (.mk b 2 i (Li.vars B ((z+b.length:Nat):Int)++a.map (Li.lif B · ((z+b.length:Nat):Int)))) (z+B.length)=wb b (PF (f+1) (Rn (· + (z+B.length+b.length)) (Li.cl v B) 0) ((Li.vars B ((z+b.length:Nat):Int)++a.map (Li.lif B · ((z+b.length:Nat):Int))).map fun t=>T (f+1) σ' t (z+B.length+b.length))):=TW_m _ _ _ _ _ hv'
   rw[e1,e2]
   have hcl:Rn (· + (z+B.length+b.length)) (Li.cl v B) 0=Li.cl v B:=Rn_closed (C:=C) (M:=M) _ _ [] _ (Li.cl_isOf hvt)
   have hvs:(Li.vars B ((z+b.length:Nat):Int)).map (fun t=>T (f+1) σ' t (z+B.length+b.length))=Li.vars B ((z+b.length:Nat):Int):=by
    refine Eq.trans (List.map_congr_left (g:=fun t=>t) fun t ht=>?_) (List.map_id' _)
    obtain⟨j,hj,rfl⟩:=List.getElem_of_mem ht
    have hj2:j<B.length:=by rw[Li.vars_len] at hj;exact hj
    rw[Li.vars_get _ _ _ hj2]
    unfold Ty.Eta
    rw[if_neg (by rintro⟨_,h⟩;omega)]
    exact eta_T _ _ _ _ _
   rw[hcl,List.map_append,hvs,List.map_map]
   have ha2:(a.map ((fun t=>T (f+1) σ' t (z+B.length+b.length)) ∘ fun x=>Li.lif B x ((z+b.length:Nat):Int)))=a.map fun t=>T (f+1) σ t (z+b.length):=ha
   rw[ha2,put_cl f hB hvt (z+b.length) (by omega)]
  ·rw[if_neg hk,List.nil_append]
   have e1:T (f+1) σ (.mk b k i a) z=.mk b k i (a.map fun t=>T (f+1) σ t (z+b.length)):=TW_out _ _ _ _ _ _ fun h=>absurd h hk
   have e2:T (f+1) σ' (.mk b k i (a.map (Li.lif B · ((z+b.length:Nat):Int)))) (z+B.length)=.mk b k i ((a.map (Li.lif B · ((z+b.length:Nat):Int))).map fun t=>T (f+1) σ' t (z+B.length+b.length)):=TW_out _ _ _ _ _ _ fun h=>absurd h hk
   rw[e1,e2,List.map_map,←ha];rfl
end Hs
namespace Sb
def flat (t:Tm):Tm:=.mk (List.replicate t.binds.length (.mk [] 0)) t.kind t.index t.args
theorem flat_len (t:Tm):(flat t).binds.length=t.binds.length:=List.length_replicate
theorem lift_flat (y:Int)(t:Tm):Nm.lift y (flat t) 0=flat (Nm.lift y t 0):=by
 obtain⟨b,k,i,a⟩:=t
 unfold flat
 rw[Nm.lift_eq]
 show Nm.lift y (.mk (List.replicate b.length (.mk [] 0)) k i a) 0=_
 rw[Nm.lift_eq,List.length_replicate];rfl
theorem put_flat {v:Tm}{xs:List Tm}(h:v.binds.length=xs.length)(s:Nm.St):Nm.put 100001 (flat v) xs s=Nm.put 100001 v xs s:=by
 unfold Nm.put Nm.putW
 rw[flat_len]
 by_cases hc:s.e≠0∨xs.length>v.binds.length
 ·rw[if_pos hc,if_pos hc]
 ·rw[if_neg hc,if_neg hc]
  have e1:(flat v).binds.drop xs.length=[]:=List.drop_of_length_le (by rw[flat_len];omega)
  have e2:v.binds.drop xs.length=[]:=List.drop_of_length_le (by omega)
  rw[e1,e2];rfl
theorem replaced_flat (t v:Tm)(s:Nm.St):replaced t (flat v) s=replaced t v s:=by
 unfold replaced
 rw[flat_len]
 by_cases h:v.binds.length≠t.args.length
 ·rw[if_pos h,if_pos h]
 ·rw[if_neg h,if_neg h]
  have:Nm.Put (flat v) t.args s.left s.dry=Nm.Put v t.args s.left s.dry:=by
   unfold Nm.Put
   rw[put_flat (by omega)]
  rw[this]
def flats (l:List (Int×Tm)):List (Int×Tm):=l.map fun p=>(p.1,flat p.2)
theorem find_flats (l:List (Int×Tm))(i:Int):find (flats l) i=(find l i).map flat:=find_map flat i l
theorem through_flats (l:List (Int×Tm))(t:Tm):∀ (z:Int) (s:Nm.St),through (flats l) t z s=through l t z s:=by
 induction t using Tm.ind with
 | h b k i a ih=>
  intro z s
  have key:∀ (m:List Tm) (z:Int) (s:Nm.St),(∀ u∈m,u∈a)→throughs (flats l) m z s=throughs l m z s:=by
   intro m
   induction m with
   | nil=>intro z s _;rw[throughs,throughs]
   | cons u m ihm=>
    intro z s hu
    rw[throughs,throughs,ih u (hu u (by simp)),ihm _ _ fun v hv=>hu v (by simp[hv])]
  rw[through,through,key a _ _ fun _ h=>h,find_flats]
  cases find l i with
  | none=>rfl
  | some v=>
   simp only[Option.map_some]
   rw[lift_flat,replaced_flat]
theorem thOk_flats {l:List (Int×Tm)}(hl:∀ p∈l,Wide p.2)(t:Tm):∀ (z:Int) (s:Nm.St),thOk (flats l) t z s→thOk l t z s:=by
 induction t using Tm.ind with
 | h b k i a ih=>
  intro z s h
  have key:∀ (m:List Tm) (z:Int) (s:Nm.St),(∀ u∈m,u∈a)→thOks (flats l) m z s→thOks l m z s:=by
   intro m
   induction m with
   | nil=>intro z s _ _;rw[thOks];trivial
   | cons u m ihm=>
    intro z s hu h
    rw[thOks] at h ⊢
    rw[through_flats] at h
    exact⟨ih u (hu u (by simp)) _ _ h.1,ihm _ _ (fun v hv=>hu v (by simp[hv])) h.2⟩
  have hthr:∀ (m:List Tm) (z:Int) (s:Nm.St),throughs (flats l) m z s=throughs l m z s:=by
   intro m
   induction m with
   | nil=>intro z s;rw[throughs,throughs]
   | cons u m ihm=>intro z s;rw[throughs,throughs,through_flats,ihm]
  rw[thOk] at h ⊢
  intro he hsp
  obtain⟨h1,h2⟩:=h he hsp
  refine⟨key a _ _ (fun _ h=>h) h1,fun hk hqe u hu=>?_⟩
  rw[hthr] at h2
  obtain⟨g1,g2,g3,g4⟩:=h2 hk hqe (flat u) (by rw[find_flats,hu];rfl)
  obtain⟨p,hp,hpu⟩:=find_mem hu
  have hw:Wide u:=hpu ▸ hl p hp
  refine⟨hw,hw.lift _ _,g3,fun hlen hpe=>?_⟩
  rw[lift_flat,flat_len,put_flat hlen] at g4
  exact g4 hlen hpe
theorem thOk_root (l:List (Int×Tm)){b b':List Ty}(k i:Int)(a:List Tm)(z:Int)(s:Nm.St)(hb:b.length=b'.length)(h:thOk l (.mk b k i a) z s):thOk l (.mk b' k i a) z s:=by
 rw[thOk] at h ⊢
 rw[←hb];exact h
theorem through_root (l:List (Int×Tm)){b b':List Ty}(k i:Int)(a:List Tm)(z:Int){s:Nm.St}(hs:InR s)(hb:b.length=b'.length)(he:(through l (.mk b k i a) z s).2.e=0):
  (through l (.mk b' k i a) z s).2=(through l (.mk b k i a) z s).2∧∃ k' i' a',(through l (.mk b k i a) z s).1=.mk b k' i' a'∧(through l (.mk b' k i a) z s).1=.mk b' k' i' a':=by
 obtain⟨s0,w1,hqe,h1⟩:=thr_step hs rfl he
 have h2:through l (.mk b' k i a) z s=(if k≠2 then (.mk b' k i (Nm.seqM (fun t s=>through l t (Nm.wr (z+b.length)) s) a (Nm.spend s).2).1,(Nm.seqM (fun t s=>through l t (Nm.wr (z+b.length)) s) a (Nm.spend s).2).2) else match find l i with
    | none=>(.mk b' k i (Nm.seqM (fun t s=>through l t (Nm.wr (z+b.length)) s) a (Nm.spend s).2).1,(Nm.seqM (fun t s=>through l t (Nm.wr (z+b.length)) s) a (Nm.spend s).2).2)
    | some u=>replaced (.mk b' k i (Nm.seqM (fun t s=>through l t (Nm.wr (z+b.length)) s) a (Nm.spend s).2).1) (Nm.lift (Nm.wr (z+b.length)) u 0) (Nm.seqM (fun t s=>through l t (Nm.wr (z+b.length)) s) a (Nm.spend s).2).2):=by
  have hsp:(Nm.spend s).1=true:=by
   rw[through] at he
   rw[if_neg (fun h=>h s0)] at he
   by_cases hsp:(Nm.spend s).1=true
   ·exact hsp
   ·rw[if_pos (by simpa using hsp)] at he;cases he
  rw[through,throughs_seq,←hb,if_neg (fun h=>h s0),if_neg (by rw[hsp];simp)]
  dsimp only
  by_cases hk:k≠2
  ·rw[if_pos (.inl hk),if_pos hk]
  ·rw[if_neg (by rintro(h | h);exact hk h;exact h hqe),if_neg hk]
   cases find l i <;> rfl
 rw[h1] at he ⊢
 rw[h2]
 generalize Nm.seqM (fun t s=>through l t (Nm.wr (z+b.length)) s) a (Nm.spend s).2=q at hqe he ⊢
 by_cases hk:k≠2
 ·rw[if_pos hk,if_pos hk]
  exact⟨rfl,_,_,_,rfl,rfl⟩
 ·rw[if_neg hk] at he ⊢
  rw[if_neg hk]
  cases hf:find l i with
  | none=>exact⟨rfl,_,_,_,rfl,rfl⟩
  | some v=>
   rw[hf] at he
   dsimp only at he ⊢
   rw[replaced_eq] at he ⊢
   rw[replaced_eq]
   by_cases hl:(Nm.lift (Nm.wr (z+b.length)) v 0).binds.length≠q.1.length
   ·rw[if_pos hl] at he;cases he
   ·rw[if_neg hl] at he ⊢
    rw[if_neg hl]
    by_cases hp:(Nm.Put (Nm.lift (Nm.wr (z+b.length)) v 0) q.1 q.2.left q.2.dry).2.e≠0
    ·rw[if_pos hp] at he;exact absurd he hp
    ·rw[if_neg hp,if_neg hp]
     exact⟨rfl,_,_,_,rfl,rfl⟩
theorem apply_ok2 {B:Nat}(L:Nat)(hLB:L * (B+1)≤4000000)(hB:B≤170)(hL:L≤100000)(l:List (Int×Tm))(hl:∀ p∈l,Bnd B (flat p.2)∧Wide p.2∧Wide (flat p.2))(t:Tm)(ht:Bnd B (flat t))(htb:Ty.sizes t.binds≤40000)(left:Int)(h0:0≤left∧left≤L)(dry:Bool):
  thOk l t 0 ⟨left,dry,0,0⟩∧((through l t 0 ⟨left,dry,0,0⟩).2.e=0→DoneOk (through l t 0 ⟨left,dry,0,0⟩).1):=by
 have hin:InR ⟨left,dry,0,0⟩:=⟨h0.1,by show left≤1000000000;omega⟩
 have hfl:∀ p∈flats l,Bnd B p.2∧Wide p.2:=fun p hp=>by
  obtain⟨q,hq,rfl⟩:=List.mem_map.1 hp
  exact⟨(hl q hq).1,(hl q hq).2.2⟩
 obtain⟨b,k,i,a⟩:=t
 have hbl:(flat (.mk b k i a)).binds.length=b.length:=flat_len _
 have h1:=th_ok L (by omega) hB hL (flats l) hfl _ ht 0 ⟨left,dry,0,0⟩ hin (fun _=>h0.2)
 have h2:=thOk_flats (fun p hp=>(hl p hp).2.1) _ _ _ h1
 have h3:=thOk_root l (b':=b) k i a 0 ⟨left,dry,0,0⟩ List.length_replicate h2
 refine⟨h3,fun e=>?_⟩
 obtain⟨g1,k',i',a',g2,g3⟩:=through_root l (b':=List.replicate b.length (.mk [] 0)) k i a 0 hin (by rw[List.length_replicate]) e
 have h4:=grow (flats l) (fun p hp=>(hfl p hp).1) _ ht 0 ⟨left,dry,0,0⟩ hin
 rw[through_flats] at h4
 have h4:(through l (.mk (List.replicate b.length (.mk [] 0)) k i a) 0 ⟨left,dry,0,0⟩).2.e=0→_∧((through l (.mk (List.replicate b.length (.mk [] 0)) k i a) 0 ⟨left,dry,0,0⟩).1.size:Int)+(through l (.mk (List.replicate b.length (.mk [] 0)) k i a) 0 ⟨left,dry,0,0⟩).2.left≤left∧Bnd B (through l (.mk (List.replicate b.length (.mk [] 0)) k i a) 0 ⟨left,dry,0,0⟩).1:=h4
 obtain⟨-,h5,h6⟩:=h4 (by rw[g1];exact e)
 have h7:=(through_in l (.mk (List.replicate b.length (.mk [] 0)) k i a) 0 _ hin).1
 rw[g3] at h5 h6
 rw[g2]
 have h8:=Bnd.full _ h6
 have h9:=Bnd.fit _ h6
 have hsz:(Tm.mk (List.replicate b.length (.mk [] 0)) k' i' a').size=(Tm.mk b k' i' a').size:=by rw[Tm.size_eq,Tm.size_eq]
 rw[hsz] at h5 h8
 have hsl:(Tm.mk b k' i' a').size≤L:=by omega
 have hful:(Tm.mk b k' i' a').full≤(Tm.mk (List.replicate b.length (.mk [] 0)) k' i' a').full+40000:=by
  rw[Tm.full_eq,Tm.full_eq]
  have htb:Ty.sizes b≤40000:=htb
  omega
 have hm1:(Tm.mk b k' i' a').size * (B+1)≤L * (B+1):=Nat.mul_le_mul_right _ hsl
 refine⟨by omega,fun hc=>⟨?_,?_⟩⟩
 ·have hm2:(Tm.mk b k' i' a').size * (B+1)≤5000 * 171:=Nat.mul_le_mul hc.1 (by omega)
  omega
 ·rw[Tm.fit_iff] at h9 ⊢;exact h9
end Sb
namespace Li
theorem over_at {p:Pr}{B:List Ty}(h:(over p B).2=0):may p.l p.r p.m B=0∧(over p B).1=up p B∧(rt (lif B p.l 0)&&rt (lif B p.r 0))=true:=by
 unfold over at h ⊢
 by_cases hm:may p.l p.r p.m B=0
 ·rw[if_neg (fun h=>h hm)] at h ⊢
  refine⟨hm,?_⟩
  unfold done at h ⊢
  by_cases hr:(rt (up p B).l&&rt (up p B).r)=true
  ·rw[if_pos hr];exact⟨rfl,hr⟩
  ·rw[if_neg hr] at h;cases h
 ·rw[if_pos hm] at h;exact absurd h hm
structure In (p:Pr) (B:List Ty):Prop where
 l:p.l.full≤150∧p.l.Fit
 r:p.r.full≤150∧p.r.Fit
 ml:p.m.length≤20
 m:∀ t∈p.m,t.size≤60
 bl:B.length≤8
 b:∀ t∈B,t.size≤60
variable {p:Pr} {B:List Ty}
theorem In.bs (h:In p B):Ty.sizes B≤480:=by have:=sizes_le22 h.b;have:=h.bl;omega
theorem In.fullL (h:In p B):(lif B p.l 0).full≤4400000:=by have:=lif_full h.b h.bl p.l 0;have:=h.l.1;omega
theorem In.fullR (h:In p B):(lif B p.r 0).full≤4400000:=by have:=lif_full h.b h.bl p.r 0;have:=h.r.1;omega
theorem In.rtL (h:In p B)(hr:rt (lif B p.l 0)=true):(lif B p.l 0).full≤300150:=by
 have h1:=lif_wide h.b p.l 0
 have:=h.l.1
 unfold rt at hr
 rw[decide_eq_true_eq] at hr
 omega
theorem In.rtR (h:In p B)(hr:rt (lif B p.r 0)=true):(lif B p.r 0).full≤300150:=by
 have h1:=lif_wide h.b p.r 0
 have:=h.r.1
 unfold rt at hr
 rw[decide_eq_true_eq] at hr
 omega
theorem In.fitL (h:In p B):(lif B p.l 0).Fit:=lif_fit h.b (by have:=h.bl;omega) p.l 0 (by omega) (by have:=h.l.1;omega) h.l.2
theorem In.fitR (h:In p B):(lif B p.r 0).Fit:=lif_fit h.b (by have:=h.bl;omega) p.r 0 (by omega) (by have:=h.r.1;omega) h.r.2
theorem In.ms (h:In p B):Ty.sizes (p.m.map (arr B))≤800000:=by
 have h1:∀ t∈p.m.map (arr B),t.size≤540:=fun t ht=>by
  obtain⟨u,hu,rfl⟩:=List.mem_map.1 ht
  have h1:=h.m u hu
  have h2:=h.bs
  obtain⟨a,b⟩:=u
  rw[ty_size] at h1
  unfold arr
  rw[ty_size,Ty.sizes_append]
  simp only[args_mk'];omega
 have:=sizes_le22 h1
 rw[List.length_map] at this
 have:=h.ml;omega
theorem cl_fit {t:Tm}(h:t.Fit)(B:List Ty):(cl t B).Fit:=by
 obtain⟨b,k,i,a⟩:=t
 exact Tm.fit_iff.2 (Tm.fit_iff.1 h)
end Li
def TRS_44:TI:=⟨2,true,[Value.slice none 0 0,Value.int IntKind.i64 0],[(0,1,false),(1,1,false)],none,32,6,none,false⟩
theorem TRS_44_ok:TypOk Tryz.prog 44 TRS_44:=by constructor <;> kernel_rfl
def TRS_33:TI:=⟨1,false,[Value.slice none 0 0],[],some 44,24,5,none,false⟩
theorem TRS_33_ok:TypOk Tryz.prog 33 TRS_33:=by constructor <;> kernel_rfl
def TRS:List (Nat×TI):=[(44,TRS_44),(33,TRS_33)]
theorem TRS_ok:TabOk Tryz.prog TRS:=(((TabOk.nil _).cons TRS_33_ok).cons TRS_44_ok)
namespace Ru
def swap (p:Li.Pr):Li.Pr:=⟨p.r,p.l,p.m⟩
end Ru
theorem rutypes_d (M:List Ty)(h:Ty.sizes M≤800000):PureC Tryz.prog 101 [.sl 2 (eTys M) none] (.sl 2 (eTys M) none):=by
 have ha:=arrow_d (.mk [] 0) M (by rw[ty_size];simp[Ty.sizes];omega)
 simp only[eTy_eq,args_mk',base_mk',List.append_nil] at ha
 refine calldw 0 7 [ResultVar.tmp 2] TRS_ok Tryz.func101 rfl Tryz.ntmps101 rfl fun cx hnt hn0=>?_
 ·skip
  refine dw_seq ?_;refine dwk [] TRS_ok hnt fun _ z9=>z9 _ _ ?_;refine dw_seq ?_;refine dwk [(3,.ag [.sl 2 (eTys []) none,.v (.int .i64 0)])] TRS_ok hnt fun K hK=>?_;refine And.intro (auV) ?_;refine dcl (ha) ?_;refine hK _ _ ?_;clear hK K;refine dw_ret ?_
  exact reta rfl
def TRM_35:TI:=⟨3,true,[Value.int IntKind.i64 0,Value.slice none 0 0,Value.slice none 0 0],[(0,1,false),(1,1,false),(2,1,false)],none,56,6,none,false⟩
theorem TRM_35_ok:TypOk Tryz.prog 35 TRM_35:=by constructor <;> kernel_rfl
def TRM_33:TI:=⟨1,false,[Value.slice none 0 0],[],some 44,24,5,none,false⟩
theorem TRM_33_ok:TypOk Tryz.prog 33 TRM_33:=by constructor <;> kernel_rfl
def TRM_24:TI:=⟨3,true,[Value.int IntKind.i64 0,Value.slice none 0 0,Value.slice none 0 0],[(0,1,false),(1,1,false),(2,1,false)],none,56,6,none,false⟩
theorem TRM_24_ok:TypOk Tryz.prog 24 TRM_24:=by constructor <;> kernel_rfl
def TRM_22:TI:=⟨1,false,[Value.slice none 0 0],[],some 103,24,5,none,false⟩
theorem TRM_22_ok:TypOk Tryz.prog 22 TRM_22:=by constructor <;> kernel_rfl
def TRM_86:TI:=⟨9,true,[Value.slice none 0 0,Value.int IntKind.i64 0,Value.int IntKind.i64 0,Value.slice none 0 0,Value.slice none 0 0,Value.int IntKind.i64 0,Value.int IntKind.i64 0,Value.slice none 0 0,Value.slice none 0 0],[(0,4,true),(4,4,true),(8,1,false)],none,152,6,none,false⟩
theorem TRM_86_ok:TypOk Tryz.prog 86 TRM_86:=by constructor <;> kernel_rfl
def TRM_3:TI:=⟨1,false,[Value.int IntKind.i64 0],[],none,8,2,none,false⟩
theorem TRM_3_ok:TypOk Tryz.prog 3 TRM_3:=by constructor <;> kernel_rfl
def TRM_103:TI:=⟨2,true,[Value.slice none 0 0,Value.int IntKind.i64 0],[(0,1,false),(1,1,false)],none,32,6,none,false⟩
theorem TRM_103_ok:TypOk Tryz.prog 103 TRM_103:=by constructor <;> kernel_rfl
def TRM_44:TI:=⟨2,true,[Value.slice none 0 0,Value.int IntKind.i64 0],[(0,1,false),(1,1,false)],none,32,6,none,false⟩
theorem TRM_44_ok:TypOk Tryz.prog 44 TRM_44:=by constructor <;> kernel_rfl
def TRM:List (Nat×TI):=[(35,TRM_35),(33,TRM_33),(24,TRM_24),(22,TRM_22),(86,TRM_86),(3,TRM_3),(103,TRM_103),(44,TRM_44)]
theorem TRM_ok:TabOk Tryz.prog TRM:=(((((((((TabOk.nil _).cons TRM_44_ok).cons TRM_103_ok).cons TRM_3_ok).cons TRM_86_ok).cons TRM_22_ok).cons TRM_24_ok).cons TRM_33_ok).cons TRM_35_ok)
namespace Ru
end Ru
theorem twd_d (b:Int)(C M:List Ty)(h1:Ty.sizes C≤900000)(h2:Ty.sizes M≤900000):PureC Tryz.prog 11 [.ag [.v (.int .i64 b),.sl 2 (eTys C) none,.sl 2 (eTys M) none]] (.ag [.v (.int .i64 b),.sl 2 (eTys C) none,.sl 2 (eTys M) none]):=by
 have hC:=toTys_d C h1
 have hM:=toTys_d M h2
 refine calldw 0 12 [ResultVar.cell 2 35] TRM_ok Tryz.func11 rfl Tryz.ntmps11 rfl fun cx hnt hn0=>?_
 ·skip
  refine dw_seq ?_;refine dwk [] TRM_ok hnt fun _ z9=>z9 _ _ ?_;refine dw_seq ?_;refine dwkD [] TRM_ok hnt fun K hK=>?_;refine dcl (hC) ?_;refine dcl (hM) ?_;refine hK _ _ (by kernel_rfl) ?_;clear hK K;refine dw_ret ?_
  exact reta rfl
theorem ruworld_d (b:Int)(C Mw:List Ty)(p:Li.Pr)(h1:Ty.sizes C≤800000)(h2:Ty.sizes p.m≤800000):PureC Tryz.prog 41 [.ag [.v (.int .i64 b),.sl 2 (eTys C) none,.sl 2 (eTys Mw) none],.ag (ePr p)] (.ag [.v (.int .i64 b),.sl 2 (eTys C) none,.sl 2 (eTys p.m) none]):=by
 have hC:=rutypes_d C h1
 have hM:=rutypes_d p.m h2
 rw[ePr_at]
 refine calldw 0 14 [ResultVar.cell 4 35] TRM_ok Tryz.func41 rfl Tryz.ntmps41 rfl fun cx hnt hn0=>?_
 ·skip
  refine dw_seq ?_;refine dwk [] TRM_ok hnt fun _ z9=>z9 _ _ ?_;refine dw_seq ?_;refine dwkD [] TRM_ok hnt fun K hK=>?_;refine dcl (hC) ?_;refine dcl (hM) ?_;refine hK _ _ (by kernel_rfl) ?_;clear hK K;refine dw_ret ?_
  exact reta rfl
def TRJ_29:TI:=⟨4,true,[Value.slice none 0 0,Value.int IntKind.i64 0,Value.int IntKind.i64 0,Value.slice none 0 0],[(0,1,false),(1,2,true),(3,1,false)],none,64,6,none,false⟩
theorem TRJ_29_ok:TypOk Tryz.prog 29 TRJ_29:=by constructor <;> kernel_rfl
def TRJ_82:TI:=⟨9,true,[Value.slice none 0 0,Value.int IntKind.i64 0,Value.int IntKind.i64 0,Value.slice none 0 0,Value.slice none 0 0,Value.int IntKind.i64 0,Value.int IntKind.i64 0,Value.slice none 0 0,Value.slice none 0 0],[(0,4,true),(4,4,true),(8,1,false)],none,152,6,none,false⟩
theorem TRJ_82_ok:TypOk Tryz.prog 82 TRJ_82:=by constructor <;> kernel_rfl
def TRJ_44:TI:=⟨2,true,[Value.slice none 0 0,Value.int IntKind.i64 0],[(0,1,false),(1,1,false)],none,32,6,none,false⟩
theorem TRJ_44_ok:TypOk Tryz.prog 44 TRJ_44:=by constructor <;> kernel_rfl
def TRJ_3:TI:=⟨1,false,[Value.int IntKind.i64 0],[],none,8,2,none,false⟩
theorem TRJ_3_ok:TypOk Tryz.prog 3 TRJ_3:=by constructor <;> kernel_rfl
def TRJ_33:TI:=⟨1,false,[Value.slice none 0 0],[],some 44,24,5,none,false⟩
theorem TRJ_33_ok:TypOk Tryz.prog 33 TRJ_33:=by constructor <;> kernel_rfl
def TRJ:List (Nat×TI):=[(29,TRJ_29),(82,TRJ_82),(44,TRJ_44),(3,TRJ_3),(33,TRJ_33)]
theorem TRJ_ok:TabOk Tryz.prog TRJ:=((((((TabOk.nil _).cons TRJ_33_ok).cons TRJ_3_ok).cons TRJ_44_ok).cons TRJ_82_ok).cons TRJ_29_ok)
theorem rsize_d (t:Tm)(h:t.full≤400000):PureC Tryz.prog 93 [.ag (eTm t)] (.v (.int .i64 t.size)):=by
 refine pure_below (by kernel_rfl) fun m Im w vs hv=>?_
 match vs,hv with
 | [x1],hv=>
  obtain⟨b,k,i,a,rfl,ht⟩:=agTm hv.1
  refine(size6_r t ht w (by have:=Tm.size_le_full t;omega) (Keep.refl _ _)).mono ?_
  rintro e w' ⟨rfl,hb⟩
  exact⟨_,rfl,hb,fun _ _ _=>.v _⟩
namespace Ru
def wt (p:Li.Pr):Int:=(p.l.size:Int)+(p.r.size:Int)
def cmp (a b:Li.Pr):Int:=orl (sgn (wt a) (wt b)) (orl (Tm.cmp a.l b.l) (orl (Tm.cmp a.r b.r) (Tm.cmpB a.m b.m)))
end Ru
theorem rwt_d (p:Li.Pr)(h1:p.l.full≤400000)(h2:p.r.full≤400000):PureC Tryz.prog 35 [.ag (ePr p)] (.v (.int .i64 (Ru.wt p))):=by
 have c1:=rsize_d p.l h1
 have c2:=rsize_d p.r h2
 have z1:=Tm.size_le_full p.l
 have z2:=Tm.size_le_full p.r
 rw[ePr_at]
 rw[eTm_eq] at c1 c2
 unfold Ru.wt
 refine calldw 0 10 [ResultVar.tmp 2] TRJ_ok Tryz.func35 rfl Tryz.ntmps35 rfl fun cx hnt hn0=>?_
 ·skip
  refine dw_seq ?_;refine dwk [] TRJ_ok hnt fun _ z9=>z9 _ _ ?_;refine dw_seq ?_;refine dwkD [(9,.v (.int .i64 (((p.l.size)+(p.r.size)))))] TRJ_ok hnt fun K hK=>?_;refine dcl (c1) ?_;refine dcl (c2) ?_;refine And.intro auI ?_;refine hK _ _ (by kernel_rfl) ?_;clear hK K;refine dw_ret ?_
  exact reta rfl
namespace Li
theorem looses_none {l:List Int}(h:∀ x∈l,x<0):l.foldl looseL 0=0:=by
 induction l with
 | nil=>rfl
 | cons x l ih=>
  have hx:=h x (by simp)
  have:looseL 0 x=0:=by
   unfold looseL
   rw[if_neg (show ¬ x>1000 by omega),if_neg (by omega)]
  rw[List.foldl_cons,this]
  exact ih fun y hy=>h y (by simp[hy])
theorem isOf_lo {C M:List Ty}{t:Tm}{u:Ty}(h:IsOf C M t [] u):(t.looses 0).foldl looseL 0=0:=
 looses_none fun x hx=>by
  have:=isOf_loose (X:=[]) t [] u (by simpa using h) x hx
  simpa using this
theorem may_good {b:Int}{C:List Ty}{p:Pr}(B:List Ty)(h:Ru.Good b C p):may p.l p.r p.m B=0∨may p.l p.r p.m B=2:=by
 obtain⟨_,_,_,u,_,_,h1,h2⟩:=h
 have l1:lo p.l=false:=by unfold lo;rw[isOf_lo h1];rfl
 have l2:lo p.r=false:=by unfold lo;rw[isOf_lo h2];rfl
 have hm:((sortU (metasL [p.l,p.r])).any fun x=>decide (x<0∨(p.m.length:Int)≤x))=false:=by
  rw[List.any_eq_false]
  intro x hx
  rw[(sortU_spec _).2] at hx
  unfold metasL at hx
  simp only[List.flatMap_cons,List.flatMap_nil,List.append_nil,List.mem_append] at hx
  rw[decide_eq_true_eq]
  rcases hx with hx | hx
  ·have:=metas_in _ _ _ h1 0 1 x hx;omega
  ·have:=metas_in _ _ _ h2 0 1 x hx;omega
 unfold may
 rw[l1,l2,if_neg (by simp),if_neg (by rw[hm];simp)]
 split
 ·exact .inr rfl
 ·exact .inl rfl
structure Kept (C B:List Ty) (p q:Pr):Prop where
 e:q=⟨cl (lif B p.l 0) B,cl (lif B p.r 0) B,p.m.map (arr B)⟩
 m:q.m=p.m.map (arr B)
 l:rt q.l=true
 r:rt q.r=true
 u:∃ v:Ty,v.args=B∧IsOf C q.m q.l [] v∧IsOf C q.m q.r [] v
 pl:(Pn.uses q.l [] []).2=(Pn.uses p.l [] []).2
 pr:(Pn.uses q.r [] []).2=(Pn.uses p.r [] []).2
theorem closed_good {b:Int}{C B:List Ty}{p:Pr}(h:Ru.Good b C p)(hl:(p.l.full:Int)+B.length≤1000)(hr:(p.r.full:Int)+B.length≤1000):
  ((closed p B).2=0∧Kept C B p (closed p B).1)∨(closed p B).2=2:=by
 unfold closed
 by_cases ho:(over p B).2=0
 ·rw[if_neg (fun h=>h ho)]
  obtain⟨_,h2,_⟩:=over_at ho
  rw[h2]
  obtain⟨q,hq⟩:∃ q,clP (up p B) B=q:=⟨_,rfl⟩
  rw[hq]
  unfold done
  by_cases hd:(rt q.l&&rt q.r)=true
  ·rw[if_pos hd]
   refine .inl ⟨rfl,?_⟩
   rw[Bool.and_eq_true] at hd
   subst hq
   obtain⟨_,_,_,u,_,hu,h1,h2⟩:=h
   have g1:=lif_isOf (B:=B) p.l [] u (by simpa using hl) h1
   have g2:=lif_isOf (B:=B) p.r [] u (by simpa using hr) h2
   rw[List.append_nil] at g1 g2
   refine⟨rfl,rfl,hd.1,hd.2,⟨arr B u,?_,cl_isOf g1,cl_isOf g2⟩,uses_closed hl h1,uses_closed hr h2⟩
   show B++u.args=B
   rw[hu,List.append_nil]
  ·rw[if_neg hd];exact .inr rfl
 ·rw[if_pos ho]
  right
  show (over p B).2=2
  unfold over at ho ⊢
  rcases may_good B h with h0 | h2
  ·rw[if_neg (fun h=>h h0)] at ho ⊢
   unfold done at ho ⊢
   split at ho
   ·exact absurd rfl ho
   ·rw[if_neg (by assumption)]
  ·rw[if_pos (by omega)];exact h2
end Li
namespace Sb
end Sb
namespace Pn
variable {C M:List Ty}
end Pn
namespace Pn
end Pn
namespace Pn
theorem getT_bfind (l:Bd)(m:Int):getT l m=match bfind l m with | some z=>(z,true) | none=>(Tm.zero,false):=by
 have key:∀ l:Bd,getP l m=l.find? fun p=>p.1==m:=by
  intro l
  unfold getP
  induction l with
  | nil=>rfl
  | cons p l ih=>
   rw[idxOf,List.find?_cons]
   by_cases h:p.1=m
   ·simp[h]
   ·have h2:(p.1==m)=false:=by simp[h]
    rw[if_neg h,h2,←ih]
    cases idxOf m l <;> simp
 unfold getT bfind
 rw[key]
 cases l.find? (fun p=>p.1==m) <;> rfl
end Pn
namespace Pn
end Pn
namespace Pn
end Pn
namespace Pn
def hit (p:Tm)(s:Spot):Bool:=decide ((mAll [(p,nb s.1)]).2=0)
theorem find_at {α:Type}{f:α→Bool}{l:List α}{j:Nat}(hj:j<l.length)(h:∀ i (hi:i<l.length),i<j→f l[i]=false)(hf:f l[j]=true):l.find? f=some l[j]:=by
 rw[List.find?_eq_some_iff_append]
 refine⟨hf,l.take j,l.drop (j+1),?_,fun x hx=>?_⟩
 ·rw[←List.drop_eq_getElem_cons hj,List.take_append_drop]
 ·obtain⟨i,hi,rfl⟩:=List.getElem_of_mem hx
  rw[List.length_take] at hi
  rw[List.getElem_take,h i (by omega) (by omega)];rfl
end Pn
namespace Pn
variable {C M:List Ty}
end Pn
theorem Nar.mono {B B':Nat}(h:B≤B'){t:Tm}:Nar B t→Nar B' t:=by
 induction t using Tm.ind with
 | h b k i a ih=>exact fun ht=>.mk _ _ _ _ (Nat.le_trans ht.inv.1 h) fun u hu=>ih u hu (ht.inv.2 u hu)
namespace Pn
variable {C M:List Ty}
theorem nodup_len {α:Type}[DecidableEq α]:∀ (l m:List α),l.Nodup→(∀ x∈l,x∈m)→l.length≤m.length
 | [],_,_,_=>Nat.zero_le _
 | x :: l,m,hn,h=>by
  have h1:=nodup_len l (m.erase x) (List.nodup_cons.1 hn).2 fun y hy=>(List.mem_erase_of_ne (by rintro rfl;exact(List.nodup_cons.1 hn).1 hy)).2 (h y (by simp[hy]))
  have h2:=List.length_erase_of_mem (h x (by simp))
  have h3:=List.length_pos_of_mem (h x (by simp))
  rw[List.length_cons];omega
end Pn
namespace Li
theorem eta_bnd {N:Nat}(hN:N≤100000)(T:Ty):∀ i:Int,T.size≤N→0≤i→i≤100000→Bnd N (Ty.eta T 0 i):=by
 induction T using Ty.ind with
 | h a b ih=>
  intro i hs h0 h1
  rw[ty_size] at hs
  have hal:=Ty.le_sizes a
  rw[Ty.eta_eq,if_pos rfl]
  refine .mk _ _ _ _ (by omega) ⟨by omega,by omega⟩ fun u hu=>?_
  obtain⟨j,hj,rfl⟩:=List.getElem_of_mem hu
  have hj2:j<a.length:=by rw[Ty.etas_len] at hj;exact hj
  rw[Nm.etas_nth hj]
  have:=Nm.size_le hj2
  exact ih _ (List.getElem_mem hj2) _ (by omega) (by omega) (by omega)
theorem lif_bnd {N:Nat}(hN:N≤100000){B:List Ty}(hB:∀ T∈B,T.size≤N)(t:Tm):∀ z:Nat,Bnd N t→z+t.full+B.length≤1000→Bnd N (lif B t (z:Nat)):=by
 induction t using Tm.ind with
 | h b k i a ih=>
  intro z ht hz
  rw[Tm.full_eq] at hz
  have hbl:=Ty.le_sizes b
  obtain⟨t1,t2,t3⟩:=ht.inv
  rw[lif_eq,lifs_map,show ((z:Nat):Int)+(b.length:Nat)=((z+b.length:Nat):Int) by omega]
  refine .mk _ _ _ _ t1 t2 fun u hu=>?_
  rcases List.mem_append.1 hu with hu | hu
  ·by_cases hk:k=2
   ·rw[if_pos hk] at hu
    obtain⟨j,hj,rfl⟩:=List.getElem_of_mem hu
    have hj2:j<B.length:=by rw[vars_len] at hj;exact hj
    rw[vars_get _ _ _ hj2]
    unfold Ty.Eta
    rw[if_neg (by rintro⟨_,h⟩;omega)]
    exact eta_bnd hN _ _ (hB _ (List.getElem_mem hj2)) (by omega) (by omega)
   ·rw[if_neg hk] at hu;cases hu
  ·obtain⟨v,hv,rfl⟩:=List.mem_map.1 hu
   have:=Tm.full_mem hv
   exact ih v hv _ (t3 v hv) (by omega)
end Li
theorem Bnd.mono {N N':Nat}(h:N≤N'){t:Tm}:Bnd N t→Bnd N' t:=by
 induction t using Tm.ind with
 | h b k i a ih=>exact fun ht=>.mk _ _ _ _ (Nat.le_trans ht.inv.1 h) ht.inv.2.1 fun u hu=>ih u hu (ht.inv.2.2 u hu)
theorem headTy_m {C M M' X:List Ty}{k i:Int}(hk:k≠2):headTy C M X k i=headTy C M' X k i:=by
 unfold headTy
 by_cases h:i<0
 ·rw[if_pos h,if_pos h]
 ·rw[if_neg h,if_neg h]
  by_cases h0:k=0
  ·rw[if_pos h0,if_pos h0]
  ·rw[if_neg h0,if_neg h0]
   by_cases h1:k=1
   ·rw[if_pos h1,if_pos h1]
   ·rw[if_neg h1,if_neg h1,if_neg hk,if_neg hk]
theorem isOf_nm' {C M M':List Ty}(t:Tm):Pn.mtt t=[]→∀ (X:List Ty) (u:Ty),IsOf C M t X u→IsOf C M' t X u:=by
 induction t using Tm.ind with
 | h b k i a ih=>
  intro hm X u ht
  rw[Pn.mtt_eq,List.append_eq_nil_iff] at hm
  obtain⟨h1,h,h2,h3,h4⟩:=isOf_mk.1 ht
  have hk:k≠2:=fun hk=>by rw[if_pos hk] at hm;cases hm.1
  refine isOf_mk.2 ⟨h1,h,by rw[headTy_m (M':=M) hk];exact h2,h3,?_⟩
  rw[isOfs_iff] at h4 ⊢
  refine⟨h4.1,fun j hj hj'=>ih _ (List.getElem_mem hj) ?_ _ _ (h4.2 j hj hj')⟩
  rw[List.eq_nil_iff_forall_not_mem]
  intro n hn
  have:n∈Pn.mtts a:=Pn.mtts_mem.2 ⟨_,List.getElem_mem hj,hn⟩
  rw[hm.2] at this;cases this
theorem sizes_rep:∀ n:Nat,Ty.sizes (List.replicate n (.mk [] 0))=n
 | 0=>by simp[Ty.sizes]
 | n+1=>by rw[List.replicate_succ,Ty.sizes,sizes_rep n,ty_size];simp[Ty.sizes];omega
namespace Li
theorem find_cls (s:List (Int×Tm))(B:List Ty)(i:Int):Sb.find (So.ss (cls s B)) i=(Sb.find s i).map fun v=>cl v B:=by
 rw[Pn.find_ss]
 exact Sb.find_map (fun v=>cl v B) i s
theorem img_law {b:Int}{C B:List Ty}{p y:Pr}{s:List (Int×Tm)}(hg:Ru.Good b C p)(hpl:p.l.full≤150∧p.l.Fit)(hBl:B.length≤4)(hB:∀ T∈B,T.size≤60)(hr:Sb.right s=true) 
  (hs:∀ q∈s,(∃ h,headTy C p.m B 2 q.1=some h∧IsOf C p.m q.2 B h)∧q.2.full≤150∧q.2.Fit) (hnm:∀ q∈s,Pn.mtt q.2=[]) (hm:∀ i∈Pn.mtt p.l,Sb.find s i≠none) (hk:Kept C B p y) :
  Sb.right (So.ss (cls s B))=true∧(Sb.apply (So.ss (cls s B)) y.l 20000 false).2.e≠1∧((Sb.apply s p.l 5000 false).2.e=0→(Sb.apply (So.ss (cls s B)) y.l 20000 false).2.e=0→cl (Sb.apply s p.l 5000 false).1 B=(Sb.apply (So.ss (cls s B)) y.l 20000 false).1) ∧
   (Wide y.l∧(thOk (So.ss (cls s B)) y.l 0 ⟨20000,false,0,0⟩∧((Sb.through (So.ss (cls s B)) y.l 0 ⟨20000,false,0,0⟩).2.e=0→DoneOk (Sb.through (So.ss (cls s B)) y.l 0 ⟨20000,false,0,0⟩).1))):=by
 obtain⟨v0,hv0,hy1,hy2⟩:=hk.u
 have hye:y.l=cl (lif B p.l 0) B:=by rw[hk.e]
 have hym:=hk.m
 have hyr:=hk.l
 unfold rt at hyr
 rw[decide_eq_true_eq] at hyr
 obtain⟨_,_,_,u,_,_,hp1,_⟩:=hg
 have zB:Ty.sizes B≤240:=by have:=sizes_le22 hB;omega
 have hrt:Sb.right (So.ss (cls s B))=true:=by
  refine right_ss ?_
  unfold cls
  rw[List.map_map]
  show (s.map (·.1)).Nodup
  rw[List.Nodup,List.pairwise_map]
  exact(of_decide_eq_true hr).imp fun h=>Int.ne_of_lt h
 have ht:∀ q∈So.ss (cls s B),∃ q0∈s,q=(q0.1,cl q0.2 B):=fun q hq=>by
  obtain⟨q0,hq0,rfl⟩:=List.mem_map.1 ((So.ss_same _).mem hq)
  exact⟨q0,hq0,rfl⟩
 have hclf:∀ q0∈s,(cl q0.2 B).full≤390∧(cl q0.2 B).Fit:=fun q0 hq0=>by
  have h1:=(hs q0 hq0).2
  generalize q0.2=v at h1
  obtain⟨vb,vk,vi,va⟩:=v
  refine⟨?_,?_⟩
  ·have h2:=h1.1
   rw[Tm.full_eq] at h2
   show (Tm.mk (B++vb) vk vi va).full≤390
   rw[Tm.full_eq,Ty.sizes_append];omega
  ·have h2:=h1.2
   show (Tm.mk (B++vb) vk vi va).Fit
   rw[Tm.fit_iff] at h2 ⊢;exact h2
 have htt:∀ q∈So.ss (cls s B),(∃ h,headTy C y.m [] 2 q.1=some h∧IsOf C y.m q.2 [] h)∧Bnd 1000 q.2∧q.2.full≤1000000:=fun q hq=>by
  obtain⟨q0,hq0,rfl⟩:=ht q hq
  obtain⟨⟨h,h1,h2⟩,h3,h4⟩:=hs q0 hq0
  have h5:=hclf q0 hq0
  refine⟨⟨arr B h,?_,?_⟩,Bnd.of_full _ (by dsimp only;omega) h5.2,by dsimp only;omega⟩
  ·rw[headTy_ctx (X':=[]) (by decide)] at h1
   have:=head_lif (B:=B) h1
   rw[headTy_ctx (X':=[]) (by decide),if_pos rfl] at this
   rw[hym];exact this
  ·exact cl_isOf (isOf_nm' _ (hnm q0 hq0) _ _ h2)
 have hlb:Bnd 170 (lif B p.l 0):=lif_bnd (by decide) (fun T hT=>by have:=hB T hT;omega) p.l 0 (Bnd.mono (by decide) (Bnd.of_full p.l hpl.1 hpl.2)) (by omega)
 have hlbb:(lif B p.l 0).binds=p.l.binds:=by obtain⟨⟨lb,lk,li,la⟩,_,_⟩:=p;rfl
 have hpb:Ty.sizes p.l.binds≤150:=by have:=hpl.1;obtain⟨⟨lb,lk,li,la⟩,_,_⟩:=p;rw[Tm.full_eq] at this;show Ty.sizes lb≤150;omega
 have hpbl:=Ty.le_sizes p.l.binds
 have hyb:Bnd 1000 y.l:=by
  rw[hye]
  have h1:=Bnd.mono (N':=1000) (by decide) hlb
  have h2:=hlbb
  generalize lif B p.l 0=w at h1 h2
  obtain⟨wb,wk,wi,wa⟩:=w
  have h2:wb=p.l.binds:=h2
  exact .mk _ _ _ _ (by rw[Ty.sizes_append];show Ty.sizes B+Ty.sizes wb≤1000;rw[h2];omega) h1.inv.2.1 h1.inv.2.2
 have hybl:y.l.binds=B++p.l.binds:=by rw[hye];show B++(lif B p.l 0).binds=_;rw[hlbb]
 have hyz:y.l.full≤5005000:=by
  have h1:=Bnd.full _ hyb
  have h2:y.l.size * (1000+1)≤5000 * 1001:=Nat.mul_le_mul_right _ hyr.1
  omega
 have b0:(0:Int)≤20000∧(20000:Int)≤1000000000:=⟨by decide,by decide⟩
 have hk1:=Sb.apply_keeps (C:=C) (M:=y.m) (B:=1000) (by decide) (So.ss (cls s B)) [] hrt htt y.l v0 hy1 hyb (by simp only[List.length_nil];omega) 20000 false b0
 refine⟨hrt,hk1.1,fun e1 e2=>?_,Bnd.wide _ hyb (by omega) (by decide),?_⟩
 ·obtain⟨⟨a,sa⟩,ha⟩:∃ r,Sb.apply s p.l 5000 false=r:=⟨_,rfl⟩
  obtain⟨⟨c,sc⟩,hc⟩:∃ r,Sb.apply (So.ss (cls s B)) y.l 20000 false=r:=⟨_,rfl⟩
  rw[ha] at e1 ⊢
  rw[hc] at e2 ⊢
  have hpB:=Pn.isOf_under B p.l [] u hp1
  rw[List.append_nil] at hpB
  have g1:=Hs.apply_T (C:=C) (M:=p.m) (B:=150) (by decide) (X0:=B) (fun q hq=>⟨(hs q hq).1,Bnd.of_full _ (hs q hq).2.1 (hs q hq).2.2,by have:=(hs q hq).2.1;omega⟩) hpB (Bnd.of_full _ hpl.1 hpl.2) (by have:=hpl.1;omega) ⟨by decide,by decide⟩ ha e1
  have g2:=Hs.apply_T (C:=C) (M:=y.m) (B:=1000) (by decide) (X0:=[]) htt hy1 hyb (by simp only[List.length_nil];omega) b0 hc e2
  have g3:=Hs.lif_T (C:=C) (M:=p.m) 100001 (B:=B) (fun T hT=>by have:=hB T hT;omega) (Sb.find s) (Sb.find (So.ss (cls s B))) (fun i v hv=>by
   obtain⟨q,hq,rfl,rfl⟩:=Sb.find_at hv
   obtain⟨⟨h,_,h2⟩,_⟩:=hs q hq
   exact⟨by rw[find_cls,hv];rfl,h,h2⟩) p.l hm 0 (by omega)
  show cl a B=c
  rw[g1,g2,hye]
  have e0:(((0:Nat):Int))=0:=rfl
  rw[e0,Nat.zero_add] at g3
  rw[←g3]
  generalize lif B p.l 0=w
  obtain⟨wb,wk,wi,wa⟩:=w
  have h1:Hs.T 100002 (Sb.find (So.ss (cls s B))) (.mk wb wk wi wa) B.length=Hs.wb wb (Hs.T 100002 (Sb.find (So.ss (cls s B))) (.mk [] wk wi wa) (B.length+wb.length)):=Hs.TW_wb _ wb (.mk [] wk wi wa) _
  have h2:Hs.T 100002 (Sb.find (So.ss (cls s B))) (.mk (B++wb) wk wi wa) 0=Hs.wb (B++wb) (Hs.T 100002 (Sb.find (So.ss (cls s B))) (.mk [] wk wi wa) (0+(B++wb).length)):=Hs.TW_wb _ (B++wb) (.mk [] wk wi wa) _
  rw[h1]
  show _=Hs.T 100002 (Sb.find (So.ss (cls s B))) (.mk (B++wb) wk wi wa) 0
  rw[h2,List.length_append,Nat.zero_add];rfl
 ·refine Sb.apply_ok2 (B:=170) 20000 (by decide) (by decide) (by decide) _ (fun q hq=>?_) y.l ?_ ?_ 20000 ⟨by decide,by decide⟩ false
  ·obtain⟨q0,hq0,rfl⟩:=ht q hq
   have h5:=hclf q0 hq0
   have h6:=Bnd.of_full (B:=170) q0.2 (by have:=(hs q0 hq0).2.1;omega) (hs q0 hq0).2.2
   have h7:=(hs q0 hq0).2.1
   dsimp only
   generalize q0.2=v at h5 h6 h7
   obtain⟨vb,vk,vi,va⟩:=v
   rw[Tm.full_eq] at h7
   have hvl:=Ty.le_sizes vb
   have hrep:Ty.sizes (List.replicate (B++vb).length (.mk [] 0))≤170:=by rw[sizes_rep,List.length_append];omega
   have hff:(Sb.flat (cl (.mk vb vk vi va) B)).full≤1000:=by
    show (Tm.mk (List.replicate (B++vb).length (.mk [] 0)) vk vi va).full≤1000
    rw[Tm.full_eq];omega
   exact⟨.mk _ _ _ _ hrep h6.inv.2.1 h6.inv.2.2,wide_full _ (by omega),wide_full _ (by omega)⟩
  ·rw[hye]
   generalize hw:lif B p.l 0=w at hlb hlbb
   obtain⟨wb,wk,wi,wa⟩:=w
   have hlbb:wb=p.l.binds:=hlbb
   refine .mk _ _ _ _ ?_ hlb.inv.2.1 hlb.inv.2.2
   show Ty.sizes (List.replicate (B++wb).length (.mk [] 0))≤170
   rw[sizes_rep,List.length_append,hlbb];omega
  ·rw[hybl,Ty.sizes_append];omega
end Li
end Go.Proofs.YtflbnonbfmmchaaGreat
namespace Go.Proofs.YtflbnonbfmmchaaGreat
section
variable {P:Program} {ops:Array Oper} {Q:Exit→Act→World→Prop} {md:Region.Mode} {S:World→Prop}
end
end Go.Proofs.YtflbnonbfmmchaaGreat
namespace Go.Proofs.YtflbnonbfmmchaaGreat
open Go.RowKit Go.Shelf
def TFRR_41:TI:=⟨4,true,[Value.slice none 0 0,Value.int IntKind.i64 0,Value.int IntKind.i64 0,Value.slice none 0 0],[(0,1,false),(1,2,true),(3,1,false)],none,64,6,none,false⟩
theorem TFRR_41_ok:TypOk Tryz.prog 41 TFRR_41:=by constructor <;> kernel_rfl
def TFRR_59:TI:=⟨1,false,[Value.slice none 0 0],[],some 3,24,5,none,false⟩
theorem TFRR_59_ok:TypOk Tryz.prog 59 TFRR_59:=by constructor <;> kernel_rfl
def TFRR_39:TI:=⟨1,false,[Value.slice none 0 0],[],some 41,24,5,none,false⟩
theorem TFRR_39_ok:TypOk Tryz.prog 39 TFRR_39:=by constructor <;> kernel_rfl
def TFRR_3:TI:=⟨1,false,[Value.int IntKind.i64 0],[],none,8,2,none,false⟩
theorem TFRR_3_ok:TypOk Tryz.prog 3 TFRR_3:=by constructor <;> kernel_rfl
def TFRR_213:TI:=⟨1,false,[Value.nilFunc],[],none,8,8,none,false⟩
theorem TFRR_213_ok:TypOk Tryz.prog 213 TFRR_213:=by constructor <;> kernel_rfl
def TFRR:List (Nat×TI):=[(41,TFRR_41),(59,TFRR_59),(39,TFRR_39),(3,TFRR_3),(213,TFRR_213)]
theorem TFRR_ok:TabOk Tryz.prog TFRR:=((((((TabOk.nil _).cons TFRR_213_ok).cons TFRR_3_ok).cons TFRR_39_ok).cons TFRR_59_ok).cons TFRR_41_ok)
attribute [local go_sem] Oper.semAt_some
namespace Pn
end Pn
theorem Mild.below {β:Type}{Ok:Obj→Prop}{B:Nat}{J:β→World→Prop}(h:Mild Ok B J){s:β}{W W':World}(hs:J s W)(hb:Below W.heap.size W W'):J s W':=
 h s W W' none hs ⟨hb.os,hb.tape,hb.output,hb.size,fun k hk _=>hb.block k hk⟩ (fun r e=>by cases e)
end Go.Proofs.YtflbnonbfmmchaaGreat
namespace Go.Proofs.YtflbnonbfmmchaaGreat
open Go.RowKit Go.Shelf
attribute [local go_sem] Oper.semAt_some
end Go.Proofs.YtflbnonbfmmchaaGreat
namespace Go.Proofs.YtflbnonbfmmchaaGreat
open Go.RowKit Go.Shelf
attribute [local go_sem] Oper.semAt_some
end Go.Proofs.YtflbnonbfmmchaaGreat
namespace Go.Proofs.YtflbnonbfmmchaaGreat
open Go.RowKit
def satV (r:Option (Tm×List Ty)):D:=match r with
 | some r=>.tu [.ag (eTm r.1),.sl 2 (eTys r.2) none,.v (.int .i64 0)]
 | none=>.tu [.ag (eTm Tm.zero),.sl 2 [] none,.v (.int .i64 10)]
@[simp] theorem satV_ok (f g:Nat→Bool) (r:Option (Tm×List Ty)):D.ok f g (satV r)=true:=by
 cases r <;> simp[satV,D.ok,D.oks,D.okss,eTm_ok,eTys_ok]
namespace Ru
def wB (C M:List Ty):Bool:=decide (C.length≤20∧M.length≤20)&&(C++M).all few4B
end Ru
def TRUR_35:TI:=⟨3,true,[Value.int IntKind.i64 0,Value.slice none 0 0,Value.slice none 0 0],[(0,1,false),(1,1,false),(2,1,false)],none,56,6,none,false⟩
theorem TRUR_35_ok:TypOk Tryz.prog 35 TRUR_35:=by constructor <;> kernel_rfl
def TRUR_41:TI:=⟨4,true,[Value.slice none 0 0,Value.int IntKind.i64 0,Value.int IntKind.i64 0,Value.slice none 0 0],[(0,1,false),(1,2,true),(3,1,false)],none,64,6,none,false⟩
theorem TRUR_41_ok:TypOk Tryz.prog 41 TRUR_41:=by constructor <;> kernel_rfl
def TRUR_86:TI:=⟨9,true,[Value.slice none 0 0,Value.int IntKind.i64 0,Value.int IntKind.i64 0,Value.slice none 0 0,Value.slice none 0 0,Value.int IntKind.i64 0,Value.int IntKind.i64 0,Value.slice none 0 0,Value.slice none 0 0],[(0,4,true),(4,4,true),(8,1,false)],none,152,6,none,false⟩
theorem TRUR_86_ok:TypOk Tryz.prog 86 TRUR_86:=by constructor <;> kernel_rfl
def TRUR_33:TI:=⟨1,false,[Value.slice none 0 0],[],some 44,24,5,none,false⟩
theorem TRUR_33_ok:TypOk Tryz.prog 33 TRUR_33:=by constructor <;> kernel_rfl
def TRUR_44:TI:=⟨2,true,[Value.slice none 0 0,Value.int IntKind.i64 0],[(0,1,false),(1,1,false)],none,32,6,none,false⟩
theorem TRUR_44_ok:TypOk Tryz.prog 44 TRUR_44:=by constructor <;> kernel_rfl
def TRUR_3:TI:=⟨1,false,[Value.int IntKind.i64 0],[],none,8,2,none,false⟩
theorem TRUR_3_ok:TypOk Tryz.prog 3 TRUR_3:=by constructor <;> kernel_rfl
def TRUR_45:TI:=⟨1,false,[Value.int IntKind.i64 0],[],none,8,2,none,false⟩
theorem TRUR_45_ok:TypOk Tryz.prog 45 TRUR_45:=by constructor <;> kernel_rfl
def TRUR:List (Nat×TI):=[(35,TRUR_35),(41,TRUR_41),(86,TRUR_86),(33,TRUR_33),(44,TRUR_44),(3,TRUR_3),(45,TRUR_45)]
theorem TRUR_ok:TabOk Tryz.prog TRUR:=((((((((TabOk.nil _).cons TRUR_45_ok).cons TRUR_3_ok).cons TRUR_44_ok).cons TRUR_33_ok).cons TRUR_86_ok).cons TRUR_41_ok).cons TRUR_35_ok)
set_option maxHeartbeats 4000000 in
theorem rutypedD_d (b:Int)(C Mw:List Ty)(p:Li.Pr)(hl:p.l.full≤20000∧p.l.Fit)(hr:p.r.full≤20000∧p.r.Fit)(hC:C.length≤900000)(hM:p.m.length≤900000)(hs:∀ t∈C++p.m,t.size≤400000):
  ∃ c:Int,(c=0↔Ru.Good b C p)∧PureC Tryz.prog 38 [.ag [.v (.int .i64 b),.sl 2 (eTys C) none,.sl 2 (eTys Mw) none],.ag (ePr p)] (.v (.int .i64 c)):=by
 obtain⟨w,hw⟩:∃ w:Bool,w=true↔RightWd b C p.m:=by
  by_cases h:RightWd b C p.m
  ·exact⟨true,by simp[h]⟩
  ·exact⟨false,by simp[h]⟩
 have hW1:=tworld_d b C p.m w hw hs
 have r1:=right_d p.l (by omega)
 have r2:=right_d p.r (by omega)
 rw[show decide (p.l.size≤5000∧p.l.depth≤60)=Li.rt p.l from rfl] at r1
 rw[show decide (p.r.size≤5000∧p.r.depth≤60)=Li.rt p.r from rfl] at r2
 have t1:=ttype_d b C p.m p.l (by have:=hl.2;generalize p.l=t at this;cases t;exact(Tm.fit_iff.1 this).2.1) (by omega) (by omega) (by omega)
 rw[ePr_at]
 rw[eTm_eq] at r1 r2 t1
 cases w with
 | false=>
  refine⟨1,⟨fun h=>absurd h (by decide),fun h=>absurd (hw.2 h.w) (by simp)⟩,?_⟩
  ·skip
   refine calldw 0 59 [ResultVar.tmp 4] TRUR_ok Tryz.func38 rfl Tryz.ntmps38 rfl fun cx hnt hn0=>?_
   ·skip
    refine dw_seq ?_;refine dwk [] TRUR_ok hnt fun _ z9=>z9 _ _ ?_;refine dw_seq ?_;refine dwk [] TRUR_ok hnt fun _ z9=>z9 _ _ ?_;refine dw_seq ?_;refine dw_block ?_;refine dw_seq ?_;refine dwk [] TRUR_ok hnt fun K hK=>?_;refine dcl (hW1) ?_;refine hK _ _ ?_;clear hK K;refine dw_cond (t:=true) rfl ?_;rw[if_pos rfl];refine dw_seq ?_;refine dwk [] TRUR_ok hnt fun K hK=>?_
    refine hK _ _ ?_;clear hK K;refine dw_ret ?_
    exact reta rfl
 | true=>
 cases hL:Li.rt p.l with
 | false=>
  rw[hL] at r1
  refine⟨2,⟨fun h=>absurd h (by decide),fun h=>absurd h.l (by rw[hL];simp)⟩,?_⟩
  ·skip
   refine calldw 0 59 [ResultVar.tmp 4] TRUR_ok Tryz.func38 rfl Tryz.ntmps38 rfl fun cx hnt hn0=>?_
   ·skip
    refine dw_seq ?_;refine dwk [] TRUR_ok hnt fun _ z9=>z9 _ _ ?_;refine dw_seq ?_;refine dwk [] TRUR_ok hnt fun _ z9=>z9 _ _ ?_;refine dw_seq ?_;refine dw_block ?_;refine dw_seq ?_;refine dwk [] TRUR_ok hnt fun K hK=>?_;refine dcl (hW1) ?_;refine hK _ _ ?_;clear hK K;refine dw_cond (t:=false) rfl ?_;rw[if_neg (by simp)];refine dw_seq ?_
    refine dwk [] TRUR_ok hnt fun K hK=>?_;refine dcl (r1) ?_;refine hK _ _ ?_;clear hK K;refine dw_cond (t:=true) rfl ?_;rw[if_pos rfl];refine dw_seq ?_;refine dwk [] TRUR_ok hnt fun _ z9=>z9 _ _ ?_;refine dw_ret ?_
    exact reta rfl
 | true=>
 rw[hL] at r1
 cases hR:Li.rt p.r with
 | false=>
  rw[hR] at r2
  refine⟨2,⟨fun h=>absurd h (by decide),fun h=>absurd h.r (by rw[hR];simp)⟩,?_⟩
  ·skip
   refine calldw 0 59 [ResultVar.tmp 4] TRUR_ok Tryz.func38 rfl Tryz.ntmps38 rfl fun cx hnt hn0=>?_
   ·skip
    refine dw_seq ?_;refine dwk [] TRUR_ok hnt fun _ z9=>z9 _ _ ?_;refine dw_seq ?_;refine dwk [] TRUR_ok hnt fun _ z9=>z9 _ _ ?_;refine dw_seq ?_;refine dw_block ?_;refine dw_seq ?_;refine dwk [] TRUR_ok hnt fun K hK=>?_;refine dcl (hW1) ?_;refine hK _ _ ?_;clear hK K;refine dw_cond (t:=false) rfl ?_;rw[if_neg (by simp)];refine dw_seq ?_
    refine dwk [] TRUR_ok hnt fun K hK=>?_;refine dcl (r1) ?_;refine dcl (r2) ?_;refine hK _ _ ?_;clear hK K;refine dw_cond (t:=true) rfl ?_;rw[if_pos rfl];refine dw_seq ?_;refine dwk [] TRUR_ok hnt fun _ z9=>z9 _ _ ?_;refine dw_ret ?_
    exact reta rfl
 | true=>
 rw[hR] at r2
 obtain⟨o,ho⟩:∃ o,tyOf C p.m p.l=o:=⟨_,rfl⟩
 rw[ho] at t1
 cases o with
 | none=>
  simp only[Option.getD_none,Option.isSome_none,Bool.false_eq_true,if_false] at t1
  rw[tyZ_eq] at t1
  refine⟨5,⟨fun h=>absurd h (by decide),fun h=>(by obtain⟨u,h,_⟩:=h.u;rw[ho] at h;cases h)⟩,?_⟩
  ·skip
   refine calldw 0 59 [ResultVar.tmp 4] TRUR_ok Tryz.func38 rfl Tryz.ntmps38 rfl fun cx hnt hn0=>?_
   ·skip
    refine dw_seq ?_;refine dwk [] TRUR_ok hnt fun _ z9=>z9 _ _ ?_;refine dw_seq ?_;refine dwk [] TRUR_ok hnt fun _ z9=>z9 _ _ ?_;refine dw_seq ?_;refine dw_block ?_;refine dw_seq ?_;refine dwk [] TRUR_ok hnt fun K hK=>?_;refine dcl (hW1) ?_;refine hK _ _ ?_;clear hK K;refine dw_cond (t:=false) rfl ?_;rw[if_neg (by simp)];refine dw_seq ?_
    refine dwk [] TRUR_ok hnt fun K hK=>?_;refine dcl (r1) ?_;refine dcl (r2) ?_;refine hK _ _ ?_;clear hK K;refine dw_cond (t:=false) rfl ?_;rw[if_neg (by simp)];refine dw_skip ?_;refine dw_seq ?_;refine dwk [] TRUR_ok hnt fun K hK=>?_;refine dcl (t1) ?_;refine hK _ _ ?_;clear hK K;refine dw_seq ?_;refine dw_seq ?_;refine dwk [(39,.v (.bool true))] TRUR_ok hnt fun K hK=>?_;refine And.intro (bneT (by decide)) ?_
    refine hK _ _ ?_;clear hK K;refine dw_cond (t:=true) rfl ?_;rw[if_pos rfl];refine dw_seq ?_;refine dwk [] TRUR_ok hnt fun _ z9=>z9 _ _ ?_;refine dw_ret ?_
    exact reta rfl
 | some u=>
 simp only[Option.getD_some,Option.isSome_some,if_true] at t1
 rw[eTy_eq] at t1
 by_cases hu:u.args=[]
 ·have hu0:u.args.length=0:=by rw[hu];rfl
  by_cases hi1:IsOf C p.m p.l [] u
  ·have k1:=ruclos_d b C p.m u p.l 0 (by omega) (by omega) (checkYes hL hi1) (by omega) hl.2
   rw[decide_eq_true rfl] at k1
   rw[eTm_eq] at k1
   by_cases hi2:IsOf C p.m p.r [] u
   ·have k2:=ruclos_d b C p.m u p.r 0 (by omega) (by omega) (checkYes hR hi2) (by omega) hr.2
    rw[decide_eq_true rfl] at k2
    rw[eTm_eq] at k2
    refine⟨0,⟨fun _=>⟨hw.1 rfl,hL,hR,u,ho,hu,hi1,hi2⟩,fun _=>rfl⟩,?_⟩
    ·skip
     refine calldw 0 59 [ResultVar.tmp 4] TRUR_ok Tryz.func38 rfl Tryz.ntmps38 rfl fun cx hnt hn0=>?_
     ·skip
      refine dw_seq ?_;refine dwk [] TRUR_ok hnt fun _ z9=>z9 _ _ ?_;refine dw_seq ?_;refine dwk [] TRUR_ok hnt fun _ z9=>z9 _ _ ?_;refine dw_seq ?_;refine dw_block ?_;refine dw_seq ?_;refine dwk [] TRUR_ok hnt fun K hK=>?_;refine dcl (hW1) ?_;refine hK _ _ ?_;clear hK K;refine dw_cond (t:=false) rfl ?_;rw[if_neg (by simp)];refine dw_seq ?_
      refine dwk [] TRUR_ok hnt fun K hK=>?_;refine dcl (r1) ?_;refine dcl (r2) ?_;refine hK _ _ ?_;clear hK K;refine dw_cond (t:=false) rfl ?_;rw[if_neg (by simp)];refine dw_skip ?_;refine dw_seq ?_;refine dwk [] TRUR_ok hnt fun K hK=>?_;refine dcl (t1) ?_;refine hK _ _ ?_;clear hK K;refine dw_seq ?_;refine dw_seq ?_;refine dwk [(39,.v (.bool false)),(43,.v (.int .i64 (↑u.args.length))),(44,.v (.bool false))] TRUR_ok hnt fun K hK=>?_
      refine And.intro (bneF rfl) ?_;refine And.intro (dintE (by rw[eTys_len])) ?_;refine And.intro auF ?_;refine hK _ _ ?_;clear hK K;refine dw_cond (t:=false) rfl ?_;rw[if_neg (by simp)];refine dw_skip ?_;refine dw_seq ?_;refine dwk [] TRUR_ok hnt fun _ z9=>z9 _ _ ?_;refine dw_seq ?_;refine dw_seq ?_;refine dwk [] TRUR_ok hnt fun K hK=>?_;refine dcl (k1) ?_;refine dcl (k2) ?_
      refine hK _ _ ?_;clear hK K;refine dw_cond (t:=false) rfl ?_;rw[if_neg (by simp)];refine dw_skip ?_;refine dw_seq ?_;refine dwk [] TRUR_ok hnt fun _ z9=>z9 _ _ ?_;refine dw_ret ?_
      exact reta rfl
   ·have k2:=ruclos_d b C p.m u p.r 5 (by omega) (by omega) (checkNo hR hi2) (by omega) hr.2
    rw[decide_eq_false (by decide)] at k2
    rw[eTm_eq] at k2
    refine⟨5,⟨fun h=>absurd h (by decide),fun h=>(by obtain⟨u',h,_,_,h4⟩:=h.u;rw[ho] at h;cases h;exact absurd h4 hi2)⟩,?_⟩
    ·skip
     refine calldw 0 59 [ResultVar.tmp 4] TRUR_ok Tryz.func38 rfl Tryz.ntmps38 rfl fun cx hnt hn0=>?_
     ·skip
      refine dw_seq ?_;refine dwk [] TRUR_ok hnt fun _ z9=>z9 _ _ ?_;refine dw_seq ?_;refine dwk [] TRUR_ok hnt fun _ z9=>z9 _ _ ?_;refine dw_seq ?_;refine dw_block ?_;refine dw_seq ?_;refine dwk [] TRUR_ok hnt fun K hK=>?_;refine dcl (hW1) ?_;refine hK _ _ ?_;clear hK K;refine dw_cond (t:=false) rfl ?_;rw[if_neg (by simp)];refine dw_seq ?_
      refine dwk [] TRUR_ok hnt fun K hK=>?_;refine dcl (r1) ?_;refine dcl (r2) ?_;refine hK _ _ ?_;clear hK K;refine dw_cond (t:=false) rfl ?_;rw[if_neg (by simp)];refine dw_skip ?_;refine dw_seq ?_;refine dwk [] TRUR_ok hnt fun K hK=>?_;refine dcl (t1) ?_;refine hK _ _ ?_;clear hK K;refine dw_seq ?_;refine dw_seq ?_;refine dwk [(39,.v (.bool false)),(43,.v (.int .i64 (↑u.args.length))),(44,.v (.bool false))] TRUR_ok hnt fun K hK=>?_
      refine And.intro (bneF rfl) ?_;refine And.intro (dintE (by rw[eTys_len])) ?_;refine And.intro auF ?_;refine hK _ _ ?_;clear hK K;refine dw_cond (t:=false) rfl ?_;rw[if_neg (by simp)];refine dw_skip ?_;refine dw_seq ?_;refine dwk [] TRUR_ok hnt fun _ z9=>z9 _ _ ?_;refine dw_seq ?_;refine dw_seq ?_;refine dwk [] TRUR_ok hnt fun K hK=>?_;refine dcl (k1) ?_;refine dcl (k2) ?_
      refine hK _ _ ?_;clear hK K;refine dw_cond (t:=true) rfl ?_;rw[if_pos rfl];refine dw_seq ?_;refine dwk [] TRUR_ok hnt fun _ z9=>z9 _ _ ?_;refine dw_ret ?_
      exact reta rfl
  ·have k1:=ruclos_d b C p.m u p.l 5 (by omega) (by omega) (checkNo hL hi1) (by omega) hl.2
   rw[decide_eq_false (by decide)] at k1
   rw[eTm_eq] at k1
   refine⟨5,⟨fun h=>absurd h (by decide),fun h=>(by obtain⟨u',h,_,h3,_⟩:=h.u;rw[ho] at h;cases h;exact absurd h3 hi1)⟩,?_⟩
   ·skip
    refine calldw 0 59 [ResultVar.tmp 4] TRUR_ok Tryz.func38 rfl Tryz.ntmps38 rfl fun cx hnt hn0=>?_
    ·skip
     refine dw_seq ?_;refine dwk [] TRUR_ok hnt fun _ z9=>z9 _ _ ?_;refine dw_seq ?_;refine dwk [] TRUR_ok hnt fun _ z9=>z9 _ _ ?_;refine dw_seq ?_;refine dw_block ?_;refine dw_seq ?_;refine dwk [] TRUR_ok hnt fun K hK=>?_;refine dcl (hW1) ?_;refine hK _ _ ?_;clear hK K;refine dw_cond (t:=false) rfl ?_;rw[if_neg (by simp)];refine dw_seq ?_
     refine dwk [] TRUR_ok hnt fun K hK=>?_;refine dcl (r1) ?_;refine dcl (r2) ?_;refine hK _ _ ?_;clear hK K;refine dw_cond (t:=false) rfl ?_;rw[if_neg (by simp)];refine dw_skip ?_;refine dw_seq ?_;refine dwk [] TRUR_ok hnt fun K hK=>?_;refine dcl (t1) ?_;refine hK _ _ ?_;clear hK K;refine dw_seq ?_;refine dw_seq ?_;refine dwk [(39,.v (.bool false)),(43,.v (.int .i64 (↑u.args.length))),(44,.v (.bool false))] TRUR_ok hnt fun K hK=>?_
     refine And.intro (bneF rfl) ?_;refine And.intro (dintE (by rw[eTys_len])) ?_;refine And.intro auF ?_;refine hK _ _ ?_;clear hK K;refine dw_cond (t:=false) rfl ?_;rw[if_neg (by simp)];refine dw_skip ?_;refine dw_seq ?_;refine dwk [] TRUR_ok hnt fun _ z9=>z9 _ _ ?_;refine dw_seq ?_;refine dw_seq ?_;refine dwk [] TRUR_ok hnt fun K hK=>?_;refine dcl (k1) ?_;refine hK _ _ ?_;clear hK K
     refine dw_cond (t:=true) rfl ?_;rw[if_pos rfl];refine dw_seq ?_;refine dwk [] TRUR_ok hnt fun _ z9=>z9 _ _ ?_;refine dw_ret ?_
     exact reta rfl
 ·have hu0:0<u.args.length:=List.length_pos_iff.2 hu
  refine⟨5,⟨fun h=>absurd h (by decide),fun h=>(by obtain⟨u',h,h2,_⟩:=h.u;rw[ho] at h;cases h;exact absurd h2 hu)⟩,?_⟩
  ·skip
   refine calldw 0 59 [ResultVar.tmp 4] TRUR_ok Tryz.func38 rfl Tryz.ntmps38 rfl fun cx hnt hn0=>?_
   ·skip
    refine dw_seq ?_;refine dwk [] TRUR_ok hnt fun _ z9=>z9 _ _ ?_;refine dw_seq ?_;refine dwk [] TRUR_ok hnt fun _ z9=>z9 _ _ ?_;refine dw_seq ?_;refine dw_block ?_;refine dw_seq ?_;refine dwk [] TRUR_ok hnt fun K hK=>?_;refine dcl (hW1) ?_;refine hK _ _ ?_;clear hK K;refine dw_cond (t:=false) rfl ?_;rw[if_neg (by simp)];refine dw_seq ?_
    refine dwk [] TRUR_ok hnt fun K hK=>?_;refine dcl (r1) ?_;refine dcl (r2) ?_;refine hK _ _ ?_;clear hK K;refine dw_cond (t:=false) rfl ?_;rw[if_neg (by simp)];refine dw_skip ?_;refine dw_seq ?_;refine dwk [] TRUR_ok hnt fun K hK=>?_;refine dcl (t1) ?_;refine hK _ _ ?_;clear hK K;refine dw_seq ?_;refine dw_seq ?_;refine dwk [(39,.v (.bool false)),(43,.v (.int .i64 (↑u.args.length))),(44,.v (.bool true))] TRUR_ok hnt fun K hK=>?_
    refine And.intro (bneF rfl) ?_;refine And.intro (dintE (by rw[eTys_len])) ?_;refine And.intro auT ?_;refine hK _ _ ?_;clear hK K;refine dw_cond (t:=true) rfl ?_;rw[if_pos rfl];refine dw_seq ?_;refine dwk [] TRUR_ok hnt fun _ z9=>z9 _ _ ?_;refine dw_ret ?_
    exact reta rfl
namespace Ru
end Ru
theorem code_ex2 (C M X:List Ty)(t:Tm)(u:Ty):∃ c,checkCode C M t X u c:=by
 by_cases h1:t.size≤5000∧t.depth≤60
 ·by_cases h2:IsOf C M t X u
  ·exact⟨0,.inr (.inr ⟨h1,h2,rfl⟩)⟩
  ·exact⟨5,.inr (.inl ⟨h1,h2,rfl⟩)⟩
 ·exact⟨2,.inl ⟨h1,rfl⟩⟩
theorem codeOf0 {C M X:List Ty}{t:Tm}{u:Ty}(h:checkCode C M t X u 0):IsOf C M t X u:=by
 unfold checkCode at h
 rcases h with h | h | h
 ·exact absurd h.2 (by decide)
 ·exact absurd h.2.2 (by decide)
 ·exact h.2.1
def TC9T_44:TI:=⟨2,true,[Value.slice none 0 0,Value.int IntKind.i64 0],[(0,1,false),(1,1,false)],none,32,6,none,false⟩
theorem TC9T_44_ok:TypOk Tryz.prog 44 TC9T_44:=by constructor <;> kernel_rfl
def TC9T_35:TI:=⟨3,true,[Value.int IntKind.i64 0,Value.slice none 0 0,Value.slice none 0 0],[(0,1,false),(1,1,false),(2,1,false)],none,56,6,none,false⟩
theorem TC9T_35_ok:TypOk Tryz.prog 35 TC9T_35:=by constructor <;> kernel_rfl
def TC9T_79:TI:=⟨5,true,[Value.int IntKind.i64 0,Value.slice none 0 0,Value.int IntKind.i64 0,Value.int IntKind.i64 0,Value.slice none 0 0],[(0,1,false),(1,4,true)],none,72,6,none,false⟩
theorem TC9T_79_ok:TypOk Tryz.prog 79 TC9T_79:=by constructor <;> kernel_rfl
def TC9T_38:TI:=⟨2,true,[Value.int IntKind.i64 0,Value.int IntKind.i64 0],[(0,1,false),(1,1,false)],none,16,6,none,true⟩
theorem TC9T_38_ok:TypOk Tryz.prog 38 TC9T_38:=by constructor <;> kernel_rfl
def TC9T_33:TI:=⟨1,false,[Value.slice none 0 0],[],some 44,24,5,none,false⟩
theorem TC9T_33_ok:TypOk Tryz.prog 33 TC9T_33:=by constructor <;> kernel_rfl
def TC9T_51:TI:=⟨1,false,[Value.slice none 0 0],[],some 79,24,5,none,false⟩
theorem TC9T_51_ok:TypOk Tryz.prog 51 TC9T_51:=by constructor <;> kernel_rfl
def TC9T_3:TI:=⟨1,false,[Value.int IntKind.i64 0],[],none,8,2,none,false⟩
theorem TC9T_3_ok:TypOk Tryz.prog 3 TC9T_3:=by constructor <;> kernel_rfl
def TC9T_41:TI:=⟨4,true,[Value.slice none 0 0,Value.int IntKind.i64 0,Value.int IntKind.i64 0,Value.slice none 0 0],[(0,1,false),(1,2,true),(3,1,false)],none,64,6,none,false⟩
theorem TC9T_41_ok:TypOk Tryz.prog 41 TC9T_41:=by constructor <;> kernel_rfl
def TC9T_45:TI:=⟨1,false,[Value.int IntKind.i64 0],[],none,8,2,none,false⟩
theorem TC9T_45_ok:TypOk Tryz.prog 45 TC9T_45:=by constructor <;> kernel_rfl
def TC9T:List (Nat×TI):=[(44,TC9T_44),(35,TC9T_35),(79,TC9T_79),(38,TC9T_38),(33,TC9T_33),(51,TC9T_51),(3,TC9T_3),(41,TC9T_41),(45,TC9T_45)]
theorem TC9T_ok:TabOk Tryz.prog TC9T:=((((((((((TabOk.nil _).cons TC9T_45_ok).cons TC9T_41_ok).cons TC9T_3_ok).cons TC9T_51_ok).cons TC9T_33_ok).cons TC9T_38_ok).cons TC9T_79_ok).cons TC9T_35_ok).cons TC9T_44_ok)
theorem head2_d (b:Int)(C M:List Ty)(hC:C.length≤1000000)(hM:M.length≤1000000)(k i:Int)(hi:i≤9223372036854775807)(o:Option Ty)(ho:headTy C M [] k i=o)(hsz:∀ t,o=some t→t.size≤90000):
  PureC Tryz.prog 81 [.ag [.v (.int .i64 b),.sl 2 (eTys C) none,.sl 2 (eTys M) none],.v (.slice none 0 0),.ag [.v (.int .i64 k),.v (.int .i64 i)]] (.tu [.ag (eTy (o.getD tyZ)),.v (.int .i64 (if o.isSome then 0 else 10))]):=by
 have hh:=theadA_d b C M [] k i hi hC hM (by simp)
 rw[ho] at hh
 have hh:PureC Tryz.prog 54 [.ag [.v (.int .i64 b),.sl 2 (eTys C) none,.sl 2 (eTys M) none],.v (.slice none 0 0),.ag [.v (.int .i64 k),.v (.int .i64 i)]] (.tu [.ag (eTy (o.getD tyZ)),.v (.bool o.isSome)]):=CallC.vle hh (.cons (VLe.refl _) (.cons (VLe.nil _) (.cons (VLe.refl _) .nil))) (VLe.refl _)
 cases o with
 | none=>
  simp only[Option.getD_none,Option.isSome_none,Bool.false_eq_true,if_false] at hh ⊢
  rw[tyZ_eq] at hh ⊢
  refine calldw 0 22 [ResultVar.cell 6 44,ResultVar.tmp 7] TC9T_ok Tryz.func81 rfl Tryz.ntmps81 rfl fun cx hnt hn0=>?_
  ·skip
   refine dw_seq ?_;refine dwk [] TC9T_ok hnt fun _ z9=>z9 _ _ ?_;refine dw_seq ?_;refine dwk [] TC9T_ok hnt fun K hK=>?_;refine dcl (hh) ?_;refine hK _ _ ?_;clear hK K;refine dw_seq ?_;refine dw_seq ?_;refine dwk [] TC9T_ok hnt fun _ z9=>z9 _ _ ?_;refine dw_cond (t:=true) rfl ?_;rw[if_pos rfl];refine dw_seq ?_;refine dwk [] TC9T_ok hnt fun K hK=>?_
   refine hK _ _ ?_;clear hK K;refine dw_ret ?_
   exact reta rfl
 | some h=>
  simp only[Option.getD_some,Option.isSome_some,if_true] at hh ⊢
  have har:=arrow_d h [] (by have:=hsz h rfl;simp[Ty.sizes];omega)
  have har:PureC Tryz.prog 74 [.ag (eTy h),.v (.slice none 0 0)] (.ag (eTy h)):=by
   have e:Ty.mk ([]++h.args) h.base=h:=by cases h;rfl
   rw[e] at har
   exact CallC.vle har (.cons (VLe.refl _) (.cons (VLe.nil _) .nil)) (VLe.refl _)
  rw[eTy_eq] at hh har ⊢
  refine calldw 0 22 [ResultVar.cell 6 44,ResultVar.tmp 7] TC9T_ok Tryz.func81 rfl Tryz.ntmps81 rfl fun cx hnt hn0=>?_
  ·skip
   refine dw_seq ?_;refine dwk [] TC9T_ok hnt fun _ z9=>z9 _ _ ?_;refine dw_seq ?_;refine dwk [] TC9T_ok hnt fun K hK=>?_;refine dcl (hh) ?_;refine hK _ _ ?_;clear hK K;refine dw_seq ?_;refine dw_seq ?_;refine dwk [] TC9T_ok hnt fun _ z9=>z9 _ _ ?_;refine dw_cond (t:=false) rfl ?_;rw[if_neg (by simp)];refine dw_skip ?_;refine dw_seq ?_
   refine dwk [] TC9T_ok hnt fun K hK=>?_;refine dcl (har) ?_;refine hK _ _ ?_;clear hK K;refine dw_ret ?_
   exact reta rfl
set_option maxHeartbeats 1000000 in
theorem scheckT_d (b:Int)(C M X:List Ty)(l:List (Int×Tm))(hl:l.length≤100000)(code:Tm→Ty→Int)(hc:∀ t u,checkCode C M t X u (code t u))(hz:∀ p∈l,X.length+p.2.full≤90000∧p.2.Fit∧p.1≤9223372036854775807)(hM:∀ u∈M,u.size≤90000)(hCl:C.length≤1000000)(hMl:M.length≤1000000):
  PureC Tryz.prog 28 [.ag [.v (.int .i64 b),.sl 2 (eTys C) none,.sl 2 (eTys M) none],.sl 2 (eTys X) none,.sl 5 (ePairs l) none] (.v (.int .i64 (if Sb.right l=true then chkL code M l else 1))):=by
 have hR:=sright_d l (by omega)
 refine call_of_dw 0 42 [ResultVar.tmp 6] TC9T_ok (by kernel_rfl) Tryz.func28 rfl Tryz.ntmps28 rfl (by simp) ?dwords ?dbody
 case dwords=>simp[wordsOk,D.ok,D.oks,rnames,eTys_ok,ePairs_ok]
 case dbody=>
  intro cx hnt hn0
  refine dw_seq ?_;refine dwk [] TC9T_ok hnt fun _ z9=>z9 _ _ ?_;refine dw_seq (dw_seq ?_)
  cases hr:Sb.right l with
  | false=>
   rw[hr] at hR
   refine dwk [] TC9T_ok hnt fun K hK=>?_;refine dcl (hR) ?_;refine hK _ _ ?_;clear hK K;refine dw_cond (t:=true) rfl ?_;rw[if_pos rfl];refine dw_seq ?_;refine dwk [] TC9T_ok hnt fun _ z9=>z9 _ _ ?_;refine dw_ret ?_
   exact retv (N:=0) (.inr rfl) rfl (VLe.refl _) trivial
  | true=>
   rw[hr] at hR
   refine dwk [] TC9T_ok hnt fun K hK=>?_;refine dcl (hR) ?_;refine hK _ _ ?_;clear hK K;refine dw_cond (t:=false) rfl ?_;rw[if_neg (by simp)];refine dw_skip ?_;rw[if_pos rfl];refine dw_seq (dw_seq ?_);refine dwk [(16,.v (.int .i64 l.length))] TC9T_ok hnt fun K hK=>?_;refine And.intro (dintE (by rw[ePairs_len])) ?_;refine hK _ _ ?_;clear hK K;refine dw_block ?_
   refine dw_loop (ι:={ j:Nat // chkL code M (l.drop j)=chkL code M l∧j≤l.length }) (fun j=>[(.t 1,.sl 2 (eTys X) none),(.t 3,.p 0 0),(.t 15,.sl 5 (ePairs l) none),(.t 16,.v (.int .i64 l.length)),(.t 17,.v (.int .i64 (j.1:Int))),(.c 0 0,.v (.int .i64 b)),(.c 0 1,.sl 2 (eTys C) none),(.c 0 2,.sl 2 (eTys M) none)]) 1 (fun j=>l.length-j.1) ⟨0,rfl,Nat.zero_le _⟩ VS.toA fun j=>?_
   obtain⟨j,hj,hj2⟩:=j
   dsimp only
   refine dw_seq ?_
   by_cases hlt:j<l.length
   ·rw[List.drop_eq_getElem_cons hlt,chkL] at hj
    obtain⟨hz1,hz2,hz3⟩:=hz _ (List.getElem_mem hlt)
    have hho:headTy C M [] 2 l[j].1=headTy [] M [] 2 l[j].1:=by simp[headTy]
    have hhd:=head2_d b C M hCl hMl 2 l[j].1 hz3 _ hho (fun u hu=>hM u (by
     rw[←hho] at hu
     have:=headTy_mem hu
     unfold headTy at hu
     split at hu
     ·cases hu
     ·simp at hu;exact List.mem_of_getElem? hu))
    refine dwk [(18,.v (.bool true))] TC9T_ok hnt fun K hK=>?_;refine And.intro (dtrue (by omega)) ?_;refine hK _ _ ?_;clear hK K;refine dw_seq (dw_cond (t:=true) rfl ?_);rw[if_pos rfl];refine dw_skip (dw_seq (dw_block (dw_seq ?_)));refine dwk [(19,.q [.v (.int .i64 l[j].1),.sl 2 (eTys l[j].2.binds) none,.v (.int .i64 l[j].2.kind),.v (.int .i64 l[j].2.index),.sl 4 (eTms l[j].2.args) none])] TC9T_ok hnt fun K hK=>?_
    refine And.intro (⟨by omega,by rw[ePairs_len];omega⟩) ?_;refine And.intro (VLe.of_eq (by rw[Int.toNat_natCast,ePairs_getD l j hlt,ePair_eq])) ?_;refine hK _ _ ?_;clear hK K;refine dw_seq ?_
    cases ho:headTy [] M [] 2 l[j].1 with
    | none=>
     rw[ho] at hhd hj
     dsimp only at hj
     rw[←hj]
     simp only[Option.getD_none,tyZ_eq] at hhd
     refine dwk [] TC9T_ok hnt fun K hK=>?_;refine dcl (hhd) ?_;refine hK _ _ ?_;clear hK K;refine dw_seq (dw_seq ?_);refine dwk [] TC9T_ok hnt fun _ z9=>z9 _ _ ?_;refine dw_cond (t:=true) rfl ?_;rw[if_pos rfl];refine dw_seq ?_;refine dwk [] TC9T_ok hnt fun _ z9=>z9 _ _ ?_;refine dw_ret ?_
     exact retv (N:=0) (.inr rfl) rfl (VLe.refl _) trivial
    | some u=>
     rw[ho] at hhd hj
     dsimp only at hj
     have hck:=tcheckX_d b C M X l[j].2 u (code l[j].2 u) hCl hMl (hc _ _) (by omega) hz2
     simp only[Option.getD_some] at hhd
     rw[eTy_eq] at hhd
     rw[eTm_eq,eTy_eq] at hck
     refine dwk [] TC9T_ok hnt fun K hK=>?_;refine dcl (hhd) ?_;refine hK _ _ ?_;clear hK K;refine dw_seq (dw_seq ?_);refine dwk [] TC9T_ok hnt fun _ z9=>z9 _ _ ?_;refine dw_cond (t:=false) rfl ?_;rw[if_neg (by simp)];refine dw_skip ?_;refine dw_seq ?_;refine dwk [] TC9T_ok hnt fun K hK=>?_;refine dcl (hck) ?_;refine hK _ _ ?_;clear hK K;refine dw_seq ?_
     by_cases he:code l[j].2 u=0
     ·rw[if_neg (by simp[he])] at hj;refine dwk [(39,.v (.bool false))] TC9T_ok hnt fun K hK=>?_;refine And.intro (VLe.of_eq (by simp[he])) ?_;refine hK _ _ ?_;clear hK K;refine dw_cond (t:=false) rfl ?_;rw[if_neg (by simp)];refine dw_skip ?_;refine dwk [(41,.v (.int .i64 ((j+1:Nat):Int)))] TC9T_ok hnt fun K hK=>?_;refine And.intro (dintE (by rw[IntWalk.i64_in _ (by omega)];omega)) ?_
      refine hK _ _ ?_;clear hK K
      exact⟨⟨j+1,hj,hlt⟩,by dsimp only;omega,VS.toA⟩
     ·rw[if_pos he] at hj
      rw[←hj]
      refine dwk [(39,.v (.bool true))] TC9T_ok hnt fun K hK=>?_;refine And.intro (VLe.of_eq (by simp[he])) ?_;refine hK _ _ ?_;clear hK K;refine dw_cond (t:=true) rfl ?_;rw[if_pos rfl];refine dw_seq ?_;refine dwk [] TC9T_ok hnt fun _ z9=>z9 _ _ ?_;refine dw_ret ?_
      exact retv (N:=0) (.inr rfl) rfl (VLe.refl _) trivial
   ·rw[List.drop_eq_nil_of_le (by omega),chkL] at hj
    rw[←hj]
    refine dwk [(18,.v (.bool false))] TC9T_ok hnt fun K hK=>?_;refine And.intro (dfalse (by omega)) ?_;refine hK _ _ ?_;clear hK K;refine dw_seq (dw_cond (t:=false) rfl ?_);rw[if_neg (by simp)];refine dw_exit ?_;refine dw_seq ?_;refine dwk [] TC9T_ok hnt fun _ z9=>z9 _ _ ?_;refine dw_ret ?_
    exact retv (N:=0) (.inr rfl) rfl (VLe.refl _) trivial
def TLIM_41:TI:=⟨4,true,[Value.slice none 0 0,Value.int IntKind.i64 0,Value.int IntKind.i64 0,Value.slice none 0 0],[(0,1,false),(1,2,true),(3,1,false)],none,64,6,none,false⟩
theorem TLIM_41_ok:TypOk Tryz.prog 41 TLIM_41:=by constructor <;> kernel_rfl
def TLIM_86:TI:=⟨9,true,[Value.slice none 0 0,Value.int IntKind.i64 0,Value.int IntKind.i64 0,Value.slice none 0 0,Value.slice none 0 0,Value.int IntKind.i64 0,Value.int IntKind.i64 0,Value.slice none 0 0,Value.slice none 0 0],[(0,4,true),(4,4,true),(8,1,false)],none,152,6,none,false⟩
theorem TLIM_86_ok:TypOk Tryz.prog 86 TLIM_86:=by constructor <;> kernel_rfl
def TLIM_3:TI:=⟨1,false,[Value.int IntKind.i64 0],[],none,8,2,none,false⟩
theorem TLIM_3_ok:TypOk Tryz.prog 3 TLIM_3:=by constructor <;> kernel_rfl
def TLIM_45:TI:=⟨1,false,[Value.int IntKind.i64 0],[],none,8,2,none,false⟩
theorem TLIM_45_ok:TypOk Tryz.prog 45 TLIM_45:=by constructor <;> kernel_rfl
def TLIM_35:TI:=⟨3,true,[Value.int IntKind.i64 0,Value.slice none 0 0,Value.slice none 0 0],[(0,1,false),(1,1,false),(2,1,false)],none,56,6,none,false⟩
theorem TLIM_35_ok:TypOk Tryz.prog 35 TLIM_35:=by constructor <;> kernel_rfl
def TLIM_51:TI:=⟨1,false,[Value.slice none 0 0],[],some 79,24,5,none,false⟩
theorem TLIM_51_ok:TypOk Tryz.prog 51 TLIM_51:=by constructor <;> kernel_rfl
def TLIM_82:TI:=⟨9,true,[Value.slice none 0 0,Value.int IntKind.i64 0,Value.int IntKind.i64 0,Value.slice none 0 0,Value.slice none 0 0,Value.int IntKind.i64 0,Value.int IntKind.i64 0,Value.slice none 0 0,Value.slice none 0 0],[(0,4,true),(4,4,true),(8,1,false)],none,152,6,none,false⟩
theorem TLIM_82_ok:TypOk Tryz.prog 82 TLIM_82:=by constructor <;> kernel_rfl
def TLIM_24:TI:=⟨3,true,[Value.int IntKind.i64 0,Value.slice none 0 0,Value.slice none 0 0],[(0,1,false),(1,1,false),(2,1,false)],none,56,6,none,false⟩
theorem TLIM_24_ok:TypOk Tryz.prog 24 TLIM_24:=by constructor <;> kernel_rfl
def TLIM_22:TI:=⟨1,false,[Value.slice none 0 0],[],some 103,24,5,none,false⟩
theorem TLIM_22_ok:TypOk Tryz.prog 22 TLIM_22:=by constructor <;> kernel_rfl
def TLIM_39:TI:=⟨1,false,[Value.slice none 0 0],[],some 41,24,5,none,false⟩
theorem TLIM_39_ok:TypOk Tryz.prog 39 TLIM_39:=by constructor <;> kernel_rfl
def TLIM_33:TI:=⟨1,false,[Value.slice none 0 0],[],some 44,24,5,none,false⟩
theorem TLIM_33_ok:TypOk Tryz.prog 33 TLIM_33:=by constructor <;> kernel_rfl
def TLIM_59:TI:=⟨1,false,[Value.slice none 0 0],[],some 3,24,5,none,false⟩
theorem TLIM_59_ok:TypOk Tryz.prog 59 TLIM_59:=by constructor <;> kernel_rfl
def TLIM_176:TI:=⟨1,false,[Value.slice none 0 0],[],some 82,24,5,none,false⟩
theorem TLIM_176_ok:TypOk Tryz.prog 176 TLIM_176:=by constructor <;> kernel_rfl
def TLIM_67:TI:=⟨1,false,[Value.slice none 0 0],[],some 156,24,5,none,false⟩
theorem TLIM_67_ok:TypOk Tryz.prog 67 TLIM_67:=by constructor <;> kernel_rfl
def TLIM_56:TI:=⟨1,false,[Value.pointer none],[],none,8,4,none,false⟩
theorem TLIM_56_ok:TypOk Tryz.prog 56 TLIM_56:=by constructor <;> kernel_rfl
def TLIM_79:TI:=⟨5,true,[Value.int IntKind.i64 0,Value.slice none 0 0,Value.int IntKind.i64 0,Value.int IntKind.i64 0,Value.slice none 0 0],[(0,1,false),(1,4,true)],none,72,6,none,false⟩
theorem TLIM_79_ok:TypOk Tryz.prog 79 TLIM_79:=by constructor <;> kernel_rfl
def TLIM_44:TI:=⟨2,true,[Value.slice none 0 0,Value.int IntKind.i64 0],[(0,1,false),(1,1,false)],none,32,6,none,false⟩
theorem TLIM_44_ok:TypOk Tryz.prog 44 TLIM_44:=by constructor <;> kernel_rfl
def TLIM_156:TI:=⟨5,true,[Value.int IntKind.i64 0,Value.slice none 0 0,Value.int IntKind.i64 0,Value.int IntKind.i64 0,Value.slice none 0 0],[(0,1,false),(1,4,true)],none,72,6,none,false⟩
theorem TLIM_156_ok:TypOk Tryz.prog 156 TLIM_156:=by constructor <;> kernel_rfl
def TLIM_103:TI:=⟨2,true,[Value.slice none 0 0,Value.int IntKind.i64 0],[(0,1,false),(1,1,false)],none,32,6,none,false⟩
theorem TLIM_103_ok:TypOk Tryz.prog 103 TLIM_103:=by constructor <;> kernel_rfl
def TLIM:List (Nat×TI):=[(41,TLIM_41),(86,TLIM_86),(3,TLIM_3),(45,TLIM_45),(35,TLIM_35),(51,TLIM_51),(82,TLIM_82),(24,TLIM_24),(22,TLIM_22),(39,TLIM_39),(33,TLIM_33),(59,TLIM_59),(176,TLIM_176),(67,TLIM_67),(56,TLIM_56),(79,TLIM_79),(44,TLIM_44),(156,TLIM_156),(103,TLIM_103)]
theorem TLIM_ok:TabOk Tryz.prog TLIM:=((((((((((((((((((((TabOk.nil _).cons TLIM_103_ok).cons TLIM_156_ok).cons TLIM_44_ok).cons TLIM_79_ok).cons TLIM_56_ok).cons TLIM_67_ok).cons TLIM_176_ok).cons TLIM_59_ok).cons TLIM_33_ok).cons TLIM_39_ok).cons TLIM_22_ok).cons TLIM_24_ok).cons TLIM_82_ok).cons TLIM_51_ok).cons TLIM_35_ok).cons TLIM_45_ok).cons TLIM_3_ok).cons TLIM_86_ok).cons TLIM_41_ok)
theorem getT_find (l:List (Int×Tm))(m:Int):(getT l m).2=true→Sb.find l m≠none:=by
 intro h hn
 have h2:Pn.bfind l m=none:=hn
 rw[Pn.getT_bfind,h2] at h;cases h
theorem chkL_okX {C M X:List Ty}{code:Tm→Ty→Int}(hc:∀ t u,checkCode C M t X u (code t u)):∀ {l:List (Int×Tm)},chkL code M l=0→∀ p∈l,∃ h,headTy C M X 2 p.1=some h∧IsOf C M p.2 X h
 | [],_,p,hp=>by cases hp
 | q :: l,h,p,hp=>by
  rw[chkL] at h
  cases hh:headTy [] M [] 2 q.1 with
  | none=>rw[hh] at h;cases h
  | some u=>
   rw[hh] at h
   dsimp only at h
   by_cases hcd:code q.2 u=0
   ·rw[if_neg (fun h=>h hcd)] at h
    rcases List.mem_cons.1 hp with rfl | hp
    ·have h1:=hc p.2 u
     rw[hcd] at h1
     refine⟨u,?_,codeOf0 h1⟩
     rw[←hh];unfold headTy;rfl
    ·exact chkL_okX hc h p hp
   ·rw[if_pos hcd] at h;exact absurd h hcd
set_option maxRecDepth 100000 in
set_option maxHeartbeats 16000000 in
theorem liftImages_d (b:Int)(C Mw:List Ty)(p:Li.Pr)(B0:List Ty)(l:List (Int×Tm))(hp:p.l.Fit∧p.r.Fit)(hB0:B0.length≤9223372036854775807)(hl:l.length≤9223372036854775807)(hfl:∀ q∈l,q.2.Fit∧q.1≤9223372036854775807):
  PureC Tryz.prog 7 [.ag [.v (.int .i64 b),.sl 2 (eTys C) none,.sl 2 (eTys Mw) none],.ag (ePr p),.sl 2 (eTys B0) none,.sl 5 (ePairs l) none] (.v (.bool true)):=by
 have hk:=known22_d
 have hF:=few17_d [p] (by simp)
 rw[show [p].all fewP=fewP p by simp] at hF
 have eP:ePrs [p]=[[.sl 2 (eTys p.l.binds) none,.v (.int .i64 p.l.kind),.v (.int .i64 p.l.index),.sl 4 (eTms p.l.args) none,.sl 2 (eTys p.r.binds) none,.v (.int .i64 p.r.kind),.v (.int .i64 p.r.index),.sl 4 (eTms p.r.args) none,.sl 2 (eTys p.m) none]]:=rfl
 obtain⟨B,hBe⟩:∃ B,B0.take (min B0.length 4)=B:=⟨_,rfl⟩
 have hBl:B.length≤4:=by rw[←hBe,List.length_take];omega
 have e15:(eTys B0).take (min B0.length 4)=eTys B:=by rw[←hBe,eTys_map,eTys_map,List.map_take]
 obtain⟨sm,hS,hsm⟩:∃ sm:Bool,PureC Tryz.prog 9 [.ag [.v (.int .i64 b),.sl 2 (eTys C) none,.sl 2 (eTys Mw) none],.sl 2 (eTys B) none] (.v (.bool sm))∧(sm=true→(C.length≤20∧Mw.length≤20)∧∀ u∈(C++Mw)++B,u.size≤60):=by
  by_cases hl:C.length≤20∧Mw.length≤20
  ·exact⟨_,small_d b C Mw B hl.1 hl.2 (by omega),fun h=>⟨hl,fun u hu=>fewT60 (List.all_eq_true.1 h u hu)⟩⟩
  ·exact⟨false,small_no b C Mw B (fun h=>hl ⟨h.1,h.2.1⟩),fun h=>absurd h (by decide)⟩
 have hF9:=few9_d l hl fun p _ h=>wide_full _ (by have:=fewB_full h;omega)
 cases hf:fewP p with
 | false=>
  rw[hf] at hF
  rw[ePr_at]
  refine calldw 0 171 [ResultVar.tmp 8] TLIM_ok Tryz.func7 rfl Tryz.ntmps7 rfl fun cx hnt hn0=>?_
  ·skip
   refine dw_seq ?_;refine dwk [] TLIM_ok hnt fun _ z9=>z9 _ _ ?_;refine dw_seq ?_;refine dwk [(28,.v (.int .i64 (↑B0.length))),(29,.v (.int .i64 (↑(min B0.length 4)))),(30,.sl 2 (eTys B) none)] TLIM_ok hnt fun K hK=>?_;refine And.intro (dintE (by rw[eTys_len])) ?_;refine And.intro (dintE (by omega)) ?_;refine And.intro (⟨by omega,by rw[eTys_len];omega⟩) ?_;refine And.intro (VLe.of_eq (congrArg (D.sl 2 · none) e15)) ?_
   refine hK _ _ ?_;clear hK K;refine dw_seq ?_;refine dw_seq ?_;refine dwk [(32,.sl 9 (ePrs [p]) none)] TLIM_ok hnt fun K hK=>?_;refine And.intro ((by rw[eP];exact VLe.untag _ _ _)) ?_;refine dcl (hF) ?_;refine hK _ _ ?_;clear hK K;refine dw_cond (t:=true) rfl ?_;rw[if_pos rfl];refine dw_seq ?_;refine dwk [] TLIM_ok hnt fun K hK=>?_;refine dcl (hk) ?_;refine hK _ _ ?_;clear hK K
   refine dw_ret ?_
   exact reta rfl
 | true=>
 rw[hf] at hF
 obtain⟨⟨f1,f2⟩,f3,f4⟩:=fewP_ok hf
 have hW:=rwt_d p (by omega) (by omega)
 by_cases hw:Ru.wt p>60
 ·rw[ePr_at] at hW ⊢
  refine calldw 0 171 [ResultVar.tmp 8] TLIM_ok Tryz.func7 rfl Tryz.ntmps7 rfl fun cx hnt hn0=>?_
  ·skip
   refine dw_seq ?_;refine dwk [] TLIM_ok hnt fun _ z9=>z9 _ _ ?_;refine dw_seq ?_;refine dwk [(28,.v (.int .i64 (↑B0.length))),(29,.v (.int .i64 (↑(min B0.length 4)))),(30,.sl 2 (eTys B) none)] TLIM_ok hnt fun K hK=>?_;refine And.intro (dintE (by rw[eTys_len])) ?_;refine And.intro (dintE (by omega)) ?_;refine And.intro (⟨by omega,by rw[eTys_len];omega⟩) ?_;refine And.intro (VLe.of_eq (congrArg (D.sl 2 · none) e15)) ?_
   refine hK _ _ ?_;clear hK K;refine dw_seq ?_;refine dw_seq ?_;refine dwk [(32,.sl 9 (ePrs [p]) none),(38,.v (.bool true))] TLIM_ok hnt fun K hK=>?_;refine And.intro ((by rw[eP];exact VLe.untag _ _ _)) ?_;refine dcl (hF) ?_;refine dcl (hW) ?_;refine And.intro auT ?_;refine hK _ _ ?_;clear hK K;refine dw_cond (t:=true) rfl ?_;rw[if_pos rfl];refine dw_seq ?_;refine dwk [] TLIM_ok hnt fun K hK=>?_
   refine dcl (hk) ?_;refine hK _ _ ?_;clear hK K;refine dw_ret ?_
   exact reta rfl
 cases sm with
 | false=>
  rw[ePr_at] at hW ⊢
  refine calldw 0 171 [ResultVar.tmp 8] TLIM_ok Tryz.func7 rfl Tryz.ntmps7 rfl fun cx hnt hn0=>?_
  ·skip
   refine dw_seq ?_;refine dwk [] TLIM_ok hnt fun _ z9=>z9 _ _ ?_;refine dw_seq ?_;refine dwk [(28,.v (.int .i64 (↑B0.length))),(29,.v (.int .i64 (↑(min B0.length 4)))),(30,.sl 2 (eTys B) none)] TLIM_ok hnt fun K hK=>?_;refine And.intro (dintE (by rw[eTys_len])) ?_;refine And.intro (dintE (by omega)) ?_;refine And.intro (⟨by omega,by rw[eTys_len];omega⟩) ?_;refine And.intro (VLe.of_eq (congrArg (D.sl 2 · none) e15)) ?_
   refine hK _ _ ?_;clear hK K;refine dw_seq ?_;refine dw_seq ?_;refine dwk [(32,.sl 9 (ePrs [p]) none),(38,.v (.bool false))] TLIM_ok hnt fun K hK=>?_;refine And.intro ((by rw[eP];exact VLe.untag _ _ _)) ?_;refine dcl (hF) ?_;refine dcl (hW) ?_;refine And.intro auF ?_;refine dcl (hS) ?_;refine hK _ _ ?_;clear hK K;refine dw_cond (t:=true) rfl ?_;rw[if_pos rfl];refine dw_seq ?_
   refine dwk [] TLIM_ok hnt fun K hK=>?_;refine dcl (hk) ?_;refine hK _ _ ?_;clear hK K;refine dw_ret ?_
   exact reta rfl
 | true=>
 cases h9:few9 l with
 | false=>
  rw[h9] at hF9
  rw[ePr_at] at hW ⊢
  refine calldw 0 171 [ResultVar.tmp 8] TLIM_ok Tryz.func7 rfl Tryz.ntmps7 rfl fun cx hnt hn0=>?_
  ·skip
   refine dw_seq ?_;refine dwk [] TLIM_ok hnt fun _ z9=>z9 _ _ ?_;refine dw_seq ?_;refine dwk [(28,.v (.int .i64 (↑B0.length))),(29,.v (.int .i64 (↑(min B0.length 4)))),(30,.sl 2 (eTys B) none)] TLIM_ok hnt fun K hK=>?_;refine And.intro (dintE (by rw[eTys_len])) ?_;refine And.intro (dintE (by omega)) ?_;refine And.intro (⟨by omega,by rw[eTys_len];omega⟩) ?_;refine And.intro (VLe.of_eq (congrArg (D.sl 2 · none) e15)) ?_
   refine hK _ _ ?_;clear hK K;refine dw_seq ?_;refine dw_seq ?_;refine dwk [(32,.sl 9 (ePrs [p]) none),(38,.v (.bool false))] TLIM_ok hnt fun K hK=>?_;refine And.intro ((by rw[eP];exact VLe.untag _ _ _)) ?_;refine dcl (hF) ?_;refine dcl (hW) ?_;refine And.intro auF ?_;refine dcl (hS) ?_;refine dcl (hF9) ?_;refine hK _ _ ?_;clear hK K;refine dw_cond (t:=true) rfl ?_;rw[if_pos rfl]
   refine dw_seq ?_;refine dwk [] TLIM_ok hnt fun K hK=>?_;refine dcl (hk) ?_;refine hK _ _ ?_;clear hK K;refine dw_ret ?_
   exact reta rfl
 | true=>
 rw[h9] at hF9
 obtain⟨⟨hC20,hM20⟩,hs60⟩:=hsm rfl
 clear hsm
 have hC60:∀ t∈C,t.size≤60:=fun t h=>hs60 t (by simp[h])
 have hM60:∀ t∈Mw,t.size≤60:=fun t h=>hs60 t (by simp[h])
 have hB60:∀ t∈B,t.size≤60:=fun t h=>hs60 t (by simp[h])
 have zC:Ty.sizes C≤1200:=by have:=sizes_le22 hC60;omega
 have zM:Ty.sizes Mw≤1200:=by have:=sizes_le22 hM60;omega
 have hms:Ty.sizes p.m≤1200:=by have:=sizes_le22 f4;omega
 have hi:Li.In p B:=⟨⟨f1,hp.1⟩,⟨f2,hp.2⟩,f3,f4,by omega,hB60⟩
 have hbs:Ty.sizes B≤240:=by have:=sizes_le22 hB60;omega
 have hWd:=twd_d b C Mw (by omega) (by omega)
 have hTy:=toTys_d B (by omega)
 have hTo:=to17_d p (by omega) (by omega) (by omega)
 have hsf:∀ q∈l.take 10,q.2.full≤150∧q.2.Fit∧q.1≤9223372036854775807:=fun q hq=>by
  have:=List.all_eq_true.1 h9 q hq
  simp only[Bool.and_eq_true] at this
  exact⟨(fewB_full this.1).1,hfl q (List.mem_of_mem_take hq)⟩
 have hT9:=to9_d l hl fun q hq=>by have:=(hsf q hq).1;omega
 obtain⟨s,hse⟩:∃ s,l.take 10=s:=⟨_,rfl⟩
 have hsl:s.length≤10:=by rw[←hse,List.length_take];omega
 rw[hse] at hT9 hsf
 obtain⟨ep,ge,T1⟩:=rutypedD_d b C Mw p ⟨by omega,hp.1⟩ ⟨by omega,hp.2⟩ (by omega) (by omega) (fun t ht=>by
  rcases List.mem_append.1 ht with h | h
  ·have:=hC60 t h;omega
  ·have:=f4 t h;omega)
 by_cases he:ep=0
 rotate_left
 ·rw[ePr_at] at hW T1 hTo ⊢
  refine calldw 0 171 [ResultVar.tmp 8] TLIM_ok Tryz.func7 rfl Tryz.ntmps7 rfl fun cx hnt hn0=>?_
  ·skip
   refine dw_seq ?_;refine dwk [] TLIM_ok hnt fun _ z9=>z9 _ _ ?_;refine dw_seq ?_;refine dwk [(28,.v (.int .i64 (↑B0.length))),(29,.v (.int .i64 (↑(min B0.length 4)))),(30,.sl 2 (eTys B) none)] TLIM_ok hnt fun K hK=>?_;refine And.intro (dintE (by rw[eTys_len])) ?_;refine And.intro (dintE (by omega)) ?_;refine And.intro (⟨by omega,by rw[eTys_len];omega⟩) ?_;refine And.intro (VLe.of_eq (congrArg (D.sl 2 · none) e15)) ?_
   refine hK _ _ ?_;clear hK K;refine dw_seq ?_;refine dw_seq ?_;refine dwk [(32,.sl 9 (ePrs [p]) none),(38,.v (.bool false))] TLIM_ok hnt fun K hK=>?_;refine And.intro ((by rw[eP];exact VLe.untag _ _ _)) ?_;refine dcl (hF) ?_;refine dcl (hW) ?_;refine And.intro auF ?_;refine dcl (hS) ?_;refine dcl (hF9) ?_;refine hK _ _ ?_;clear hK K;refine dw_cond (t:=false) rfl ?_;rw[if_neg (by simp)]
   refine dw_skip ?_;refine dw_seq ?_;refine dwkD [] TLIM_ok hnt fun K hK=>?_;refine dcl (hWd) ?_;refine dcl (hTo) ?_;refine dcl (hTy) ?_;refine dcl (hT9) ?_;refine hK _ _ (by kernel_rfl) ?_;clear hK K;refine dw_seq ?_;refine dw_seq ?_;refine dwk [(63,.v (.bool true))] TLIM_ok hnt fun K hK=>?_;refine dcl (T1) ?_;refine And.intro (bneT he) ?_;refine hK _ _ ?_;clear hK K;refine dw_cond (t:=true) rfl ?_
   rw[if_pos rfl];refine dw_seq ?_;refine dwk [] TLIM_ok hnt fun K hK=>?_;refine dcl (hk) ?_;refine hK _ _ ?_;clear hK K;refine dw_ret ?_
   exact reta rfl
 subst he
 have hg:=ge.1 rfl
 have hrw:=ruworld_d b C Mw p (by omega) (by omega)
 obtain⟨code,hcode⟩:∃ code:Tm→Ty→Int,∀ t u,checkCode C p.m t B u (code t u):=⟨fun t u=>Classical.choose (code_ex2 C p.m B t u),fun t u=>Classical.choose_spec (code_ex2 C p.m B t u)⟩
 have hSC:=scheckT_d b C p.m B s (by omega) code hcode (fun x hx=>⟨by have:=(hsf x hx).1;omega,(hsf x hx).2⟩) (fun u hu=>by have:=f4 u hu;omega) (by omega) (by omega)
 obtain⟨cs,hcs⟩:∃ cs,(if Sb.right s=true then chkL code p.m s else 1)=cs:=⟨_,rfl⟩
 rw[hcs] at hSC
 by_cases e2:cs=0
 rotate_left
 ·rw[ePr_at] at hW T1 hTo hrw ⊢
  refine calldw 0 171 [ResultVar.tmp 8] TLIM_ok Tryz.func7 rfl Tryz.ntmps7 rfl fun cx hnt hn0=>?_
  ·skip
   refine dw_seq ?_;refine dwk [] TLIM_ok hnt fun _ z9=>z9 _ _ ?_;refine dw_seq ?_;refine dwk [(28,.v (.int .i64 (↑B0.length))),(29,.v (.int .i64 (↑(min B0.length 4)))),(30,.sl 2 (eTys B) none)] TLIM_ok hnt fun K hK=>?_;refine And.intro (dintE (by rw[eTys_len])) ?_;refine And.intro (dintE (by omega)) ?_;refine And.intro (⟨by omega,by rw[eTys_len];omega⟩) ?_;refine And.intro (VLe.of_eq (congrArg (D.sl 2 · none) e15)) ?_
   refine hK _ _ ?_;clear hK K;refine dw_seq ?_;refine dw_seq ?_;refine dwk [(32,.sl 9 (ePrs [p]) none),(38,.v (.bool false))] TLIM_ok hnt fun K hK=>?_;refine And.intro ((by rw[eP];exact VLe.untag _ _ _)) ?_;refine dcl (hF) ?_;refine dcl (hW) ?_;refine And.intro auF ?_;refine dcl (hS) ?_;refine dcl (hF9) ?_;refine hK _ _ ?_;clear hK K;refine dw_cond (t:=false) rfl ?_;rw[if_neg (by simp)]
   refine dw_skip ?_;refine dw_seq ?_;refine dwkD [] TLIM_ok hnt fun K hK=>?_;refine dcl (hWd) ?_;refine dcl (hTo) ?_;refine dcl (hTy) ?_;refine dcl (hT9) ?_;refine hK _ _ (by kernel_rfl) ?_;clear hK K;refine dw_seq ?_;refine dw_seq ?_;refine dwk [(63,.v (.bool false)),(71,.v (.bool true))] TLIM_ok hnt fun K hK=>?_;refine dcl (T1) ?_;refine And.intro (bneF rfl) ?_;refine dcl (hrw) ?_
   refine dcl (hSC) ?_;refine And.intro (bneT e2) ?_;refine hK _ _ ?_;clear hK K;refine dw_cond (t:=true) rfl ?_;rw[if_pos rfl];refine dw_seq ?_;refine dwk [] TLIM_ok hnt fun K hK=>?_;refine dcl (hk) ?_;refine hK _ _ ?_;clear hK K;refine dw_ret ?_
   exact reta rfl
 subst e2
 have hr:Sb.right s=true:=by
  cases hr:Sb.right s with
  | true=>rfl
  | false=>rw[hr,if_neg (by simp)] at hcs;omega
 rw[hr,if_pos rfl] at hcs
 have hst:∀ q∈s,(∃ h,headTy C p.m B 2 q.1=some h∧IsOf C p.m q.2 B h)∧q.2.full≤150∧q.2.Fit:=fun q hq=>⟨chkL_okX hcode hcs q hq,(hsf q hq).1,(hsf q hq).2.1⟩
 have hC:=lclosed_d p.l p.r p.m B ⟨by omega,hp.1⟩ ⟨by omega,hp.2⟩ (fun m hm=>by have:=f4 m hm;omega) (by omega) (fun b hb=>by have:=hB60 b hb;omega) (fun _=>⟨⟨hi.fullL,hi.fitL,fun h=>by have:=hi.rtL h;omega⟩,⟨hi.fullR,hi.fitR,fun h=>by have:=hi.rtR h;omega⟩,hi.ms⟩) fun h q hq=>by
  obtain⟨_,h2,h3⟩:=Li.over_at h
  rw[h2] at hq
  rw[Bool.and_eq_true] at h3
  subst hq
  exact⟨⟨by have:=hi.rtL h3.1;show _+(Li.lif B p.l 0).full≤_;omega,Li.cl_fit hi.fitL B⟩,⟨by have:=hi.rtR h3.2;show _+(Li.lif B p.r 0).full≤_;omega,Li.cl_fit hi.fitR B⟩,hi.ms⟩
 rw[show (⟨p.l,p.r,p.m⟩:Li.Pr)=p from rfl] at hC
 have hgood:=Li.closed_good (B:=B) hg (by omega) (by omega)
 have himg:=fun hnm hm y hk=>Li.img_law (y:=y) (s:=s) hg ⟨f1,hp.1⟩ hBl hB60 hr hst hnm hm hk
 have hLs:=lsubst_d s B (by omega) (fun q hq=>⟨by have:=(hsf q hq).1;omega,Li.cl_fit (hsf q hq).2.1 B⟩)
 have hrt:Sb.right (So.ss (Li.cls s B))=true:=by
  refine right_ss ?_
  unfold Li.cls
  rw[List.map_map]
  show (s.map (·.1)).Nodup
  rw[List.Nodup,List.pairwise_map]
  exact(of_decide_eq_true hr).imp fun h=>Int.ne_of_lt h
 rw[hr,if_pos rfl,hrt,if_pos rfl,if_pos rfl] at hLs
 have hMe:=metas_d [p.l] (by simp) (fun t ht=>by rw[List.mem_singleton] at ht;subst ht;omega)
 have eQ:eTms [p.l]=[[.sl 2 (eTys p.l.binds) none,.v (.int .i64 p.l.kind),.v (.int .i64 p.l.index),.sl 4 (eTms p.l.args) none]]:=by rw[←eTm_eq];rfl
 obtain⟨U,hU⟩:∃ U,sortU (metasL [p.l])=U:=⟨_,rfl⟩
 have hUm:∀ i∈Pn.mtt p.l,i∈U:=fun i hi=>hU ▸ (Pn.mem_mtt p.l i).2 hi
 have hUl:U.length≤1000:=by
  rw[←hU]
  have h1:=Pn.nodup_len (sortU (metasL [p.l])) (metasL [p.l]) ((sortU_spec _).1.imp fun h=>Int.ne_of_lt h) fun x hx=>((sortU_spec _).2 x).1 hx
  have h2:=metasL_len [p.l] 150 (fun t ht=>by rw[List.mem_singleton] at ht;subst ht;exact f1)
  simp at h2;omega
 rw[hU] at hMe
 have hG:=fun m=>sget_d s (by omega) (fun q hq=>⟨by have:=(hsf q hq).1;omega,(hsf q hq).2.1⟩) m
 generalize Li.closed p B=q at hC hgood
 obtain⟨⟨ql,qr,qm⟩,qe⟩:=q
 dsimp only at hC hgood
 rw[ePr_at] at hW T1 hTo hrw hC ⊢
 rw[ePr_eq] at hC
 refine calldw 0 171 [ResultVar.tmp 8] TLIM_ok Tryz.func7 rfl Tryz.ntmps7 rfl fun cx hnt hn0=>?_
 ·skip
  refine dw_seq ?_;refine dwk [] TLIM_ok hnt fun _ z9=>z9 _ _ ?_;refine dw_seq ?_;refine dwk [(28,.v (.int .i64 (↑B0.length))),(29,.v (.int .i64 (↑(min B0.length 4)))),(30,.sl 2 (eTys B) none)] TLIM_ok hnt fun K hK=>?_;refine And.intro (dintE (by rw[eTys_len])) ?_;refine And.intro (dintE (by omega)) ?_;refine And.intro (⟨by omega,by rw[eTys_len];omega⟩) ?_;refine And.intro (VLe.of_eq (congrArg (D.sl 2 · none) e15)) ?_
  refine hK _ _ ?_;clear hK K;refine dw_seq ?_;refine dw_seq ?_;refine dwk [(32,.sl 9 (ePrs [p]) none),(38,.v (.bool false))] TLIM_ok hnt fun K hK=>?_;refine And.intro ((by rw[eP];exact VLe.untag _ _ _)) ?_;refine dcl (hF) ?_;refine dcl (hW) ?_;refine And.intro auF ?_;refine dcl (hS) ?_;refine dcl (hF9) ?_;refine hK _ _ ?_;clear hK K;refine dw_cond (t:=false) rfl ?_;rw[if_neg (by simp)]
  refine dw_skip ?_;refine dw_seq ?_;refine dwkD [] TLIM_ok hnt fun K hK=>?_;refine dcl (hWd) ?_;refine dcl (hTo) ?_;refine dcl (hTy) ?_;refine dcl (hT9) ?_;refine hK _ _ (by kernel_rfl) ?_;clear hK K;refine dw_seq ?_;refine dw_seq ?_;refine dwk [(63,.v (.bool false)),(71,.v (.bool false))] TLIM_ok hnt fun K hK=>?_;refine dcl (T1) ?_;refine And.intro (bneF rfl) ?_;refine dcl (hrw) ?_
  refine dcl (hSC) ?_;refine And.intro (bneF rfl) ?_;refine hK _ _ ?_;clear hK K;refine dw_cond (t:=false) rfl ?_;rw[if_neg (by simp)];refine dw_skip ?_;refine dw_seq ?_;refine dwk [] TLIM_ok hnt fun K hK=>?_;refine dcl (hC) ?_;refine hK _ _ ?_;clear hK K;refine dw_seq ?_;refine dwk [] TLIM_ok hnt fun K hK=>?_;refine dcl (hLs) ?_;refine hK _ _ ?_;clear hK K;refine dw_seq ?_;refine dwk [(88,.sl 4 (eTms [p.l]) none)] TLIM_ok hnt fun K hK=>?_
  refine And.intro ((by rw[eQ];exact VLe.untag _ _ _)) ?_;refine dcl (hMe) ?_;refine hK _ _ ?_;clear hK K;refine dw_seq ?_;refine dw_seq ?_;refine dwk [] TLIM_ok hnt fun _ z9=>z9 _ _ ?_;refine dw_block ?_
  refine dw_loop (ι:={ j:Nat // ∀ i (h:i<U.length),i<j→(getT s U[i]).2=true }) (fun j=>[(.t 10,.p 38 0),(.t 11,.sl 2 (eTys B) none),(.t 12,.sl 5 (ePairs s) none),(.t 13,.p 62 0),(.t 14,.v (.int .i64 qe)),(.t 15,.sl 5 (ePairs (So.ss (Li.cls s B))) none),(.t 16,.v (.int .i64 0)),(.t 17,.sl 1 (eIs U) none),(.t 18,.v (.int .i64 ↑j.1)),(.c 38 0,.sl 2 (eTys p.l.binds) none),(.c 38 1,.v (.int .i64 p.l.kind)),(.c 38 2,.v (.int .i64 p.l.index)),(.c 38 3,.sl 4 (eTms p.l.args) none),(.c 62 0,.sl 2 (eTys ql.binds) none),(.c 62 1,.v (.int .i64 ql.kind)),(.c 62 2,.v (.int .i64 ql.index)),(.c 62 3,.sl 4 (eTms ql.args) none)]) 76 (fun j=>U.length-j.1) (⟨0,fun i h1 h2=>by omega⟩) (VS.toA) fun j=>?_
  obtain⟨j,hj⟩:=j
  dsimp only
  by_cases hlt:j<U.length
  ·have hg:=hG U[j]
   obtain⟨⟨G,gb⟩,hgb⟩:∃ r,getT s U[j]=r:=⟨_,rfl⟩
   rw[hgb] at hg
   dsimp only at hg
   rw[eTm_eq] at hg
   cases gb with
   | false=>
    refine dw_seq ?_;refine dw_seq ?_;refine dwk [(92,.v (.int .i64 (↑U.length))),(93,.v (.bool true))] TLIM_ok hnt fun K hK=>?_;refine And.intro (dintE (by rw[eIs_len])) ?_;refine And.intro auT ?_;refine hK _ _ ?_;clear hK K;refine dw_cond (t:=true) rfl ?_;rw[if_pos rfl];refine dw_skip ?_;refine dw_seq ?_;refine dw_block ?_;refine dw_seq ?_;refine dwk [(100,.q [.v (.int .i64 (U[j]))])] TLIM_ok hnt fun K hK=>?_
    refine And.intro (elo (eIs_len U)) ?_;refine And.intro (elv (eIs_getD U j) rfl) ?_;refine dcl (hg) ?_;refine hK _ _ ?_;clear hK K;refine dw_seq ?_;refine dwk [] TLIM_ok hnt fun _ z9=>z9 _ _ ?_;refine dw_cond (t:=true) rfl ?_;rw[if_pos rfl];refine dw_seq ?_;refine dwk [] TLIM_ok hnt fun K hK=>?_;refine dcl (hk) ?_;refine hK _ _ ?_;clear hK K;refine dw_ret ?_
    exact reta rfl
   | true=>
    refine dw_seq ?_;refine dw_seq ?_;refine dwk [(92,.v (.int .i64 (↑U.length))),(93,.v (.bool true))] TLIM_ok hnt fun K hK=>?_;refine And.intro (dintE (by rw[eIs_len])) ?_;refine And.intro auT ?_;refine hK _ _ ?_;clear hK K;refine dw_cond (t:=true) rfl ?_;rw[if_pos rfl];refine dw_skip ?_;refine dw_seq ?_;refine dw_block ?_;refine dw_seq ?_;refine dwk [(100,.q [.v (.int .i64 (U[j]))])] TLIM_ok hnt fun K hK=>?_
    refine And.intro (elo (eIs_len U)) ?_;refine And.intro (elv (eIs_getD U j) rfl) ?_;refine dcl (hg) ?_;refine hK _ _ ?_;clear hK K;refine dw_seq ?_;refine dwk [] TLIM_ok hnt fun _ z9=>z9 _ _ ?_;refine dw_cond (t:=false) rfl ?_;rw[if_neg (by simp)];refine dw_skip ?_;refine dwk [(95,.v (.int .i64 (↑(j+1))))] TLIM_ok hnt fun K hK=>?_;refine And.intro auI ?_;refine hK _ _ ?_;clear hK K
    refine⟨⟨j+1,fun i h1 h2=>if he:i=j then by subst he;rw[hgb] else hj i h1 (by omega)⟩,by first | omega | (dsimp only;omega),VS.toA⟩
  ·have hall:∀ i∈Pn.mtt p.l,Sb.find s i≠none:=fun i hi2=>by
    obtain⟨j2,hj2,rfl⟩:=List.getElem_of_mem (hUm i hi2)
    exact getT_find s _ (hj j2 hj2 (by omega))
   by_cases hq:qe=0
   case neg=>
    have h2:qe=2:=by
     rcases hgood with h | h
     ·exact absurd h.1 hq
     ·exact h
    refine dw_seq ?_;refine dw_seq ?_;refine dwk [(92,.v (.int .i64 (↑U.length))),(93,.v (.bool false))] TLIM_ok hnt fun K hK=>?_;refine And.intro (dintE (by rw[eIs_len])) ?_;refine And.intro auF ?_;refine hK _ _ ?_;clear hK K;refine dw_cond (t:=false) rfl ?_;rw[if_neg (by simp)];refine dw_exit ?_;refine dw_seq ?_;refine dw_seq ?_;refine dwk [(109,.v (.bool false)),(112,.v (.bool true))] TLIM_ok hnt fun K hK=>?_
    refine And.intro (bneF rfl) ?_;refine And.intro (bneT hq) ?_;refine hK _ _ ?_;clear hK K;refine dw_cond (t:=true) rfl ?_;rw[if_pos rfl];refine dw_seq ?_;refine dwk [(117,.v (.bool true))] TLIM_ok hnt fun K hK=>?_;refine dcl (hk) ?_;refine And.intro (VLe.of_eq (by rw[h2];rfl)) ?_;refine hK _ _ ?_;clear hK K;refine dw_ret ?_
    exact reta rfl
   case pos=>
   rcases hgood with⟨_,kp⟩ | h
   case inr=>rw[hq] at h;cases h
   refine dw_seq ?_;refine dw_seq ?_;refine dwk [(92,.v (.int .i64 (↑U.length))),(93,.v (.bool false))] TLIM_ok hnt fun K hK=>?_;refine And.intro (dintE (by rw[eIs_len])) ?_;refine And.intro auF ?_;refine hK _ _ ?_;clear hK K;refine dw_cond (t:=false) rfl ?_;rw[if_neg (by simp)];refine dw_exit ?_;refine dw_seq ?_;refine dw_seq ?_;refine dwk [(109,.v (.bool false)),(112,.v (.bool false))] TLIM_ok hnt fun K hK=>?_
   refine And.intro (bneF rfl) ?_;refine And.intro (bneF hq) ?_;refine hK _ _ ?_;clear hK K;refine dw_cond (t:=false) rfl ?_;rw[if_neg (by simp)];refine dw_skip ?_;refine dw_seq ?_;refine dw_seq ?_;refine dwk [] TLIM_ok hnt fun _ z9=>z9 _ _ ?_;refine dw_block ?_
   refine dw_loop (ι:={ j:Nat // ∀ i (h:i<s.length),i<j→Pn.mtt s[i].2=[] }) (fun j=>[(.t 10,.p 38 0),(.t 11,.sl 2 (eTys B) none),(.t 12,.sl 5 (ePairs s) none),(.t 13,.p 62 0),(.t 15,.sl 5 (ePairs (So.ss (Li.cls s B))) none),(.t 21,.v (.int .i64 ↑j.1)),(.c 38 0,.sl 2 (eTys p.l.binds) none),(.c 38 1,.v (.int .i64 p.l.kind)),(.c 38 2,.v (.int .i64 p.l.index)),(.c 38 3,.sl 4 (eTms p.l.args) none),(.c 62 0,.sl 2 (eTys ql.binds) none),(.c 62 1,.v (.int .i64 ql.kind)),(.c 62 2,.v (.int .i64 ql.index)),(.c 62 3,.sl 4 (eTms ql.args) none)]) 120 (fun j=>s.length-j.1) (⟨0,fun i h1 h2=>by omega⟩) (VS.toA) fun n=>?_
   obtain⟨n,hn⟩:=n
   dsimp only
   by_cases hlt2:n<s.length
   ·have hMs:=metas_d [s[n].2] (by simp) (fun t ht=>by rw[List.mem_singleton] at ht;subst ht;have:=(hsf _ (List.getElem_mem hlt2)).1;omega)
    have eS:eTms [s[n].2]=[[.sl 2 (eTys s[n].2.binds) none,.v (.int .i64 s[n].2.kind),.v (.int .i64 s[n].2.index),.sl 4 (eTms s[n].2.args) none]]:=by rw[←eTm_eq];rfl
    obtain⟨V,hV⟩:∃ V,sortU (metasL [s[n].2])=V:=⟨_,rfl⟩
    have hVm:∀ i,i∈V↔i∈Pn.mtt s[n].2:=fun i=>hV ▸ Pn.mem_mtt s[n].2 i
    rw[hV] at hMs
    by_cases hv:0<V.length
    ·skip
     refine dw_seq ?_;refine dw_seq ?_;refine dwk [(121,.v (.int .i64 (↑s.length))),(122,.v (.bool true))] TLIM_ok hnt fun K hK=>?_;refine And.intro (dintE (by rw[ePairs_len])) ?_;refine And.intro auT ?_;refine hK _ _ ?_;clear hK K;refine dw_cond (t:=true) rfl ?_;rw[if_pos rfl];refine dw_skip ?_;refine dw_seq ?_;refine dw_block ?_;refine dw_seq ?_;refine dwk [(127,.q [.v (.int .i64 s[n].1),.sl 2 (eTys s[n].2.binds) none,.v (.int .i64 s[n].2.kind),.v (.int .i64 s[n].2.index),.sl 4 (eTms s[n].2.args) none]),(130,.sl 4 (eTms [s[n].2]) none),(132,.v (.int .i64 (↑V.length))),(133,.v (.bool true))] TLIM_ok hnt fun K hK=>?_
     refine And.intro (elo (ePairs_len s)) ?_;refine And.intro (elv (ePairs_getD s n) (ePair_eq _)) ?_;refine And.intro ((by rw[eS];exact VLe.untag _ _ _)) ?_;refine dcl (hMs) ?_;refine And.intro (dintE (by rw[eIs_len])) ?_;refine And.intro (VLe.of_eq (by simp;omega)) ?_;refine hK _ _ ?_;clear hK K;refine dw_cond (t:=true) rfl ?_;rw[if_pos rfl];refine dw_seq ?_;refine dwk [] TLIM_ok hnt fun K hK=>?_
     refine dcl (hk) ?_;refine hK _ _ ?_;clear hK K;refine dw_ret ?_
     exact reta rfl
    ·have hVn:Pn.mtt s[n].2=[]:=by
      rw[List.eq_nil_iff_forall_not_mem]
      intro x hx
      have:=List.length_pos_of_mem ((hVm x).2 hx)
      omega
     refine dw_seq ?_;refine dw_seq ?_;refine dwk [(121,.v (.int .i64 (↑s.length))),(122,.v (.bool true))] TLIM_ok hnt fun K hK=>?_;refine And.intro (dintE (by rw[ePairs_len])) ?_;refine And.intro auT ?_;refine hK _ _ ?_;clear hK K;refine dw_cond (t:=true) rfl ?_;rw[if_pos rfl];refine dw_skip ?_;refine dw_seq ?_;refine dw_block ?_;refine dw_seq ?_;refine dwk [(127,.q [.v (.int .i64 s[n].1),.sl 2 (eTys s[n].2.binds) none,.v (.int .i64 s[n].2.kind),.v (.int .i64 s[n].2.index),.sl 4 (eTms s[n].2.args) none]),(130,.sl 4 (eTms [s[n].2]) none),(132,.v (.int .i64 (↑V.length))),(133,.v (.bool false))] TLIM_ok hnt fun K hK=>?_
     refine And.intro (elo (ePairs_len s)) ?_;refine And.intro (elv (ePairs_getD s n) (ePair_eq _)) ?_;refine And.intro ((by rw[eS];exact VLe.untag _ _ _)) ?_;refine dcl (hMs) ?_;refine And.intro (dintE (by rw[eIs_len])) ?_;refine And.intro (VLe.of_eq (by rw[show V=[] from List.length_eq_zero_iff.1 (by omega)];rfl)) ?_;refine hK _ _ ?_;clear hK K;refine dw_cond (t:=false) rfl ?_;rw[if_neg (by simp)]
     refine dw_skip ?_;refine dwk [(124,.v (.int .i64 (↑(n+1))))] TLIM_ok hnt fun K hK=>?_;refine And.intro auI ?_;refine hK _ _ ?_;clear hK K
     refine⟨⟨n+1,fun i h1 h2=>if he:i=n then by subst he;exact hVn else hn i h1 (by omega)⟩,by first | omega | (dsimp only;omega),VS.toA⟩
   ·have hnm:∀ q∈s,Pn.mtt q.2=[]:=fun q hq=>by
     obtain⟨j2,hj2,rfl⟩:=List.getElem_of_mem hq
     exact hn j2 hj2 (by omega)
    obtain⟨-,i1,i2,i3,i4⟩:=himg hnm hall _ kp
    dsimp only at i1 i2 i3 i4
    have hA1:=fun kb=>apply_at kb s (by omega) p.l (wide_full _ (by omega)) 5000 false ⟨by decide,by decide⟩ fun _=>Sb.apply_ok (B:=150) 5000 (by decide) (by decide) (by decide) s (fun q hq=>⟨Bnd.of_full q.2 (hsf q hq).1 (hsf q hq).2.1,wide_full _ (by have:=(hsf q hq).1;omega)⟩) p.l (Bnd.of_full _ f1 hp.1) 5000 ⟨by decide,by decide⟩ false
    have hA2:=fun kb=>apply_at kb (So.ss (Li.cls s B)) (by rw[So.ss_len,cls_len];omega) ql i3 20000 false ⟨by decide,by decide⟩ fun _=>i4
    have hle:=apply_less (l:=s) (t:=p.l) (left:=5000) (dry:=false) (fun q hq=>Bnd.of_full q.2 (hsf q hq).1 (hsf q hq).2.1) (Bnd.of_full _ f1 hp.1) ⟨by decide,by decide⟩
    obtain⟨⟨a,sa⟩,ha⟩:∃ r,Sb.apply s p.l 5000 false=r:=⟨_,rfl⟩
    obtain⟨⟨c,sc⟩,hc⟩:∃ r,Sb.apply (So.ss (Li.cls s B)) ql 20000 false=r:=⟨_,rfl⟩
    rw[ha] at hle i2
    rw[hc] at i1 i2
    simp only[ha] at hA1
    simp only[hc] at hA2
    dsimp only at hle i1 i2
    simp only[eTm_eq] at hA1 hA2
    by_cases hga:sa.e=0
    ·by_cases hgc:sc.e=0
     ·have hac:=i2 hga hgc
      subst hac
      have hCl:=lclose_d a B (by have:=Sb.full_of (hle hga).2.2 (hle hga).2.1.1;omega) (Li.cl_fit (Bnd.fit _ (hle hga).2.2) B)
      have hEq:=equal2_d (Li.cl a B) (Li.cl a B)
      rw[decide_eq_true rfl] at hEq
      simp only[eTm_eq] at hCl hEq
      refine dw_seq ?_;refine dw_seq ?_;refine dwk [(121,.v (.int .i64 (↑s.length))),(122,.v (.bool false))] TLIM_ok hnt fun K hK=>?_;refine And.intro (dintE (by rw[ePairs_len])) ?_;refine And.intro auF ?_;refine hK _ _ ?_;clear hK K;refine dw_cond (t:=false) rfl ?_;rw[if_neg (by simp)];refine dw_exit ?_;refine dw_seq ?_;refine dwkD [] TLIM_ok hnt fun K hK=>?_;refine dcn ((new_d 5000 (by decide)) _) ?_
      refine dcl (hA1 _) ?_;refine hK _ _ (by kernel_rfl) ?_;clear hK K;refine dw_seq ?_;refine dwkD [] TLIM_ok hnt fun K hK=>?_;refine dcn ((new_d 20000 (by decide)) _) ?_;refine dcl (hA2 _) ?_;refine hK _ _ (by kernel_rfl) ?_;clear hK K;refine dw_seq ?_;refine dwkD [(154,.v (.bool false)),(157,.v (.bool false)),(169,.v (.bool true))] TLIM_ok hnt fun K hK=>?_;refine dcl (hk) ?_;refine And.intro (bneF hga) ?_
      refine And.intro (bneF hgc) ?_;refine dcl (hCl) ?_;refine dcl (hEq) ?_;refine And.intro (bneT i1) ?_;refine hK _ _ (by kernel_rfl) ?_;clear hK K;refine dw_ret ?_
      exact reta rfl
     ·skip
      refine dw_seq ?_;refine dw_seq ?_;refine dwk [(121,.v (.int .i64 (↑s.length))),(122,.v (.bool false))] TLIM_ok hnt fun K hK=>?_;refine And.intro (dintE (by rw[ePairs_len])) ?_;refine And.intro auF ?_;refine hK _ _ ?_;clear hK K;refine dw_cond (t:=false) rfl ?_;rw[if_neg (by simp)];refine dw_exit ?_;refine dw_seq ?_;refine dwkD [] TLIM_ok hnt fun K hK=>?_;refine dcn ((new_d 5000 (by decide)) _) ?_
      refine dcl (hA1 _) ?_;refine hK _ _ (by kernel_rfl) ?_;clear hK K;refine dw_seq ?_;refine dwkD [] TLIM_ok hnt fun K hK=>?_;refine dcn ((new_d 20000 (by decide)) _) ?_;refine dcl (hA2 _) ?_;refine hK _ _ (by kernel_rfl) ?_;clear hK K;refine dw_seq ?_;refine dwkD [(154,.v (.bool false)),(157,.v (.bool true)),(169,.v (.bool true))] TLIM_ok hnt fun K hK=>?_;refine dcl (hk) ?_;refine And.intro (bneF hga) ?_
      refine And.intro (bneT hgc) ?_;refine And.intro (bneT i1) ?_;refine hK _ _ (by kernel_rfl) ?_;clear hK K;refine dw_ret ?_
      exact reta rfl
    ·skip
     refine dw_seq ?_;refine dw_seq ?_;refine dwk [(121,.v (.int .i64 (↑s.length))),(122,.v (.bool false))] TLIM_ok hnt fun K hK=>?_;refine And.intro (dintE (by rw[ePairs_len])) ?_;refine And.intro auF ?_;refine hK _ _ ?_;clear hK K;refine dw_cond (t:=false) rfl ?_;rw[if_neg (by simp)];refine dw_exit ?_;refine dw_seq ?_;refine dwkD [] TLIM_ok hnt fun K hK=>?_;refine dcn ((new_d 5000 (by decide)) _) ?_
     refine dcl (hA1 _) ?_;refine hK _ _ (by kernel_rfl) ?_;clear hK K;refine dw_seq ?_;refine dwkD [] TLIM_ok hnt fun K hK=>?_;refine dcn ((new_d 20000 (by decide)) _) ?_;refine dcl (hA2 _) ?_;refine hK _ _ (by kernel_rfl) ?_;clear hK K;refine dw_seq ?_;refine dwkD [(154,.v (.bool true)),(169,.v (.bool true))] TLIM_ok hnt fun K hK=>?_;refine dcl (hk) ?_;refine And.intro (bneT hga) ?_
     refine And.intro (bneT i1) ?_;refine hK _ _ (by kernel_rfl) ?_;clear hK K;refine dw_ret ?_
     exact reta rfl
end Go.Proofs.YtflbnonbfmmchaaGreat
