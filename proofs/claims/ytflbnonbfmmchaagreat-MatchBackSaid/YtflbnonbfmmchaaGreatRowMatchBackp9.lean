/-
  A pattern matches what a substitution made of it: by the pattern; plain. Deep values: regions with steps through a map. Package match, walked in the deep way: what was found as a substitution; several at once. A matching's answer, applied to the pattern, is the term; plain. The known answer of the laws of layer 12. Package subst's lists, walked in the deep way: Clone, Without, Set, Domain, Get. Package subst's lists, walked in the deep way: Set, Domain, Get, Equal; terms that are the same. Package subst's lists, walked in the deep way: Get, Equal. The document's lists of pairs, walked in the deep way: Sorted, Get, Without, Domain, Same. The document's lists of pairs, walked in the deep way: Sorted and Without hand back rows of their own; Like. The document's matching, walked in the deep way: rigid, All. The document's matching, walked in the deep way: several at once. Types and terms of the laws, there and back, walked in the deep way. Lists of pairs, there and back. How many types and terms: exactly what the reference counts. How many terms: exactly what the reference counts; the laws' Few. What the laws' Few tells of a term. Lists of pairs in the laws of layer 9: To, Few. MatchAlls, walked in the deep way. Variants and what is more general, walked in the deep way; MatchOrders. match.Find in plain words, and the document's answer for it. What the law MatchSound asks of the plain model. The laws' Small (seats without Chk9). Pairs of terms with the types of their metavariables (rule.Pair, filigreeref17.Pair), and the laws' helpers for them: To, Of, Same, Few. Package rule, walked in the deep way: met, term. Package rule, walked in the deep way: Own, Of, Equal, Variant. The document's numbers of a pair (order, renamed) are those of package rule. The document's answer of layer 17: order, renamed, Own, Variant. Package lift, walked in the deep way: variables, each, term. Package lift, walked in the deep way: may, done, Over, Closed, Subst; spot.Close. LiftSubsts, walked in the deep way. How large long forms are, and that their indexes fit. How large lifted terms are, and that their indexes fit. The document's Like. The document's Metas. The document's Metas, walked in the deep way. Which of two types is less: by size, by how many arguments, argument by argument, by base; and what that order promises. Which of two terms is less: the plain law. sign, cmp.Compare and cmp.Or of ints. The document's order of types. The document's order of terms. A context with more binders: the program's and the document's.
-/
import Derived.Test.YtflbnonbfmmchaaGreatRowMatchBackp8
import Derived.Test.YtflbnonbfmmchaaGreatRowMatchBackp4
import Derived.Maps.RangeRun
import Derived.Test.YtflbnonbfmmchaaGreatRowMatchBackp7
import Derived.Test.YtflbnonbfmmchaaGreatRowMatchBackp6
import Derived.Test.YtflbnonbfmmchaaGreatRowMatchBackp5
import Derived.Test.YtflbnonbfmmchaaGreatRowMatchBackp1
set_option maxRecDepth 100000
set_option maxHeartbeats 1000000
set_option linter.unusedVariables false
set_option linter.unusedSimpArgs false
namespace Go.Proofs.YtflbnonbfmmchaaGreat
open Go.RowKit
namespace Sb
theorem through_e {l:List (Int×Tm)}{t:Tm}{z:Int}{s:Nm.St}(he:(through l t z s).2.e=0):s.e=0:=by
 obtain⟨b,k,i,a⟩:=t
 rw[through] at he
 by_cases h:s.e=0
 ·exact h
 ·rw[if_pos h] at he;exact he
theorem seqM_e {g:Tm→Nm.St→Tm×Nm.St}(hg:∀ t s,(g t s).2.e=0→s.e=0):∀ (l:List Tm) (s:Nm.St),(Nm.seqM g l s).2.e=0→s.e=0
 | [],_,he=>he
 | t :: l,s,he=>hg t s (seqM_e hg l _ he)
end Sb
namespace Pn
variable {C M:List Ty}
theorem flex_put {B:Nat}(hB:B≤3000){X0 ar us:List Ty}{xs:List Tm}{vs:List Int}{v:Tm}{base:Int}{s:Nm.St}(hs:WkOk s)(hf:Nm.Fu 100001 s)(hx:IsOfs C M xs (X0++ar) us)(hv:varsL ar.length xs []=some vs)(ht:IsOf C M v X0 (.mk us base))(hnar:Nar B v) 
  (hfull:v.full≤100000000) (h0:X0.length≤10000) (har:ar.length≤10000) (hul:us.length≤10000) (hus:∀ T∈us,T.size≤B)
  (he:(Nm.through 100001 xs xs.length (.mk [] (Nm.lift ar.length v 0).kind (Nm.lift ar.length v 0).index (Nm.lift ar.length v 0).args) 0 s).2.e=0) :
  ∃ t0:Tm,(Nm.through 100001 xs xs.length (.mk [] (Nm.lift ar.length v 0).kind (Nm.lift ar.length v 0).index (Nm.lift ar.length v 0).args) 0 s).1=t0∧t0.binds=[]∧t0.full≤v.full∧take t0 ar vs=(v,0):=by
 obtain⟨v1,v2,v3,v4⟩:=vars_typed hx hv
 have hl:=isOfs_len hx
 obtain⟨b,k,i,a⟩:=v
 obtain⟨hb,h',e1,e2,e3⟩:=isOf_mk.1 ht
 have hb:b=us:=hb
 subst hb
 have hti:IsOf C M (.mk [] k i a) (X0++b) (.mk [] base):=isOf_mk.2 ⟨rfl,h',by rw[List.append_nil];exact e1,e2,by rw[List.append_nil];exact e3⟩
 have e0:Ty.sizes []=0:=by simp[Ty.sizes]
 have hbf:(Tm.mk [] k i a).full≤(Tm.mk b k i a).full:=by rw[Tm.full_eq,Tm.full_eq,e0];omega
 have hbn:Nar B (.mk [] k i a):=.mk _ _ _ _ (by rw[e0];omega) hnar.inv.2
 have hL:=lift_Rn (C:=C) (M:=M) (.mk [] k i a) ar.length X0 b (.mk [] base) (by omega) hti
 have hnb:∀ w:Tm,w=Nm.lift ar.length (.mk b k i a) 0→Tm.mk [] w.kind w.index w.args=Nm.lift ar.length (.mk [] k i a) b.length:=fun w hw=>by
  rw[hw,Nm.lift_eq,Nm.lift_eq,show (0:Int)+(b.length:Nat)=((b.length:Nat):Int)+(([]:List Ty).length:Nat) by simp]
  rfl
 have hnb:=hnb _ rfl
 rw[hL] at hnb
 have hti2:=lift_isOf (C:=C) (M:=M) (.mk [] k i a) X0 ar b (.mk [] base) (by omega) hti
 rw[hL] at hti2
 rw[hnb] at he ⊢
 have hm:(2 * B+2) * 100001≤6002 * 100001:=Nat.mul_le_mul_right _ (by omega)
 have hXl:(X0++ar).length=X0.length+ar.length:=List.length_append
 have hr:=(Nm.sx C M (B:=B) (by omega) 100001).a xs b (wv vs) (X0++ar) [] (Rn (· + ar.length) (.mk [] k i a) b.length) (.mk [] base) s hs hf (Rn_nar _ _ _ hbn) (by rw[Rn_full];omega) (by omega) v4 hus (by simp only[List.length_nil];omega) (by rw[List.append_nil];exact hti2) he
 have hvl:vs.length=b.length:=by omega
 have hfo:=tk_forth ar.length vs (varsL_nodup _ _ _ _ hv (by simp)) v2 (.mk [] k i a) 0
 rw[Nat.add_zero,hvl] at hfo
 have i0:(((0:Nat):Int))=0:=rfl
 have h2:(Nm.through 100001 xs xs.length (Rn (· + ar.length) (.mk [] k i a) b.length) 0 s).1=Rn (Nm.ph b.length (wv vs)) (Rn (· + ar.length) (.mk [] k i a) b.length) 0:=hr.2.trans (by rw[hl];rfl)
 refine⟨_,h2,?_,?_,?_⟩
 ·rw[Rn_eq,Rn_eq];rfl
 ·rw[Rn_full,Rn_full];exact hbf
 ·obtain⟨t0,ht0⟩:∃ t0,Rn (Nm.ph b.length (wv vs)) (Rn (· + ar.length) (.mk [] k i a) b.length) 0=t0:=⟨_,rfl⟩
  have hb0:t0.binds=[]:=by rw[←ht0,Rn_eq,Rn_eq];rfl
  rw[ht0] at hfo ⊢
  unfold take mayV
  have i0:(((0:Nat):Int))=0:=rfl
  rw[i0] at hfo
  rw[if_pos (mayL_of _ vs [] v2 (by rw[List.nil_append];exact varsL_nodup _ _ _ _ hv (by simp))),if_pos hfo.1,hfo.2,v3,hb0,List.append_nil]
  rfl
set_option maxHeartbeats 4000000 in
theorem walk_back {B K:Nat}(hB:B≤2000)(hK:1≤K)(X0:List Ty)(h0:X0.length≤10000)(l:List (Int×Tm))(hl:∀ m v,Sb.find l m=some v→(∃ h,headTy C M [] 2 m=some h∧IsOf C M v X0 h)∧Nar (B+1) v∧v.full≤K)(hK2:K≤1000000)(p:Tm):
  ∀ (ar:List Ty) (b:Bd) (pth:List Int) (u:Ty) (s:Nm.St),(uses p ar pth).2=true→(∀ m∈mtt p,Sb.find l m≠none)→(∀ m v,bfind b m=some v→Sb.find l m=some v)→IsOf C M p (X0++ar) u→Nar B p→ar.length+p.full≤5000→InR s→(Sb.through l p (ar.length:Nat) s).2.e=0 →
  (Sb.through l p (ar.length:Nat) s).1.full≤K * p.full∧∃ b',walk p (Sb.through l p (ar.length:Nat) s).1 ar b=(true,b')∧(∀ m v,bfind b' m=some v→Sb.find l m=some v)∧(∀ m∈mtt p,bfind b' m≠none)∧(∀ q∈b',q∈b∨q.1∈mtt p):=by
 induction p using Tm.ind with
 | h bs k i a ih=>
  intro ar b pth u s hu hmt hfind hp hnp hz hs he
  rw[Tm.full_eq] at hz
  have hbl:=Ty.le_sizes bs
  obtain⟨n1,n2⟩:=hnp.inv
  obtain⟨hbu,h,h1,h2,h3⟩:=isOf_mk.1 hp
  rw[List.append_assoc] at h1 h3
  have hal:=isOfs_len h3
  have hfl:=fulls_len a
  have hab:(ar++bs).length=ar.length+bs.length:=List.length_append
  have hwr:Nm.wr (((ar.length:Nat):Int)+bs.length)=(((ar++bs).length:Nat):Int):=by rw[wr_id (by omega) (by omega),hab];omega
  obtain⟨s0,s1,s2,s3⟩:=Sb.thr_step hs hwr he
  clear hwr
  rw[uses_eq] at hu
  rw[mtt_eq] at hmt
  have hKf:K * (Tm.mk bs k i a).full=K * Ty.sizes bs+K * Tm.fulls a+K:=by rw[Tm.full_eq,Nat.mul_add,Nat.mul_add,Nat.mul_one]
  rw[hKf]
  have hKb:Ty.sizes bs≤K * Ty.sizes bs:=Nat.le_mul_of_pos_left _ hK
  by_cases hk:k=2
  ·subst hk
   rw[if_pos rfl] at hu
   rw[if_neg (fun h=>h rfl)] at s3
   cases hv:varsL ((ar++bs).length:Nat) a [] with
   | none=>rw[hv] at hu;cases hu
   | some vs=>
    clear hu
    have hi:Sb.find l i≠none:=hmt i (by simp)
    obtain⟨v,hfi⟩:∃ v,Sb.find l i=some v:=by
     cases hf:Sb.find l i with
     | none=>exact absurd hf hi
     | some v=>exact⟨v,rfl⟩
    rw[hfi] at s3
    dsimp only at s3
    obtain⟨⟨hh,y1,y2⟩,y3,y4⟩:=hl i v hfi
    have hhe:hh=h:=by
     rw[headTy_ctx (X':=X0++(ar++bs)) (by decide)] at y1
     rw[y1] at h1;exact Option.some.inj h1
    subst hhe
    obtain⟨v1,v2,v3,v4⟩:=vars_typed h3 hv
    have hsz:∀ T∈hh.args,T.size≤B+1:=fun T hT=>by
     obtain⟨j,hj,rfl⟩:=List.getElem_of_mem hT
     have e:=(v4 j (by omega) hj).1
     have hn:=n2 _ (List.getElem_mem (show j<a.length by omega))
     rw[e] at hn
     obtain⟨c,d⟩:∃ x,x=hh.args[j]:=⟨_,rfl⟩
     rw[←d] at hn ⊢
     obtain⟨c,d⟩:=c
     rw[Ty.eta_eq] at hn
     have:=hn.inv.1
     rw[ty_size];omega
    have hq:=(Sb.seq_to (g:=fun t s=>Sb.through l t (((ar++bs).length:Nat):Int) s) (fun t s hs=>through_in l t _ s hs) a a rfl (fun j hj _ s hs he=>by
     have e:=(v4 j hj (by omega)).1
     rw[e] at he ⊢
     exact Sb.eta_stays l _ _ _ s hs (by have:=hsz _ (List.getElem_mem (show j<hh.args.length by omega));omega) he) _ s1 s2).2
    have hqi:=seqM_in (g:=fun t s=>Sb.through l t (((ar++bs).length:Nat):Int) s) a (fun v hv s hs=>through_in l v _ s hs) _ s1
    rw[s3] at he ⊢
    generalize Nm.seqM (fun t s=>Sb.through l t (((ar++bs).length:Nat):Int) s) a (Nm.spend s).2=q at hq hqi s2 he ⊢
    rw[hq] at he ⊢
    obtain⟨r1,r2,r3⟩:=Sb.replaced_e s2 he
    obtain⟨p1,p2,p3,p4⟩:=Sb.Put_e r1 r2
    have hw0:WkOk ⟨q.2.left,q.2.dry,0,0⟩:=⟨hqi,⟨Int.le_refl 0,(by decide:(0:Int)≤100001)⟩,fun _=>(by decide:(0:Int)≤100000)⟩
    obtain⟨ha,hbase⟩:∃ x,x=hh:=⟨_,rfl⟩
    obtain⟨t0,z1,z2,z3,z4⟩:=flex_put (C:=C) (M:=M) (B:=B+1) (by omega) (base:=hh.base) (s:=⟨q.2.left,q.2.dry,0,0⟩) hw0 (fun _=>by show (100001:Int)-0≤((100001:Nat):Int);decide) h3 hv (by obtain⟨c,d⟩:=hh;exact y2) y3 (by omega) h0 (by omega) (by omega) hsz p1
    rw[r3,p2,p3,p4,z1]
    obtain⟨tb,tk,ti,ta⟩:=t0
    have z2:tb=[]:=z2
    subst z2
    have hff:(Tm.mk bs tk ti ta).full=Ty.sizes bs+(Tm.mk [] tk ti ta).full:=by
     rw[Tm.full_eq,Tm.full_eq,show Ty.sizes []=0 by simp[Ty.sizes]];omega
    refine⟨by show (Tm.mk bs tk ti ta).full≤_;rw[hff];omega,?_⟩
    show ∃ b',walk (.mk bs 2 i a) (.mk bs tk ti ta) ar b=(true,b')∧_
    rw[walk,if_neg (fun h=>h rfl),if_pos rfl]
    have hfx:flex b (.mk bs 2 i a) (.mk bs tk ti ta) (ar++bs)=bput b i v:=by
     unfold flex
     show (match varsL ((ar++bs).length:Nat) a [] with | none=>(false,b) | some v=>if (take (.mk [] tk ti ta) (ar++bs) v).2=0 then bput b i (take (.mk [] tk ti ta) (ar++bs) v).1 else (false,b))=_
     rw[hv]
     dsimp only
     rw[z4];rfl
    rw[hfx]
    have hargs:mtts a=[]:=by
     rw[List.eq_nil_iff_forall_not_mem]
     intro n hn
     obtain⟨x,hx,hn⟩:=mtts_mem.1 hn
     obtain⟨j,hj,rfl⟩:=List.getElem_of_mem hx
     rw[(v4 j hj (by omega)).1,eta_mtt] at hn
     cases hn
    rw[mtt_eq,if_pos rfl,hargs,List.append_nil]
    unfold bput
    cases hbf:bfind b i with
    | some w=>
     have hwv:v=w:=by
      have:=hfind i w hbf
      rw[hfi] at this;exact Option.some.inj this
     subst hwv
     refine⟨b,by simp,hfind,fun m hm=>?_,fun q hq=>.inl hq⟩
     rw[List.mem_singleton] at hm;subst hm;rw[hbf];simp
    | none=>
     refine⟨b++[(i,v)],rfl,fun m w hw=>?_,fun m hm=>?_,fun q hq=>?_⟩
     ·unfold bfind at hw
      rw[List.find?_append] at hw
      cases hf:b.find? (fun p=>p.1==m) with
      | some p=>
       rw[hf] at hw
       exact hfind m w (by unfold bfind;rw[hf];exact hw)
      | none=>
       rw[hf] at hw
       by_cases him:i=m
       ·subst him
        have:w=v:=by simpa using hw.symm
        subst this;exact hfi
       ·rw[Option.none_or,List.find?_cons_of_neg (by simpa using him)] at hw
        cases hw
     ·rw[List.mem_singleton] at hm;subst hm
      unfold bfind at hbf ⊢
      rw[Option.map_eq_none_iff] at hbf
      rw[List.find?_append,hbf]
      simp
     ·rcases List.mem_append.1 hq with hq | hq
      ·exact .inl hq
      ·rw[List.mem_singleton] at hq;subst hq;exact .inr (by simp)
  ·rw[if_neg hk] at hu
   rw[if_pos hk] at s3
   rw[if_neg hk,List.nil_append] at hmt
   rw[s3]
   have key:∀ (m:List Tm) (us:List Ty) (j:Nat) (b:Bd) (s:Nm.St),(∀ x∈m,x∈a)→IsOfs C M m (X0++(ar++bs)) us→(usess m (ar++bs) pth j).2=true→(∀ n∈mtts m,Sb.find l n≠none)→(∀ n v,bfind b n=some v→Sb.find l n=some v)→InR s→(Nm.seqM (fun t s=>Sb.through l t (((ar++bs).length:Nat):Int) s) m s).2.e=0 →
     Tm.fulls (Nm.seqM (fun t s=>Sb.through l t (((ar++bs).length:Nat):Int) s) m s).1≤K * Tm.fulls m∧∃ b',walks m (Nm.seqM (fun t s=>Sb.through l t (((ar++bs).length:Nat):Int) s) m s).1 (ar++bs) b=(true,b')∧(∀ n v,bfind b' n=some v→Sb.find l n=some v)∧(∀ n∈mtts m,bfind b' n≠none)∧(∀ q∈b',q∈b∨q.1∈mtts m):=by
    intro m
    induction m with
    | nil=>
     intro us j b s _ _ _ _ hb _ _
     exact⟨by simp[Nm.seqM,Tm.fulls],b,rfl,hb,(fun n hn=>by rw[mtts] at hn;cases hn),fun q hq=>.inl hq⟩
    | cons x m ihm=>
     intro us j b s hm hmt hus hmn hb hs he
     cases us with
     | nil=>rw[IsOfs] at hmt;exact hmt.elim
     | cons w us=>
      rw[IsOfs] at hmt
      rw[usess] at hus
      have hux:(uses x (ar++bs) (pth++[(j:Int)])).2=true:=by
       by_cases h:(uses x (ar++bs) (pth++[(j:Int)])).2=true
       ·exact h
       ·rw[if_neg h] at hus;exact absurd hus (by simp)
      rw[if_pos hux] at hus
      rw[mtts] at hmn
      have hem:(Sb.through l x (((ar++bs).length:Nat):Int) s).2.e=0:=Sb.seqM_e (g:=fun t s=>Sb.through l t (((ar++bs).length:Nat):Int) s) (fun t s h=>Sb.through_e h) m _ he
      have hxa:=hm x (by simp)
      have hxf:=full_mem hxa
      obtain⟨f1,b1,g1,g2,g3,g4⟩:=ih x hxa (ar++bs) b _ w s hux (fun n hn=>hmn n (List.mem_append_left _ hn)) hb hmt.1 (n2 x hxa) (by omega) hs hem
      obtain⟨f2,b2,k1,k2,k3,k4⟩:=ihm us (j+1) b1 _ (fun y hy=>hm y (by simp[hy])) hmt.2 hus (fun n hn=>hmn n (List.mem_append_right _ hn)) g2 (through_in l x _ s hs) he
      refine⟨?_,b2,?_,k2,fun n hn=>?_,fun q hq=>?_⟩
      ·show Tm.fulls (_ :: _)≤K * Tm.fulls (x :: m)
       rw[Tm.fulls,Tm.fulls,Nat.mul_add];exact Nat.add_le_add f1 f2
      ·show walks (x :: m) ((Sb.through l x (((ar++bs).length:Nat):Int) s).1 :: _) (ar++bs) b=_
       rw[walks,List.headD_cons,List.tail_cons,g1]
       exact k1
      ·rw[mtts] at hn
       rcases List.mem_append.1 hn with hn | hn
       ·intro hno
        cases hb1:bfind b1 n with
        | none=>exact g3 n hn hb1
        | some v=>
         have:=walks_keeps (ar++bs) m (Nm.seqM (fun t s=>Sb.through l t (((ar++bs).length:Nat):Int) s) m (Sb.through l x (((ar++bs).length:Nat):Int) s).2).1 b1 n v hb1
         rw[k1] at this
         rw[this] at hno;cases hno
       ·exact k3 n hn
      ·rw[mtts]
       rcases k4 q hq with h | h
       ·rcases g4 q h with h | h
        ·exact .inl h
        ·exact .inr (List.mem_append_left _ h)
       ·exact .inr (List.mem_append_right _ h)
   obtain⟨f1,b1,g1,g2,g3,g4⟩:=key a _ 0 b _ (fun _ h=>h) h3 hu hmt hfind s1 s2
   have hln:=Nm.seqM_length (fun t s=>Sb.through l t (((ar++bs).length:Nat):Int) s) a (Nm.spend s).2
   generalize Nm.seqM (fun t s=>Sb.through l t (((ar++bs).length:Nat):Int) s) a (Nm.spend s).2=q at f1 g1 hln ⊢
   refine⟨by show (Tm.mk bs k i q.1).full≤_;rw[Tm.full_eq];omega,b1,?_,g2,fun n hn=>?_,fun q hq=>?_⟩
   ·show walk (.mk bs k i a) (.mk bs k i q.1) ar b=_
    rw[walk,if_neg (fun h=>h rfl),if_neg hk,if_neg (by rintro(h | h);rcases h with h | h;exact h rfl;exact h rfl;exact h hln.symm)]
    exact g1
   ·rw[mtt_eq,if_neg hk,List.nil_append] at hn;exact g3 n hn
   ·rw[mtt_eq,if_neg hk,List.nil_append];exact g4 q hq
end Pn
def kitM (T:List (Nat×TI))(σ:Env)(nm:Nat)(o:Op)(c:D→List (Key×D)→Prop):Prop:=match o with
 | .range t x=>kT T t fun ti=>kev σ x fun d=>(match d,ti.mv with
  | .mo k,some _=>kget σ (.o k) fun d=>(match d with
   | .mp l=>∀ bm es clock,es.size=l.length→c (.o nm) [(.o nm,.it k bm es clock (List.range l.length) none),(.o k,.mq bm es clock l)]
   | _=>False)
  | _,_=>False)
 | .next x false=>kev σ x fun d=>(match d with
  | .o ki=>kget σ (.o ki) fun d=>(match d with
   | .it k bm es clock rem _=>kget σ (.o k) fun d=>(match d with
    | .mq _ es' clock' l=>(es'=es∧clock'=clock)∧((rem=[]∧c (.tu [.v (.bool false)]) [])∨(rem≠[]∧∀ i (_:i∈rem) (hl:i<l.length),c (.tu [.v (.bool true),.v (.int .i64 l[i].1),l[i].2]) [(.o ki,.it k bm es clock (rem.erase i) (some i))]))
    | _=>False)
   | _=>False)
  | _=>False)
 | .entry x=>kev σ x fun d=>(match d with
  | .o ki=>kget σ (.o ki) fun d=>(match d with
   | .it k _ es clock _ (some i)=>kget σ (.o k) fun d=>(match d with
    | .mq _ es' clock' l=>(es'=es∧clock'=clock)∧∃ hl:i<l.length,c (.tu [.v (.int .i64 l[i].1),l[i].2]) []
    | _=>False)
   | _=>False)
  | _=>False)
 | _=>False
section
variable {P:Program} {T:List (Nat×TI)} {cx:Cx} {Fr:Nat→Prop} {m:Mp} {Im:Nat→Nat→Prop} {w w':World} {a:Act} {σ σ':List (Key×D)}
theorem St.drew (h:St cx Fr m Im w a σ):St cx Fr m Im w.drew a σ:=h.below0 (Below.refl _ _).drew
theorem obOk_mq {b bm clock:Nat}{es:Array MapEntry}{l:List (Int×D)}(h:ObOk m Im w b (.mq bm es clock l)):
  b=bm∧w.heap[b]?=some (.map es clock)∧es.size=l.length∧(∀ i (h:i<l.length),(es[i]?).map (·.key)=some (.int .i64 l[i].1))∧(∀ i (h:i<l.length) v,(es[i]?).map (·.val)=some v→Rel m Im w v l[i].2)∧BornOk es clock:=by
 cases h with
 | mq es clock l h1 h2 h3 h4 h5=>exact⟨rfl,h1,h2,h3,h4,h5⟩
theorem obOk_it {b k bm clock:Nat}{es:Array MapEntry}{rem:List Nat}{last:Option Nat}(h:ObOk m Im w b (.it k bm es clock rem last)):
  ∃ seen:Array Nat,m.obj k=some bm∧w.heap[b]?=some (.mapIter (some bm) clock seen clock)∧rem.Nodup∧(∀ i e,es[i]?=some e→(i∈rem↔seen.contains e.born=false))∧(∀ i∈rem,i<es.size)∧(∀ i,last=some i→∃ (e:MapEntry) (s0:Array Nat),es[i]?=some e∧seen=s0.push e.born):=by
 cases h with
 | it k bm es clock rem last seen h1 h2 h3 h4 h5 h6=>exact⟨seen,h1,h2,h3,h4,h5,h6⟩
theorem born_inj {es:Array MapEntry}{clock:Nat}(h:BornOk es clock){i j:Nat}{e f:MapEntry}(hi:es[i]?=some e)(hj:es[j]?=some f)(hb:e.born=f.born):i=j:=by
 have hn:=h.1
 obtain⟨hi1,hi2⟩:=Array.getElem?_eq_some_iff.1 hi
 obtain⟨hj1,hj2⟩:=Array.getElem?_eq_some_iff.1 hj
 have key:∀ (i j:Nat) (e f:MapEntry),es[i]?=some e→es[j]?=some f→e.born=f.born→¬ i<j:=fun i j e f hi hj hb hij=>by
  obtain⟨hi1,hi2⟩:=Array.getElem?_eq_some_iff.1 hi
  obtain⟨hj1,hj2⟩:=Array.getElem?_eq_some_iff.1 hj
  refine(List.pairwise_iff_getElem.1 hn) i j (by simpa using hi1) (by simpa using hj1) hij ?_
  simp only[List.getElem_map,Array.getElem_toList];rw[hi2,hj2];exact hb
 have h1:=key i j e f hi hj hb
 have h2:=key j i f e hj hi hb.symm
 omega
theorem kitM_run (hT : TabOk P T) (h : St cx Fr m Im w a σ) {nm : Nat} (hn : Fr nm) {o : Oper} {c : D → List (Key × D) → Prop} (hk : kitM T σ nm o.op c) :
    ∃ v w' m' V W, (execOp a.eval o).run P w = .ok (.value v) w' ∧ Rel m' Im w' v V ∧ St cx (minus Fr nm) m' Im w' a (puts σ W) ∧ c V W := by
  unfold kitM at hk
  unfold execOp
  split at hk
  · -- range
    rename_i t x ho
    simp only [ho]
    obtain ⟨ti, ht, hk⟩ := kT_some hk
    obtain ⟨d, hx, hk⟩ := kev_some hk
    split at hk
    · rename_i k e hmv
      obtain ⟨d, hg, hk⟩ := kget_some hk
      split at hk
      · rename_i l
        obtain ⟨kt, g1, g2⟩ := (hT t ti ht).map hmv
        obtain ⟨b, h1, h2⟩ := h.ok k _ hg
        obtain ⟨es, clock, h3, h4, h5, h6, hbn⟩ : ∃ (es : Array MapEntry) (clock : Nat), w.heap[b]? = some (.map es clock) ∧ es.size = l.length ∧ (∀ i (h : i < l.length), (es[i]?).map (·.key) = some (.int .i64 l[i].1)) ∧ (∀ i (h : i < l.length) v, (es[i]?).map (·.val) = some v → Rel m Im w v l[i].2) ∧ BornOk es clock := by
          cases h2 with
          | mp es clock l h1 h2 h3 h4 h5 => exact ⟨es, clock, h1, h2, h3, h4, h5⟩
        have hxb : a.eval x = .map (some b) := by
          have hr := h.ev hx
          generalize a.eval x = y at hr
          cases hr with
          | mo k b' hb => rw [h1] at hb; cases hb; rfl
        have hlt := h.mem.olt k b h1
        have hq : ∀ (m' : Mp) (w' : World), m'.obj k = some b → w'.heap[w.heap.size]? = some (.mapIter (some b) clock #[] clock) → ObOk m' Im w' w.heap.size (.it k b es clock (List.range l.length) none) := fun m' w' hm hb =>
          .it k b es clock _ none #[] hm hb List.nodup_range (fun i e he => by
            obtain ⟨hi, _⟩ := Array.getElem?_eq_some_iff.1 he
            rw [h4] at hi
            simp [hi]) (fun i hi => by rw [h4]; simpa using hi) nofun
        have h0 : St cx Fr m Im w a (put1 (.o k) (.mq b es clock l) σ) := h.puto h1 (.mq es clock l h3 h4 h5 h6 hbn)
        have hbl : Below w.heap.size w (w.alloc (.mapIter (some b) clock #[] clock)) := (Below.refl _ _).alloc (Nat.le_refl _) _
        have hne : nm ≠ k := fun e => by
          subst e
          have := (h.mem.fr _ hn).2.2
          rw [this] at h1; cases h1
        have hmk : (m.setO nm w.heap.size).obj k = some b := by simp [Mp.setO, Ne.symm hne, h1]
        obtain ⟨s1, s2⟩ := h0.newObjB (d := .ob fun _ _ => True) hn hbl (Nat.le_refl _) (by simp) fun _ => .ob _ trivial fun _ _ => trivial
        have s3 := s1.puto (k := nm) (b := w.heap.size) (by simp [Mp.setO]) (hq _ _ hmk (heap_alloc_new w _))
        refine ⟨.pointer (some ⟨w.heap.size, 0, none⟩), w.alloc (.mapIter (some b) clock #[] clock), m.setO nm w.heap.size, _, _, ?_, .o nm w.heap.size (by simp [Mp.setO]), ?_, hk b es clock h4⟩
        · simp only [Instr.range, hxb, Sem.run_bind, run_underlying g1, Result.andThen_ok, getObj, Sem.run, h3, newObj]
          rfl
        · simp only [puts]
          refine s3.sub fun k' d hd => ?_
          rw [get_put1, get_put1] at hd
          rw [get_put1, get_put1, get_put1]
          by_cases e1 : Key.eq (.o k) k' = true
          · rw [if_pos e1] at hd
            have := Key.eq_iff.1 e1
            subst this
            rw [if_neg (by rw [Key.eq_iff]; simpa using hne), if_neg (by rw [Key.eq_iff]; simpa using hne), if_pos e1]; exact hd
          · rw [if_neg e1] at hd
            by_cases e2 : Key.eq (.o nm) k' = true
            · rw [if_pos e2] at hd ⊢; exact hd
            · rw [if_neg e2] at hd
              rw [if_neg e2, if_neg e2, if_neg e1]; exact hd
      · exact hk.elim
    · exact hk.elim
  · -- next
    rename_i x ho
    simp only [ho]
    obtain ⟨d, hx, hk⟩ := kev_some hk
    split at hk
    · rename_i ki
      obtain ⟨d, hg, hk⟩ := kget_some hk
      split at hk
      · rename_i k bm es clock rem last
        obtain ⟨d, hg2, hk⟩ := kget_some hk
        split at hk
        · rename_i bm' es' clock' l
          obtain ⟨⟨rfl, rfl⟩, hk⟩ := hk
          obtain ⟨r, i1, i2⟩ := h.ok ki _ hg
          obtain ⟨seen, j1, j2, j3, j4, j5, j6⟩ := obOk_it i2
          obtain ⟨b, m1, m2⟩ := h.ok k _ hg2
          obtain ⟨rfl, q1, q2, q3, q4, q5⟩ := obOk_mq m2
          have : b = bm := by rw [j1] at m1; cases m1; rfl
          subst this
          have hxr : a.eval x = .pointer (some ⟨r, 0, none⟩) := by
            have hr := h.ev hx
            generalize a.eval x = y at hr
            cases hr with
            | o k b' hb => rw [i1] at hb; cases hb; rfl
          have hleft : ∀ e, e ∈ (leftOf es' seen).toList ↔ ∃ i ∈ rem, es'[i]? = some e := fun e => by
            constructor
            · intro he
              obtain ⟨e1, e2⟩ := mem_left he
              obtain ⟨i, hi, hie⟩ := List.getElem_of_mem e1
              have hi' : es'[i]? = some e := by rw [Array.getElem?_eq_getElem (by simpa using hi)]; simpa using hie
              exact ⟨i, (j4 i e hi').2 e2, hi'⟩
            · rintro ⟨i, hi, he⟩
              have := (j4 i e he).1 hi
              unfold leftOf
              obtain ⟨hi1, hi2⟩ := Array.getElem?_eq_some_iff.1 he
              simp only [Array.toList_filter, List.mem_filter]
              exact ⟨hi2 ▸ (by simp), by rw [this]; rfl⟩
          rcases run_next_at (P := P) w o.type r b clock' clock' seen es' clock' j2 q1 q5.2 (Nat.le_refl _) with ⟨hl0, hrun⟩ | ⟨e, he, w1, hw1, hrun⟩
          · have hrem : rem = [] := by
              cases rem with
              | nil => rfl
              | cons i r' =>
                have hi := j5 i (by simp)
                have := (hleft es'[i]).2 ⟨i, by simp, by simp [hi]⟩
                rw [List.eq_nil_of_length_eq_zero (by simpa using hl0 : (leftOf es' seen).toList.length = 0)] at this
                cases this
            rcases hk with ⟨_, hk⟩ | ⟨hne, _⟩
            · refine ⟨.tuple #[.bool false], w, m, .tu [.v (.bool false)], [], ?_, rel_tu.2 ⟨[.bool false], rfl, .v _, trivial⟩, h.less fun x hx => hx.1, hk⟩
              simp only [hxr, Sem.run_bind, hrun]
              rfl
            · exact absurd hrem hne
          · obtain ⟨i, hi, hie⟩ := (hleft e).1 he
            have hil : i < l.length := by have := j5 i hi; omega
            rcases hk with ⟨hrem, _⟩ | ⟨_, hk⟩
            · rw [hrem] at hi; cases hi
            · have hs1 : St cx Fr m Im w1 a σ := by rcases hw1 with rfl | rfl; exact h; exact h.drew
              have s2 := hs1.setObj (k := ki) (o := .mapIter (some b) clock' (seen.push e.born) clock') (d := .it k b es' clock' (rem.erase i) (some i)) i1 fun w' hb hki => by
                refine .it k b es' clock' _ _ (seen.push e.born) j1 hb (j3.erase i) (fun i' e' he' => ?_) (fun i' hi' => j5 i' (List.mem_of_mem_erase hi')) fun i' e' => ?_
                · rw [j3.mem_erase_iff, j4 i' e' he']
                  rw [Array.contains_push]
                  by_cases hii : i' = i
                  · subst hii
                    rw [hie] at he'; cases he'
                    simp
                  · have : e'.born ≠ e.born := fun hb => hii (born_inj q5 he' hie hb)
                    simp [hii, this]
                · cases e'; exact ⟨e, seen, hie, rfl⟩
              have hkey : e.key = .int .i64 l[i].1 := by
                have := q3 i hil
                rw [hie] at this
                simpa using this
              have hval : Rel m Im w e.val l[i].2 := q4 i hil e.val (by rw [hie]; rfl)
              have hki1 : KeepI Im w (ChangeMaps.setBlock w1 r (.mapIter (some b) clock' (seen.push e.born) clock')) := fun c y u hic hu => by
                have hu1 : w1.cell? ⟨c, y, none⟩ = some u := by rcases hw1 with rfl | rfl <;> exact hu
                refine (World.cell?_of_block (w := w1) (a := ⟨c, y, none⟩) ?_).trans hu1
                exact Array.getElem?_setIfInBounds_ne (by rintro rfl; exact h.mem.onim ki _ y i1 hic)
              refine ⟨.tuple #[.bool true, e.key, e.val], ChangeMaps.setBlock w1 r (.mapIter (some b) clock' (seen.push e.born) clock'), m, _, _, ?_, ?_, ?_, hk i hi hil⟩
              · simp only [hxr, Sem.run_bind, hrun]
                rfl
              · refine rel_tu.2 ⟨[.bool true, e.key, e.val], rfl, .v _, ?_, ?_, trivial⟩
                · rw [hkey]; exact .v _
                · exact hval.mono (Mp.le.refl m) hki1 fun _ _ h => h
              · exact s2.less fun x hx => hx.1
        · exact hk.elim
      · exact hk.elim
    · exact hk.elim
  · -- entry
    rename_i x ho
    simp only [ho]
    obtain ⟨d, hx, hk⟩ := kev_some hk
    split at hk
    · rename_i ki
      obtain ⟨d, hg, hk⟩ := kget_some hk
      split at hk
      · rename_i k bm es clock rem i
        obtain ⟨d, hg2, hk⟩ := kget_some hk
        split at hk
        · rename_i bm' es' clock' l
          obtain ⟨⟨rfl, rfl⟩, hil, hk⟩ := hk
          obtain ⟨r, i1, i2⟩ := h.ok ki _ hg
          obtain ⟨seen, j1, j2, j3, j4, j5, j6⟩ := obOk_it i2
          obtain ⟨b, m1, m2⟩ := h.ok k _ hg2
          obtain ⟨rfl, q1, q2, q3, q4, q5⟩ := obOk_mq m2
          have : b = bm := by rw [j1] at m1; cases m1; rfl
          subst this
          obtain ⟨e, s0, he, rfl⟩ := j6 i rfl
          have hxr : a.eval x = .pointer (some ⟨r, 0, none⟩) := by
            have hr := h.ev hx
            generalize a.eval x = y at hr
            cases hr with
            | o k b' hb => rw [i1] at hb; cases hb; rfl
          have hem : e ∈ es'.toList := by
            obtain ⟨hi1, hi2⟩ := Array.getElem?_eq_some_iff.1 he
            exact hi2 ▸ (by simp)
          have hrun := run_entry_at (P := P) w r b clock' s0 es' clock' e j2 q1 hem q5.1
          have hkey : e.key = .int .i64 l[i].1 := by
            have := q3 i hil
            rw [he] at this
            simpa using this
          have hval : Rel m Im w e.val l[i].2 := q4 i hil e.val (by rw [he]; rfl)
          refine ⟨.tuple #[e.key, e.val], w, m, _, _, ?_, ?_, h.less fun x hx => hx.1, hk⟩
          · simp only [hxr, Sem.run_bind, hrun]
            rfl
          · refine rel_tu.2 ⟨[e.key, e.val], rfl, ?_, hval, trivial⟩
            rw [hkey]; exact .v _
        · exact hk.elim
      · exact hk.elim
    · exact hk.elim
  · exact hk.elim
end
def DRq (P:Program)(T:List (Nat×TI))(ops:Array Oper)(nm:Nat)(ov:List (Nat×D)):List Oper→Nat→Env→(Env→Prop)→Prop
 | [],_,σ,K=>K σ
 | o :: r,i,σ,K=>
  match gd ops σ o.guard with
  | none=>False
  | some false=>kdst σ o.dst (.v undef) fun σ'=>DRq P T ops nm ov r (i+1) σ' K
  | some true=>
   kval T σ o.op (fun V=>kov ov o.dst V fun V=>kdst σ o.dst V fun σ'=>DRq P T ops nm ov r (i+1) σ' K)
    (knat (nm+i) fun k=>kmop T σ k o.op (fun V W _=>kov ov o.dst V fun V=>kputs σ W fun σ1=>kdst σ1 o.dst V fun σ'=>DRq P T ops nm ov r (i+1) σ' K)
     (match Oper.op o with
     | .call _=>kcall σ o.op fun f ars=>∃ R W V,CallX P f ars R k W V∧kR σ R∧kov ov o.dst V fun V=>kdropT R σ fun σ0=>kputs σ0 W fun σ1=>kdst σ1 o.dst V fun σ'=>DRq P T ops nm ov r (i+1) σ' K
     | _=>kitM T σ k o.op fun V W=>kov ov o.dst V fun V=>kputs σ W fun σ1=>kdst σ1 o.dst V fun σ'=>DRq P T ops nm ov r (i+1) σ' K))
section
variable {P:Program} {T:List (Nat×TI)} {cx:Cx} {m:Mp} {Im:Nat→Nat→Prop} {w:World} {a:Act} {σ:List (Key×D)} {ops:Array Oper} {Q:Exit→Act→World→Prop}
theorem drq_run (hT:TabOk P T){nm:Nat}{ov:List (Nat×D)}(hdst:∀ o∈ops.toList,∀ d,o.dst=some d→d<cx.nt){K:Env→Prop}(hK:∀ m Im w a σ',K σ'→St cx (fun k=>nm+ops.size≤k) m Im w a σ'→Q .normal a w):
  ∀ (os:List Oper) (i:Nat) {m:Mp} {Im:Nat→Nat→Prop} {w:World} {a:Act} {σ:Env},i≤ops.size→ops.toList.drop i=os→DRq P T ops nm ov os i σ K→St cx (fun k=>nm+i≤k) m Im w a σ→wpOps P ops Q (List.range' i os.length) a w
 | [],i,m,Im,w,a,σ,hi,hd,h,hs=>by
  have:ops.size≤i:=by simpa using hd
  exact hK m Im w a σ h (hs.less fun k hk=>by omega)
 | o :: r,i,m,Im,w,a,σ,hi,hd,h,hs=>by
  have hlt:i<ops.size:=by
   rcases Nat.lt_or_ge i ops.size with h' | h'
   ·exact h'
   ·rw[List.drop_eq_nil_of_le (by simpa using h')] at hd;cases hd
  have hoi:ops[i]?=some o:=by
   have:=congrArg (·[0]?) hd
   simpa using this
  have hr:ops.toList.drop (i+1)=r:=by
   have:=congrArg List.tail hd
   simpa using this
  have hdo:=hdst o (by rw[←Array.getElem?_toList] at hoi;exact List.mem_of_getElem? hoi)
  rw[List.length_cons,List.range'_succ,wpOps_cons]
  refine wpOp_step (o:=o) hoi fun K' hK'=>?_
  have go:∀ {m' Im' w' a' σ'},DRq P T ops nm ov r (i+1) σ' K→St cx (minus (fun k=>nm+i≤k) (nm+i)) m' Im' w' a' σ'→K' a' w':=fun {m' Im' w' a' σ'} h1 h2=>
   hK' _ _ (drq_run hT hdst hK r (i+1) (by omega) hr h1 (h2.less fun k hk=>⟨by omega,by omega⟩))
  rw[DRq] at h
  cases hg:gd ops σ o.guard with
  | none=>rw[hg] at h;exact h.elim
  | some b=>
   rw[hg] at h
   cases b with
   | false=>exact opT_skip (P:=P) (Q:=Q) hdo hg _ m Im w a σ (by show nm+i≤nm+i;omega) hs vals_get K' fun m' Im' w' a' h'=>go (kdst_some h) (by simpa[RStep.ap,dropT_nil] using h')
   | true=>
    simp only at h
    rcases kval_some h with⟨V,h1,h⟩ | h
    ·obtain⟨V',hle,h⟩:=kov_some h
     exact opT_pval (Q:=Q) hT hdo hg h1 hle _ m Im w a σ (by show nm+i≤nm+i;omega) hs vals_get K' fun m' Im' w' a' h'=>go (kdst_some h) (by simpa[RStep.ap,dropT_nil] using h')
    ·rcases kmop_some (knat_some h) with⟨V,W,R,h1,h⟩ | h
     ·obtain⟨V',hle,h⟩:=kov_some h
      exact opT_mop (Q:=Q) hT hdo hg h1 hle _ m Im w a σ (by show nm+i≤nm+i;omega) hs vals_get K' fun m' Im' w' a' h'=>go (kdst_some (kputs_some h)) (by simpa[RStep.ap,dropT_nil,puts_append] using h')
     ·split at h
      ·obtain⟨f,ars,h1,h⟩:=kcall_some h
       obtain⟨R,W,V,h2,h3,h⟩:=h
       obtain⟨V',hle,h⟩:=kov_some h
       exact opT_call (Q:=Q) hdo hg h1 h2 hle (kR_all h3) _ m Im w a σ (by show nm+i≤nm+i;omega) hs vals_get K' fun m' Im' w' a' h'=>go (kdst_some (kputs_some (kdropT_some h))) (by simpa[RStep.ap,puts_append] using h')
      ·obtain⟨v,w',m',V,W,r1,r2,r3,h⟩:=kitM_run hT hs (by show nm+i≤nm+i;omega) h
       obtain⟨V',hle,h⟩:=kov_some h
       rw[gd_run hs hg,if_pos rfl]
       unfold Oper.wp
       rw[r1]
       exact go (kdst_some (kputs_some h)) (r3.putO hdo (hle _ _ _ _ r2))
theorem dw_q {cx:Cx}{σ:List (Key×D)}{N nt N1:Nat}{Q:Exit→List (Key×D)→Nat→Prop}(ov:List (Nat×D))(hT:TabOk P T)(hm:P.follows .mixedOrders=true)(hnt:cx.nt=nt){id:Nat}{ops:Array Oper}(hd:dstOk nt ops=true)(hN:N+ops.size=N1)(h:∀ K:Env→Prop,(∀ σ',Q .normal σ' N1→K σ')→DRq P T ops N ov ops.toList 0 σ K):DW P cx (.region id ops false) σ N Q:=fun m Im w a hs=>by
 refine wp_region ?_
 rw[List.range_eq_range',show ops.size=ops.toList.length by simp]
 have hd':∀ o∈ops.toList,∀ d,o.dst=some d→d<cx.nt:=fun o ho d e=>by
  rw[←hnt] at hd
  have:=(Array.all_eq_true'.1 hd) o (by simpa using ho)
  rw[e] at this;simpa using this
 exact drq_run hT (nm:=N) hd' (K:=fun σ'=>Q .normal σ' N1) (fun m Im w a σ' hq hs'=>⟨σ',N1,m,Im,hq,hN ▸ hs'⟩) ops.toList 0 (Nat.zero_le _) rfl (h _ fun _ h=>h) (hs.less fun k hk=>(show N≤k from by simpa using hk))
end
def TPM_41:TI:=⟨4,true,[Value.slice none 0 0,Value.int IntKind.i64 0,Value.int IntKind.i64 0,Value.slice none 0 0],[(0,1,false),(1,2,true),(3,1,false)],none,64,6,none,false⟩
theorem TPM_41_ok:TypOk Tryz.prog 41 TPM_41:=by constructor <;> kernel_rfl
def TPM_119:TI:=⟨8,true,[Value.slice none 0 0,Value.int IntKind.i64 0,Value.int IntKind.i64 0,Value.slice none 0 0,Value.slice none 0 0,Value.int IntKind.i64 0,Value.int IntKind.i64 0,Value.slice none 0 0],[(0,4,true),(4,4,true)],none,128,6,none,false⟩
theorem TPM_119_ok:TypOk Tryz.prog 119 TPM_119:=by constructor <;> kernel_rfl
def TPM_197:TI:=⟨1,false,[Value.slice none 0 0],[],some 119,24,5,none,false⟩
theorem TPM_197_ok:TypOk Tryz.prog 197 TPM_197:=by constructor <;> kernel_rfl
def TPM_201:TI:=⟨1,true,[Value.map none],[(0,1,false)],none,8,6,none,false⟩
theorem TPM_201_ok:TypOk Tryz.prog 201 TPM_201:=by constructor <;> kernel_rfl
def TPM_50:TI:=⟨1,false,[Value.slice none 0 0],[],some 79,24,5,none,false⟩
theorem TPM_50_ok:TypOk Tryz.prog 50 TPM_50:=by constructor <;> kernel_rfl
def TPM_3:TI:=⟨1,false,[Value.int IntKind.i64 0],[],none,8,2,none,false⟩
theorem TPM_3_ok:TypOk Tryz.prog 3 TPM_3:=by constructor <;> kernel_rfl
def TPM_199:TI:=⟨1,false,[Value.map none],[],none,8,7,some 41,false⟩
theorem TPM_199_ok:TypOk Tryz.prog 199 TPM_199:=by constructor <;> kernel_rfl
def TPM_79:TI:=⟨5,true,[Value.int IntKind.i64 0,Value.slice none 0 0,Value.int IntKind.i64 0,Value.int IntKind.i64 0,Value.slice none 0 0],[(0,1,false),(1,4,true)],none,72,6,none,false⟩
theorem TPM_79_ok:TypOk Tryz.prog 79 TPM_79:=by constructor <;> kernel_rfl
def TPM_45:TI:=⟨1,false,[Value.int IntKind.i64 0],[],none,8,2,none,false⟩
theorem TPM_45_ok:TypOk Tryz.prog 45 TPM_45:=by constructor <;> kernel_rfl
def TPM_33:TI:=⟨1,false,[Value.slice none 0 0],[],some 44,24,5,none,false⟩
theorem TPM_33_ok:TypOk Tryz.prog 33 TPM_33:=by constructor <;> kernel_rfl
def TPM_44:TI:=⟨2,true,[Value.slice none 0 0,Value.int IntKind.i64 0],[(0,1,false),(1,1,false)],none,32,6,none,false⟩
theorem TPM_44_ok:TypOk Tryz.prog 44 TPM_44:=by constructor <;> kernel_rfl
def TPM:List (Nat×TI):=[(41,TPM_41),(119,TPM_119),(197,TPM_197),(201,TPM_201),(50,TPM_50),(3,TPM_3),(199,TPM_199),(79,TPM_79),(45,TPM_45),(33,TPM_33),(44,TPM_44)]
theorem TPM_ok:TabOk Tryz.prog TPM:=((((((((((((TabOk.nil _).cons TPM_44_ok).cons TPM_33_ok).cons TPM_45_ok).cons TPM_79_ok).cons TPM_199_ok).cons TPM_3_ok).cons TPM_50_ok).cons TPM_201_ok).cons TPM_197_ok).cons TPM_119_ok).cons TPM_41_ok)
def ePP (p:Tm×Tm):List D:=eTm p.1++eTm p.2
def ePPs (l:List (Tm×Tm)):List (List D):=l.map ePP
theorem ePP_eq (p:Tm×Tm):ePP p=[.sl 2 (eTys p.1.binds) none,.v (.int .i64 p.1.kind),.v (.int .i64 p.1.index),.sl 4 (eTms p.1.args) none,.sl 2 (eTys p.2.binds) none,.v (.int .i64 p.2.kind),.v (.int .i64 p.2.index),.sl 4 (eTms p.2.args) none]:=by unfold ePP;rw[eTm_eq,eTm_eq];rfl
theorem ePPs_len (l:List (Tm×Tm)):(ePPs l).length=l.length:=List.length_map ..
theorem ePPs_getD (l:List (Tm×Tm))(i:Nat)(h:i<l.length):(ePPs l).getD i []=ePP l[i]:=by
 rw[ePPs,List.getD_eq_getElem?_getD,List.getElem?_map,List.getElem?_eq_getElem h];rfl
@[simp] theorem ePPs_ok (f g:Nat→Bool) (l:List (Tm×Tm)):D.okss f g (ePPs l)=true:=D.okss_map _ l fun p _=>by simp[ePP_eq,D.oks,D.ok,eTms_ok,eTys_ok]
theorem ePPs_one (p:Tm×Tm):ePPs [p]=[[.sl 2 (eTys p.1.binds) none,.v (.int .i64 p.1.kind),.v (.int .i64 p.1.index),.sl 4 (eTms p.1.args) none,.sl 2 (eTys p.2.binds) none,.v (.int .i64 p.2.kind),.v (.int .i64 p.2.index),.sl 4 (eTms p.2.args) none]]:=by rw[←ePP_eq];rfl
theorem ePairs_snoc' (l:List (Int×Tm))(p:Int×Tm):ePairs l++[[.v (.int .i64 p.1),.sl 2 (eTys p.2.binds) none,.v (.int .i64 p.2.kind),.v (.int .i64 p.2.index),.sl 4 (eTms p.2.args) none]]=ePairs (l++[p]):=by
 rw[←ePair_eq,ePairs,ePairs,List.map_append];rfl
theorem eBd_len (b:Pn.Bd):(eBd b).length=b.length:=List.length_map ..
theorem eBd_get (b:Pn.Bd)(i:Nat)(h:i<(eBd b).length):(eBd b)[i]=((b[i]'(by rw[eBd_len] at h;exact h)).1,.ag (eTm (b[i]'(by rw[eBd_len] at h;exact h)).2)):=by
 simp[eBd]
theorem ss_perm {l b:List (Int×Tm)}(h:l.Perm b)(hk:(b.map (·.1)).Nodup):So.ss l=So.ss b:=by
 refine So.ss_cong fun k=>?_
 have h1:(b.filter fun a=>a.1==k).length≤1:=by
  clear h
  induction b with
  | nil=>simp
  | cons p b ih=>
   rw[List.map_cons,List.nodup_cons] at hk
   rw[List.filter_cons]
   split
   ·rename_i he
    have:b.filter (fun a=>a.1==k)=[]:=by
     rw[List.filter_eq_nil_iff]
     intro a ha
     have hne:a.1≠p.1:=fun e=>hk.1 (List.mem_map.2 ⟨a,ha,e⟩)
     simp only[beq_iff_eq] at he ⊢
     rw[←he];exact hne
    rw[this];simp
   ·exact ih hk.2
 have hp:=h.filter fun a=>a.1==k
 generalize b.filter (fun a=>a.1==k)=c at hp h1
 cases c with
 | nil=>exact List.perm_nil.1 hp
 | cons x c=>
  cases c with
  | nil=>exact List.perm_singleton.1 hp
  | cons y c=>simp at h1
theorem right_ss {b:List (Int×Tm)}(hk:(b.map (·.1)).Nodup):Sb.right (So.ss b)=true:=by
 have h1:=So.ss_srt b
 have h2:((So.ss b).map (·.1)).Nodup:=by
  have hp:(So.ss b).Perm b:=by
   unfold So.ss
   have key:∀ l:List (Int×Tm),(So.ssr l).Perm l:=by
    intro l
    induction l with
    | nil=>exact List.Perm.nil
    | cons x l ih=>
     have hi:∀ m:List (Int×Tm),(So.ins x m).Perm (x :: m):=by
      intro m
      induction m with
      | nil=>exact List.Perm.refl _
      | cons y m ihm=>
       rw[So.ins]
       split
       ·exact(List.Perm.cons y ihm).trans (List.Perm.swap _ _ _)
       ·exact List.Perm.refl _
     exact(hi _).trans (List.Perm.cons x ih)
   exact(key _).trans (List.reverse_perm b)
  exact(hp.map _).nodup_iff.2 hk
 unfold Sb.right
 rw[decide_eq_true_iff]
 have h3:(So.ss b).Pairwise fun a b=>a.1≠b.1:=List.pairwise_map.1 h2
 exact(h1.and h3).imp fun h=>by omega
set_option maxHeartbeats 1000000 in
theorem msubst_d (b:Pn.Bd)(hb:Pn.BdOk b)(hl:b.length≤100000):CallC Tryz.prog 112 [.mo 0] [(.o 0,.mp (eBd b))] [] (.sl 5 (ePairs (So.ss b)) none):=by
 have hrt:=right_ss hb.keys
 refine calldw 1 27 [ResultVar.tmp 2] TPM_ok Tryz.func112 rfl Tryz.ntmps112 rfl fun cx hnt hn0=>?_
 ·skip
  refine dw_seq ?_;refine dwk [] TPM_ok hnt fun _ z9=>z9 _ _ ?_;refine dw_seq ?_;refine dwk [] TPM_ok hnt fun _ z9=>z9 _ _ ?_;refine dw_seq ?_;refine dw_seq ?_
  refine dw_q [] TPM_ok (by kernel_rfl) hnt (by kernel_rfl) (by simp;rfl) fun K hK=>?_
  intro bm es clk hes
  refine hK _ ?_;clear hK K
  have hel:=eBd_len b
  refine dw_block ?_
  refine dw_loop (ι:={ q:List Nat×Option Nat×List (Int×Tm) // (q.2.2++q.1.map fun i=>b.getD i (0,Tm.zero)).Perm b }) (fun q=>[(.t 9,.o 4),(.t 3,.sl 5 (ePairs q.1.2.2) (some 5)),(.r 5,.rw 79 5 q.1.2.2.length),(.o 4,.it 0 bm es clk q.1.1 q.1.2.1),(.o 0,.mq bm es clk (eBd b))]) 6 (fun q=>q.1.1.length) (⟨(List.range b.length,none,[]),by rw[List.nil_append];exact List.Perm.of_eq (List.ext_getElem (by simp) fun i h1 h2=>by simp[List.getD_eq_getElem?_getD,h2])⟩) ((VS.trans (VS.rowT (x:=3) (by rw[hnt];decide) 79 5 rfl) (by rw[hel];exact VS.toA))) fun q=>?_
  obtain⟨⟨rem,last,acc⟩,hq⟩:=q
  dsimp only at hq ⊢
  have hal:acc.length≤b.length:=by have:=hq.length_eq;rw[List.length_append] at this;omega
  by_cases hrem:rem=[]
  ·subst hrem
   rw[List.map_nil,List.append_nil] at hq
   have hss:=ss_perm hq hb.keys
   have hOf:=sOf_d acc (by omega) fun p hp=>⟨hb.full p (hq.mem_iff.1 hp),hb.fit p (hq.mem_iff.1 hp)⟩
   rw[hss,hrt,if_pos rfl,if_pos rfl] at hOf
   refine dw_seq ?_
   refine dw_q [] TPM_ok (by kernel_rfl) hnt (by kernel_rfl) (by simp;rfl) fun K hK=>?_
   refine And.intro ⟨rfl,rfl⟩ (Or.inl ⟨rfl,?_⟩);refine hK _ ?_;clear hK K;refine dw_seq ?_;refine dw_cond (t:=false) rfl ?_;rw[if_neg (by simp)];refine dw_exit ?_;refine dw_seq ?_;refine dwk [(22,.sl 5 (ePairs acc) none)] TPM_ok hnt fun K hK=>?_;refine And.intro (VLe.untag _ _ _) ?_;refine dcl (hOf) ?_;refine hK _ _ ?_;clear hK K;refine dw_seq ?_;refine dwk [] TPM_ok hnt fun K hK=>?_
   refine hK _ _ ?_;clear hK K;refine dw_ret ?_
   exact reta rfl
  ·skip
   refine dw_seq ?_
   refine dw_q [] TPM_ok (by kernel_rfl) hnt (by kernel_rfl) (by simp;rfl) fun K hK=>?_
   refine And.intro ⟨rfl,rfl⟩ (Or.inr ⟨hrem,fun ix hix hil=>?_⟩);refine hK _ ?_;clear hK K;refine dw_seq ?_;refine dw_cond (t:=true) rfl ?_;rw[if_pos rfl]
   have hib:ix<b.length:=by rw[←hel];exact hil
   have hgd:(b.getD ix (0,Tm.zero))=b[ix]:=by rw[List.getD_eq_getElem?_getD,List.getElem?_eq_getElem hib];rfl
   have hep:=eBd_get b ix hil
   obtain⟨p,hp⟩:∃ p,b[ix]=p:=⟨_,rfl⟩
   rw[hp] at hgd hep
   have hsn:=ePairs_snoc' acc p
   have hpm:((acc++[p])++(rem.erase ix).map fun i=>b.getD i (0,Tm.zero)).Perm b:=by
    refine List.Perm.trans ?_ hq
    rw[List.append_assoc]
    refine List.Perm.append_left _ ?_
    have:=(List.perm_cons_erase hix).map fun i=>b.getD i (0,Tm.zero)
    rw[List.map_cons,hgd] at this
    exact this.symm
   refine dw_skip ?_;refine dw_block ?_;refine dw_seq ?_
   refine dw_q [(12,.tu [.v (.int .i64 p.1),.ag [.sl 2 (eTys p.2.binds) none,.v (.int .i64 p.2.kind),.v (.int .i64 p.2.index),.sl 4 (eTms p.2.args) none]])] TPM_ok (by kernel_rfl) hnt (by kernel_rfl) (by simp;rfl) fun K hK=>?_
   refine And.intro ⟨rfl,rfl⟩ ⟨hil,?_⟩;refine And.intro (VLe.of_eq (by rw[hep,←eTm_eq])) ?_;refine hK _ ?_;clear hK K;refine dwk [(20,.sl 5 (ePairs (acc++[p])) (some 5))] TPM_ok hnt fun K hK=>?_;refine And.intro (⟨by rw[ePairs_len],by rw[ePairs_len];simp;omega⟩) ?_;refine And.intro (VLe.of_eq (by rw[←hsn])) ?_;refine hK _ _ ?_;clear hK K
   have hpl:(ePairs acc).length=acc.length:=ePairs_len acc
   refine⟨⟨(rem.erase ix,some ix,acc++[p]),hpm⟩,by dsimp only;rw[List.length_erase_of_mem hix];have:=List.length_pos_of_mem hix;omega,(by try simp only[List.length_append,List.length_take,List.length_cons,List.length_nil,Nat.zero_add,hpl];exact VS.toA)⟩
namespace Pn
theorem bput_len (b:Bd)(m:Int)(t:Tm):(bput b m t).2.length≤b.length+1:=by unfold bput;split <;> simp
theorem flex_len (b:Bd)(p t:Tm)(ar:List Ty):(flex b p t ar).2.length≤b.length+1:=by
 unfold flex
 split
 ·exact Nat.le_succ _
 ·split
  ·exact bput_len _ _ _
  ·exact Nat.le_succ _
theorem walk_len (p:Tm):∀ (t:Tm) (ar:List Ty) (b:Bd),(walk p t ar b).2.length≤b.length+p.full:=by
 induction p using Tm.ind with
 | h bs k i a ih=>
  intro t ar b
  rw[Tm.full_eq,walk]
  split
  ·exact Nat.le_add_right _ _
  ·split
   ·have:=flex_len b (.mk bs k i a) t (ar++bs);omega
   ·split
    ·exact Nat.le_add_right _ _
    ·have key:∀ (m ts:List Tm) (b:Bd),(∀ x∈m,x∈a)→(walks m ts (ar++bs) b).2.length≤b.length+Tm.fulls m:=by
      intro m
      induction m with
      | nil=>intro ts b _;rw[walks];exact Nat.le_add_right _ _
      | cons x m ihm=>
       intro ts b hm
       have h1:=ih x (hm x (by simp)) (ts.headD Tm.zero) (ar++bs) b
       rw[walks,Tm.fulls]
       split
       ·have h2:=ihm ts.tail (walk x (ts.headD Tm.zero) (ar++bs) b).2 fun y hy=>hm y (by simp[hy])
        omega
       ·omega
     have:=key a t.args b fun _ h=>h
     omega
theorem mayAll_app (l:List (Tm×Tm))(r:List (Tm×Tm))(h:mayAll l=0):mayAll (l++r)=mayAll r:=by
 induction l with
 | nil=>rfl
 | cons p l ih=>
  rw[mayAll] at h
  split at h
  ·rename_i h0
   rw[List.cons_append,mayAll,if_pos h0,ih h]
  ·rename_i h0;exact absurd h h0
theorem mayAll_at (l:List (Tm×Tm))(j:Nat)(hj:j<l.length)(h:mayAll (l.take j)=0):(may l[j].1=0→mayAll (l.take (j+1))=0)∧(may l[j].1≠0→mayAll l=may l[j].1):=by
 constructor
 ·intro h0
  rw[List.take_add_one,List.getElem?_eq_getElem hj,mayAll_app _ _ h,Option.toList_some,mayAll,if_pos h0,mayAll]
 ·intro h0
  have e:l=l.take j++l[j] :: l.drop (j+1):=by rw[←List.drop_eq_getElem_cons hj,List.take_append_drop]
  have:mayAll (l.take j++l[j] :: l.drop (j+1))=may l[j].1:=by rw[mayAll_app _ _ h,mayAll,if_neg h0]
  rw[←e] at this;exact this
theorem walkL_app (l r:List (Tm×Tm)):∀ b,walkL (l++r) b=(walkL l b).bind (walkL r):=by
 induction l with
 | nil=>intro b;rfl
 | cons p l ih=>
  intro b
  rw[List.cons_append,walkL,walkL]
  split
  ·exact ih _
  ·rfl
theorem walkL_at (l:List (Tm×Tm))(j:Nat)(hj:j<l.length){b:Bd}(h:walkL (l.take j) []=some b):((walk l[j].1 l[j].2 [] b).1=true→walkL (l.take (j+1)) []=some (walk l[j].1 l[j].2 [] b).2)∧((walk l[j].1 l[j].2 [] b).1=false→walkL l []=none):=by
 constructor
 ·intro h0
  rw[List.take_add_one,List.getElem?_eq_getElem hj,walkL_app,h,Option.toList_some]
  show walkL [l[j]] b=_
  rw[walkL,if_pos h0,walkL]
 ·intro h0
  have e:l=l.take j++l[j] :: l.drop (j+1):=by rw[←List.drop_eq_getElem_cons hj,List.take_append_drop]
  have:walkL (l.take j++l[j] :: l.drop (j+1)) []=none:=by
   rw[walkL_app,h]
   show walkL (l[j] :: _) b=none
   rw[walkL,if_neg (by simp[h0])]
  rw[←e] at this;exact this
end Pn
theorem eBd_renm (ρ:Nat→Nat)(b:Pn.Bd):D.renm ρ (eBd b)=eBd b:=D.renm_id (f:=fun _=>false) (g:=fun _=>false) (fun _ h=>by cases h) _ (eBd_ok _ _ b)
theorem mwalk_at (k:Nat)(p t:Tm)(b:Pn.Bd)(hz:p.full≤250)(hp:p.Fit)(ht:t.full≤10000)(hlow:lowB t=true)(hft:t.Fit):
  CallC Tryz.prog 111 [.ag [.mo k],.ag (eTm p),.ag (eTm t),.v (.slice none 0 0)] [(.o k,.mp (eBd b))] [(.o k,.mp (eBd (Pn.walk p t [] b).2))] (.v (.bool (Pn.walk p t [] b).1)):=by
 have h:=(mwalk_d p t [] b (by simp[Ty.sizes];omega) hp ht hlow hft).ren (fun _=>k) (by simp[renOk,D.ok,D.oks,rnames,inN,ckey,eTm_ok,eTms_ok,eTys_ok,eBd_ok]) (by intro a h1 b h2;simp[rnames] at h1 h2;omega)
 simp only[List.map_cons,List.map_nil,D.ren,D.rens,renE,Key.ren,eTm_ren,eTys_ren,eBd_renm] at h
 exact CallC.vle h (.cons (VLe.refl _) (.cons (VLe.refl _) (.cons (VLe.refl _) (.cons (VLe.nil _) .nil)))) (VLe.refl _)
theorem msubst_at (k:Nat)(b:Pn.Bd)(hb:Pn.BdOk b)(hl:b.length≤100000):CallC Tryz.prog 112 [.mo k] [(.o k,.mp (eBd b))] [] (.sl 5 (ePairs (So.ss b)) none):=by
 have h:=(msubst_d b hb hl).ren (fun _=>k) (by simp[renOk,D.ok,D.oks,rnames,inN,ckey,ePairs_ok,eBd_ok]) (by intro a h1 b h2;simp[rnames] at h1 h2;omega)
 simpa only[List.map_cons,List.map_nil,D.ren,D.rens,renE,Key.ren,ePairs_ren,eBd_renm] using h
def PPok (p:Tm×Tm):Prop:=p.1.full≤250∧p.1.Fit∧p.2.full≤10000∧lowB p.2=true∧p.2.Fit
set_option maxHeartbeats 2000000 in
theorem mAll_d (l:List (Tm×Tm))(hl:l.length≤100)(hp:∀ p∈l,PPok p):PureC Tryz.prog 63 [.sl 8 (ePPs l) none] (.tu [.sl 5 (ePairs (Pn.mAll l).1) none,.v (.int .i64 (Pn.mAll l).2)]):=by
 refine calldw 0 42 [ResultVar.tmp 2,ResultVar.tmp 3] TPM_ok Tryz.func63 rfl Tryz.ntmps63 rfl fun cx hnt hn0=>?_
 ·skip
  refine dw_seq ?_;refine dwk [] TPM_ok hnt fun _ z9=>z9 _ _ ?_;refine dw_seq ?_;refine dw_seq ?_;refine dwk [(11,.v (.int .i64 (↑l.length)))] TPM_ok hnt fun K hK=>?_;refine And.intro (dintE (by rw[ePPs_len])) ?_;refine hK _ _ ?_;clear hK K;refine dw_block ?_
  refine dw_loop (ι:={ j:Nat // Pn.mayAll (l.take j)=0 }) (fun j=>[(.t 0,.sl 8 (ePPs l) none),(.t 10,.sl 8 (ePPs l) none),(.t 11,.v (.int .i64 ↑l.length)),(.t 12,.v (.int .i64 ↑j.1))]) 0 (fun j=>l.length-j.1) (⟨0,rfl⟩) (VS.toA) fun j=>?_
  obtain⟨j,hj⟩:=j
  dsimp only
  by_cases hlt:j<l.length
  ·have hst:=Pn.mayAll_at l j hlt hj
   have hok:=hp _ (List.getElem_mem hlt)
   have hm:=mmay_d l[j].1 (by have:=hok.1;omega) hok.2.1
   rw[eTm_eq] at hm
   by_cases h0:Pn.may l[j].1=0
   ·rw[h0] at hm
    refine dw_seq ?_;refine dwk [(13,.v (.bool true))] TPM_ok hnt fun K hK=>?_;refine And.intro auT ?_;refine hK _ _ ?_;clear hK K;refine dw_seq ?_;refine dw_cond (t:=true) rfl ?_;rw[if_pos rfl];refine dw_skip ?_;refine dw_seq ?_;refine dw_block ?_;refine dw_seq ?_;refine dwk [(14,.q [.sl 2 (eTys l[j].1.binds) none,.v (.int .i64 l[j].1.kind),.v (.int .i64 l[j].1.index),.sl 4 (eTms l[j].1.args) none,.sl 2 (eTys l[j].2.binds) none,.v (.int .i64 l[j].2.kind),.v (.int .i64 l[j].2.index),.sl 4 (eTms l[j].2.args) none])] TPM_ok hnt fun K hK=>?_
    refine And.intro (elo (ePPs_len l)) ?_;refine And.intro (elv (ePPs_getD l j) (ePP_eq _)) ?_;refine hK _ _ ?_;clear hK K;refine dw_seq ?_;refine dwk [] TPM_ok hnt fun K hK=>?_;refine dcl (hm) ?_;refine hK _ _ ?_;clear hK K;refine dw_seq ?_;refine dwk [(20,.v (.bool false))] TPM_ok hnt fun K hK=>?_;refine And.intro auF ?_;refine hK _ _ ?_;clear hK K;refine dw_cond (t:=false) rfl ?_
    rw[if_neg (by simp)];refine dw_skip ?_;refine dwk [(22,.v (.int .i64 (↑(j+1))))] TPM_ok hnt fun K hK=>?_;refine And.intro auI ?_;refine hK _ _ ?_;clear hK K
    refine⟨⟨j+1,hst.1 h0⟩,by first | omega | (dsimp only;omega),VS.toA⟩
   ·have hv:Pn.mAll l=([],Pn.may l[j].1):=by unfold Pn.mAll;rw[hst.2 h0,if_neg h0]
    rw[hv]
    refine dw_seq ?_;refine dwk [(13,.v (.bool true))] TPM_ok hnt fun K hK=>?_;refine And.intro auT ?_;refine hK _ _ ?_;clear hK K;refine dw_seq ?_;refine dw_cond (t:=true) rfl ?_;rw[if_pos rfl];refine dw_skip ?_;refine dw_seq ?_;refine dw_block ?_;refine dw_seq ?_;refine dwk [(14,.q [.sl 2 (eTys l[j].1.binds) none,.v (.int .i64 l[j].1.kind),.v (.int .i64 l[j].1.index),.sl 4 (eTms l[j].1.args) none,.sl 2 (eTys l[j].2.binds) none,.v (.int .i64 l[j].2.kind),.v (.int .i64 l[j].2.index),.sl 4 (eTms l[j].2.args) none])] TPM_ok hnt fun K hK=>?_
    refine And.intro (elo (ePPs_len l)) ?_;refine And.intro (elv (ePPs_getD l j) (ePP_eq _)) ?_;refine hK _ _ ?_;clear hK K;refine dw_seq ?_;refine dwk [] TPM_ok hnt fun K hK=>?_;refine dcl (hm) ?_;refine hK _ _ ?_;clear hK K;refine dw_seq ?_;refine dwk [(20,.v (.bool true))] TPM_ok hnt fun K hK=>?_;refine And.intro (bneT h0) ?_;refine hK _ _ ?_;clear hK K;refine dw_cond (t:=true) rfl ?_
    rw[if_pos rfl];refine dw_seq ?_;refine dwk [] TPM_ok hnt fun _ z9=>z9 _ _ ?_;refine dw_ret ?_
    exact reta rfl
  ·rw[List.take_of_length_le (by omega)] at hj
   refine dw_seq ?_;refine dwk [(13,.v (.bool false))] TPM_ok hnt fun K hK=>?_;refine And.intro auF ?_;refine hK _ _ ?_;clear hK K;refine dw_seq ?_;refine dw_cond (t:=false) rfl ?_;rw[if_neg (by simp)];refine dw_exit ?_;refine dw_seq ?_;refine dwk [] TPM_ok hnt fun _ z9=>z9 _ _ ?_;refine dw_seq ?_;refine dw_seq ?_;refine dwk [(26,.v (.int .i64 (↑l.length)))] TPM_ok hnt fun K hK=>?_
   refine And.intro (dintE (by rw[ePPs_len])) ?_;refine hK _ _ ?_;clear hK K;refine dw_block ?_
   refine dw_loop (ι:={ q:Nat×Pn.Bd // Pn.walkL (l.take q.1) []=some q.2∧Pn.BdOk q.2∧q.2.length≤250 * q.1∧q.1≤l.length }) (fun q=>[(.t 7,.p 3 0),(.c 3 0,.mo 1),(.o 1,.mp (eBd q.1.2)),(.t 25,.sl 8 (ePPs l) none),(.t 26,.v (.int .i64 ↑l.length)),(.t 27,.v (.int .i64 ↑q.1.1))]) 4 (fun q=>l.length-q.1.1) (⟨(0,[]),by rw[List.take_zero];exact⟨rfl,Pn.bdOk_nil,Nat.zero_le _,Nat.zero_le _⟩⟩) ((VS.toK (by omega) (by repeat first | exact trivial | refine And.intro (And.intro (by first | rfl | simp[D.ok,D.oks,D.okss,D.okm,upto,keyOk,eBd]) (by first | exact Or.inl rfl | exact Or.inr ⟨_,rfl,(by repeat first | exact VLe.refl _ | exact VLe.nil _ | exact VLe.untag _ _ _ | refine VLe.ag ?_ | refine VLe.tu ?_ | refine VLeL.cons ?_ ?_ | exact VLeL.nil),trivial⟩ | simp[get,Key.eq,eBd])) ?_))) fun q=>?_
   obtain⟨⟨k,b⟩,hw,hb,hbl,hkl⟩:=q
   dsimp only at hw hb hbl hkl ⊢
   by_cases hlt:k<l.length
   ·obtain⟨ok1,ok2,ok3,ok4,ok5⟩:=hp _ (List.getElem_mem hlt)
    have hst:=Pn.walkL_at l k hlt hw
    have hbd:=Pn.walk_bd l[k].1 l[k].2 [] b hb (by simp[Ty.sizes];omega) ok3 ok4 ok5
    have hbl2:=Pn.walk_len l[k].1 l[k].2 [] b
    have hcw:=mwalk_at 1 l[k].1 l[k].2 b ok1 ok2 ok3 ok4 ok5
    obtain⟨⟨wb,wl⟩,hwk⟩:∃ r,Pn.walk l[k].1 l[k].2 [] b=r:=⟨_,rfl⟩
    rw[hwk] at hst hbd hbl2 hcw
    rw[eTm_eq,eTm_eq] at hcw
    dsimp only at hst hbd hbl2 hcw
    cases wb with
    | true=>
     refine dw_seq ?_;refine dwk [(28,.v (.bool true))] TPM_ok hnt fun K hK=>?_;refine And.intro auT ?_;refine hK _ _ ?_;clear hK K;refine dw_seq ?_;refine dw_cond (t:=true) rfl ?_;rw[if_pos rfl];refine dw_skip ?_;refine dw_seq ?_;refine dw_block ?_;refine dw_seq ?_;refine dwk [(29,.q [.sl 2 (eTys l[k].1.binds) none,.v (.int .i64 l[k].1.kind),.v (.int .i64 l[k].1.index),.sl 4 (eTms l[k].1.args) none,.sl 2 (eTys l[k].2.binds) none,.v (.int .i64 l[k].2.kind),.v (.int .i64 l[k].2.index),.sl 4 (eTms l[k].2.args) none])] TPM_ok hnt fun K hK=>?_
     refine And.intro (elo (ePPs_len l)) ?_;refine And.intro (elv (ePPs_getD l k) (ePP_eq _)) ?_;refine hK _ _ ?_;clear hK K;refine dw_seq ?_;refine dwk [] TPM_ok hnt fun K hK=>?_;refine dcl (hcw) ?_;refine hK _ _ ?_;clear hK K;refine dw_cond (t:=false) rfl ?_;rw[if_neg (by simp)];refine dw_skip ?_;refine dwk [(38,.v (.int .i64 (↑(k+1))))] TPM_ok hnt fun K hK=>?_;refine And.intro auI ?_
     refine hK _ _ ?_;clear hK K
     refine⟨⟨(k+1,wl),hst.1 rfl,hbd,by dsimp only;omega,hlt⟩,by first | omega | (dsimp only;omega),VS.toA⟩
    | false=>
     have hv:Pn.mAll l=([],9):=by unfold Pn.mAll;rw[if_pos hj,hst.2 rfl]
     rw[hv]
     refine dw_seq ?_;refine dwk [(28,.v (.bool true))] TPM_ok hnt fun K hK=>?_;refine And.intro auT ?_;refine hK _ _ ?_;clear hK K;refine dw_seq ?_;refine dw_cond (t:=true) rfl ?_;rw[if_pos rfl];refine dw_skip ?_;refine dw_seq ?_;refine dw_block ?_;refine dw_seq ?_;refine dwk [(29,.q [.sl 2 (eTys l[k].1.binds) none,.v (.int .i64 l[k].1.kind),.v (.int .i64 l[k].1.index),.sl 4 (eTms l[k].1.args) none,.sl 2 (eTys l[k].2.binds) none,.v (.int .i64 l[k].2.kind),.v (.int .i64 l[k].2.index),.sl 4 (eTms l[k].2.args) none])] TPM_ok hnt fun K hK=>?_
     refine And.intro (elo (ePPs_len l)) ?_;refine And.intro (elv (ePPs_getD l k) (ePP_eq _)) ?_;refine hK _ _ ?_;clear hK K;refine dw_seq ?_;refine dwk [] TPM_ok hnt fun K hK=>?_;refine dcl (hcw) ?_;refine hK _ _ ?_;clear hK K;refine dw_cond (t:=true) rfl ?_;rw[if_pos rfl];refine dw_seq ?_;refine dwk [] TPM_ok hnt fun _ z9=>z9 _ _ ?_;refine dw_ret ?_
     exact reta rfl
   ·rw[List.take_of_length_le (by omega)] at hw
    have hv:Pn.mAll l=(So.ss b,0):=by unfold Pn.mAll;rw[if_pos hj,hw]
    have hsb:=msubst_at 1 b hb (by omega)
    rw[hv]
    refine dw_seq ?_;refine dwk [(28,.v (.bool false))] TPM_ok hnt fun K hK=>?_;refine And.intro auF ?_;refine hK _ _ ?_;clear hK K;refine dw_seq ?_;refine dw_cond (t:=false) rfl ?_;rw[if_neg (by simp)];refine dw_exit ?_;refine dw_seq ?_;refine dwk [] TPM_ok hnt fun K hK=>?_;refine dcl (hsb) ?_;refine hK _ _ ?_;clear hK K;refine dw_ret ?_
    exact reta rfl
namespace Pn
variable {C M:List Ty}
end Pn
def TKM_41:TI:=⟨4,true,[Value.slice none 0 0,Value.int IntKind.i64 0,Value.int IntKind.i64 0,Value.slice none 0 0],[(0,1,false),(1,2,true),(3,1,false)],none,64,6,none,false⟩
theorem TKM_41_ok:TypOk Tryz.prog 41 TKM_41:=by constructor <;> kernel_rfl
def TKM_39:TI:=⟨1,false,[Value.slice none 0 0],[],some 41,24,5,none,false⟩
theorem TKM_39_ok:TypOk Tryz.prog 39 TKM_39:=by constructor <;> kernel_rfl
def TKM_3:TI:=⟨1,false,[Value.int IntKind.i64 0],[],none,8,2,none,false⟩
theorem TKM_3_ok:TypOk Tryz.prog 3 TKM_3:=by constructor <;> kernel_rfl
def TKM_33:TI:=⟨1,false,[Value.slice none 0 0],[],some 44,24,5,none,false⟩
theorem TKM_33_ok:TypOk Tryz.prog 33 TKM_33:=by constructor <;> kernel_rfl
def TKM_44:TI:=⟨2,true,[Value.slice none 0 0,Value.int IntKind.i64 0],[(0,1,false),(1,1,false)],none,32,6,none,false⟩
theorem TKM_44_ok:TypOk Tryz.prog 44 TKM_44:=by constructor <;> kernel_rfl
def TKM_38:TI:=⟨2,true,[Value.int IntKind.i64 0,Value.int IntKind.i64 0],[(0,1,false),(1,1,false)],none,16,6,none,true⟩
theorem TKM_38_ok:TypOk Tryz.prog 38 TKM_38:=by constructor <;> kernel_rfl
def TKM_51:TI:=⟨1,false,[Value.slice none 0 0],[],some 79,24,5,none,false⟩
theorem TKM_51_ok:TypOk Tryz.prog 51 TKM_51:=by constructor <;> kernel_rfl
def TKM_45:TI:=⟨1,false,[Value.int IntKind.i64 0],[],none,8,2,none,false⟩
theorem TKM_45_ok:TypOk Tryz.prog 45 TKM_45:=by constructor <;> kernel_rfl
def TKM_197:TI:=⟨1,false,[Value.slice none 0 0],[],some 119,24,5,none,false⟩
theorem TKM_197_ok:TypOk Tryz.prog 197 TKM_197:=by constructor <;> kernel_rfl
def TKM_79:TI:=⟨5,true,[Value.int IntKind.i64 0,Value.slice none 0 0,Value.int IntKind.i64 0,Value.int IntKind.i64 0,Value.slice none 0 0],[(0,1,false),(1,4,true)],none,72,6,none,false⟩
theorem TKM_79_ok:TypOk Tryz.prog 79 TKM_79:=by constructor <;> kernel_rfl
def TKM_119:TI:=⟨8,true,[Value.slice none 0 0,Value.int IntKind.i64 0,Value.int IntKind.i64 0,Value.slice none 0 0,Value.slice none 0 0,Value.int IntKind.i64 0,Value.int IntKind.i64 0,Value.slice none 0 0],[(0,4,true),(4,4,true)],none,128,6,none,false⟩
theorem TKM_119_ok:TypOk Tryz.prog 119 TKM_119:=by constructor <;> kernel_rfl
def TKM:List (Nat×TI):=[(41,TKM_41),(39,TKM_39),(3,TKM_3),(33,TKM_33),(44,TKM_44),(38,TKM_38),(51,TKM_51),(45,TKM_45),(197,TKM_197),(79,TKM_79),(119,TKM_119)]
theorem TKM_ok:TabOk Tryz.prog TKM:=((((((((((((TabOk.nil _).cons TKM_119_ok).cons TKM_79_ok).cons TKM_197_ok).cons TKM_45_ok).cons TKM_51_ok).cons TKM_38_ok).cons TKM_44_ok).cons TKM_33_ok).cons TKM_3_ok).cons TKM_39_ok).cons TKM_41_ok)
theorem mMatch_d (p t:Tm)(h:PPok (p,t)):PureC Tryz.prog 17 [.ag (eTm p),.ag (eTm t)] (.tu [.sl 5 (ePairs (Pn.mAll [(p,t)]).1) none,.v (.int .i64 (Pn.mAll [(p,t)]).2)]):=by
 have hA:=mAll_d [(p,t)] (by simp) (fun q hq=>by rw[List.mem_singleton] at hq;subst hq;exact h)
 have h1:=ePPs_one (p,t)
 dsimp only at h1
 rw[eTm_eq,eTm_eq]
 refine calldw 0 13 [ResultVar.tmp 4,ResultVar.tmp 5] TKM_ok Tryz.func17 rfl Tryz.ntmps17 rfl fun cx hnt hn0=>?_
 ·skip
  refine dw_seq ?_;refine dwk [] TKM_ok hnt fun _ z9=>z9 _ _ ?_;refine dw_seq ?_;refine dwk [(9,.sl 8 (ePPs [(p,t)]) none)] TKM_ok hnt fun K hK=>?_;refine And.intro ((by rw[h1];exact VLe.untag _ _ _)) ?_;refine dcl (hA) ?_;refine hK _ _ ?_;clear hK K;refine dw_ret ?_
  exact reta rfl
/-! the examples -/
def mb (i:Int):Tm:=.mk [] 0 i []
def mc (i:Int)(l:List Tm):Tm:=.mk [] 1 i l
def mm (l:List Tm):Tm:=.mk [] 2 0 l
theorem mk1_d (i:Int):PureC Tryz.prog 50 [.v (.int .i64 i)] (.ag (eTm (mb i))):=by
 unfold mb
 rw[eTm_eq]
 refine calldw 0 6 [ResultVar.cell 2 41] TKM_ok Tryz.func50 rfl Tryz.ntmps50 rfl fun cx hnt hn0=>?_
 ·skip
  refine dw_seq ?_;refine dwk [] TKM_ok hnt fun _ z9=>z9 _ _ ?_;refine dw_seq ?_;refine dwk [] TKM_ok hnt fun _ z9=>z9 _ _ ?_;refine dw_ret ?_
  exact reta rfl
theorem mk2_d (i:Int)(l:List Tm):PureC Tryz.prog 51 [.v (.int .i64 i),.sl 4 (eTms l) none] (.ag (eTm (mc i l))):=by
 unfold mc
 rw[eTm_eq]
 refine calldw 0 9 [ResultVar.cell 4 41] TKM_ok Tryz.func51 rfl Tryz.ntmps51 rfl fun cx hnt hn0=>?_
 ·skip
  refine dw_seq ?_;refine dwk [] TKM_ok hnt fun _ z9=>z9 _ _ ?_;refine dw_seq ?_;refine dwk [] TKM_ok hnt fun _ z9=>z9 _ _ ?_;refine dw_ret ?_
  exact reta rfl
theorem mk3_d (l:List Tm):PureC Tryz.prog 52 [.sl 4 (eTms l) none] (.ag (eTm (mm l))):=by
 unfold mm
 rw[eTm_eq]
 refine calldw 0 6 [ResultVar.cell 2 41] TKM_ok Tryz.func52 rfl Tryz.ntmps52 rfl fun cx hnt hn0=>?_
 ·skip
  refine dw_seq ?_;refine dwk [] TKM_ok hnt fun _ z9=>z9 _ _ ?_;refine dw_seq ?_;refine dwk [] TKM_ok hnt fun _ z9=>z9 _ _ ?_;refine dw_ret ?_
  exact reta rfl
theorem mk2_nil (i:Int):PureC Tryz.prog 51 [.v (.int .i64 i),.v (.slice none 0 0)] (.ag (eTm (mc i []))):=CallC.vle (mk2_d i []) (.cons (VLe.refl _) (.cons (VLe.nil _) .nil)) (VLe.refl _)
theorem mk3_nil:PureC Tryz.prog 52 [.v (.slice none 0 0)] (.ag (eTm (mm []))):=CallC.vle (mk3_d []) (.cons (VLe.nil _) .nil) (VLe.refl _)
def mA:Ty:=.mk [] 0
def mP:Tm:=.mk [mA] 1 0 [mm [mb 0],mb 0]
def mT:Tm:=.mk [mA] 1 0 [mc 1 [mb 0,mb 0],mb 0]
theorem mK1:Pn.mAll [(mP,mT)]=([(0,.mk [mA] 1 1 [mb 0,mb 0])],0):=by kernel_rfl
theorem mK2:Pn.mAll [(mm [mc 2 []],mc 1 [mc 2 []])]=([],6):=by kernel_rfl
theorem mK3:Pn.mAll [(mc 0 [mm [],mm []],mc 0 [mc 1 [],mc 2 []])]=([],9):=by kernel_rfl
theorem fit_mk {b:List Ty}{k i:Int}{a:List Tm}(h1:-1000≤i)(h2:i≤1000)(h:∀ t∈a,t.Fit):(Tm.mk b k i a).Fit:=Tm.fit_iff.2 ⟨by omega,by omega,h⟩
theorem fit0 (k i:Int)(h1:-1000≤i)(h2:i≤1000)(b:List Ty):(Tm.mk b k i []).Fit:=fit_mk h1 h2 nofun
theorem fit1 {k i:Int}{b:List Ty}{t:Tm}(h1:-1000≤i)(h2:i≤1000)(h:t.Fit):(Tm.mk b k i [t]).Fit:=fit_mk h1 h2 fun u hu=>by rw[List.mem_singleton] at hu;subst hu;exact h
theorem fit2 {k i:Int}{b:List Ty}{t u:Tm}(h1:-1000≤i)(h2:i≤1000)(h:t.Fit)(h':u.Fit):(Tm.mk b k i [t,u]).Fit:=fit_mk h1 h2 fun x hx=>by
 rcases List.mem_cons.1 hx with rfl | hx
 ·exact h
 ·rw[List.mem_singleton] at hx;subst hx;exact h'
theorem mF1:PPok (mP,mT):=⟨by decide,fit2 (by decide) (by decide) (fit1 (by decide) (by decide) (fit0 _ _ (by decide) (by decide) _)) (fit0 _ _ (by decide) (by decide) _),by decide,by kernel_rfl,fit2 (by decide) (by decide) (fit2 (by decide) (by decide) (fit0 _ _ (by decide) (by decide) _) (fit0 _ _ (by decide) (by decide) _)) (fit0 _ _ (by decide) (by decide) _)⟩
theorem mF2:PPok (mm [mc 2 []],mc 1 [mc 2 []]):=⟨by decide,fit1 (by decide) (by decide) (fit0 _ _ (by decide) (by decide) _),by decide,by kernel_rfl,fit1 (by decide) (by decide) (fit0 _ _ (by decide) (by decide) _)⟩
theorem mF3:PPok (mc 0 [mm [],mm []],mc 0 [mc 1 [],mc 2 []]):=⟨by decide,fit2 (by decide) (by decide) (fit0 _ _ (by decide) (by decide) _) (fit0 _ _ (by decide) (by decide) _),by decide,by kernel_rfl,fit2 (by decide) (by decide) (fit0 _ _ (by decide) (by decide) _) (fit0 _ _ (by decide) (by decide) _)⟩
set_option maxHeartbeats 2000000 in
theorem known12_d:PureC Tryz.prog 10 [] (.v (.bool true)):=by
 have h1:=mMatch_d mP mT mF1
 have h2:=mMatch_d _ _ mF2
 have h3:=mMatch_d _ _ mF3
 rw[mK1] at h1
 rw[mK2] at h2
 rw[mK3] at h3
 have b0:=mk1_d 0
 refine calldw 0 113 [ResultVar.tmp 0] TKM_ok Tryz.func10 rfl Tryz.ntmps10 rfl fun cx hnt hn0=>?_
 ·skip
  refine dw_seq ?_;refine dwk [] TKM_ok hnt fun _ z9=>z9 _ _ ?_;refine dw_seq ?_;refine dwk [(13,.ag [.sl 2 [] none,.v (.int .i64 0)])] TKM_ok hnt fun K hK=>?_;refine And.intro (auV) ?_;refine hK _ _ ?_;clear hK K;refine dw_seq ?_;refine dwk [] TKM_ok hnt fun _ z9=>z9 _ _ ?_;refine dw_seq ?_;refine dwk [] TKM_ok hnt fun _ z9=>z9 _ _ ?_
  refine dw_seq ?_;refine dwk [] TKM_ok hnt fun _ z9=>z9 _ _ ?_;refine dw_seq ?_;refine dwk [(18,.sl 4 (eTms [mb 0]) none),(22,.sl 4 (eTms [mm [mb 0],mb 0]) none),(30,.sl 4 (eTms [mb 0,mb 0]) none),(34,.sl 4 (eTms [mc 1 [mb 0,mb 0],mb 0]) none)] TKM_ok hnt fun K hK=>?_;refine dcl (b0) ?_;refine And.intro (VLe.untag _ _ _) ?_;refine dcl (mk3_d [mb 0]) ?_;refine dcl (b0) ?_
  refine And.intro (VLe.untag _ _ _) ?_;refine dcl (mk2_d 0 [mm [mb 0],mb 0]) ?_;refine dcl (b0) ?_;refine dcl (b0) ?_;refine And.intro (VLe.untag _ _ _) ?_;refine dcl (mk2_d 1 [mb 0,mb 0]) ?_;refine dcl (b0) ?_;refine And.intro (VLe.untag _ _ _) ?_;refine dcl (mk2_d 0 [mc 1 [mb 0,mb 0],mb 0]) ?_;refine hK _ _ ?_;clear hK K;refine dw_seq ?_;refine dwkD [] TKM_ok hnt fun K hK=>?_;refine hK _ _ (by kernel_rfl) ?_;clear hK K
  refine dw_seq ?_;refine dwk [(43,.ag (eTm mP)),(44,.ag (eTm mT))] TKM_ok hnt fun K hK=>?_;refine And.intro (auV) ?_;refine And.intro (auV) ?_;refine dcl (h1) ?_;refine hK _ _ ?_;clear hK K;refine dw_seq ?_;refine dwk [(52,.sl 4 (eTms [mc 2 []]) none),(57,.sl 4 (eTms [mc 2 []]) none)] TKM_ok hnt fun K hK=>?_;refine dcl (mk2_nil 2) ?_;refine And.intro (VLe.untag _ _ _) ?_;refine dcl (mk3_d [mc 2 []]) ?_
  refine dcl (mk2_nil 2) ?_;refine And.intro (VLe.untag _ _ _) ?_;refine dcl (mk2_d 1 [mc 2 []]) ?_;refine dcl (h2) ?_;refine hK _ _ ?_;clear hK K;refine dw_seq ?_;refine dwk [(68,.sl 4 (eTms [mm [],mm []]) none),(75,.sl 4 (eTms [mc 1 [],mc 2 []]) none)] TKM_ok hnt fun K hK=>?_;refine dcl (mk3_nil) ?_;refine dcl (mk3_nil) ?_;refine And.intro (VLe.untag _ _ _) ?_;refine dcl (mk2_d 0 [mm [],mm []]) ?_
  refine dcl (mk2_nil 1) ?_;refine dcl (mk2_nil 2) ?_;refine And.intro (VLe.untag _ _ _) ?_;refine dcl (mk2_d 0 [mc 1 [],mc 2 []]) ?_;refine dcl (h3) ?_;refine hK _ _ ?_;clear hK K;refine dw_seq ?_;refine dwk [(81,.v (.bool true)),(84,.v (.int .i64 (1))),(85,.v (.bool true)),(93,.v (.int .i64 (1))),(94,.v (.bool true)),(103,.v (.bool true)),(107,.v (.bool true)),(111,.v (.bool true))] TKM_ok hnt fun K hK=>?_
  refine And.intro (VLe.refl _) ?_;refine And.intro (dintE (by rfl)) ?_;refine And.intro (VLe.refl _) ?_;refine And.intro (by decide) ?_;refine And.intro (dintE (by rfl)) ?_;refine And.intro (VLe.refl _) ?_;refine And.intro (by decide) ?_;refine And.intro (VLe.refl _) ?_;refine And.intro (VLe.refl _) ?_;refine And.intro (VLe.refl _) ?_;refine hK _ _ ?_;clear hK K;refine dw_ret ?_
  exact reta rfl
def TSQ_79:TI:=⟨5,true,[Value.int IntKind.i64 0,Value.slice none 0 0,Value.int IntKind.i64 0,Value.int IntKind.i64 0,Value.slice none 0 0],[(0,1,false),(1,4,true)],none,72,6,none,false⟩
theorem TSQ_79_ok:TypOk Tryz.prog 79 TSQ_79:=by constructor <;> kernel_rfl
def TSQ_41:TI:=⟨4,true,[Value.slice none 0 0,Value.int IntKind.i64 0,Value.int IntKind.i64 0,Value.slice none 0 0],[(0,1,false),(1,2,true),(3,1,false)],none,64,6,none,false⟩
theorem TSQ_41_ok:TypOk Tryz.prog 41 TSQ_41:=by constructor <;> kernel_rfl
def TSQ_51:TI:=⟨1,false,[Value.slice none 0 0],[],some 79,24,5,none,false⟩
theorem TSQ_51_ok:TypOk Tryz.prog 51 TSQ_51:=by constructor <;> kernel_rfl
def TSQ_3:TI:=⟨1,false,[Value.int IntKind.i64 0],[],none,8,2,none,false⟩
theorem TSQ_3_ok:TypOk Tryz.prog 3 TSQ_3:=by constructor <;> kernel_rfl
def TSQ_59:TI:=⟨1,false,[Value.slice none 0 0],[],some 3,24,5,none,false⟩
theorem TSQ_59_ok:TypOk Tryz.prog 59 TSQ_59:=by constructor <;> kernel_rfl
def TSQ_174:TI:=⟨1,false,[Value.pointer none],[],none,8,4,none,false⟩
theorem TSQ_174_ok:TypOk Tryz.prog 174 TSQ_174:=by constructor <;> kernel_rfl
def TSQ_153:TI:=⟨1,false,[Value.nilFunc],[],none,8,8,none,false⟩
theorem TSQ_153_ok:TypOk Tryz.prog 153 TSQ_153:=by constructor <;> kernel_rfl
def TSQ:List (Nat×TI):=[(79,TSQ_79),(41,TSQ_41),(51,TSQ_51),(3,TSQ_3),(59,TSQ_59),(174,TSQ_174),(153,TSQ_153)]
theorem TSQ_ok:TabOk Tryz.prog TSQ:=((((((((TabOk.nil _).cons TSQ_153_ok).cons TSQ_174_ok).cons TSQ_59_ok).cons TSQ_3_ok).cons TSQ_51_ok).cons TSQ_41_ok).cons TSQ_79_ok)
def getP (l:List (Int×Tm))(m:Int):Option (Int×Tm):=(idxOf m l).bind fun i=>l[i]?
def getT (l:List (Int×Tm))(m:Int):Tm×Bool:=match getP l m with
 | some p=>(p.2,true)
 | none=>(.mk [] 0 0 [],false)
theorem getP_mem {l:List (Int×Tm)}{m:Int}{p:Int×Tm}(h:getP l m=some p):p∈l:=by
 unfold getP at h
 cases hi:idxOf m l with
 | none=>rw[hi] at h;cases h
 | some i=>rw[hi] at h;exact List.mem_of_getElem? h
theorem sget_d (l:List (Int×Tm))(hl:l.length≤1000000)(ht:∀ p∈l,p.2.full≤80000∧p.2.Fit)(m:Int):PureC Tryz.prog 33 [.sl 5 (ePairs l) none,.v (.int .i64 m)] (.tu [.ag (eTm (getT l m).1),.v (.bool (getT l m).2)]):=by
 have hf:=sfind_d l hl m
 have hg:getP l m=(idxOf m l).bind fun i=>l[i]?:=rfl
 rw[←hg] at hf
 cases h:getP l m with
 | none=>
  rw[h] at hf
  have e:getT l m=(.mk [] 0 0 [],false):=by unfold getT;rw[h]
  rw[e,eTm_eq]
  dsimp only[Tm.binds,Tm.kind,Tm.index,Tm.args,eTys,eTms] at hf ⊢
  refine calldw 0 18 [ResultVar.cell 4 41,ResultVar.tmp 5] TSQ_ok Tryz.func33 rfl Tryz.ntmps33 rfl fun cx hnt hn0=>?_
  ·skip
   refine dw_seq ?_;refine dwk [] TSQ_ok hnt fun _ z9=>z9 _ _ ?_;refine dw_seq ?_;refine dwk [] TSQ_ok hnt fun K hK=>?_;refine dcl (hf) ?_;refine hK _ _ ?_;clear hK K;refine dw_seq ?_;refine dw_seq ?_;refine dwk [] TSQ_ok hnt fun _ z9=>z9 _ _ ?_;refine dw_cond (t:=true) rfl ?_;rw[if_pos rfl];refine dw_seq ?_;refine dwk [] TSQ_ok hnt fun K hK=>?_
   refine hK _ _ ?_;clear hK K;refine dw_ret ?_
   exact reta rfl
 | some p=>
  rw[h] at hf
  have e:getT l m=(p.2,true):=by unfold getT;rw[h]
  have hp:=ht p (getP_mem h)
  have hc:=copy_d p.2 hp.1 hp.2
  rw[e,eTm_eq]
  rw[eTm_eq] at hc
  dsimp only at hf ⊢
  rw[ePair_eq] at hf
  refine calldw 0 18 [ResultVar.cell 4 41,ResultVar.tmp 5] TSQ_ok Tryz.func33 rfl Tryz.ntmps33 rfl fun cx hnt hn0=>?_
  ·skip
   refine dw_seq ?_;refine dwk [] TSQ_ok hnt fun _ z9=>z9 _ _ ?_;refine dw_seq ?_;refine dwk [] TSQ_ok hnt fun K hK=>?_;refine dcl (hf) ?_;refine hK _ _ ?_;clear hK K;refine dw_seq ?_;refine dw_seq ?_;refine dwk [] TSQ_ok hnt fun _ z9=>z9 _ _ ?_;refine dw_cond (t:=false) rfl ?_;rw[if_neg (by simp)];refine dw_skip ?_;refine dw_seq ?_;refine dwk [] TSQ_ok hnt fun K hK=>?_
   refine dcl (hc) ?_;refine hK _ _ ?_;clear hK K;refine dw_ret ?_
   exact reta rfl
namespace Pn
end Pn
namespace Pn
theorem getT_bfind (l:Bd)(m:Int):getT l m=match bfind l m with | some z=>(z,true) | none=>(Tm.zero,false):=by
 have key:∀ l:Bd,getP l m=l.find? fun p=>p.1==m:=by
  intro l
  unfold getP
  induction l with
  | nil=>rfl
  | cons p l ih=>
   rw[idxOf,List.find?_cons]
   by_cases h:p.1=m
   ·simp[h]
   ·have h2:(p.1==m)=false:=by simp[h]
    rw[if_neg h,h2,←ih]
    cases idxOf m l <;> simp
 unfold getT bfind
 rw[key]
 cases l.find? (fun p=>p.1==m) <;> rfl
end Pn
def TTO_44:TI:=⟨2,true,[Value.slice none 0 0,Value.int IntKind.i64 0],[(0,1,false),(1,1,false)],none,32,6,none,false⟩
theorem TTO_44_ok:TypOk Tryz.prog 44 TTO_44:=by constructor <;> kernel_rfl
def TTO_3:TI:=⟨1,false,[Value.int IntKind.i64 0],[],none,8,2,none,false⟩
theorem TTO_3_ok:TypOk Tryz.prog 3 TTO_3:=by constructor <;> kernel_rfl
def TTO_41:TI:=⟨4,true,[Value.slice none 0 0,Value.int IntKind.i64 0,Value.int IntKind.i64 0,Value.slice none 0 0],[(0,1,false),(1,2,true),(3,1,false)],none,64,6,none,false⟩
theorem TTO_41_ok:TypOk Tryz.prog 41 TTO_41:=by constructor <;> kernel_rfl
def TTO_103:TI:=⟨2,true,[Value.slice none 0 0,Value.int IntKind.i64 0],[(0,1,false),(1,1,false)],none,32,6,none,false⟩
theorem TTO_103_ok:TypOk Tryz.prog 103 TTO_103:=by constructor <;> kernel_rfl
def TTO_22:TI:=⟨1,false,[Value.slice none 0 0],[],some 103,24,5,none,false⟩
theorem TTO_22_ok:TypOk Tryz.prog 22 TTO_22:=by constructor <;> kernel_rfl
def TTO_33:TI:=⟨1,false,[Value.slice none 0 0],[],some 44,24,5,none,false⟩
theorem TTO_33_ok:TypOk Tryz.prog 33 TTO_33:=by constructor <;> kernel_rfl
def TTO_29:TI:=⟨4,true,[Value.slice none 0 0,Value.int IntKind.i64 0,Value.int IntKind.i64 0,Value.slice none 0 0],[(0,1,false),(1,2,true),(3,1,false)],none,64,6,none,false⟩
theorem TTO_29_ok:TypOk Tryz.prog 29 TTO_29:=by constructor <;> kernel_rfl
def TTO_39:TI:=⟨1,false,[Value.slice none 0 0],[],some 41,24,5,none,false⟩
theorem TTO_39_ok:TypOk Tryz.prog 39 TTO_39:=by constructor <;> kernel_rfl
def TTO_27:TI:=⟨1,false,[Value.slice none 0 0],[],some 29,24,5,none,false⟩
theorem TTO_27_ok:TypOk Tryz.prog 27 TTO_27:=by constructor <;> kernel_rfl
def TTO_26:TI:=⟨2,true,[Value.int IntKind.i64 0,Value.int IntKind.i64 0],[(0,1,false),(1,1,false)],none,16,6,none,true⟩
theorem TTO_26_ok:TypOk Tryz.prog 26 TTO_26:=by constructor <;> kernel_rfl
def TTO_38:TI:=⟨2,true,[Value.int IntKind.i64 0,Value.int IntKind.i64 0],[(0,1,false),(1,1,false)],none,16,6,none,true⟩
theorem TTO_38_ok:TypOk Tryz.prog 38 TTO_38:=by constructor <;> kernel_rfl
def TTO:List (Nat×TI):=[(44,TTO_44),(3,TTO_3),(41,TTO_41),(103,TTO_103),(22,TTO_22),(33,TTO_33),(29,TTO_29),(39,TTO_39),(27,TTO_27),(26,TTO_26),(38,TTO_38)]
theorem TTO_ok:TabOk Tryz.prog TTO:=((((((((((((TabOk.nil _).cons TTO_38_ok).cons TTO_26_ok).cons TTO_27_ok).cons TTO_39_ok).cons TTO_29_ok).cons TTO_33_ok).cons TTO_22_ok).cons TTO_103_ok).cons TTO_41_ok).cons TTO_3_ok).cons TTO_44_ok)
theorem eTys_tlen (l:List Ty)(j:Nat)(h:j≤l.length):(eTys (l.take j)).length=j:=by rw[eTys_len,List.length_take];omega
theorem eTms_tlen (l:List Tm)(j:Nat)(h:j≤l.length):(eTms (l.take j)).length=j:=by rw[eTms_len,List.length_take];omega
theorem to4D_d:∀ t:Ty,t.size≤900000→PureC Tryz.prog 53 [.ag (eTy t)] (.ag (eTy t)):=by
 intro t
 induction t using Ty.ind with
 | h ar base ih=>
  intro hz
  rw[Ty.size_eq] at hz
  have hal:=Ty.le_sizes ar
  rw[eTy_eq]
  dsimp only[Ty.args,Ty.base]
  refine calldw 0 27 [ResultVar.cell 2 44] TTO_ok Tryz.func53 rfl Tryz.ntmps53 rfl fun cx hnt hn0=>?_
  ·skip
   refine dw_seq ?_;refine dwk [] TTO_ok hnt fun _ z9=>z9 _ _ ?_;refine dw_seq ?_;refine dwk [] TTO_ok hnt fun _ z9=>z9 _ _ ?_
   refine DW.vs (VS.row (k:=5) (off:=0) 44 2 rfl) ?_
   refine dw_seq ?_;refine dw_seq ?_;refine dwk [] TTO_ok hnt fun _ z9=>z9 _ _ ?_;refine dw_block ?_
   refine dw_loop (ι:={ j:Nat // j≤ar.length }) (fun j=>[(.t 1,.p 0 0),(.t 2,.p 1 0),(.t 3,.p 5 0),(.t 4,.v (.int .i64 ↑j.1)),(.c 0 0,.sl 2 (eTys ar) none),(.c 0 1,.v (.int .i64 base)),(.c 1 0,.v (.slice none 0 0)),(.c 1 1,.v (.int .i64 0)),(.c 5 0,.sl 2 (eTys (ar.take j.1)) (some 7)),(.c 5 1,.v (.int .i64 base)),(.r 7,.rw 44 2 j.1)]) 8 (fun j=>ar.length-j.1) (⟨0,Nat.zero_le _⟩) ((VS.toK (by omega) (by repeat first | exact trivial | refine And.intro (And.intro (by first | rfl | simp[D.ok,D.oks,D.okss,D.okm,upto,keyOk,argsT]) (by first | exact Or.inl rfl | exact Or.inr ⟨_,rfl,(by repeat first | exact VLe.refl _ | exact VLe.nil _ | exact VLe.untag _ _ _ | refine VLe.ag ?_ | refine VLe.tu ?_ | refine VLeL.cons ?_ ?_ | exact VLeL.nil),trivial⟩ | simp[get,Key.eq,argsT])) ?_))) fun j=>?_
   obtain⟨j,hj⟩:=j
   dsimp only
   by_cases hlt:j<ar.length
   ·have hmem:=List.getElem_mem hlt
    have hsz:=Ty.size_mem hmem
    have hc:=ih _ hmem (by omega)
    rw[eTy_eq] at hc
    have hl1:=eTys_tlen ar j hj
    have hl2:=eTys_tlen ar (j+1) hlt
    refine dw_seq ?_;refine dw_seq ?_;refine dwk [(11,.v (.int .i64 (↑ar.length))),(12,.v (.bool true))] TTO_ok hnt fun K hK=>?_;refine And.intro (dintE (by rw[eTys_len])) ?_;refine And.intro auT ?_;refine hK _ _ ?_;clear hK K;refine dw_cond (t:=true) rfl ?_;rw[if_pos rfl];refine dw_skip ?_;refine dw_seq ?_;refine dw_block ?_;refine dwkD [(20,.q [.sl 2 (eTys ar[j].args) none,.v (.int .i64 ar[j].base)])] TTO_ok hnt fun K hK=>?_
    refine And.intro (elo (eTys_len ar)) ?_;refine And.intro (elv (eTys_getD ar j) (eTy_eq _)) ?_;refine dcl (hc) ?_;refine And.intro (⟨by omega,by rw[hl1];simp;omega⟩) ?_;refine hK _ _ (by kernel_rfl) ?_;clear hK K
    rw[eTys_snoc ar j hlt,hl2]
    refine dwk [(14,.v (.int .i64 (↑(j+1))))] TTO_ok hnt fun K hK=>?_;refine And.intro auI ?_;refine hK _ _ ?_;clear hK K
    refine⟨⟨j+1,hlt⟩,by first | omega | (dsimp only;omega),VS.toA⟩
   ·rw[List.take_of_length_le (by omega)]
    refine dw_seq ?_;refine dw_seq ?_;refine dwk [(11,.v (.int .i64 (↑ar.length))),(12,.v (.bool false))] TTO_ok hnt fun K hK=>?_;refine And.intro (dintE (by rw[eTys_len])) ?_;refine And.intro auF ?_;refine hK _ _ ?_;clear hK K;refine dw_cond (t:=false) rfl ?_;rw[if_neg (by simp)];refine dw_exit ?_;refine dw_seq ?_;refine dwk [] TTO_ok hnt fun _ z9=>z9 _ _ ?_
    refine dw_ret ?_
    exact reta rfl
theorem toTys_d (l:List Ty)(hz:Ty.sizes l≤900000):PureC Tryz.prog 12 [.sl 2 (eTys l) none] (.sl 2 (eTys l) none):=by
 have hal:=Ty.le_sizes l
 refine calldw 0 20 [ResultVar.tmp 2] TTO_ok Tryz.func12 rfl Tryz.ntmps12 rfl fun cx hnt hn0=>?_
 ·skip
  refine dw_seq ?_;refine dwk [] TTO_ok hnt fun _ z9=>z9 _ _ ?_
  refine dw_cut (τ:=[(.t 0,.sl 2 (eTys l) none),(.t 3,.v (.slice none 0 0))]) (N1:=0) ?_ ?_
  ·skip
   refine dwk [] TTO_ok hnt fun _ z9=>z9 _ _ ?_
   exact cut_ok (VS.toK (by omega) (by repeat first | exact trivial | refine And.intro (And.intro (by first | rfl | simp[D.ok,D.oks,D.okss,D.okm,upto,keyOk,argsT]) (by first | exact Or.inl rfl | exact Or.inr ⟨_,rfl,(by repeat first | exact VLe.refl _ | exact VLe.nil _ | exact VLe.untag _ _ _ | refine VLe.ag ?_ | refine VLe.tu ?_ | refine VLeL.cons ?_ ?_ | exact VLeL.nil),trivial⟩ | simp[get,Key.eq,argsT])) ?_))
  ·refine DW.vs (VS.rowT (x:=3) (by rw[hnt];decide) 44 2 rfl) ?_
   refine dw_seq ?_;refine dw_seq ?_;refine dwk [] TTO_ok hnt fun _ z9=>z9 _ _ ?_;refine dw_block ?_
   refine dw_loop (ι:={ j:Nat // j≤l.length }) (fun j=>[(.t 0,.sl 2 (eTys l) none),(.t 3,.sl 2 (eTys (l.take j.1)) (some 0)),(.t 4,.v (.int .i64 ↑j.1)),(.r 0,.rw 44 2 j.1)]) 1 (fun j=>l.length-j.1) (⟨0,Nat.zero_le _⟩) ((VS.toK (by omega) (by repeat first | exact trivial | refine And.intro (And.intro (by first | rfl | simp[D.ok,D.oks,D.okss,D.okm,upto,keyOk,argsT]) (by first | exact Or.inl rfl | exact Or.inr ⟨_,rfl,(by repeat first | exact VLe.refl _ | exact VLe.nil _ | exact VLe.untag _ _ _ | refine VLe.ag ?_ | refine VLe.tu ?_ | refine VLeL.cons ?_ ?_ | exact VLeL.nil),trivial⟩ | simp[get,Key.eq,argsT])) ?_))) fun j=>?_
   obtain⟨j,hj⟩:=j
   dsimp only
   by_cases hlt:j<l.length
   ·have hsz:=Ty.size_mem (List.getElem_mem hlt)
    have hc:=to4D_d l[j] (by omega)
    rw[eTy_eq] at hc
    have hl1:=eTys_tlen l j hj
    have hl2:=eTys_tlen l (j+1) hlt
    refine dw_seq ?_;refine dw_seq ?_;refine dwk [(7,.v (.int .i64 (↑l.length))),(8,.v (.bool true))] TTO_ok hnt fun K hK=>?_;refine And.intro (dintE (by rw[eTys_len])) ?_;refine And.intro auT ?_;refine hK _ _ ?_;clear hK K;refine dw_cond (t:=true) rfl ?_;rw[if_pos rfl];refine dw_skip ?_;refine dw_seq ?_;refine dw_block ?_;refine dwk [(14,.q [.sl 2 (eTys l[j].args) none,.v (.int .i64 l[j].base)])] TTO_ok hnt fun K hK=>?_
    refine And.intro (elo (eTys_len l)) ?_;refine And.intro (elv (eTys_getD l j) (eTy_eq _)) ?_;refine dcl (hc) ?_;refine And.intro (⟨by omega,by rw[hl1];simp;omega⟩) ?_;refine hK _ _ ?_;clear hK K
    rw[eTys_snoc l j hlt,hl2]
    refine dwk [(10,.v (.int .i64 (↑(j+1))))] TTO_ok hnt fun K hK=>?_;refine And.intro auI ?_;refine hK _ _ ?_;clear hK K
    refine⟨⟨j+1,hlt⟩,by first | omega | (dsimp only;omega),VS.toA⟩
   ·rw[List.take_of_length_le (by omega)]
    refine dw_seq ?_;refine dw_seq ?_;refine dwk [(7,.v (.int .i64 (↑l.length))),(8,.v (.bool false))] TTO_ok hnt fun K hK=>?_;refine And.intro (dintE (by rw[eTys_len])) ?_;refine And.intro auF ?_;refine hK _ _ ?_;clear hK K;refine dw_cond (t:=false) rfl ?_;rw[if_neg (by simp)];refine dw_exit ?_;refine dw_seq ?_;refine dwk [] TTO_ok hnt fun _ z9=>z9 _ _ ?_;refine dw_ret ?_
    exact reta rfl
theorem to6D_d : ∀ t : Tm, t.full ≤ 900000 → PureC Tryz.prog 13 [.ag (eTm t)] (.ag (eTm t)) := by
  intro t
  induction t using Tm.ind with
  | h bs k i ar ih =>
    intro hz
    rw [Tm.full_eq] at hz
    have hbs := toTys_d bs (by omega)
    have hal : ar.length ≤ Tm.fulls ar := by
      clear ih hz
      induction ar with
      | nil => simp
      | cons u l ih => have : 1 ≤ u.full := by obtain ⟨b, k, i, a⟩ := u; rw [Tm.full_eq]; omega
                       simp only [List.length_cons, Tm.fulls]; omega
    rw [eTm_eq]
    dsimp only [Tm.binds, Tm.kind, Tm.index, Tm.args]
    refine calldw 0 35 [ResultVar.cell 2 41] TTO_ok Tryz.func13 rfl Tryz.ntmps13 rfl fun cx hnt hn0 => ?_
    · skip
      refine dw_seq ?_
      refine dwk [] TTO_ok hnt fun K hK => ?_
      refine hK _ _ ?_; clear hK K
      refine dw_seq ?_
      refine dwkD [] TTO_ok hnt fun K hK => ?_
      refine dcl (hbs) ?_
      refine hK _ _ (by kernel_rfl) ?_; clear hK K
      refine DW.vs (VS.row (k := 13) (off := 3) 41 4 rfl) ?_
      refine dw_seq ?_
      refine dw_seq ?_
      refine dwk [] TTO_ok hnt fun K hK => ?_
      refine hK _ _ ?_; clear hK K
      refine dw_block ?_
      refine dw_loop (ι := { j : Nat // j ≤ ar.length }) (fun j => [(.t 1, .p 0 0), (.t 2, .p 1 0), (.t 3, .p 13 0), (.t 4, .v (.int .i64 ↑j.1)), (.c 0 0, .sl 2 (eTys bs) none), (.c 0 1, .v (.int .i64 k)), (.c 0 2, .v (.int .i64 i)), (.c 0 3, .sl 4 (eTms ar) none), (.c 1 0, .v (.slice none 0 0)), (.c 1 1, .v (.int .i64 0)), (.c 1 2, .v (.int .i64 0)), (.c 1 3, .v (.slice none 0 0)), (.c 13 0, .sl 2 (eTys bs) none), (.c 13 1, .v (.int .i64 k)), (.c 13 2, .v (.int .i64 i)), (.c 13 3, .sl 4 (eTms (ar.take j.1)) (some 15)), (.r 15, .rw 41 4 j.1)]) 16 (fun j => ar.length - j.1) (⟨0, Nat.zero_le _⟩) ((VS.toK (by omega) (by repeat first | exact trivial | refine And.intro (And.intro (by first | rfl | simp [D.ok, D.oks, D.okss, D.okm, upto, keyOk, argsT]) (by first | exact Or.inl rfl | exact Or.inr ⟨_, rfl, (by repeat first | exact VLe.refl _ | exact VLe.nil _ | exact VLe.untag _ _ _ | refine VLe.ag ?_ | refine VLe.tu ?_ | refine VLeL.cons ?_ ?_ | exact VLeL.nil), trivial⟩ | simp [get, Key.eq, argsT])) ?_))) fun j => ?_
      obtain ⟨j, hj⟩ := j
      dsimp only
      by_cases hlt : j < ar.length
      · have hmem := List.getElem_mem hlt
        have hsz := Tm.full_mem hmem
        have hc := ih _ hmem (by omega)
        rw [eTm_eq] at hc
        have hl1 := eTms_tlen ar j hj
        have hl2 := eTms_tlen ar (j + 1) hlt
        refine dw_seq ?_
        refine dw_seq ?_
        refine dwk [(19, .v (.int .i64 (↑ar.length))), (20, .v (.bool true))] TTO_ok hnt fun K hK => ?_
        refine And.intro (dintE (by rw [eTms_len])) ?_
        refine And.intro auT ?_
        refine hK _ _ ?_; clear hK K
        refine dw_cond (t := true) rfl ?_
        rw [if_pos rfl]
        refine dw_skip ?_
        refine dw_seq ?_
        refine dw_block ?_
        refine dwkD [(28, .q [.sl 2 (eTys ar[j].binds) none, .v (.int .i64 ar[j].kind), .v (.int .i64 ar[j].index), .sl 4 (eTms ar[j].args) none])] TTO_ok hnt fun K hK => ?_
        refine And.intro (elo (eTms_len ar)) ?_
        refine And.intro (elv (eTms_getD ar j) (eTm_eq _)) ?_
        refine dcl (hc) ?_
        refine And.intro (⟨by omega, by rw [hl1]; simp; omega⟩) ?_
        refine hK _ _ (by kernel_rfl) ?_; clear hK K
        rw [eTms_snoc ar j hlt, hl2]
        refine dwk [(22, .v (.int .i64 (↑(j + 1))))] TTO_ok hnt fun K hK => ?_
        refine And.intro auI ?_
        refine hK _ _ ?_; clear hK K
        refine ⟨⟨j + 1, hlt⟩, by first | omega | (dsimp only; omega), VS.toA⟩
      · rw [List.take_of_length_le (by omega)]
        refine dw_seq ?_
        refine dw_seq ?_
        refine dwk [(19, .v (.int .i64 (↑ar.length))), (20, .v (.bool false))] TTO_ok hnt fun K hK => ?_
        refine And.intro (dintE (by rw [eTms_len])) ?_
        refine And.intro auF ?_
        refine hK _ _ ?_; clear hK K
        refine dw_cond (t := false) rfl ?_
        rw [if_neg (by simp)]
        refine dw_exit ?_
        refine dw_seq ?_
        refine dwk [] TTO_ok hnt fun K hK => ?_
        refine hK _ _ ?_; clear hK K
        refine dw_ret ?_
        exact reta rfl
theorem ePairs_take (l:List (Int×Tm))(j:Nat)(h:j<l.length):ePairs (l.take (j+1))=ePairs (l.take j)++[ePair l[j]]:=by
 unfold ePairs;rw[List.take_succ_eq_append_getElem h,List.map_append];rfl
def TF4_3:TI:=⟨1,false,[Value.int IntKind.i64 0],[],none,8,2,none,false⟩
theorem TF4_3_ok:TypOk Tryz.prog 3 TF4_3:=by constructor <;> kernel_rfl
def TF4_103:TI:=⟨2,true,[Value.slice none 0 0,Value.int IntKind.i64 0],[(0,1,false),(1,1,false)],none,32,6,none,false⟩
theorem TF4_103_ok:TypOk Tryz.prog 103 TF4_103:=by constructor <;> kernel_rfl
def TF4_22:TI:=⟨1,false,[Value.slice none 0 0],[],some 103,24,5,none,false⟩
theorem TF4_22_ok:TypOk Tryz.prog 22 TF4_22:=by constructor <;> kernel_rfl
def TF4:List (Nat×TI):=[(3,TF4_3),(103,TF4_103),(22,TF4_22)]
theorem TF4_ok:TabOk Tryz.prog TF4:=((((TabOk.nil _).cons TF4_22_ok).cons TF4_103_ok).cons TF4_3_ok)
mutual
def fewT (most:Int):Ty→Int→Int
 | .mk a _,d=>if d≤0 then most+1 else fewTs most a (d-1) 1
def fewTs (most:Int):List Ty→Int→Int→Int
 | [],_,n=>n
 | t :: l,d,n=>if n≤most then fewTs most l d (n+fewT most t d) else n
end
theorem fewTs_le {most:Int}(hm:0≤most){B:Int}(hB:0≤B):∀ (l:List Ty) (d n:Int),(∀ t∈l,1≤fewT most t d∧fewT most t d≤B)→1≤n→n≤most+B→1≤fewTs most l d n∧fewTs most l d n≤most+B
 | [],d,n,_,h0,h1=>by rw[fewTs];exact⟨h0,h1⟩
 | t :: l,d,n,h,h0,h1=>by
  rw[fewTs]
  split
  ·have:=h t (by simp)
   exact fewTs_le hm hB l d _ (fun u hu=>h u (by simp[hu])) (by omega) (by omega)
  ·exact⟨h0,h1⟩
theorem fewT_le {most:Int}(hm:1≤most):∀ (k:Nat) (t:Ty) (d:Int),d≤k→1≤fewT most t d∧fewT most t d≤most * k+most+1
 | 0,.mk a b,d,hd=>by
  rw[fewT,if_pos (by omega)]
  have e:most * ((0:Nat):Int)=0:=Int.mul_zero _
  rw[e];omega
 | k+1,.mk a b,d,hd=>by
  rw[fewT]
  have e:most * ((k+1:Nat):Int)=most * (k:Int)+most:=by rw[Int.natCast_add,Int.mul_add];simp
  have h0:0≤most * (k:Int):=Int.mul_nonneg (by omega) (by omega)
  split
  ·rw[e];omega
  ·have:=fewTs_le (most:=most) (by omega) (B:=most * k+most+1) (by omega) a (d-1) 1 (fun t _=>fewT_le hm k t (d-1) (by omega)) (by omega) (by omega)
   rw[e];omega
set_option maxHeartbeats 1000000 in
theorem few4_d (most:Int)(h1:1≤most)(h2:most≤1000):∀ (t:Ty) (d:Int),-1000≤d→d≤1000→PureC Tryz.prog 106 [.ag (eTy t),.v (.int .i64 most),.v (.int .i64 d)] (.v (.int .i64 (fewT most t d))):=by
 intro t
 induction t using Ty.ind with
 | h a b ih=>
 intro d hd1 hd2
 refine call_of_dw 0 37 [ResultVar.tmp 6] TF4_ok (by kernel_rfl) Tryz.func106 rfl Tryz.ntmps106 rfl (by simp) ?dwords ?dbody
 case dwords=>simp[wordsOk,D.ok,D.oks,rnames,eTy_ok]
 case dbody=>
  intro cx hnt hn0
  refine dw_seq ?_;refine dwk [] TF4_ok hnt fun _ z9=>z9 _ _ ?_;refine dw_seq (dw_seq ?_)
  by_cases hd:d≤0
  ·have hf:fewT most (.mk a b) d=most+1:=by rw[fewT,if_pos hd]
   rw[hf]
   refine dwk [(10,.v (.bool true))] TF4_ok hnt fun K hK=>?_;refine And.intro (dtrue hd) ?_;refine hK _ _ ?_;clear hK K;refine dw_cond (t:=true) rfl ?_;rw[if_pos rfl];refine dw_seq ?_;refine dwk [(12,.v (.int .i64 (most+1)))] TF4_ok hnt fun K hK=>?_;refine And.intro (dintE (IntWalk.i64_in _ (by omega))) ?_;refine hK _ _ ?_;clear hK K;refine dw_ret ?_
   exact retv (N:=0) (.inr rfl) rfl (VLe.refl _) trivial
  ·have hf:fewT most (.mk a b) d=fewTs most a (d-1) 1:=by rw[fewT,if_neg hd]
   rw[hf]
   refine dwk [(10,.v (.bool false))] TF4_ok hnt fun K hK=>?_;refine And.intro (dfalse hd) ?_;refine hK _ _ ?_;clear hK K;refine dw_cond (t:=false) rfl ?_;rw[if_neg (by simp)];refine dw_skip ?_;refine dw_seq ?_;refine dwk [] TF4_ok hnt fun _ z9=>z9 _ _ ?_;refine dw_seq (dw_seq ?_);refine dwk [] TF4_ok hnt fun _ z9=>z9 _ _ ?_;refine dw_block ?_
   refine dw_loop (ι:={ p:Nat×Int // fewTs most (a.drop p.1) (d-1) p.2=fewTs most a (d-1) 1∧(p.1:Int)+1≤p.2∧p.2≤2000000∧p.1≤a.length }) (fun p=>[(.t 1,.v (.int .i64 most)),(.t 2,.v (.int .i64 d)),(.t 3,.p 0 0),(.t 7,.v (.int .i64 p.1.2)),(.t 8,.v (.int .i64 (p.1.1:Int))),(.c 0 0,.sl 2 (eTys a) none),(.c 0 1,.v (.int .i64 b))]) 1 (fun p=>a.length-p.1.1) ⟨(0,1),by simp,by simp,by simp,by simp⟩ VS.toA fun p=>?_
   obtain⟨⟨j,n⟩,hj1,hj2,hj3,hj4⟩:=p
   dsimp only at hj1 hj2 hj3 hj4 ⊢
   refine dw_seq (dw_seq ?_)
   by_cases hlt:j<a.length
   ·have hdr:a.drop j=a[j] :: a.drop (j+1):=List.drop_eq_getElem_cons hlt
    rw[hdr,fewTs] at hj1
    by_cases hn:n≤most
    ·rw[if_pos hn] at hj1
     have hih:=ih a[j] (List.getElem_mem hlt) (d-1) (by omega) (by omega)
     rw[eTy_eq] at hih
     have hbd:=fewT_le h1 1000 a[j] (d-1) (by omega)
     have hbd2:most * ((1000:Nat):Int)≤1000000:=by
      have:most * ((1000:Nat):Int)=1000 * most:=by rw[Int.mul_comm];rfl
      omega
     refine dwk [(17,.v (.bool true)),(21,.v (.bool true))] TF4_ok hnt fun K hK=>?_;refine And.intro (dtrue (by rw[eTys_len];omega)) ?_;refine And.intro (dtrue hn) ?_;refine hK _ _ ?_;clear hK K;refine dw_cond (t:=true) rfl ?_;rw[if_pos rfl];refine dw_skip ?_;refine dw_seq (dw_block ?_);refine dwk [(29,.q [.sl 2 (eTys a[j].args) none,.v (.int .i64 a[j].base)]),(33,.v (.int .i64 (d-1))),(35,.v (.int .i64 (n+fewT most a[j] (d-1))))] TF4_ok hnt fun K hK=>?_
     refine And.intro (⟨by omega,by rw[eTys_len];omega⟩) ?_;refine And.intro (VLe.of_eq (by rw[Int.toNat_natCast,eTys_getD a j hlt,eTy_eq])) ?_;refine And.intro (dintE (IntWalk.i64_in _ (by omega))) ?_;refine dcl (hih) ?_;refine And.intro (dintE (IntWalk.i64_in _ (by omega))) ?_;refine hK _ _ ?_;clear hK K;refine dwk [(24,.v (.int .i64 ((j+1:Nat):Int)))] TF4_ok hnt fun K hK=>?_;refine And.intro (dintE (by rw[IntWalk.i64_in _ (by omega)];omega)) ?_
     refine hK _ _ ?_;clear hK K
     exact⟨⟨(j+1,n+fewT most a[j] (d-1)),hj1,by dsimp only;omega,by dsimp only;omega,hlt⟩,by dsimp only;omega,VS.toA⟩
    ·rw[if_neg hn] at hj1
     rw[←hj1]
     refine dwk [(17,.v (.bool true)),(21,.v (.bool false))] TF4_ok hnt fun K hK=>?_;refine And.intro (dtrue (by rw[eTys_len];omega)) ?_;refine And.intro (dfalse hn) ?_;refine hK _ _ ?_;clear hK K;refine dw_cond (t:=false) rfl ?_;rw[if_neg (by simp)];refine dw_exit ?_;refine dw_seq ?_;refine dwk [] TF4_ok hnt fun _ z9=>z9 _ _ ?_;refine dw_ret ?_
     exact retv (N:=0) (.inr rfl) rfl (VLe.refl _) trivial
   ·rw[List.drop_eq_nil_of_le (by omega),fewTs] at hj1
    rw[←hj1]
    refine dwk [(17,.v (.bool false))] TF4_ok hnt fun K hK=>?_;refine And.intro (dfalse (by rw[eTys_len];omega)) ?_;refine hK _ _ ?_;clear hK K;refine dw_cond (t:=false) rfl ?_;rw[if_neg (by simp)];refine dw_exit ?_;refine dw_seq ?_;refine dwk [] TF4_ok hnt fun _ z9=>z9 _ _ ?_;refine dw_ret ?_
    exact retv (N:=0) (.inr rfl) rfl (VLe.refl _) trivial
theorem fewTs_size {most:Int}:∀ (l:List Ty) (d n:Int),(∀ t∈l,fewT most t d≤most→(t.size:Int)=fewT most t d)→(∀ t∈l,1≤fewT most t d)→1≤n→fewTs most l d n≤most→fewTs most l d n=n+Ty.sizes l
 | [],d,n,_,_,_,_=>by rw[fewTs];simp[Ty.sizes]
 | t :: l,d,n,h,h1,hn,hf=>by
  rw[fewTs] at hf ⊢
  split at hf
  ·rename_i hm
   rw[if_pos hm]
   have h2:=h1 t (by simp)
   have h3:=fewTs_size l d _ (fun u hu=>h u (by simp[hu])) (fun u hu=>h1 u (by simp[hu])) (by omega) hf
   have h4:fewT most t d≤most:=by omega
   have h5:=h t (by simp) h4
   rw[h3,Ty.sizes];omega
  ·rename_i hm;omega
theorem fewT_size {most:Int}(hm:1≤most):∀ (k:Nat) (t:Ty) (d:Int),d≤k→fewT most t d≤most→(t.size:Int)=fewT most t d
 | 0,.mk a b,d,hd,h=>by rw[fewT,if_pos (by omega)] at h;omega
 | k+1,.mk a b,d,hd,h=>by
  rw[fewT] at h ⊢
  split at h
  ·omega
  ·rename_i hp
   rw[if_neg hp]
   have:=fewTs_size a (d-1) 1 (fun t _=>fewT_size hm k t (d-1) (by omega)) (fun t _=>(fewT_le hm k t (d-1) (by omega)).1) (by omega) h
   rw[this,Ty.size_eq];omega
theorem Few4_d (most:Int)(h1:1≤most)(h2:most≤1000)(t:Ty)(d:Int)(h3:-1000≤d)(h4:d≤1000):PureC Tryz.prog 49 [.ag (eTy t),.v (.int .i64 most),.v (.int .i64 d)] (.v (.bool (decide (fewT most t d≤most)))):=by
 have h:=few4_d most h1 h2 t d h3 h4
 rw[eTy_eq] at h ⊢
 refine call_of_dw 0 13 [ResultVar.tmp 6] TF4_ok (by kernel_rfl) Tryz.func49 rfl Tryz.ntmps49 rfl (by simp) ?dwords ?dbody
 case dwords=>simp[wordsOk,D.ok,D.oks,rnames,eTys_ok]
 case dbody=>
  intro cx hnt hn0
  refine dw_seq ?_;refine dwk [] TF4_ok hnt fun _ z9=>z9 _ _ ?_;refine dw_seq ?_;refine dwk [] TF4_ok hnt fun K hK=>?_;refine dcl (h) ?_;refine hK _ _ ?_;clear hK K;refine dw_ret ?_
  exact retv (N:=0) (.inr rfl) rfl (VLe.refl _) trivial
set_option maxHeartbeats 1000000 in
theorem Size4_d:∀ (t:Ty) (_:t.size≤1000000),PureC Tryz.prog 105 [.ag (eTy t)] (.v (.int .i64 (t.size:Int))):=by
 intro t
 induction t using Ty.ind with
 | h a b ih=>
 intro hsz
 have hsz2:=Ty.size_eq a b
 refine call_of_dw 0 21 [ResultVar.tmp 2] TF4_ok (by kernel_rfl) Tryz.func105 rfl Tryz.ntmps105 rfl (by simp) ?dwords ?dbody
 case dwords=>simp[wordsOk,D.ok,D.oks,rnames,eTy_ok]
 case dbody=>
  intro cx hnt hn0
  refine dw_seq ?_;refine dwk [] TF4_ok hnt fun _ z9=>z9 _ _ ?_;refine dw_seq ?_;refine dwk [] TF4_ok hnt fun _ z9=>z9 _ _ ?_;refine dw_seq (dw_seq ?_);refine dwk [] TF4_ok hnt fun _ z9=>z9 _ _ ?_;refine dw_block ?_
  refine dw_loop (ι:={ j:Nat // j≤a.length }) (fun j=>[(.t 1,.p 0 0),(.t 3,.v (.int .i64 ((Ty.sizes (a.take j.1):Int)+1))),(.t 4,.v (.int .i64 (j.1:Int))),(.c 0 0,.sl 2 (eTys a) none),(.c 0 1,.v (.int .i64 b))]) 1 (fun j=>a.length-j.1) ⟨0,Nat.zero_le _⟩ VS.toA fun j=>?_
  obtain⟨j,hj⟩:=j
  dsimp only
  have hst:=Ty.sizes_take_le a j
  have hst2:=Ty.sizes_take_le a (j+1)
  have hla:=Ty.le_sizes a
  refine dw_seq (dw_seq ?_)
  by_cases hlt:j<a.length
  ·have hih:=ih a[j] (List.getElem_mem hlt) (by have:=Ty.size_get (b:=b) j hlt;omega)
   rw[eTy_eq] at hih
   have htk:=Ty.sizes_take a j hlt
   refine dwk [(9,.v (.bool true))] TF4_ok hnt fun K hK=>?_;refine And.intro (dtrue (by rw[eTys_len];omega)) ?_;refine hK _ _ ?_;clear hK K;refine dw_cond (t:=true) rfl ?_;rw[if_pos rfl];refine dw_skip ?_;refine dw_seq (dw_block ?_);refine dwk [(16,.q [.sl 2 (eTys a[j].args) none,.v (.int .i64 a[j].base)]),(19,.v (.int .i64 ((Ty.sizes (a.take (j+1)):Int)+1)))] TF4_ok hnt fun K hK=>?_
   refine And.intro (⟨by omega,by rw[eTys_len];omega⟩) ?_;refine And.intro (VLe.of_eq (by rw[Int.toNat_natCast,eTys_getD a j hlt,eTy_eq])) ?_;refine dcl (hih) ?_;refine And.intro (dintE (by rw[IntWalk.i64_in _ (by omega),htk];omega)) ?_;refine hK _ _ ?_;clear hK K;refine dwk [(11,.v (.int .i64 ((j+1:Nat):Int)))] TF4_ok hnt fun K hK=>?_;refine And.intro (dintE (by rw[IntWalk.i64_in _ (by omega)];omega)) ?_
   refine hK _ _ ?_;clear hK K
   exact⟨⟨j+1,hlt⟩,by dsimp only;omega,VS.toA⟩
  ·skip
   refine dwk [(9,.v (.bool false))] TF4_ok hnt fun K hK=>?_;refine And.intro (dfalse (by rw[eTys_len];omega)) ?_;refine hK _ _ ?_;clear hK K;refine dw_cond (t:=false) rfl ?_;rw[if_neg (by simp)];refine dw_exit ?_;refine dw_seq ?_
   have hsz3:((Ty.mk a b).size:Int)=(Ty.sizes (a.take j):Int)+1:=by rw[List.take_of_length_le (by omega),hsz2];omega
   rw[hsz3]
   refine dwk [] TF4_ok hnt fun _ z9=>z9 _ _ ?_;refine dw_ret ?_
   exact retv (N:=0) (.inr rfl) rfl (VLe.refl _) trivial
def TF6_3:TI:=⟨1,false,[Value.int IntKind.i64 0],[],none,8,2,none,false⟩
theorem TF6_3_ok:TypOk Tryz.prog 3 TF6_3:=by constructor <;> kernel_rfl
def TF6_29:TI:=⟨4,true,[Value.slice none 0 0,Value.int IntKind.i64 0,Value.int IntKind.i64 0,Value.slice none 0 0],[(0,1,false),(1,2,true),(3,1,false)],none,64,6,none,false⟩
theorem TF6_29_ok:TypOk Tryz.prog 29 TF6_29:=by constructor <;> kernel_rfl
def TF6_22:TI:=⟨1,false,[Value.slice none 0 0],[],some 103,24,5,none,false⟩
theorem TF6_22_ok:TypOk Tryz.prog 22 TF6_22:=by constructor <;> kernel_rfl
def TF6_27:TI:=⟨1,false,[Value.slice none 0 0],[],some 29,24,5,none,false⟩
theorem TF6_27_ok:TypOk Tryz.prog 27 TF6_27:=by constructor <;> kernel_rfl
def TF6_103:TI:=⟨2,true,[Value.slice none 0 0,Value.int IntKind.i64 0],[(0,1,false),(1,1,false)],none,32,6,none,false⟩
theorem TF6_103_ok:TypOk Tryz.prog 103 TF6_103:=by constructor <;> kernel_rfl
def TF6:List (Nat×TI):=[(3,TF6_3),(29,TF6_29),(22,TF6_22),(27,TF6_27),(103,TF6_103)]
theorem TF6_ok:TabOk Tryz.prog TF6:=((((((TabOk.nil _).cons TF6_103_ok).cons TF6_27_ok).cons TF6_22_ok).cons TF6_29_ok).cons TF6_3_ok)
def fewB1 (most d:Int):List Ty→Int→Option Int
 | [],n=>some n
 | t :: l,n=>if n≤most then (if fewT most t d≤most then fewB1 most d l (n+t.size) else none) else some n
mutual
def fewM (most:Int):Tm→Int→Int
 | .mk bs _ _ a,d=>if d≤0 then most+1 else match fewB1 most d bs 1 with
  | none=>most+1
  | some n=>fewMs most a (d-1) n
def fewMs (most:Int):List Tm→Int→Int→Int
 | [],_,n=>n
 | t :: l,d,n=>if n≤most then fewMs most l d (n+fewM most t d) else n
end
theorem fewB1_le {most d:Int}(hm:1≤most)(hd:d≤1000):∀ (l:List Ty) (n:Int),1≤n→n≤2 * most→∀ r,fewB1 most d l n=some r→1≤r∧r≤2 * most
 | [],n,h0,h1,r,h=>by rw[fewB1] at h;cases h;exact⟨h0,h1⟩
 | t :: l,n,h0,h1,r,h=>by
  rw[fewB1] at h
  split at h
  ·split at h
   ·rename_i h2
    have:=fewT_size hm 1000 t d hd h2
    have:=(fewT_le hm 1000 t d hd).1
    exact fewB1_le hm hd l _ (by omega) (by omega) r h
   ·cases h
  ·cases h;exact⟨h0,h1⟩
theorem fewMs_le {most:Int}(hm:1≤most){B:Int}(hB:most≤B):∀ (l:List Tm) (d n:Int),(∀ t∈l,1≤fewM most t d∧fewM most t d≤B)→1≤n→n≤most+B→1≤fewMs most l d n∧fewMs most l d n≤most+B
 | [],d,n,_,h0,h1=>by rw[fewMs];exact⟨h0,h1⟩
 | t :: l,d,n,h,h0,h1=>by
  rw[fewMs]
  split
  ·have:=h t (by simp)
   exact fewMs_le hm hB l d _ (fun u hu=>h u (by simp[hu])) (by omega) (by omega)
  ·exact⟨h0,h1⟩
theorem fewM_le {most:Int}(hm:1≤most):∀ (k:Nat) (t:Tm) (d:Int),k≤1000→d≤k→1≤fewM most t d∧fewM most t d≤most * k+most+1
 | 0,.mk bs kd i a,d,hk,hd=>by
  rw[fewM,if_pos (by omega)]
  have e:most * ((0:Nat):Int)=0:=Int.mul_zero _
  rw[e];omega
 | k+1,.mk bs kd i a,d,hk,hd=>by
  rw[fewM]
  have e:most * ((k+1:Nat):Int)=most * (k:Int)+most:=by rw[Int.natCast_add,Int.mul_add];simp
  have h0:0≤most * (k:Int):=Int.mul_nonneg (by omega) (by omega)
  rw[e]
  split
  ·omega
  ·cases hb:fewB1 most d bs 1 with
   | none=>dsimp only;omega
   | some n=>
    have hn:=fewB1_le hm (by omega) bs 1 (by omega) (by omega) n hb
    have:=fewMs_le hm (B:=most * k+most+1) (by omega) a (d-1) n (fun t _=>fewM_le hm k t (d-1) (by omega) (by omega)) hn.1 (by omega)
    dsimp only
    omega
set_option maxHeartbeats 4000000 in
theorem few6_d (most:Int)(h1:1≤most)(h2:most≤1000):∀ (t:Tm) (d:Int),-1000≤d→d≤1000→PureC Tryz.prog 47 [.ag (eTm t),.v (.int .i64 most),.v (.int .i64 d)] (.v (.int .i64 (fewM most t d))):=by
 intro t
 induction t using Tm.ind with
 | h bs k i a ih=>
 intro d hd1 hd2
 obtain⟨V,hV⟩:∃ V,fewM most (.mk bs k i a) d=V:=⟨_,rfl⟩
 rw[hV]
 rw[fewM] at hV
 refine call_of_dw 0 69 [ResultVar.tmp 6] TF6_ok (by kernel_rfl) Tryz.func47 rfl Tryz.ntmps47 rfl (by simp) ?dwords ?dbody
 case dwords=>simp[wordsOk,D.ok,D.oks,rnames,eTm_ok]
 case dbody=>
  intro cx hnt hn0
  refine dw_seq ?_;refine dwk [] TF6_ok hnt fun _ z9=>z9 _ _ ?_;refine dw_seq (dw_seq ?_)
  by_cases hd:d≤0
  ·rw[if_pos hd] at hV
   subst hV
   refine dwk [(11,.v (.bool true))] TF6_ok hnt fun K hK=>?_;refine And.intro (dtrue hd) ?_;refine hK _ _ ?_;clear hK K;refine dw_cond (t:=true) rfl ?_;rw[if_pos rfl];refine dw_seq ?_;refine dwk [(13,.v (.int .i64 (most+1)))] TF6_ok hnt fun K hK=>?_;refine And.intro (dintE (IntWalk.i64_in _ (by omega))) ?_;refine hK _ _ ?_;clear hK K;refine dw_ret ?_
   exact retv (N:=0) (.inr rfl) rfl (VLe.refl _) trivial
  ·rw[if_neg hd] at hV;refine dwk [(11,.v (.bool false))] TF6_ok hnt fun K hK=>?_;refine And.intro (dfalse hd) ?_;refine hK _ _ ?_;clear hK K;refine dw_cond (t:=false) rfl ?_;rw[if_neg (by simp)];refine dw_skip ?_;refine dw_seq ?_;refine dwk [] TF6_ok hnt fun _ z9=>z9 _ _ ?_
   refine dw_cutE (ι:={ n:Int // 1≤n∧n≤2 * most∧V=fewMs most a (d-1) n }) (fun n=>[(.t 1,.v (.int .i64 most)),(.t 2,.v (.int .i64 d)),(.t 3,.p 0 0),(.t 7,.v (.int .i64 n.1)),(.c 0 0,.sl 2 (eTys bs) none),(.c 0 1,.v (.int .i64 k)),(.c 0 2,.v (.int .i64 i)),(.c 0 3,.sl 4 (eTms a) none)]) 1 ?_ fun n=>?_
   ·refine dw_seq ?_;refine dwk [] TF6_ok hnt fun _ z9=>z9 _ _ ?_;refine dw_block ?_
    refine dw_loop (ι:={ p:Nat×Int // fewB1 most d (bs.drop p.1) p.2=fewB1 most d bs 1∧(p.1:Int)+1≤p.2∧p.2≤2 * most∧p.1≤bs.length }) (fun p=>[(.t 1,.v (.int .i64 most)),(.t 2,.v (.int .i64 d)),(.t 3,.p 0 0),(.t 7,.v (.int .i64 p.1.2)),(.t 8,.v (.int .i64 (p.1.1:Int))),(.c 0 0,.sl 2 (eTys bs) none),(.c 0 1,.v (.int .i64 k)),(.c 0 2,.v (.int .i64 i)),(.c 0 3,.sl 4 (eTms a) none)]) 1 (fun p=>bs.length-p.1.1) ⟨(0,1),by simp,by simp,by dsimp only;omega,by simp⟩ VS.toA fun p=>?_
    obtain⟨⟨j,n⟩,hj1,hj2,hj3,hj4⟩:=p
    dsimp only at hj1 hj2 hj3 hj4 ⊢
    refine dw_seq (dw_seq ?_)
    by_cases hlt:j<bs.length
    ·have hdr:bs.drop j=bs[j] :: bs.drop (j+1):=List.drop_eq_getElem_cons hlt
     rw[hdr,fewB1] at hj1
     by_cases hn:n≤most
     ·rw[if_pos hn] at hj1
      have hF:=Few4_d most h1 h2 bs[j] d hd1 hd2
      rw[eTy_eq] at hF
      have hq:(eTys bs).getD (j:Int).toNat []=[.sl 2 (eTys bs[j].args) none,.v (.int .i64 bs[j].base)]:=by rw[Int.toNat_natCast,eTys_getD bs j hlt,eTy_eq]
      have hb:(0:Int)≤(j:Int)∧(j:Int)<((eTys bs).length:Int):=⟨by omega,by rw[eTys_len];omega⟩
      refine dwk [(18,.v (.bool true)),(22,.v (.bool true))] TF6_ok hnt fun K hK=>?_;refine And.intro (dtrue (by rw[eTys_len];omega)) ?_;refine And.intro (dtrue hn) ?_;refine hK _ _ ?_;clear hK K;refine dw_cond (t:=true) rfl ?_;rw[if_pos rfl];refine dw_skip ?_;refine dw_seq (dw_block ?_);refine dw_seq (dw_seq ?_)
      by_cases hff:fewT most bs[j] d≤most
      ·rw[if_pos hff] at hj1
       rw[decide_eq_true hff] at hF
       have hs1:=fewT_size h1 1000 bs[j] d (by omega) hff
       have hs2:=(fewT_le h1 1000 bs[j] d (by omega)).1
       have hS:=Size4_d bs[j] (by omega)
       rw[eTy_eq] at hS
       refine dwk [(29,.q [.sl 2 (eTys bs[j].args) none,.v (.int .i64 bs[j].base)])] TF6_ok hnt fun K hK=>?_;refine And.intro (hb) ?_;refine And.intro (VLe.of_eq (by rw[hq])) ?_;refine dcl (hF) ?_;refine hK _ _ ?_;clear hK K;refine dw_cond (t:=false) rfl ?_;rw[if_neg (by simp)];refine dw_skip ?_;refine dwk [(41,.q [.sl 2 (eTys bs[j].args) none,.v (.int .i64 bs[j].base)]),(44,.v (.int .i64 (n+(bs[j].size:Int))))] TF6_ok hnt fun K hK=>?_
       refine And.intro (hb) ?_;refine And.intro (VLe.of_eq (by rw[hq])) ?_;refine dcl (hS) ?_;refine And.intro (dintE (IntWalk.i64_in _ (by omega))) ?_;refine hK _ _ ?_;clear hK K;refine dwk [(25,.v (.int .i64 ((j+1:Nat):Int)))] TF6_ok hnt fun K hK=>?_;refine And.intro (dintE (by rw[IntWalk.i64_in _ (by omega)];omega)) ?_;refine hK _ _ ?_;clear hK K
       exact⟨⟨(j+1,n+(bs[j].size:Int)),hj1,by dsimp only;omega,by dsimp only;omega,hlt⟩,by dsimp only;omega,VS.toA⟩
      ·rw[if_neg hff] at hj1
       rw[decide_eq_false hff] at hF
       rw[←hj1] at hV
       dsimp only at hV
       subst hV
       refine dwk [(29,.q [.sl 2 (eTys bs[j].args) none,.v (.int .i64 bs[j].base)])] TF6_ok hnt fun K hK=>?_;refine And.intro (hb) ?_;refine And.intro (VLe.of_eq (by rw[hq])) ?_;refine dcl (hF) ?_;refine hK _ _ ?_;clear hK K;refine dw_cond (t:=true) rfl ?_;rw[if_pos rfl];refine dw_seq ?_;refine dwk [(36,.v (.int .i64 (most+1)))] TF6_ok hnt fun K hK=>?_;refine And.intro (dintE (IntWalk.i64_in _ (by omega))) ?_
       refine hK _ _ ?_;clear hK K;refine dw_ret ?_
       exact retv (N:=0) (.inr rfl) rfl (VLe.refl _) trivial
     ·rw[if_neg hn] at hj1
      rw[←hj1] at hV
      dsimp only at hV
      refine dwk [(18,.v (.bool true)),(22,.v (.bool false))] TF6_ok hnt fun K hK=>?_;refine And.intro (dtrue (by rw[eTys_len];omega)) ?_;refine And.intro (dfalse hn) ?_;refine hK _ _ ?_;clear hK K;refine dw_cond (t:=false) rfl ?_;rw[if_neg (by simp)];refine dw_exit ?_
      exact cutE_ok (Q:=RetOk TF6 [ResultVar.tmp 6] (.v (.int .i64 V)) []) ⟨n,by omega,hj3,hV.symm⟩ VS.toA
    ·rw[List.drop_eq_nil_of_le (by omega),fewB1] at hj1
     rw[←hj1] at hV
     dsimp only at hV
     refine dwk [(18,.v (.bool false))] TF6_ok hnt fun K hK=>?_;refine And.intro (dfalse (by rw[eTys_len];omega)) ?_;refine hK _ _ ?_;clear hK K;refine dw_cond (t:=false) rfl ?_;rw[if_neg (by simp)];refine dw_exit ?_
     exact cutE_ok (Q:=RetOk TF6 [ResultVar.tmp 6] (.v (.int .i64 V)) []) ⟨n,by omega,hj3,hV.symm⟩ VS.toA
   ·obtain⟨n0,hn1,hn2,hVn⟩:=n
    dsimp only
    rw[hVn]
    refine dw_seq (dw_seq ?_);refine dwk [] TF6_ok hnt fun _ z9=>z9 _ _ ?_;refine dw_block ?_
    refine dw_loop (ι:={ p:Nat×Int // fewMs most (a.drop p.1) (d-1) p.2=fewMs most a (d-1) n0∧(p.1:Int)+1≤p.2∧p.2≤2000000∧p.1≤a.length }) (fun p=>[(.t 1,.v (.int .i64 most)),(.t 2,.v (.int .i64 d)),(.t 3,.p 0 0),(.t 7,.v (.int .i64 p.1.2)),(.t 9,.v (.int .i64 (p.1.1:Int))),(.c 0 0,.sl 2 (eTys bs) none),(.c 0 1,.v (.int .i64 k)),(.c 0 2,.v (.int .i64 i)),(.c 0 3,.sl 4 (eTms a) none)]) 1 (fun p=>a.length-p.1.1) ⟨(0,n0),by simp,by dsimp only;omega,by dsimp only;omega,by simp⟩ VS.toA fun p=>?_
    obtain⟨⟨j,n⟩,hj1,hj2,hj3,hj4⟩:=p
    dsimp only at hj1 hj2 hj3 hj4 ⊢
    refine dw_seq (dw_seq ?_)
    by_cases hlt:j<a.length
    ·have hdr:a.drop j=a[j] :: a.drop (j+1):=List.drop_eq_getElem_cons hlt
     rw[hdr,fewMs] at hj1
     by_cases hn:n≤most
     ·rw[if_pos hn] at hj1
      have hih:=ih a[j] (List.getElem_mem hlt) (d-1) (by omega) (by omega)
      rw[eTm_eq] at hih
      have hbd:=fewM_le h1 1000 a[j] (d-1) (by omega) (by omega)
      have hbd2:most * ((1000:Nat):Int)≤1000000:=by
       have:most * ((1000:Nat):Int)=1000 * most:=by rw[Int.mul_comm];rfl
       omega
      refine dwk [(49,.v (.bool true)),(53,.v (.bool true))] TF6_ok hnt fun K hK=>?_;refine And.intro (dtrue (by rw[eTms_len];omega)) ?_;refine And.intro (dtrue hn) ?_;refine hK _ _ ?_;clear hK K;refine dw_cond (t:=true) rfl ?_;rw[if_pos rfl];refine dw_skip ?_;refine dw_seq (dw_block ?_);refine dwk [(61,.q [.sl 2 (eTys a[j].binds) none,.v (.int .i64 a[j].kind),.v (.int .i64 a[j].index),.sl 4 (eTms a[j].args) none]),(65,.v (.int .i64 (d-1))),(67,.v (.int .i64 (n+fewM most a[j] (d-1))))] TF6_ok hnt fun K hK=>?_
      refine And.intro (⟨by omega,by rw[eTms_len];omega⟩) ?_;refine And.intro (VLe.of_eq (by rw[Int.toNat_natCast,eTms_getD a j hlt,eTm_eq])) ?_;refine And.intro (dintE (IntWalk.i64_in _ (by omega))) ?_;refine dcl (hih) ?_;refine And.intro (dintE (IntWalk.i64_in _ (by omega))) ?_;refine hK _ _ ?_;clear hK K;refine dwk [(56,.v (.int .i64 ((j+1:Nat):Int)))] TF6_ok hnt fun K hK=>?_;refine And.intro (dintE (by rw[IntWalk.i64_in _ (by omega)];omega)) ?_
      refine hK _ _ ?_;clear hK K
      exact⟨⟨(j+1,n+fewM most a[j] (d-1)),hj1,by dsimp only;omega,by dsimp only;omega,hlt⟩,by dsimp only;omega,VS.toA⟩
     ·rw[if_neg hn] at hj1
      rw[←hj1]
      refine dwk [(49,.v (.bool true)),(53,.v (.bool false))] TF6_ok hnt fun K hK=>?_;refine And.intro (dtrue (by rw[eTms_len];omega)) ?_;refine And.intro (dfalse hn) ?_;refine hK _ _ ?_;clear hK K;refine dw_cond (t:=false) rfl ?_;rw[if_neg (by simp)];refine dw_exit ?_;refine dw_seq ?_;refine dwk [] TF6_ok hnt fun _ z9=>z9 _ _ ?_;refine dw_ret ?_
      exact retv (N:=0) (.inr rfl) rfl (VLe.refl _) trivial
    ·rw[List.drop_eq_nil_of_le (by omega),fewMs] at hj1
     rw[←hj1]
     refine dwk [(49,.v (.bool false))] TF6_ok hnt fun K hK=>?_;refine And.intro (dfalse (by rw[eTms_len];omega)) ?_;refine hK _ _ ?_;clear hK K;refine dw_cond (t:=false) rfl ?_;rw[if_neg (by simp)];refine dw_exit ?_;refine dw_seq ?_;refine dwk [] TF6_ok hnt fun _ z9=>z9 _ _ ?_;refine dw_ret ?_
     exact retv (N:=0) (.inr rfl) rfl (VLe.refl _) trivial
theorem Few6_d (most:Int)(h1:1≤most)(h2:most≤1000)(t:Tm)(d:Int)(h3:-1000≤d)(h4:d≤1000):PureC Tryz.prog 8 [.ag (eTm t),.v (.int .i64 most),.v (.int .i64 d)] (.v (.bool (decide (fewM most t d≤most)))):=by
 have h:=few6_d most h1 h2 t d h3 h4
 rw[eTm_eq] at h ⊢
 refine call_of_dw 0 13 [ResultVar.tmp 6] TF6_ok (by kernel_rfl) Tryz.func8 rfl Tryz.ntmps8 rfl (by simp) ?dwords ?dbody
 case dwords=>simp[wordsOk,D.ok,D.oks,rnames,eTys_ok,eTms_ok]
 case dbody=>
  intro cx hnt hn0
  refine dw_seq ?_;refine dwk [] TF6_ok hnt fun _ z9=>z9 _ _ ?_;refine dw_seq ?_;refine dwk [] TF6_ok hnt fun K hK=>?_;refine dcl (h) ?_;refine hK _ _ ?_;clear hK K;refine dw_ret ?_
  exact retv (N:=0) (.inr rfl) rfl (VLe.refl _) trivial
def fewB (t:Tm):Bool:=decide (fewM 150 t 70≤150)
set_option maxHeartbeats 1000000 in
theorem lawFew_d (l:List Tm)(hl:l.length≤1000000):PureC Tryz.prog 77 [.sl 4 (eTms l) none] (.v (.bool (l.all fewB))):=by
 refine call_of_dw 0 16 [ResultVar.tmp 2] TF6_ok (by kernel_rfl) Tryz.func77 rfl Tryz.ntmps77 rfl (by simp) ?dwords ?dbody
 case dwords=>simp[wordsOk,D.ok,D.oks,rnames,eTms_ok]
 case dbody=>
  intro cx hnt hn0
  refine dw_seq ?_;refine dwk [] TF6_ok hnt fun _ z9=>z9 _ _ ?_;refine dw_seq (dw_seq ?_);refine dwk [] TF6_ok hnt fun _ z9=>z9 _ _ ?_;refine dw_block ?_
  refine dw_loop (ι:={ j:Nat // ∀ i (h:i<l.length),i<j→fewB l[i]=true }) (fun j=>[(.t 0,.sl 4 (eTms l) none),(.t 3,.v (.int .i64 (j.1:Int)))]) 1 (fun j=>l.length-j.1) ⟨0,fun i h1 h2=>by omega⟩ VS.toA fun j=>?_
  obtain⟨j,hj⟩:=j
  dsimp only
  refine dw_seq (dw_seq ?_)
  by_cases hlt:j<l.length
  ·have hi:=Few6_d 150 (by decide) (by decide) l[j] 70 (by decide) (by decide)
   rw[eTm_eq] at hi
   have hq:(eTms l).getD (j:Int).toNat []=[.sl 2 (eTys l[j].binds) none,.v (.int .i64 l[j].kind),.v (.int .i64 l[j].index),.sl 4 (eTms l[j].args) none]:=by rw[Int.toNat_natCast,eTms_getD l j hlt,eTm_eq]
   have hb:(0:Int)≤(j:Int)∧(j:Int)<((eTms l).length:Int):=⟨by omega,by rw[eTms_len];omega⟩
   refine dwk [(7,.v (.bool true))] TF6_ok hnt fun K hK=>?_;refine And.intro (dtrue (by rw[eTms_len];omega)) ?_;refine hK _ _ ?_;clear hK K;refine dw_cond (t:=true) rfl ?_;rw[if_pos rfl];refine dw_skip ?_;refine dw_seq (dw_block (dw_seq ?_))
   cases hf:fewB l[j] with
   | true=>
    have hf2:=hf
    unfold fewB at hf2
    rw[hf2] at hi
    refine dwk [(12,.q [.sl 2 (eTys l[j].binds) none,.v (.int .i64 l[j].kind),.v (.int .i64 l[j].index),.sl 4 (eTms l[j].args) none])] TF6_ok hnt fun K hK=>?_;refine And.intro (hb) ?_;refine And.intro (VLe.of_eq (by rw[hq])) ?_;refine dcl (hi) ?_;refine hK _ _ ?_;clear hK K;refine dw_cond (t:=false) rfl ?_;rw[if_neg (by simp)];refine dw_skip ?_;refine dwk [(9,.v (.int .i64 ((j+1:Nat):Int)))] TF6_ok hnt fun K hK=>?_
    refine And.intro (dintE (by rw[IntWalk.i64_in _ (by omega)];omega)) ?_;refine hK _ _ ?_;clear hK K
    refine⟨⟨j+1,fun i h1 h2=>?_⟩,by dsimp only;omega,VS.toA⟩
    by_cases he:i=j
    ·subst he;exact hf
    ·exact hj i h1 (by omega)
   | false=>
    have hf2:=hf
    unfold fewB at hf2
    rw[hf2] at hi
    have ha:l.all fewB=false:=by rw[List.all_eq_false];exact⟨l[j],List.getElem_mem hlt,by rw[hf];simp⟩
    rw[ha]
    refine dwk [(12,.q [.sl 2 (eTys l[j].binds) none,.v (.int .i64 l[j].kind),.v (.int .i64 l[j].index),.sl 4 (eTms l[j].args) none])] TF6_ok hnt fun K hK=>?_;refine And.intro (hb) ?_;refine And.intro (VLe.of_eq (by rw[hq])) ?_;refine dcl (hi) ?_;refine hK _ _ ?_;clear hK K;refine dw_cond (t:=true) rfl ?_;rw[if_pos rfl];refine dw_seq ?_;refine dwk [] TF6_ok hnt fun _ z9=>z9 _ _ ?_
    refine dw_ret ?_
    exact retv (N:=0) (.inr rfl) rfl (VLe.refl _) trivial
  ·have ha:l.all fewB=true:=by
    rw[List.all_eq_true]
    intro t ht
    obtain⟨i,hi,rfl⟩:=List.getElem_of_mem ht
    exact hj i hi (by omega)
   rw[ha]
   refine dwk [(7,.v (.bool false))] TF6_ok hnt fun K hK=>?_;refine And.intro (dfalse (by rw[eTms_len];omega)) ?_;refine hK _ _ ?_;clear hK K;refine dw_cond (t:=false) rfl ?_;rw[if_neg (by simp)];refine dw_exit ?_;refine dw_seq ?_;refine dwk [] TF6_ok hnt fun _ z9=>z9 _ _ ?_;refine dw_ret ?_
   exact retv (N:=0) (.inr rfl) rfl (VLe.refl _) trivial
theorem fewB1_full {most d:Int}(hm:1≤most)(hd:d≤1000):∀ (l:List Ty) (n r:Int),fewB1 most d l n=some r→r≤most→r=n+Ty.sizes l
 | [],n,r,h,_=>by rw[fewB1] at h;cases h;simp[Ty.sizes]
 | t :: l,n,r,h,hr=>by
  rw[fewB1] at h
  split at h
  ·split at h
   ·have:=fewB1_full hm hd l _ r h hr
    rw[this,Ty.sizes];omega
   ·cases h
  ·cases h;omega
theorem fewMs_full {most:Int}:∀ (l:List Tm) (d n:Int),(∀ t∈l,fewM most t d≤most→(t.full:Int)=fewM most t d∧(t.depth:Int)≤d)→(∀ t∈l,1≤fewM most t d)→1≤n→fewMs most l d n≤most→fewMs most l d n=n+Tm.fulls l∧(∀ t∈l,(t.depth:Int)≤d)∧n≤most
 | [],d,n,_,_,_,h=>by rw[fewMs] at h ⊢;exact⟨by simp[Tm.fulls],nofun,h⟩
 | t :: l,d,n,h,h1,hn,hf=>by
  rw[fewMs] at hf ⊢
  split at hf
  ·rename_i hm
   rw[if_pos hm]
   have h2:=h1 t (by simp)
   obtain⟨h3,h4,h5⟩:=fewMs_full l d _ (fun u hu=>h u (by simp[hu])) (fun u hu=>h1 u (by simp[hu])) (by omega) hf
   obtain⟨h6,h7⟩:=h t (by simp) (by omega)
   refine⟨by rw[h3,Tm.fulls];omega,fun u hu=>?_,hm⟩
   rcases List.mem_cons.1 hu with rfl | hu
   ·exact h7
   ·exact h4 u hu
  ·rename_i hm;omega
theorem depths_max {d:Int}(hd:0≤d):∀ (l:List Tm),(∀ t∈l,(t.depth:Int)≤d)→(Tm.depths l:Int)≤d
 | [],_=>by simp[Tm.depths];exact hd
 | t :: l,h=>by
  have h1:=h t (by simp)
  have h2:=depths_max hd l fun u hu=>h u (by simp[hu])
  simp only[Tm.depths];omega
theorem fewM_full {most:Int}(hm:1≤most):∀ (k:Nat) (t:Tm) (d:Int),k≤1000→d≤k→fewM most t d≤most→(t.full:Int)=fewM most t d∧(t.depth:Int)≤d
 | 0,.mk bs kd i a,d,hk,hd,h=>by rw[fewM,if_pos (by omega)] at h;omega
 | k+1,.mk bs kd i a,d,hk,hd,h=>by
  rw[fewM] at h ⊢
  split at h
  ·omega
  ·rename_i hp
   rw[if_neg hp]
   cases hb:fewB1 most d bs 1 with
   | none=>rw[hb] at h;dsimp only at h;omega
   | some n=>
    rw[hb] at h
    dsimp only at h ⊢
    have hn:=fewB1_le hm (by omega) bs 1 (by omega) (by omega) n hb
    obtain⟨h3,h4,h5⟩:=fewMs_full a (d-1) n (fun t _=>fewM_full hm k t (d-1) (by omega) (by omega)) (fun t _=>(fewM_le hm k t (d-1) (by omega) (by omega)).1) hn.1 h
    have h6:=fewB1_full hm (by omega) bs 1 n hb h5
    have h7:=depths_max (by omega) a h4
    rw[Tm.full_eq,Tm.depth_eq]
    constructor
    ·omega
    ·omega
theorem fewB_full {t:Tm}(h:fewB t=true):t.full≤150∧t.depth≤70:=by
 unfold fewB at h
 rw[decide_eq_true_eq] at h
 obtain⟨h1,h2⟩:=fewM_full (by decide) 1000 t 70 (by decide) (by decide) h
 omega
def TL10_3:TI:=⟨1,false,[Value.int IntKind.i64 0],[],none,8,2,none,false⟩
theorem TL10_3_ok:TypOk Tryz.prog 3 TL10_3:=by constructor <;> kernel_rfl
def TL10_67:TI:=⟨1,false,[Value.slice none 0 0],[],some 156,24,5,none,false⟩
theorem TL10_67_ok:TypOk Tryz.prog 67 TL10_67:=by constructor <;> kernel_rfl
def TL10_156:TI:=⟨5,true,[Value.int IntKind.i64 0,Value.slice none 0 0,Value.int IntKind.i64 0,Value.int IntKind.i64 0,Value.slice none 0 0],[(0,1,false),(1,4,true)],none,72,6,none,false⟩
theorem TL10_156_ok:TypOk Tryz.prog 156 TL10_156:=by constructor <;> kernel_rfl
def TL10_29:TI:=⟨4,true,[Value.slice none 0 0,Value.int IntKind.i64 0,Value.int IntKind.i64 0,Value.slice none 0 0],[(0,1,false),(1,2,true),(3,1,false)],none,64,6,none,false⟩
theorem TL10_29_ok:TypOk Tryz.prog 29 TL10_29:=by constructor <;> kernel_rfl
def TL10_27:TI:=⟨1,false,[Value.slice none 0 0],[],some 29,24,5,none,false⟩
theorem TL10_27_ok:TypOk Tryz.prog 27 TL10_27:=by constructor <;> kernel_rfl
def TL10_51:TI:=⟨1,false,[Value.slice none 0 0],[],some 79,24,5,none,false⟩
theorem TL10_51_ok:TypOk Tryz.prog 51 TL10_51:=by constructor <;> kernel_rfl
def TL10_79:TI:=⟨5,true,[Value.int IntKind.i64 0,Value.slice none 0 0,Value.int IntKind.i64 0,Value.int IntKind.i64 0,Value.slice none 0 0],[(0,1,false),(1,4,true)],none,72,6,none,false⟩
theorem TL10_79_ok:TypOk Tryz.prog 79 TL10_79:=by constructor <;> kernel_rfl
def TL10:List (Nat×TI):=[(3,TL10_3),(67,TL10_67),(156,TL10_156),(29,TL10_29),(27,TL10_27),(51,TL10_51),(79,TL10_79)]
theorem TL10_ok:TabOk Tryz.prog TL10:=((((((((TabOk.nil _).cons TL10_79_ok).cons TL10_51_ok).cons TL10_27_ok).cons TL10_29_ok).cons TL10_156_ok).cons TL10_67_ok).cons TL10_3_ok)
theorem to6_d (t:Tm)(h:t.full≤900000):PureC Tryz.prog 13 [.ag (eTm t)] (.ag (eTm t)):=to6D_d t h
set_option maxHeartbeats 1000000 in
theorem to9_d (l:List (Int×Tm))(hl:l.length≤9223372036854775807)(hf:∀ p∈l.take 10,p.2.full≤900000):PureC Tryz.prog 27 [.sl 5 (ePairs l) none] (.sl 5 (ePairs (l.take 10)) none):=by
 refine call_of_dw 0 31 [ResultVar.tmp 2] TL10_ok (by kernel_rfl) Tryz.func27 rfl Tryz.ntmps27 rfl (by simp) ?dwords ?dbody
 case dwords=>simp[wordsOk,D.ok,D.oks,rnames,ePairs_ok]
 case dbody=>
  intro cx hnt hn0
  refine dw_seq ?_;refine dwk [] TL10_ok hnt fun _ z9=>z9 _ _ ?_;refine dw_seq ?_;refine dwk [] TL10_ok hnt fun _ z9=>z9 _ _ ?_;refine dw_seq (dw_seq ?_);refine dwk [] TL10_ok hnt fun _ z9=>z9 _ _ ?_;refine dw_block ?_
  refine dw_loop (ι:={ j:Nat // j≤10 }) (fun j=>(.t 0,.sl 5 (ePairs l) none) :: (.t 4,.v (.int .i64 (j.1:Int))) :: (.t 3,.sl 5 (ePairs (l.take j.1)) (some 3)) :: (.r 3,.rw 79 5 (l.take j.1).length) :: []) 4 (fun j=>l.length-j.1) ⟨0,by decide⟩ (VS.trans (VS.rowT (x:=3) (by rw[hnt];decide) 79 5 rfl) VS.toA) fun j=>?_
  obtain⟨j,hj⟩:=j
  dsimp only
  refine dw_seq (dw_seq ?_)
  have end_:¬ (j<l.length∧j<10)→l.take j=l.take 10:=fun h=>by
   by_cases h1:j<10
   ·have:l.length≤j:=by omega
    rw[List.take_of_length_le this,List.take_of_length_le (by omega)]
   ·rw[show j=10 by omega]
  by_cases hlt:j<l.length
  ·by_cases h10:j<10
   ·have hjt:l[j]∈l.take 10:=by
     have:j<(l.take 10).length:=by rw[List.length_take];omega
     have h2:(l.take 10)[j]=l[j]:=by simp
     rw[←h2];exact List.getElem_mem this
    have ho:=to6_d l[j].2 (hf _ hjt)
    rw[eTm_eq] at ho
    have hq:(ePairs l).getD (j:Int).toNat []=[.v (.int .i64 l[j].1),.sl 2 (eTys l[j].2.binds) none,.v (.int .i64 l[j].2.kind),.v (.int .i64 l[j].2.index),.sl 4 (eTms l[j].2.args) none]:=by rw[Int.toNat_natCast,ePairs_getD l j hlt,ePair_eq]
    have hb:(0:Int)≤(j:Int)∧(j:Int)<((ePairs l).length:Int):=⟨by omega,by rw[ePairs_len];omega⟩
    refine dwk [(8,.v (.bool true)),(11,.v (.bool true))] TL10_ok hnt fun K hK=>?_;refine And.intro (dtrue (by rw[ePairs_len];omega)) ?_;refine And.intro (dtrue (by omega)) ?_;refine hK _ _ ?_;clear hK K;refine dw_cond (t:=true) rfl ?_;rw[if_pos rfl];refine dw_skip ?_;refine dw_seq (dw_block ?_);refine dwkD [(18,.q [.v (.int .i64 l[j].1),.sl 2 (eTys l[j].2.binds) none,.v (.int .i64 l[j].2.kind),.v (.int .i64 l[j].2.index),.sl 4 (eTms l[j].2.args) none]),(23,.q [.v (.int .i64 l[j].1),.sl 2 (eTys l[j].2.binds) none,.v (.int .i64 l[j].2.kind),.v (.int .i64 l[j].2.index),.sl 4 (eTms l[j].2.args) none]),(29,.sl 5 (ePairs (l.take (j+1))) (some 3))] TL10_ok hnt fun K hK=>?_
    refine And.intro (hb) ?_;refine And.intro (VLe.of_eq (by rw[hq])) ?_;refine And.intro (hb) ?_;refine And.intro (VLe.of_eq (by rw[hq])) ?_;refine dcl (ho) ?_;refine And.intro (⟨by rw[ePairs_len],by rw[ePairs_len,List.length_take];simp;omega⟩) ?_;refine And.intro (VLe.of_eq (by rw[ePairs_take l j hlt,ePair_eq])) ?_;refine hK _ _ (by kernel_rfl) ?_;clear hK K;refine dwk [(14,.v (.int .i64 ((j+1:Nat):Int)))] TL10_ok hnt fun K hK=>?_
    refine And.intro (dintE (by rw[IntWalk.i64_in _ (by omega)];omega)) ?_;refine hK _ _ ?_;clear hK K
    have hl2:(l.take (j+1)).length=j+1:=by rw[List.length_take];omega
    have hl3:(ePairs (l.take j)).length=j:=by rw[ePairs_len,List.length_take];omega
    refine⟨⟨j+1,by omega⟩,by dsimp only;omega,?_⟩
    rw[hl2]
    exact(by try simp only[List.length_append,List.length_take,List.length_cons,List.length_nil,Nat.zero_add,hl3];exact VS.toA)
   ·skip
    refine dwk [(8,.v (.bool true)),(11,.v (.bool false))] TL10_ok hnt fun K hK=>?_;refine And.intro (dtrue (by rw[ePairs_len];omega)) ?_;refine And.intro (dfalse (by omega)) ?_;refine hK _ _ ?_;clear hK K;refine dw_cond (t:=false) rfl ?_;rw[if_neg (by simp)];refine dw_exit ?_;refine dw_seq ?_
    rw[end_ (fun h=>h10 h.2)]
    refine dwk [] TL10_ok hnt fun _ z9=>z9 _ _ ?_;refine dw_ret ?_
    exact retv (N:=0) (.inr rfl) rfl (by repeat first | exact VLe.refl _ | exact VLe.nil _ | exact VLe.untag _ _ _ | refine VLe.ag ?_ | refine VLe.tu ?_ | refine VLeL.cons ?_ ?_ | exact VLeL.nil) trivial
  ·skip
   refine dwk [(8,.v (.bool false))] TL10_ok hnt fun K hK=>?_;refine And.intro (dfalse (by rw[ePairs_len];omega)) ?_;refine hK _ _ ?_;clear hK K;refine dw_cond (t:=false) rfl ?_;rw[if_neg (by simp)];refine dw_exit ?_;refine dw_seq ?_
   rw[end_ (fun h=>hlt h.1)]
   refine dwk [] TL10_ok hnt fun _ z9=>z9 _ _ ?_;refine dw_ret ?_
   exact retv (N:=0) (.inr rfl) rfl (by repeat first | exact VLe.refl _ | exact VLe.nil _ | exact VLe.untag _ _ _ | refine VLe.ag ?_ | refine VLe.tu ?_ | refine VLeL.cons ?_ ?_ | exact VLeL.nil) trivial
def few9 (l:List (Int×Tm)):Bool:=(l.take 10).all fun p=>fewB p.2&&lowB p.2
set_option maxHeartbeats 1000000 in
theorem few9_d (l:List (Int×Tm))(hl:l.length≤9223372036854775807)(hw:∀ p∈l.take 10,fewB p.2=true→Wide p.2):PureC Tryz.prog 25 [.sl 5 (ePairs l) none] (.v (.bool (few9 l))):=by
 refine call_of_dw 0 32 [ResultVar.tmp 2] TL10_ok (by kernel_rfl) Tryz.func25 rfl Tryz.ntmps25 rfl (by simp) ?dwords ?dbody
 case dwords=>simp[wordsOk,D.ok,D.oks,rnames,ePairs_ok]
 case dbody=>
  intro cx hnt hn0
  refine dw_seq ?_;refine dwk [] TL10_ok hnt fun _ z9=>z9 _ _ ?_;refine dw_seq (dw_seq ?_);refine dwk [] TL10_ok hnt fun _ z9=>z9 _ _ ?_;refine dw_block ?_
  refine dw_loop (ι:={ j:Nat // j≤10∧∀ i (h:i<l.length),i<j→(fewB l[i].2&&lowB l[i].2)=true }) (fun j=>[(.t 0,.sl 5 (ePairs l) none),(.t 3,.v (.int .i64 (j.1:Int)))]) 1 (fun j=>l.length-j.1) ⟨0,by decide,fun i h1 h2=>by omega⟩ VS.toA fun j=>?_
  obtain⟨j,hj10,hj⟩:=j
  dsimp only
  refine dw_seq (dw_seq ?_)
  have end_:¬ (j<l.length∧j<10)→few9 l=true:=fun h=>by
   unfold few9
   rw[List.all_eq_true]
   intro p hp
   obtain⟨i,hi,rfl⟩:=List.getElem_of_mem hp
   rw[List.length_take] at hi
   have:=hj i (by omega) (by omega)
   simpa using this
  by_cases hlt:j<l.length
  ·by_cases h10:j<10
   ·have hjt:l[j]∈l.take 10:=by
     have:j<(l.take 10).length:=by rw[List.length_take];omega
     have h2:(l.take 10)[j]=l[j]:=by simp
     rw[←h2];exact List.getElem_mem this
    have hF:=lawFew_d [l[j].2] (by simp)
    have hq:(ePairs l).getD (j:Int).toNat []=[.v (.int .i64 l[j].1),.sl 2 (eTys l[j].2.binds) none,.v (.int .i64 l[j].2.kind),.v (.int .i64 l[j].2.index),.sl 4 (eTms l[j].2.args) none]:=by rw[Int.toNat_natCast,ePairs_getD l j hlt,ePair_eq]
    have hb:(0:Int)≤(j:Int)∧(j:Int)<((ePairs l).length:Int):=⟨by omega,by rw[ePairs_len];omega⟩
    have hs:∀ g,VLe (.sl 4 [[.sl 2 (eTys l[j].2.binds) none,.v (.int .i64 l[j].2.kind),.v (.int .i64 l[j].2.index),.sl 4 (eTms l[j].2.args) none]] g) (.sl 4 (eTms [l[j].2]) none):=fun g=>by
     rw[eTms,eTms,eTm_eq];exact VLe.untag _ _ _
    refine dwk [(7,.v (.bool true)),(10,.v (.bool true))] TL10_ok hnt fun K hK=>?_;refine And.intro (dtrue (by rw[ePairs_len];omega)) ?_;refine And.intro (dtrue (by omega)) ?_;refine hK _ _ ?_;clear hK K;refine dw_cond (t:=true) rfl ?_;rw[if_pos rfl];refine dw_skip ?_;refine dw_seq (dw_block (dw_seq ?_))
    cases hf:fewB l[j].2 with
    | false=>
     have hn:few9 l=false:=by
      unfold few9;rw[List.all_eq_false];exact⟨l[j],hjt,by rw[hf];simp⟩
     rw[hn]
     simp only[List.all_cons,List.all_nil,Bool.and_true,hf] at hF
     refine dwk [(16,.q [.v (.int .i64 l[j].1),.sl 2 (eTys l[j].2.binds) none,.v (.int .i64 l[j].2.kind),.v (.int .i64 l[j].2.index),.sl 4 (eTms l[j].2.args) none]),(19,.sl 4 (eTms [l[j].2]) none)] TL10_ok hnt fun K hK=>?_;refine And.intro (hb) ?_;refine And.intro (VLe.of_eq (by rw[hq])) ?_;refine And.intro (hs _) ?_;refine dcl (hF) ?_;refine hK _ _ ?_;clear hK K;refine dw_cond (t:=true) rfl ?_
     rw[if_pos rfl];refine dw_seq ?_;refine dwk [] TL10_ok hnt fun _ z9=>z9 _ _ ?_;refine dw_ret ?_
     exact retv (N:=0) (.inr rfl) rfl (VLe.refl _) trivial
    | true=>
     have hL:=low_d [l[j].2] (by simp) (fun t ht=>by simp at ht;subst ht;exact hw _ hjt hf)
     simp only[List.all_cons,List.all_nil,Bool.and_true,hf] at hF
     simp only[lowsB,Bool.and_true] at hL
     cases hlo:lowB l[j].2 with
     | false=>
      have hn:few9 l=false:=by
       unfold few9;rw[List.all_eq_false];exact⟨l[j],hjt,by rw[hlo];simp⟩
      rw[hn]
      rw[hlo] at hL
      refine dwk [(16,.q [.v (.int .i64 l[j].1),.sl 2 (eTys l[j].2.binds) none,.v (.int .i64 l[j].2.kind),.v (.int .i64 l[j].2.index),.sl 4 (eTms l[j].2.args) none]),(19,.sl 4 (eTms [l[j].2]) none),(25,.q [.v (.int .i64 l[j].1),.sl 2 (eTys l[j].2.binds) none,.v (.int .i64 l[j].2.kind),.v (.int .i64 l[j].2.index),.sl 4 (eTms l[j].2.args) none]),(28,.sl 4 (eTms [l[j].2]) none)] TL10_ok hnt fun K hK=>?_
      refine And.intro (hb) ?_;refine And.intro (VLe.of_eq (by rw[hq])) ?_;refine And.intro (hs _) ?_;refine dcl (hF) ?_;refine And.intro (hb) ?_;refine And.intro (VLe.of_eq (by rw[hq])) ?_;refine And.intro (hs _) ?_;refine dcl (hL) ?_;refine hK _ _ ?_;clear hK K;refine dw_cond (t:=true) rfl ?_;rw[if_pos rfl];refine dw_seq ?_;refine dwk [] TL10_ok hnt fun _ z9=>z9 _ _ ?_
      refine dw_ret ?_
      exact retv (N:=0) (.inr rfl) rfl (VLe.refl _) trivial
     | true=>
      rw[hlo] at hL
      refine dwk [(16,.q [.v (.int .i64 l[j].1),.sl 2 (eTys l[j].2.binds) none,.v (.int .i64 l[j].2.kind),.v (.int .i64 l[j].2.index),.sl 4 (eTms l[j].2.args) none]),(19,.sl 4 (eTms [l[j].2]) none),(25,.q [.v (.int .i64 l[j].1),.sl 2 (eTys l[j].2.binds) none,.v (.int .i64 l[j].2.kind),.v (.int .i64 l[j].2.index),.sl 4 (eTms l[j].2.args) none]),(28,.sl 4 (eTms [l[j].2]) none)] TL10_ok hnt fun K hK=>?_
      refine And.intro (hb) ?_;refine And.intro (VLe.of_eq (by rw[hq])) ?_;refine And.intro (hs _) ?_;refine dcl (hF) ?_;refine And.intro (hb) ?_;refine And.intro (VLe.of_eq (by rw[hq])) ?_;refine And.intro (hs _) ?_;refine dcl (hL) ?_;refine hK _ _ ?_;clear hK K;refine dw_cond (t:=false) rfl ?_;rw[if_neg (by simp)];refine dw_skip ?_;refine dwk [(13,.v (.int .i64 ((j+1:Nat):Int)))] TL10_ok hnt fun K hK=>?_
      refine And.intro (dintE (by rw[IntWalk.i64_in _ (by omega)];omega)) ?_;refine hK _ _ ?_;clear hK K
      refine⟨⟨j+1,by omega,fun i h1 h2=>?_⟩,by dsimp only;omega,VS.toA⟩
      by_cases he:i=j
      ·subst he;rw[hf,hlo];rfl
      ·exact hj i h1 (by omega)
   ·rw[end_ (fun h=>h10 h.2)]
    refine dwk [(7,.v (.bool true)),(10,.v (.bool false))] TL10_ok hnt fun K hK=>?_;refine And.intro (dtrue (by rw[ePairs_len];omega)) ?_;refine And.intro (dfalse (by omega)) ?_;refine hK _ _ ?_;clear hK K;refine dw_cond (t:=false) rfl ?_;rw[if_neg (by simp)];refine dw_exit ?_;refine dw_seq ?_;refine dwk [] TL10_ok hnt fun _ z9=>z9 _ _ ?_;refine dw_ret ?_
    exact retv (N:=0) (.inr rfl) rfl (VLe.refl _) trivial
  ·rw[end_ (fun h=>hlt h.1)]
   refine dwk [(7,.v (.bool false))] TL10_ok hnt fun K hK=>?_;refine And.intro (dfalse (by rw[ePairs_len];omega)) ?_;refine hK _ _ ?_;clear hK K;refine dw_cond (t:=false) rfl ?_;rw[if_neg (by simp)];refine dw_exit ?_;refine dw_seq ?_;refine dwk [] TL10_ok hnt fun _ z9=>z9 _ _ ?_;refine dw_ret ?_
   exact retv (N:=0) (.inr rfl) rfl (VLe.refl _) trivial
namespace Pn
end Pn
namespace Pn
end Pn
namespace Pn
def hit (p:Tm)(s:Spot):Bool:=decide ((mAll [(p,nb s.1)]).2=0)
theorem find_at {α:Type}{f:α→Bool}{l:List α}{j:Nat}(hj:j<l.length)(h:∀ i (hi:i<l.length),i<j→f l[i]=false)(hf:f l[j]=true):l.find? f=some l[j]:=by
 rw[List.find?_eq_some_iff_append]
 refine⟨hf,l.take j,l.drop (j+1),?_,fun x hx=>?_⟩
 ·rw[←List.drop_eq_getElem_cons hj,List.take_append_drop]
 ·obtain⟨i,hi,rfl⟩:=List.getElem_of_mem hx
  rw[List.length_take] at hi
  rw[List.getElem_take,h i (by omega) (by omega)];rfl
end Pn
namespace Pn
variable {C M:List Ty}
theorem isOf_low (t:Tm):∀ (X:List Ty) (u:Ty),IsOf C M t X u→X.length+t.full≤900000→lowB t=true:=by
 induction t using Tm.ind with
 | h b k i a ih=>
  intro X u ht hz
  obtain⟨rfl,h,h1,h2,h3⟩:=isOf_mk.1 ht
  rw[Tm.full_eq] at hz
  have hbl:=Ty.le_sizes u.args
  have hal:(X++u.args).length=X.length+u.args.length:=List.length_append
  rw[lowB_eq]
  show (!(decide (k=0)&&decide (900000<i))&&lowsB a)=true
  have hi:¬ (k=0∧900000<i):=by
   rintro⟨rfl,hi⟩
   obtain⟨n,rfl⟩:∃ n:Nat,i=n:=⟨i.toNat,by omega⟩
   rw[headTy_0] at h1
   have:=(List.getElem?_eq_some_iff.1 h1).1
   rw[List.length_reverse] at this
   omega
  have e1:(!(decide (k=0)&&decide (900000<i)))=true:=by
   rw[Bool.not_eq_true',←Bool.not_eq_true,Bool.and_eq_true,decide_eq_true_eq,decide_eq_true_eq];exact hi
  rw[e1,Bool.true_and,lowsB_all,List.all_eq_true]
  intro v hv
  obtain⟨j,hj,rfl⟩:=List.getElem_of_mem hv
  have hl:=isOfs_len h3
  have:=Tm.full_mem (List.getElem_mem hj)
  exact ih _ (List.getElem_mem hj) _ _ ((isOfs_iff.1 h3).2 j hj (by omega)) (by omega)
end Pn
def TS9_22:TI:=⟨1,false,[Value.slice none 0 0],[],some 103,24,5,none,false⟩
theorem TS9_22_ok:TypOk Tryz.prog 22 TS9_22:=by constructor <;> kernel_rfl
def TS9_3:TI:=⟨1,false,[Value.int IntKind.i64 0],[],none,8,2,none,false⟩
theorem TS9_3_ok:TypOk Tryz.prog 3 TS9_3:=by constructor <;> kernel_rfl
def TS9_24:TI:=⟨3,true,[Value.int IntKind.i64 0,Value.slice none 0 0,Value.slice none 0 0],[(0,1,false),(1,1,false),(2,1,false)],none,56,6,none,false⟩
theorem TS9_24_ok:TypOk Tryz.prog 24 TS9_24:=by constructor <;> kernel_rfl
def TS9_103:TI:=⟨2,true,[Value.slice none 0 0,Value.int IntKind.i64 0],[(0,1,false),(1,1,false)],none,32,6,none,false⟩
theorem TS9_103_ok:TypOk Tryz.prog 103 TS9_103:=by constructor <;> kernel_rfl
def TS9:List (Nat×TI):=[(22,TS9_22),(3,TS9_3),(24,TS9_24),(103,TS9_103)]
theorem TS9_ok:TabOk Tryz.prog TS9:=(((((TabOk.nil _).cons TS9_103_ok).cons TS9_24_ok).cons TS9_3_ok).cons TS9_22_ok)
def few4B (t:Ty):Bool:=decide (fewT 60 t 60≤60)
theorem fewT60 {t:Ty}(h:few4B t=true):t.size≤60:=by
 unfold few4B at h
 rw[decide_eq_true_eq] at h
 have:=fewT_size (by decide) 1000 t 60 (by decide) h
 omega
set_option maxHeartbeats 1000000 in
theorem small_d (b:Int)(C M X:List Ty)(h1:C.length≤20)(h2:M.length≤20)(h3:X.length≤20):PureC Tryz.prog 9 [.ag [.v (.int .i64 b),.sl 2 (eTys C) none,.sl 2 (eTys M) none],.sl 2 (eTys X) none] (.v (.bool (((C++M)++X).all few4B))):=by
 have hB:=rbehind_d C M (by omega)
 have hB2:=rbehind_d (C++M) X (by simp;omega)
 obtain⟨l,hl⟩:∃ l,(C++M)++X=l:=⟨_,rfl⟩
 rw[hl] at hB2 ⊢
 have hll:l.length≤60:=by rw[←hl];simp;omega
 refine call_of_dw 0 41 [ResultVar.tmp 4] TS9_ok (by kernel_rfl) Tryz.func9 rfl Tryz.ntmps9 rfl (by simp) ?dwords ?dbody
 case dwords=>simp[wordsOk,D.ok,D.oks,rnames,eTys_ok]
 case dbody=>
  intro cx hnt hn0
  refine dw_seq ?_;refine dwk [] TS9_ok hnt fun _ z9=>z9 _ _ ?_;refine dw_seq (dw_seq ?_);refine dwk [(10,.v (.bool false)),(15,.v (.bool false)),(20,.v (.bool false))] TS9_ok hnt fun K hK=>?_;refine And.intro (dfalse (by rw[eTys_len];omega)) ?_;refine And.intro (dfalse (by rw[eTys_len];omega)) ?_;refine And.intro (dfalse (by rw[eTys_len];omega)) ?_;refine hK _ _ ?_;clear hK K
  refine dw_cond (t:=false) rfl ?_;rw[if_neg (by simp)];refine dw_skip ?_;refine dw_seq ?_;refine dwk [] TS9_ok hnt fun K hK=>?_;refine dcl (hB) ?_;refine dcl (hB2) ?_;refine hK _ _ ?_;clear hK K;refine dw_seq (dw_seq ?_);refine dwk [] TS9_ok hnt fun _ z9=>z9 _ _ ?_;refine dw_block ?_
  refine dw_loop (ι:={ j:Nat // ∀ i (h:i<l.length),i<j→few4B l[i]=true }) (fun j=>[(.t 5,.sl 2 (eTys l) none),(.t 6,.v (.int .i64 (j.1:Int)))]) 1 (fun j=>l.length-j.1) ⟨0,fun i h1 h2=>by omega⟩ VS.toA fun j=>?_
  obtain⟨j,hj⟩:=j
  dsimp only
  refine dw_seq (dw_seq ?_)
  by_cases hlt:j<l.length
  ·have hi:=Few4_d 60 (by decide) (by decide) l[j] 60 (by decide) (by decide)
   rw[eTy_eq] at hi
   have hq:(eTys l).getD (j:Int).toNat []=[.sl 2 (eTys l[j].args) none,.v (.int .i64 l[j].base)]:=by rw[Int.toNat_natCast,eTys_getD l j hlt,eTy_eq]
   have hb:(0:Int)≤(j:Int)∧(j:Int)<((eTys l).length:Int):=⟨by omega,by rw[eTys_len];omega⟩
   refine dwk [(32,.v (.bool true))] TS9_ok hnt fun K hK=>?_;refine And.intro (dtrue (by rw[eTys_len];omega)) ?_;refine hK _ _ ?_;clear hK K;refine dw_cond (t:=true) rfl ?_;rw[if_pos rfl];refine dw_skip ?_;refine dw_seq (dw_block (dw_seq ?_))
   cases hf:few4B l[j] with
   | true=>
    have hf2:=hf
    unfold few4B at hf2
    rw[hf2] at hi
    refine dwk [(37,.q [.sl 2 (eTys l[j].args) none,.v (.int .i64 l[j].base)])] TS9_ok hnt fun K hK=>?_;refine And.intro (hb) ?_;refine And.intro (VLe.of_eq (by rw[hq])) ?_;refine dcl (hi) ?_;refine hK _ _ ?_;clear hK K;refine dw_cond (t:=false) rfl ?_;rw[if_neg (by simp)];refine dw_skip ?_;refine dwk [(34,.v (.int .i64 ((j+1:Nat):Int)))] TS9_ok hnt fun K hK=>?_;refine And.intro (dintE (by rw[IntWalk.i64_in _ (by omega)];omega)) ?_
    refine hK _ _ ?_;clear hK K
    refine⟨⟨j+1,fun i h1 h2=>?_⟩,by dsimp only;omega,VS.toA⟩
    by_cases he:i=j
    ·subst he;exact hf
    ·exact hj i h1 (by omega)
   | false=>
    have hf2:=hf
    unfold few4B at hf2
    rw[hf2] at hi
    have ha:l.all few4B=false:=by rw[List.all_eq_false];exact⟨l[j],List.getElem_mem hlt,by rw[hf];simp⟩
    rw[ha]
    refine dwk [(37,.q [.sl 2 (eTys l[j].args) none,.v (.int .i64 l[j].base)])] TS9_ok hnt fun K hK=>?_;refine And.intro (hb) ?_;refine And.intro (VLe.of_eq (by rw[hq])) ?_;refine dcl (hi) ?_;refine hK _ _ ?_;clear hK K;refine dw_cond (t:=true) rfl ?_;rw[if_pos rfl];refine dw_seq ?_;refine dwk [] TS9_ok hnt fun _ z9=>z9 _ _ ?_;refine dw_ret ?_
    exact retv (N:=0) (.inr rfl) rfl (VLe.refl _) trivial
  ·have ha:l.all few4B=true:=by
    rw[List.all_eq_true]
    intro t ht
    obtain⟨i,hi,rfl⟩:=List.getElem_of_mem ht
    exact hj i hi (by omega)
   rw[ha]
   refine dwk [(32,.v (.bool false))] TS9_ok hnt fun K hK=>?_;refine And.intro (dfalse (by rw[eTys_len];omega)) ?_;refine hK _ _ ?_;clear hK K;refine dw_cond (t:=false) rfl ?_;rw[if_neg (by simp)];refine dw_exit ?_;refine dw_seq ?_;refine dwk [] TS9_ok hnt fun _ z9=>z9 _ _ ?_;refine dw_ret ?_
   exact retv (N:=0) (.inr rfl) rfl (VLe.refl _) trivial
set_option maxHeartbeats 1000000 in
theorem small_no (b:Int)(C M X:List Ty)(h:¬ (C.length≤20∧M.length≤20∧X.length≤20)):PureC Tryz.prog 9 [.ag [.v (.int .i64 b),.sl 2 (eTys C) none,.sl 2 (eTys M) none],.sl 2 (eTys X) none] (.v (.bool false)):=by
 refine call_of_dw 0 41 [ResultVar.tmp 4] TS9_ok (by kernel_rfl) Tryz.func9 rfl Tryz.ntmps9 rfl (by simp) ?dwords ?dbody
 case dwords=>simp[wordsOk,D.ok,D.oks,rnames,eTys_ok]
 case dbody=>
  intro cx hnt hn0
  refine dw_seq ?_;refine dwk [] TS9_ok hnt fun _ z9=>z9 _ _ ?_;refine dw_seq (dw_seq ?_)
  by_cases h1:C.length≤20
  ·by_cases h2:M.length≤20
   ·skip
    refine dwk [(10,.v (.bool false)),(15,.v (.bool false)),(20,.v (.bool true))] TS9_ok hnt fun K hK=>?_;refine And.intro (dfalse (by rw[eTys_len];omega)) ?_;refine And.intro (dfalse (by rw[eTys_len];omega)) ?_;refine And.intro (dtrue (by rw[eTys_len];omega)) ?_;refine hK _ _ ?_;clear hK K;refine dw_cond (t:=true) rfl ?_;rw[if_pos rfl];refine dw_seq ?_;refine dwk [] TS9_ok hnt fun K hK=>?_
    refine hK _ _ ?_;clear hK K;refine dw_ret ?_
    exact retv (N:=0) (.inr rfl) rfl (VLe.refl _) trivial
   ·skip
    refine dwk [(10,.v (.bool false)),(15,.v (.bool true))] TS9_ok hnt fun K hK=>?_;refine And.intro (dfalse (by rw[eTys_len];omega)) ?_;refine And.intro (dtrue (by rw[eTys_len];omega)) ?_;refine hK _ _ ?_;clear hK K;refine dw_cond (t:=true) rfl ?_;rw[if_pos rfl];refine dw_seq ?_;refine dwk [] TS9_ok hnt fun _ z9=>z9 _ _ ?_;refine dw_ret ?_
    exact retv (N:=0) (.inr rfl) rfl (VLe.refl _) trivial
  ·skip
   refine dwk [(10,.v (.bool true))] TS9_ok hnt fun K hK=>?_;refine And.intro (dtrue (by rw[eTys_len];omega)) ?_;refine hK _ _ ?_;clear hK K;refine dw_cond (t:=true) rfl ?_;rw[if_pos rfl];refine dw_seq ?_;refine dwk [] TS9_ok hnt fun _ z9=>z9 _ _ ?_;refine dw_ret ?_
   exact retv (N:=0) (.inr rfl) rfl (VLe.refl _) trivial
namespace Li
structure Pr where
 l:Tm
 r:Tm
 m:List Ty
instance:DecidableEq Pr:=fun p q=>decidable_of_iff (p.l=q.l∧p.r=q.r∧p.m=q.m) (by cases p;cases q;simp)
def Pr.z:Pr:=⟨Tm.zero,Tm.zero,[]⟩
end Li
def ePr (p:Li.Pr):List D:=[.sl 2 (eTys p.l.binds) none,.v (.int .i64 p.l.kind),.v (.int .i64 p.l.index),.sl 4 (eTms p.l.args) none,.sl 2 (eTys p.r.binds) none,.v (.int .i64 p.r.kind),.v (.int .i64 p.r.index),.sl 4 (eTms p.r.args) none,.sl 2 (eTys p.m) none]
@[simp] theorem ePr_ok (f g:Nat→Bool) (p:Li.Pr):D.oks f g (ePr p)=true:=by simp[ePr,D.oks,D.ok]
def ePrs (l:List Li.Pr):List (List D):=l.map ePr
@[simp] theorem ePrs_ok (f g:Nat→Bool) (l:List Li.Pr):D.okss f g (ePrs l)=true:=D.okss_map _ l fun l _=>ePr_ok f g l
namespace Ru
def ix (m:Int):List Int→Nat
 | []=>0
 | x :: l=>if x=m then 0 else ix m l+1
def met (o:List Int)(m:Int):List Int:=if m∈o then o else o++[m]
mutual
def tr:Tm→List Int→List Int×Tm
 | .mk b k i a,o=>((trs a (if k=2 then met o i else o)).1,.mk b k (if k=2 then (ix i o:Int) else i) (trs a (if k=2 then met o i else o)).2)
def trs:List Tm→List Int→List Int×List Tm
 | [],o=>(o,[])
 | t :: l,o=>((trs l (tr t o).1).1,(tr t o).2 :: (trs l (tr t o).1).2)
end
def eN:List Int→Nat→List (Int×D)
 | [],_=>[]
 | x :: l,n=>(x,.v (.int .i64 ((n:Nat):Int))) :: eN l (n+1)
@[simp] theorem eN_ok (f g:Nat→Bool):∀ (o:List Int) (n:Nat),D.okm f g (eN o n)=true
 | [],_=>by simp[eN,D.okm]
 | x :: l,n=>by simp[eN,D.okm,D.ok,eN_ok f g l (n+1)]
end Ru
namespace Ru
open Li (Pr)
def bad (M:List Ty)(x:Int):Bool:=decide (x<0∨(M.length:Int)≤x)
def mt (M:List Ty)(x:Int):Ty:=M.getD x.toNat (.mk [] 0)
def own (p:Pr):Pr×Int:=
 if (tr p.r (tr p.l []).1).1.any (bad p.m) then (.z,10) else (⟨(tr p.l []).2,(tr p.r (tr p.l []).1).2,(tr p.r (tr p.l []).1).1.map (mt p.m)⟩,0)
end Ru
namespace Ru
end Ru
namespace Ru
/-! renamed -/
mutual
def rn (l:List Int):Tm→Tm
 | .mk b k i a=>.mk b k (if k=2∧i∈l then (ix i l:Int) else i) (rns l a)
def rns (l:List Int):List Tm→List Tm
 | []=>[]
 | t :: r=>rn l t :: rns l r
end
end Ru
namespace Ru
end Ru
namespace Ru
def cur (l:List Int)(i:Int)(j:Nat):Int:=if i∈l.take j then (ix i l:Int) else i
end Ru
/-! slices.Concat of terms -/
def eTmss (ls:List (List Tm)):List (List D):=ls.map fun l=>[.sl 4 (eTms l) none]
@[simp] theorem eTmss_ok (f g:Nat→Bool) (l:List (List Tm)):D.okss f g (eTmss l)=true:=D.okss_map _ l fun l _=>by simp[D.oks,D.ok,eTms_ok]
/-! variables -/
namespace Li
def vars (B:List Ty)(n:Int):List Tm:=B.mapIdx fun i b=>Ty.Eta b 0 (n+B.length-1-i)
mutual
def lif (B:List Ty):Tm→Int→Tm
 | .mk b k i a,n=>.mk b k i ((if k=2 then vars B (n+b.length) else [])++lifs B a (n+b.length))
def lifs (B:List Ty):List Tm→Int→List Tm
 | [],_=>[]
 | t :: l,n=>lif B t n :: lifs B l n
end
end Li
theorem metas_d (l:List Tm)(hl:l.length≤9)(hz:∀ t∈l,t.full≤90000):PureC Tryz.prog 31 [.sl 4 (eTms l) none] (.sl 1 (eIs (sortU (metasL l))) none):=by
 refine pure_below (by kernel_rfl) fun m Im w vs hv=>?_
 match vs,hv with
 | [x],hv=>
  have hs:IsSl rpTm (fun _=>True) w x l:=(sl_of_rel (r:=rpTm) (e:=eTm) eTm_len (fun x t hx _=>tm_of_rel t hx) (by decide) (by rw[eTms_map] at hv;exact hv.1)).weaken (by decide) fun _ _ _=>trivial
  refine(metas6_k hs hl hz).mono ?_
  rintro e w' ⟨a,c,rfl,h1,h2⟩
  refine⟨_,rfl,h2,fun Im' _ hI=>?_⟩
  exact rel_of_sl (r:=rpInt) (e:=fun i=>[.v (.int .i64 i)]) (fun b o v hq hc=>hI b o v hq hc) (fun _=>rfl) (fun x a h=>by
   have:x=[.int .i64 a]:=h
   subst this;exact⟨.v _,trivial⟩) h1
namespace Li
def lo (t:Tm):Bool:=decide ((t.looses 0).foldl looseL 0>0)
def rt (t:Tm):Bool:=decide (t.size≤5000∧t.depth≤60)
def may (L R:Tm)(M B:List Ty):Int:=
 if (lo L||lo R)=true then 1
 else if ((sortU (metasL [L,R])).any fun x=>decide (x<0∨(M.length:Int)≤x))=true then 10
 else if (decide ((B.length:Int)>900)||(!rt L || !rt R))=true then 2 else 0
def done (p:Pr):Pr×Int:=if (rt p.l&&rt p.r)=true then (p,0) else (.z,2)
def cl (t:Tm)(B:List Ty):Tm:=.mk (B++t.binds) t.kind t.index t.args
def arr (B:List Ty)(t:Ty):Ty:=.mk (B++t.args) t.base
def up (p:Pr)(B:List Ty):Pr:=⟨lif B p.l 0,lif B p.r 0,p.m.map (arr B)⟩
def over (p:Pr)(B:List Ty):Pr×Int:=if may p.l p.r p.m B≠0 then (.z,may p.l p.r p.m B) else done (up p B)
def clP (p:Pr)(B:List Ty):Pr:=⟨cl p.l B,cl p.r B,p.m⟩
def closed (p:Pr)(B:List Ty):Pr×Int:=if (over p B).2≠0 then (.z,(over p B).2) else done (clP (over p B).1 B)
end Li
/-! the example -/
namespace Li
end Li
/-! the law -/
theorem sizes_le22 {l:List Ty}{n:Nat}(h:∀ t∈l,t.size≤n):Ty.sizes l≤l.length * n:=by
 induction l with
 | nil=>simp[Ty.sizes]
 | cons t l ih=>
  have h1:=h t (by simp)
  have h2:=ih fun u hu=>h u (by simp[hu])
  rw[Ty.sizes,List.length_cons,Nat.add_mul];omega
namespace Li
end Li
def eHs (l:List (Int×Int)):List (List D):=l.map fun h=>[.v (.int .i64 h.1),.v (.int .i64 h.2)]
@[simp] theorem eHs_ok (f g:Nat→Bool) (l:List (Int×Int)):D.okss f g (eHs l)=true:=D.okss_map _ l fun _ _=>rfl
def sgn (x y:Int):Int:=if x<y then -1 else if y<x then 1 else 0
def orl (a b:Int):Int:=if a=0 then b else a
@[simp] theorem orl_zero (b:Int):orl 0 b=b:=by simp[orl]
@[simp] theorem orl_zero_right (a:Int):orl a 0=a:=by unfold orl;split <;> simp_all
namespace Ty
mutual
def cmp:Ty→Ty→Int
 | .mk l b,.mk l' b'=>orl (orl (orl (sgn (Ty.sizes l+1:Nat) (Ty.sizes l'+1:Nat)) (sgn (l.length:Nat) (l'.length:Nat))) (cmps l l')) (sgn b b')
def cmps:List Ty→List Ty→Int
 | [],_=>0
 | _ :: _,[]=>0
 | t :: l,u :: l'=>orl (cmp t u) (cmps l l')
end
@[simp] theorem cmps_nil (l:List Ty):cmps [] l=0:=by rw[cmps]
end Ty
namespace Tm
def cmpB (l l':List Ty):Int:=orl (sgn (l.length:Nat) (l'.length:Nat)) (Ty.cmps l l')
mutual
def cmp:Tm→Tm→Int
 | .mk b k i a,.mk b' k' i' a'=>orl (sgn (Tm.sizes a+1:Nat) (Tm.sizes a'+1:Nat)) (orl (cmpB b b') (orl (sgn k k') (orl (sgn i i') (orl (sgn (a.length:Nat) (a'.length:Nat)) (cmps a a')))))
def cmps:List Tm→List Tm→Int
 | [],_=>0
 | _ :: _,[]=>0
 | t :: l,u :: l'=>orl (cmp t u) (cmps l l')
end
@[simp] theorem cmps_nil (l:List Tm):cmps [] l=0:=by rw[cmps]
end Tm
namespace Ty
end Ty
theorem IsSl.bel {α:Type}{r:Rp α}{F:Nat→Prop}{w w':World}{v:Value}{l:List α}(h:IsSl r F w v l)(hb:Below w.heap.size w w'):IsSl r F w' v l:=h.keep ((Keep.refl _ _).below hb)
set_option maxRecDepth 100000 in
set_option maxHeartbeats 1000000 in
theorem within_k {G G' F:Nat→Prop}{w:World}{v v':Value}{l l':List Ty}(h:IsSl2 rpTy G F w v l)(h':IsSl2 rpTy G' F w v' l')(hl:l.length+l'.length≤100000):
  Calls Tryz.prog 55 #[v,v'] w (OutSl2 F (l++l') w):=by
 obtain⟨a,c,rfl⟩:=h.shape
 obtain⟨a',c',rfl⟩:=h'.shape
 have H:=Lib.hid h;have H':=Lib.hid h'
 clear h h'
 obtain⟨r,hr⟩:∃ r,l++l'=r:=⟨_,rfl⟩
 have Hr:=Lib.hid hr
 rw[hr]
 clear hr
 go_enter Tryz.func55,Tryz.ntmps55
 go_wp2_with fail
 obtain⟨w1,hw1⟩:∃ w1,w.alloc (.cells #[.slice a l.length c,.slice a' l'.length c'] 33)=w1:=⟨_,rfl⟩
 have hb1:Below w.heap.size w w1:=by rw[←hw1];exact(Below.refl _ _).alloc (Nat.le_refl _) _
 have x:Blk w1 w.heap.size #[.slice a l.length c,.slice a' l'.length c'] 33:=by rw[←hw1];exact Blk.new _ _ _ rfl
 try rw[hw1]
 clear hw1
 refine(concat_any2 x (H.out.bel hb1) (H'.out.bel hb1) hl).mono ?_
 rintro e w2 ⟨a2,c2,rfl,hT,hb2⟩
 have hs1:=hb1.size
 have HT:=Lib.hid (hT.weaken (G':=fun q=>w.heap.size≤q) (F':=F) (by decide) (fun q _ h=>by omega) fun _ _ h=>h);clear hT
 rw[Hr.out] at HT ⊢
 go_wp2_with fail
 go_ret
 exact⟨_,_,rfl,HT.out,hb1.trans (hb2.mono hb1.size)⟩
end Go.Proofs.YtflbnonbfmmchaaGreat
