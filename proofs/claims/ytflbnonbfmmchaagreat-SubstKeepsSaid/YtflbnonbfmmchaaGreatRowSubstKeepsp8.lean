/-
  Terms put for metavariables keep types; plain. What a matching binds, put into the pattern, is the term; plain. What a matching binds, put into the pattern, is the term: by the pattern; plain. What a matching binds is typed; plain. A loop over a function, whose round writes to what its own assignment laid. The reference's loose indexes, and terms that grow. The document's heads of a term. The document's Heads and Count. term.Count. slices.Sort and slices.Compact of ints of the call's own; what they hand back rises. A function that has run loops over functions leaves with a mark for each; rows of ints that grow within such rounds. term.Metas. A pattern matches what a substitution made of it, by just that; plain. Terms put for metavariables, as a function without errors: one behind the other is both at once; plain. What the program puts is what the functions without errors put, where no error comes up; plain. What subst.Apply makes is what the function without errors makes, where no error comes up; plain. Deep values: regions with steps through a map. Package match, walked in the deep way: what was found as a substitution; several at once. A matching's answer, applied to the pattern, is the term; plain. How many types and terms: exactly what the reference counts. How many terms: exactly what the reference counts; the laws' Few. What the laws' Few tells of a term. The laws' Small (seats without Chk9). Types and terms of the laws, there and back, walked in the deep way. Pairs of terms with the types of their metavariables (rule.Pair, filigreeref17.Pair), and the laws' helpers for them: To, Of, Same, Few. Package rule, walked in the deep way: met, term. Package rule, walked in the deep way: Own, Of, Equal, Variant. The document's numbers of a pair (order, renamed) are those of package rule. The document's answer of layer 17: order, renamed, Own, Variant. Package lift, walked in the deep way: variables, each, term. Package lift, walked in the deep way: may, done, Over, Closed, Subst; spot.Close. The known answer of the laws of layer 12. Lists of pairs, there and back. Lists of pairs in the laws of layer 9: To, Few. Package subst's lists, walked in the deep way: Clone, Without, Set, Domain, Get.
-/
import Derived.Test.YtflbnonbfmmchaaGreatRowSubstKeepsp6
import Derived.Test.YtflbnonbfmmchaaGreatRowSubstKeepsp7
import Derived.Test.YtflbnonbfmmchaaGreatRowSubstKeepsp5
import Derived.Deep.QuietTactic
import Derived.BigQuiet
import Derived.WalkSmall
import Derived.Test.YtflbnonbfmmchaaGreatRowSubstKeepsp1
import Derived.Lib.OwnBridge
import Derived.Sort.OwnSortedInts
import Derived.RangeFuncBox
import Derived.Test.YtflbnonbfmmchaaGreatRowSubstKeepsp4
import Derived.Maps.RangeRun
set_option maxRecDepth 100000
set_option maxHeartbeats 1000000
set_option linter.unusedVariables false
set_option linter.unusedSimpArgs false
namespace Go.Proofs.YtflbnonbfmmchaaGreat
open Go.RowKit
namespace Sb
variable {C M:List Ty} {B:Nat}
theorem put_keeps {v:Tm}{xs:List Tm}{X:List Ty}{h:Ty}{left:Int}{dry:Bool}(h0:0≤left∧left≤1000000000)(hB:B≤1000)(hv:Bnd B v)(hx:∀ x∈xs,Bnd B x)(hxf:∀ x∈xs,x.full≤8000000000000)(hX:X.length≤500000000) 
  (hvt:IsOf C M v X h) (hxt:IsOfs C M xs X h.args) :
  (Nm.put 100001 v xs ⟨left,dry,0,0⟩).2.e≠1∧((Nm.put 100001 v xs ⟨left,dry,0,0⟩).2.e=0→IsOf C M (.mk [] (Nm.put 100001 v xs ⟨left,dry,0,0⟩).1.kind (Nm.put 100001 v xs ⟨left,dry,0,0⟩).1.index (Nm.put 100001 v xs ⟨left,dry,0,0⟩).1.args) X (.mk [] h.base)):=by
 have hw:WkOk ⟨left,dry,0,0⟩:=⟨h0,⟨Int.le_refl 0,(by decide:(0:Int)≤100001)⟩,fun _=>(by decide:(0:Int)≤100000)⟩
 obtain⟨vb,vk,vi,va⟩:=v
 obtain⟨v1,v2,v3⟩:=hv.inv
 obtain⟨rfl,h',hh,hb,ha⟩:=isOf_mk.1 hvt
 have hl:=isOfs_len hxt
 have hvl:=Ty.le_sizes h.args
 have hm:(2 * B+2) * 100001≤2002 * 100001:=Nat.mul_le_mul_right _ (by omega)
 have hk:=Nm.through_keeps C M B 100001 xs h.args.length (.mk [] vk vi va) 0 ⟨left,dry,0,0⟩ X h.args [] (.mk [] h.base) hw (fun _=>by show (100001:Int)-0≤((100001:Nat):Int);decide) hx (.mk _ _ _ _ (by simp[Ty.sizes]) v2 v3) hxf (by omega) (by omega) rfl rfl (by simp only[List.length_nil];omega)
  (by rw[List.take_of_length_le (by omega)];exact hxt) (by rw[List.append_nil];exact isOf_mk.2 ⟨rfl,h',by rw[List.append_nil];exact hh,hb,by rw[List.append_nil];exact ha⟩)
 rw[List.drop_of_length_le (by omega),List.append_nil,List.append_nil] at hk
 unfold Nm.put Nm.putW
 rw[if_neg (by rintro(h9 | h9);exact h9 rfl;exact absurd h9 (by show ¬ xs.length>h.args.length;omega))]
 dsimp only
 show (Nm.through 100001 xs h.args.length (.mk [] vk vi va) 0 ⟨left,dry,0,0⟩).2.e≠1∧_
 refine⟨hk.1 (by show (0:Int)≠1;decide),fun e=>?_⟩
 have h2:=(hk.2 e).2
 show IsOf C M (.mk [] (Nm.through 100001 xs h.args.length (.mk [] vk vi va) 0 ⟨left,dry,0,0⟩).1.kind (Nm.through 100001 xs h.args.length (.mk [] vk vi va) 0 ⟨left,dry,0,0⟩).1.index (Nm.through 100001 xs h.args.length (.mk [] vk vi va) 0 ⟨left,dry,0,0⟩).1.args) X (.mk [] h.base)
 generalize (Nm.through 100001 xs h.args.length (.mk [] vk vi va) 0 ⟨left,dry,0,0⟩).1=r at h2 ⊢
 obtain⟨rb,rk,ri,ra⟩:=r
 obtain⟨e1,hr⟩:=isOf_mk.1 h2
 have e1:rb=[]:=e1
 subst e1
 exact h2
theorem Put_keeps {v:Tm}{xs:List Tm}{X:List Ty}{h:Ty}{left:Int}{dry:Bool}(h0:0≤left∧left≤1000000000)(hB:B≤1000)(hv:Bnd B v)(hx:∀ x∈xs,Bnd B x)(hxf:∀ x∈xs,x.full≤8000000000000)(hX:X.length≤500000000) 
  (hvt:IsOf C M v X h) (hxt:IsOfs C M xs X h.args) :
  (Nm.Put v xs left dry).2.e≠1∧((Nm.Put v xs left dry).2.e=0→IsOf C M (.mk [] (Nm.Put v xs left dry).1.kind (Nm.Put v xs left dry).1.index (Nm.Put v xs left dry).1.args) X (.mk [] h.base)):=by
 have h1:=put_keeps (dry:=dry) h0 hB hv hx hxf hX hvt hxt
 unfold Nm.Put Nm.done
 dsimp only
 generalize Nm.put 100001 v xs ⟨left,dry,0,0⟩=p at h1
 by_cases hc:p.2.e=0∧¬ (p.1.size≤5000∧p.1.depth≤60)
 ·rw[if_pos hc]
  have hf:(Nm.fail p.2 2).e=2:=by unfold Nm.fail;rw[if_pos hc.1]
  rw[if_pos (by rw[hf];decide)]
  refine⟨by rw[hf];decide,fun e=>?_⟩
  rw[hf] at e;cases e
 ·rw[if_neg hc]
  by_cases hp:p.2.e=0
  ·rw[if_neg (fun h=>h hp)]
   exact h1
  ·rw[if_pos hp]
   exact⟨h1.1,fun e=>absurd e hp⟩
theorem find_at {l:List (Int×Tm)}{i:Int}{u:Tm}(h:find l i=some u):∃ p∈l,p.2=u∧p.1=i:=by
 unfold find at h
 cases hf:l.find? (fun p=>p.1==i) with
 | none=>rw[hf] at h;cases h
 | some p=>
  rw[hf] at h;cases h
  have:=List.find?_some hf
  exact⟨p,List.mem_of_find?_eq_some hf,rfl,by simpa using this⟩
theorem seq_keeps {g:Tm→Nm.St→Tm×Nm.St}{X X':List Ty}:∀ (a:List Tm) (us:List Ty) (hg:∀ t∈a,∀ u s,InR s→IsOf C M t X u→Nm.Kp s (g t s) fun r=>IsOf C M r X' u) (hi:∀ t∈a,∀ s,InR s→InR (g t s).2) (s:Nm.St),InR s →
  IsOfs C M a X us→(s.e≠1→(Nm.seqM g a s).2.e≠1)∧((Nm.seqM g a s).2.e=0→s.e=0∧IsOfs C M (Nm.seqM g a s).1 X' us)
 | [],[],_,_,s,_,_=>⟨fun h=>h,fun h=>⟨h,by rw[Nm.seqM,IsOfs];trivial⟩⟩
 | [],_ :: _,_,_,s,_,h=>by rw[IsOfs] at h;exact h.elim
 | _ :: _,[],_,_,s,_,h=>by rw[IsOfs] at h;exact h.elim
 | t :: a,u :: us,hg,hi,s,hs,h=>by
  rw[IsOfs] at h
  have h1:=hg t (by simp) u s hs h.1
  have h2:=seq_keeps a us (fun v hv=>hg v (by simp[hv])) (fun v hv=>hi v (by simp[hv])) (g t s).2 (hi t (by simp) s hs) h.2
  refine⟨fun e=>h2.1 (h1.1 e),fun e=>?_⟩
  have h3:=h2.2 e
  have h4:=h1.2 h3.1
  exact⟨h4.1,by rw[Nm.seqM,IsOfs];exact⟨h4.2,h3.2⟩⟩
theorem replaced_eq (b:List Ty)(k i:Int)(a:List Tm)(v:Tm)(s:Nm.St):replaced (.mk b k i a) v s=if v.binds.length≠a.length then (Nm.tz,{ s with e:=1 })
  else if (Nm.Put v a s.left s.dry).2.e≠0 then (Nm.tz,{ s with left:=(Nm.Put v a s.left s.dry).2.left,dry:=(Nm.Put v a s.left s.dry).2.dry,e:=(Nm.Put v a s.left s.dry).2.e })
  else (.mk b (Nm.Put v a s.left s.dry).1.kind (Nm.Put v a s.left s.dry).1.index (Nm.Put v a s.left s.dry).1.args,{ s with left:=(Nm.Put v a s.left s.dry).2.left,dry:=(Nm.Put v a s.left s.dry).2.dry }):=rfl
theorem keeps (hB:B≤1000)(l:List (Int×Tm))(X0:List Ty)(hl:∀ p∈l,(∃ h,headTy C M X0 2 p.1=some h∧IsOf C M p.2 X0 h)∧Bnd B p.2∧p.2.full≤1000000):
  ∀ (t:Tm) (Z:List Ty) (u:Ty),IsOf C M t (X0++Z) u→Bnd B t→X0.length+Z.length+t.full≤100000000→∀ s,InR s→Nm.Kp s (through l t (Z.length:Nat) s) fun r=>IsOf C M r (X0++Z) u:=by
 intro t
 induction t using Tm.ind with
 | h b k i a ih=>
  intro Z u ht hbn hz s hs
  obtain⟨hbu,h,hh,hbase,hargs⟩:=isOf_mk.1 ht
  obtain⟨t1,t2,t3⟩:=hbn.inv
  have hbl:=Ty.le_sizes b
  rw[Tm.full_eq] at hz
  have hZb:(Z++b).length=Z.length+b.length:=List.length_append
  have hwr:Nm.wr ((Z.length:Nat)+b.length)=(((Z++b).length:Nat):Int):=by rw[wr_id (by omega) (by omega),hZb];omega
  rw[through]
  dsimp only
  rw[hwr]
  clear hwr
  by_cases he:s.e=0
  rotate_left
  ·rw[if_pos he];exact⟨fun h=>h,fun e=>absurd e he⟩
  rw[if_neg (fun h=>h he)]
  by_cases hsp:(Nm.spend s).1=true
  rotate_left
  ·rw[if_pos (by simpa using hsp)]
   exact⟨fun _=>by show (11:Int)≠1;decide,fun e=>by cases e⟩
  rw[if_neg (by rw[hsp];simp)]
  obtain⟨s1,s2⟩:=spend_ok hsp
  have hin:=spend_in hs
  rw[throughs_seq]
  rw[List.append_assoc] at hh hargs
  have hq:=seq_keeps (C:=C) (M:=M) (g:=fun t s=>through l t ((Z++b).length:Nat) s) (X:=X0++(Z++b)) (X':=X0++(Z++b)) a h.args
   (fun v hv w s hs hw=>ih v hv (Z++b) w hw (t3 v hv) (by have:=Tm.full_mem hv;omega) s hs) (fun v hv s hs=>through_in l v _ s hs) (Nm.spend s).2 hin hargs
  have hgr:=seq_grow (B:=B) (g:=fun t s=>through l t ((Z++b).length:Nat) s) a (fun v hv s hs=>grow l (fun p hp=>(hl p hp).2.1) v (t3 v hv) _ s hs) (fun v hv s hs=>through_in l v _ s hs) (Nm.spend s).2 hin
  have hqi:=seqM_in (g:=fun t s=>through l t ((Z++b).length:Nat) s) a (fun v hv s hs=>through_in l v _ s hs) _ hin
  have hql:=Nm.seqM_length (fun t s=>through l t ((Z++b).length:Nat) s) a (Nm.spend s).2
  generalize Nm.seqM (fun t s=>through l t ((Z++b).length:Nat) s) a (Nm.spend s).2=q at hq hgr hqi hql ⊢
  have hq1:q.2.e≠1:=hq.1 (by omega)
  have stays:Nm.Kp s (.mk b k i q.1,q.2) fun r=>IsOf C M r (X0++Z) u:=
   ⟨fun _=>hq1,fun e=>⟨he,isOf_mk.2 ⟨hbu,h,by rw[List.append_assoc];exact hh,hbase,by rw[List.append_assoc];exact(hq.2 e).2⟩⟩⟩
  by_cases hk:k≠2∨q.2.e≠0
  ·rw[if_pos hk];exact stays
  rw[if_neg hk]
  have hk2:k=2:=by
   by_cases h:k=2
   ·exact h
   ·exact absurd (.inl h) hk
  have hqe:q.2.e=0:=by
   by_cases h:q.2.e=0
   ·exact h
   ·exact absurd (.inr h) hk
  subst hk2
  cases hfi:find l i with
  | none=>exact stays
  | some v=>
   obtain⟨p,hp,rfl,rfl⟩:=find_at hfi
   obtain⟨⟨h',hh',hvt⟩,hvb,hvf⟩:=hl p hp
   have hsame:h'=h:=by
    rw[headTy_ctx (X':=X0++(Z++b)) (by decide),hh] at hh'
    exact(Option.some.inj hh').symm
   subst hsame
   have hlt:=lift_isOf p.2 X0 (Z++b) [] h' (by simp only[List.length_nil];omega) (by rw[List.append_nil];exact hvt)
   rw[List.append_nil] at hlt
   have hlb:Bnd B (Nm.lift ((Z++b).length:Nat) p.2 0):=Bnd.lift _ _ _ hvb
   have hqa:=(hq.2 hqe).2
   have hqg:=hgr hqe
   have hfull:∀ x∈q.1,x.full≤8000000000000:=fun x hx=>by
    have h1:=Bnd.full x (hqg.2.2 x hx)
    have h2:x.size≤1000000000:=by
     have:=Tm.size_mem hx
     have:=hqg.2.1
     have:=hin.2
     have:=hqi.1
     omega
    have h3:x.size * (B+1)≤1000000000 * 1001:=Nat.mul_le_mul h2 (by omega)
    omega
   have hPk:=Put_keeps (dry:=q.2.dry) (left:=q.2.left) hqi hB hlb hqg.2.2 hfull (by rw[List.length_append];omega) hlt hqa
   have hbl2:(Nm.lift ((Z++b).length:Nat) p.2 0).binds=h'.args:=by
    generalize Nm.lift ((Z++b).length:Nat) p.2 0=v at hlt
    obtain⟨vb,vk,vi,va⟩:=v
    exact(isOf_mk.1 hlt).1
   have hal:=isOfs_len hargs
   show Nm.Kp s (replaced (.mk b 2 p.1 q.1) (Nm.lift ((Z++b).length:Nat) p.2 0) q.2) _
   rw[replaced_eq,if_neg (fun hne=>hne (by rw[hbl2,hal,hql]))]
   generalize Nm.Put (Nm.lift ((Z++b).length:Nat) p.2 0) q.1 q.2.left q.2.dry=r at hPk ⊢
   by_cases hr:r.2.e=0
   ·rw[if_neg (fun h=>h hr)]
    refine⟨fun _=>hq1,fun _=>⟨he,?_⟩⟩
    obtain⟨_,h2,hrh,hrbase,hrargs⟩:=isOf_mk.1 (hPk.2 hr)
    rw[List.append_nil] at hrh hrargs
    exact isOf_mk.2 ⟨hbu,h2,by rw[List.append_assoc];exact hrh,hrbase.trans hbase,by rw[List.append_assoc];exact hrargs⟩
   ·rw[if_pos hr]
    exact⟨fun _=>hPk.1,fun e=>absurd e hr⟩
theorem apply_keeps (hB:B≤1000)(l:List (Int×Tm))(X0:List Ty)(hr:right l=true)(hl:∀ p∈l,(∃ h,headTy C M X0 2 p.1=some h∧IsOf C M p.2 X0 h)∧Bnd B p.2∧p.2.full≤1000000) 
  (t:Tm) (u:Ty) (ht:IsOf C M t X0 u) (hbn:Bnd B t) (hz:X0.length+t.full≤100000000) (left:Int) (dry:Bool) (h0:0≤left∧left≤1000000000) :
  (apply l t left dry).2.e≠1∧((apply l t left dry).2.e=0→IsOf C M (apply l t left dry).1 X0 u):=by
 have h1:=keeps hB l X0 hl t [] u (by rw[List.append_nil];exact ht) hbn (by simp only[List.length_nil];omega) ⟨left,dry,0,0⟩ h0
 rw[List.append_nil] at h1
 unfold apply
 rw[if_neg (by rw[hr];simp)]
 dsimp only
 have h2:=h1.1 (by show (0:Int)≠1;decide)
 have h3:=h1.2
 simp only[List.length_nil] at h2 h3
 have e0:(((0:Nat):Int))=0:=rfl
 rw[e0] at h2 h3
 generalize through l t 0 ⟨left,dry,0,0⟩=r at h2 h3
 by_cases hc:r.2.e=0∧¬ (r.1.size≤5000∧r.1.depth≤60)
 ·rw[if_pos hc]
  exact⟨by show (if (2:Int)≠0 then _ else _:Tm×Nm.St).2.e≠1;rw[if_pos (by decide)];show (2:Int)≠1;decide,fun e=>by
   have e':(if (2:Int)≠0 then _ else _:Tm×Nm.St).2.e=0:=e
   rw[if_pos (by decide)] at e';cases e'⟩
 ·rw[if_neg hc]
  by_cases hp:r.2.e=0
  ·rw[if_neg (fun h=>h hp)]
   exact⟨h2,fun e=>(h3 e).2⟩
  ·rw[if_pos hp]
   exact⟨h2,fun e=>absurd e hp⟩
end Sb
namespace Sb
theorem seq_to {g:Tm→Nm.St→Tm×Nm.St}(hi:∀ t s,InR s→InR (g t s).2):∀ (l ys:List Tm),ys.length=l.length→(∀ j (h:j<l.length) (h':j<ys.length) s,InR s→(g l[j] s).2.e=0→s.e=0∧(g l[j] s).1=ys[j])→∀ s,InR s→(Nm.seqM g l s).2.e=0→s.e=0∧(Nm.seqM g l s).1=ys
 | [],ys,hl,_,s,_,he=>⟨he,by
   have:ys=[]:=List.length_eq_zero_iff.1 hl
   rw[this,Nm.seqM]⟩
 | _ :: _,[],hl,_,s,_,_=>by simp at hl
 | t :: l,y :: ys,hl,hg,s,hs,he=>by
  have h1:=hg 0 (by simp) (by simp) s hs
  have h2:=seq_to hi l ys (by simpa using hl) (fun j h h' s hs he=>hg (j+1) (by simp;omega) (by simp;omega) s hs he) (g t s).2 (hi t s hs) he
  have h3:=h1 h2.1
  refine⟨h3.1,?_⟩
  show (g t s).1 :: (Nm.seqM g l (g t s).2).1=_
  rw[h2.2]
  have:(g t s).1=y:=h3.2
  rw[this]
theorem replaced_e {b:List Ty}{k i:Int}{a:List Tm}{v:Tm}{s:Nm.St}(hs:s.e=0)(he:(replaced (.mk b k i a) v s).2.e=0):v.binds.length=a.length∧(Nm.Put v a s.left s.dry).2.e=0∧(replaced (.mk b k i a) v s).1=.mk b (Nm.Put v a s.left s.dry).1.kind (Nm.Put v a s.left s.dry).1.index (Nm.Put v a s.left s.dry).1.args:=by
 rw[replaced_eq] at he ⊢
 by_cases hl:v.binds.length≠a.length
 ·rw[if_pos hl] at he;cases he
 ·rw[if_neg hl] at he ⊢
  by_cases hp:(Nm.Put v a s.left s.dry).2.e≠0
  ·rw[if_pos hp] at he;exact absurd he hp
  ·rw[if_neg hp]
   exact⟨by omega,by omega,rfl⟩
theorem Put_e {v:Tm}{xs:List Tm}{left:Int}{dry:Bool}(hl:v.binds.length=xs.length)(he:(Nm.Put v xs left dry).2.e=0):
  (Nm.through 100001 xs xs.length (.mk [] v.kind v.index v.args) 0 ⟨left,dry,0,0⟩).2.e=0∧(Nm.Put v xs left dry).1.kind=(Nm.through 100001 xs xs.length (.mk [] v.kind v.index v.args) 0 ⟨left,dry,0,0⟩).1.kind ∧
   (Nm.Put v xs left dry).1.index=(Nm.through 100001 xs xs.length (.mk [] v.kind v.index v.args) 0 ⟨left,dry,0,0⟩).1.index∧(Nm.Put v xs left dry).1.args=(Nm.through 100001 xs xs.length (.mk [] v.kind v.index v.args) 0 ⟨left,dry,0,0⟩).1.args:=by
 have hp:Nm.put 100001 v xs ⟨left,dry,0,0⟩=(.mk (v.binds.drop xs.length) (Nm.through 100001 xs xs.length (.mk [] v.kind v.index v.args) 0 ⟨left,dry,0,0⟩).1.kind (Nm.through 100001 xs xs.length (.mk [] v.kind v.index v.args) 0 ⟨left,dry,0,0⟩).1.index (Nm.through 100001 xs xs.length (.mk [] v.kind v.index v.args) 0 ⟨left,dry,0,0⟩).1.args,(Nm.through 100001 xs xs.length (.mk [] v.kind v.index v.args) 0 ⟨left,dry,0,0⟩).2):=by
  unfold Nm.put Nm.putW
  rw[if_neg (by rintro(h | h);exact h rfl;omega),hl]
 unfold Nm.Put Nm.done at he ⊢
 rw[hp] at he ⊢
 generalize Nm.through 100001 xs xs.length (.mk [] v.kind v.index v.args) 0 ⟨left,dry,0,0⟩=r at he ⊢
 dsimp only at he ⊢
 by_cases hc:r.2.e=0∧¬ ((Tm.mk (v.binds.drop xs.length) r.1.kind r.1.index r.1.args).size≤5000∧(Tm.mk (v.binds.drop xs.length) r.1.kind r.1.index r.1.args).depth≤60)
 ·rw[if_pos hc] at he
  have hf:(Nm.fail r.2 2).e=2:=by unfold Nm.fail;rw[if_pos hc.1]
  rw[if_pos (by rw[hf];decide)] at he
  rw[hf] at he;cases he
 ·rw[if_neg hc] at he ⊢
  by_cases hr:r.2.e=0
  ·rw[if_neg (fun h=>h hr)]
   exact⟨hr,rfl,rfl,rfl⟩
  ·rw[if_pos hr] at he;exact absurd he hr
theorem thr_step {l:List (Int×Tm)}{b:List Ty}{k i:Int}{a:List Tm}{ins m:Int}{s:Nm.St}(hs:InR s)(hm:Nm.wr (ins+b.length)=m)(he:(through l (.mk b k i a) ins s).2.e=0):
  s.e=0∧InR (Nm.spend s).2∧(Nm.seqM (fun t s=>through l t m s) a (Nm.spend s).2).2.e=0∧through l (.mk b k i a) ins s=(if k≠2 then (.mk b k i (Nm.seqM (fun t s=>through l t m s) a (Nm.spend s).2).1,(Nm.seqM (fun t s=>through l t m s) a (Nm.spend s).2).2) else match find l i with
    | none=>(.mk b k i (Nm.seqM (fun t s=>through l t m s) a (Nm.spend s).2).1,(Nm.seqM (fun t s=>through l t m s) a (Nm.spend s).2).2)
    | some u=>replaced (.mk b k i (Nm.seqM (fun t s=>through l t m s) a (Nm.spend s).2).1) (Nm.lift m u 0) (Nm.seqM (fun t s=>through l t m s) a (Nm.spend s).2).2):=by
 rw[through] at he ⊢
 rw[hm,throughs_seq] at he ⊢
 by_cases h0:s.e=0
 rotate_left
 ·rw[if_pos h0] at he;exact absurd he h0
 rw[if_neg (fun h=>h h0)] at he ⊢
 by_cases hsp:(Nm.spend s).1=true
 rotate_left
 ·rw[if_pos (by simpa using hsp)] at he;cases he
 rw[if_neg (by rw[hsp];simp)] at he ⊢
 dsimp only at he ⊢
 have hin:=spend_in hs
 generalize Nm.seqM (fun t s=>through l t m s) a (Nm.spend s).2=q at he ⊢
 by_cases hq:q.2.e=0
 ·refine⟨h0,hin,hq,?_⟩
  by_cases hk:k≠2
  ·rw[if_pos hk,if_pos (.inl hk)]
  ·rw[if_neg hk,if_neg (by rintro(h | h);exact hk h;exact h hq)]
   cases find l i <;> rfl
 ·rw[if_pos (.inr hq)] at he;exact absurd he hq
end Sb
namespace Pn
variable {C M:List Ty}
end Pn
namespace Pn
variable {C M:List Ty}
end Pn
variable {β:Type} {Ok:Obj→Prop} {B:Nat} {I I':β→World→Prop}
end Go.Proofs.YtflbnonbfmmchaaGreat
namespace Go.Proofs.YtflbnonbfmmchaaGreat
open Go.RowKit
def rpInt:Rp Int where
 n:=1
 R _ _ x v:=x=[.int .i64 v]
 len:=by rintro F w x a rfl;rfl
 one:=by rintro F w x a rfl u hu;simp at hu;subst hu;rfl
 keep:=fun h _=>h
 weaken:=fun h _=>h
theorem infoI:(Tryz.prog.info? 3).map (fun i=>(i.zero,i.size,i.bytes))=some (some (.int .i64 0),1,8):=by kernel_rfl
def FreshInts (l:List Int)(w:World)(e:Ending)(w':World):Prop:=∃ a c,e=.returned (.slice a l.length c)∧IsSl rpInt (fun q=>w.heap.size≤q) w' (.slice a l.length c) l∧Below w.heap.size w w'
namespace Tm
mutual
def heads:Tm→Int→List (Int×Int)
 | .mk b k i a,n=>(if k≠0 then [(k,i)] else if n+(b.length:Int)≤i then [(0,i-(n+(b.length:Int)))] else [])++headss a (n+(b.length:Int))
def headss:List Tm→Int→List (Int×Int)
 | [],_=>[]
 | t :: l,n=>heads t n++headss l n
end
end Tm
end Go.Proofs.YtflbnonbfmmchaaGreat
namespace Go.Proofs.YtflbnonbfmmchaaGreat
open Go.RowKit Go.Shelf
attribute [local go_sem] Oper.semAt_some
end Go.Proofs.YtflbnonbfmmchaaGreat
namespace Go.Proofs.YtflbnonbfmmchaaGreat
open Go.RowKit
def sortU (zs:List Int):List Int:=Lib.compact (zs.mergeSort fun x y=>decide (x≤y))
theorem keeps_zero (d:Array Int):Lib.keeps d 0=true:=by simp[Lib.keeps]
theorem upTo_rises (d:Array Int):∀ m,m≤d.size→(∀ i j,i≤j→j<d.size→d[i]! ≤ d[j]!)→(Lib.compactUpTo d m).Pairwise (· < ·)∧(∀ x∈Lib.compactUpTo d m,∃ j,j<m∧d[j]! = x)∧(∀ j,j<m→d[j]! ∈ Lib.compactUpTo d m):=by
 intro m
 induction m with
 | zero=>intro _ _;simp[Lib.compactUpTo]
 | succ m ih=>
  intro hm hs
  obtain⟨h1,h2,h3⟩:=ih (by omega) hs
  rw[Lib.compactUpTo_succ]
  by_cases hk:Lib.keeps d m=true
  ·rw[if_pos hk]
   refine⟨?_,?_,?_⟩
   ·rw[List.pairwise_append]
    refine⟨h1,by simp,fun a ha b hb=>?_⟩
    obtain⟨j,hj,rfl⟩:=h2 a ha
    simp at hb;subst hb
    have hle:=hs j (m-1) (by omega) (by omega)
    have hle2:=hs (m-1) m (by omega) (by omega)
    have hne:d[m-1]! ≠ d[m]! := by
     cases m with
     | zero=>omega
     | succ k=>
      have:d[k+1]! ≠ d[k]! := by simpa[Lib.keeps] using hk
      exact fun e=>this e.symm
    omega
   ·intro x hx
    rcases List.mem_append.1 hx with hx | hx
    ·obtain⟨j,hj,e⟩:=h2 x hx;exact⟨j,by omega,e⟩
    ·simp at hx;exact⟨m,by omega,hx.symm⟩
   ·intro j hj
    rw[List.mem_append]
    by_cases hjm:j=m
    ·subst hjm;right;simp
    ·left;exact h3 j (by omega)
  ·rw[if_neg hk,List.append_nil]
   refine⟨h1,fun x hx=>by obtain⟨j,hj,e⟩:=h2 x hx;exact⟨j,by omega,e⟩,fun j hj=>?_⟩
   by_cases hjm:j=m
   ·subst hjm
    cases j with
    | zero=>exact absurd (keeps_zero d) hk
    | succ k=>
     have:d[k+1]! = d[k]! := by simpa[Lib.keeps] using hk
     rw[this];exact h3 k (by omega)
   ·exact h3 j (by omega)
theorem sortU_spec (zs:List Int):(sortU zs).Pairwise (· < ·)∧∀ x,x∈sortU zs↔x∈zs:=by
 obtain⟨ss,hss⟩:∃ ss,(zs.mergeSort fun x y=>decide (x≤y))=ss:=⟨_,rfl⟩
 have hp:ss.Perm zs:=by rw[←hss];exact List.mergeSort_perm _ _
 have hs:ss.Pairwise (fun x y=>x≤y):=by
  have:=List.pairwise_mergeSort (le:=fun x y:Int=>decide (x≤y)) (fun a b c h1 h2=>by simp at *;omega) (fun a b=>by simp;omega) zs
  rw[hss] at this
  simpa using this
 have hs':∀ i j,i≤j→j<ss.toArray.size→ss.toArray[i]! ≤ ss.toArray[j]! := by
  intro i j hij hj
  have hj':j<ss.length:=by simpa using hj
  have hi':i<ss.length:=by omega
  simp only[List.getElem!_toArray,getElem!_pos ss i hi',getElem!_pos ss j hj']
  by_cases e:i=j
  ·subst e;exact Int.le_refl _
  ·exact List.pairwise_iff_getElem.1 hs i j hi' hj' (by omega)
 obtain⟨h1,h2,h3⟩:=upTo_rises ss.toArray ss.length (by simp) hs'
 unfold sortU
 rw[hss]
 refine⟨h1,fun x=>?_⟩
 rw[←hp.mem_iff]
 constructor
 ·intro hx
  obtain⟨j,hj,e⟩:=h2 x hx
  rw[←e]
  simp only[List.getElem!_toArray,getElem!_pos ss j hj]
  exact List.getElem_mem hj
 ·intro hx
  obtain⟨j,hj,e⟩:=List.getElem_of_mem hx
  have:=h3 j hj
  simp only[List.getElem!_toArray,getElem!_pos ss j hj,e] at this
  exact this
theorem sort_own {base:Nat}{w:World}{v:Value}{zs:List Int}(h:w.ownsRow base 3 1 v zs.length (zs.map (Value.int .i64)))(hl:zs.length≤1000000):
  Calls Tryz.prog 89 #[v] w fun e w'=>e=.returned (.tuple #[])∧w'.ownsRow base 3 1 v zs.length ((zs.mergeSort fun x y=>decide (x≤y)).map (Value.int .i64))∧w.grownBy w' v.ownBlock:=by
 by_cases hv:v=.slice none 0 0
 ·subst hv
  have h0:zs=[]:=by
   rcases h.2 with⟨_,e⟩ | ⟨_,_,_,e,_⟩
   ·exact List.eq_nil_of_length_eq_zero e
   ·cases e
  subst h0
  refine(Tryz.slices_Sort_int_none none 0 w).mono ?_
  rintro e w' ⟨rfl,rfl⟩
  exact⟨rfl,by simpa using h,⟨rfl,rfl,rfl,Nat.le_refl _,fun _ _ _=>rfl⟩⟩
 ·obtain⟨g,cap,rfl,hb,hlt,hn,hm,_,hH⟩:=Lib.holds_of_ownsRow h hv
  refine(Tryz.slices_Sort_int g 0 cap zs w hH hlt (by omega)).mono ?_
  rintro e w' ⟨rfl,n,os,rfl⟩
  refine⟨rfl,?_,grownBy_sortedI _⟩
  rcases h.2 with⟨e,_⟩ | ⟨g',cap',cur,e,_,hg,_,_,hc,_⟩
  ·cases e
  ·cases e
   exact ownsRow_sortedI (ss:=zs) (by simp) hb hg hn hm hc
theorem compact_own {base:Nat}{w:World}{v:Value}{zs:List Int}(h:w.ownsRow base 3 1 v zs.length (zs.map (Value.int .i64)))(hl:zs.length≤1000000):
  Calls Tryz.prog 90 #[v] w fun e w'=>∃ v',e=.returned v'∧w'.ownsRow base 3 1 v' (Lib.compact zs).length ((Lib.compact zs).map (Value.int .i64))∧w.grownBy w' v.ownBlock:=by
 by_cases hv:v=.slice none 0 0
 ·subst hv
  have h0:zs=[]:=by
   rcases h.2 with⟨_,e⟩ | ⟨_,_,_,e,_⟩
   ·exact List.eq_nil_of_length_eq_zero e
   ·cases e
  subst h0
  refine(Tryz.slices_Compact_int_empty none 0 w).mono ?_
  rintro e w' ⟨rfl,rfl⟩
  exact⟨_,rfl,h,⟨rfl,rfl,rfl,Nat.le_refl _,fun _ _ _=>rfl⟩⟩
 ·obtain⟨g,cap,rfl,hb,hlt,hn,hm,_,hH⟩:=Lib.holds_of_ownsRow h hv
  refine(Tryz.slices_Compact_int g 0 cap zs w hH (by omega) hn).mono ?_
  rintro e w' ⟨rfl,q,rfl⟩
  have hcl:=Lib.compact_length_le zs
  refine⟨_,rfl,?_,?_⟩
  ·have:=Lib.ownsRow_putRow (q:=q) (k:=(Lib.compact zs).length) (ys:=Lib.compact zs++List.replicate (zs.length-(Lib.compact zs).length) 0) h (by simp;omega) hcl
   simpa using this
  ·have:=grownBy_sortedI (w:=w) (g:=g) (n:=q) (os:=#[]) (Lib.compact zs++List.replicate (zs.length-(Lib.compact zs).length) 0).toArray
   simpa[Value.ownBlock] using this
theorem own_ints {base:Nat}{w:World}{v:Value}{l:List Int}(h:w.ownsRow base 3 1 v l.length (l.map (Value.int .i64))):∃ a c,v=.slice a l.length c∧IsSl rpInt (fun q=>base≤q) w v l:=by
 have hA:Acc rpInt 3 base (fun _=>False) w v l:=by
  refine⟨l.map (fun z=>[.int .i64 z]),by simp,?_,fun i hi=>⟨[.int .i64 l[i]],by simp[List.getElem?_eq_getElem hi],rfl⟩⟩
  have:(l.map (fun z=>[Value.int .i64 z])).flatten=l.map (Value.int .i64):=by
   clear h
   induction l with
   | nil=>rfl
   | cons a l ih=>simp only[List.map_cons,List.flatten_cons,ih];rfl
  rw[this];exact h
 obtain⟨a,c,hv⟩:=hA.len_shape
 exact⟨a,c,hv,hA.sl (fun _ _ h=>h.elim) (fun _ h=>h)⟩
theorem leaves_marks {F:Fence}{n:Nat}{P:Program}{fn:Func}{tmps:Array Value}{R:Ending→World→Prop}(B:Nat):∀ (Ds:List Nat) (w:World),Ds.Nodup→B≤w.heap.size→(∀ D∈Ds,B≤D∧w.heap[D]?=some (.deferred (some []))) →
  (∀ w',Keep (fun _=>True) w w'→Below B w w'→LeavesIn F n P fn tmps R [] .returning w')→LeavesInM F n P fn tmps R (Ds.map fun D=>{ target:=.collected D,args:=#[] }) .returning w
 | [],w,_,_,_,hk=>hk w (Keep.refl _ _) (Below.refl _ _)
 | D :: Ds,w,hd,hB,hD,hk=>by
  rw[List.nodup_cons] at hd
  have h1:=hD D (by simp)
  have hlt:D<w.heap.size:=(Array.getElem?_eq_some_iff.1 h1.2).1
  refine⟨by simp,.inl ⟨D,_,rfl,run_takeDeferred h1.2,?_⟩⟩
  have hbel:Below B w (w.putObj D (.deferred none)):=(Below.refl _ _).grown (grownBy_putObj' w D (.deferred none)) hB (fun r e=>by cases e;exact h1.1)
  have hkp:Keep (fun _=>True) w (w.putObj D (.deferred none)):=fun o v k _ hv=>cell_kept hv (grownBy_putObj' _ D (.deferred none)) (fun r e=>by cases e;exact⟨_,h1.2,rfl⟩)
  refine leaves_marks B Ds _ hd.2 (by simpa using hB) (fun D' hD'=>⟨(hD D' (by simp[hD'])).1,?_⟩) fun w' hk' hb'=>hk w' (hkp.trans hk') (hbel.trans hb')
  have hne:D'≠D:=fun e=>hd.1 (e ▸ hD')
  exact(World.putObj_heap_other hne).trans (hD D' (by simp[hD'])).2
theorem keepsOthers_grown {W W':World}{row:Option Nat}(hg:W.grownBy W' row)(hr:∀ r,row=some r→∃ o:Obj,W.heap[r]?=some o∧o.isCells=true):KeepsOthers W W':=
 ⟨hg.size,fun k o ho hc=>(hg.block k (Array.getElem?_eq_some_iff.1 ho).1 (fun e=>by
  obtain⟨o',ho',hc'⟩:=hr k e.symm
  rw[ho] at ho';cases ho';rw[hc] at hc';cases hc')).trans ho⟩
theorem own_row {w:World}{base:Nat}{e:TypeId}{size:Nat}{v:Value}{n:Nat}{xs:List Value}(h:w.ownsRow base e size v n xs):∀ r,v.ownBlock=some r→base≤r∧∃ cs,w.heap[r]?=some (.cells cs e (0,0)):=by
 intro r hr
 rcases h.2 with⟨rfl,_⟩ | ⟨g,cap,cur,rfl,hb,hg,_⟩
 ·cases hr
 ·cases hr;exact⟨hb,_,hg⟩
theorem own_kept {w w':World}{base:Nat}{e:TypeId}{size:Nat}{v:Value}{n:Nat}{xs:List Value}{row:Option Nat}(h:w.ownsRow base e size v n xs)(hg:w.grownBy w' row) 
  (hr:∀ r,row=some r→∃ o:Obj,w.heap[r]?=some o∧∀ cs,o≠.cells cs e (0,0)):w'.ownsRow base e size v n xs:=by
 refine h.kept hg ?_
 cases hv:v.ownBlock with
 | none=>exact .inl rfl
 | some g=>
  refine .inr fun e'=>?_
  obtain⟨_,cs,hc⟩:=own_row h g hv
  obtain⟨o,ho,hne⟩:=hr g e'.symm
  rw[hc] at ho;cases ho;exact hne cs rfl
structure OutAt (w:World) (Ds:List Nat) (vv:Value) (zs:List Int) (W:World):Prop where
 box:Blk W w.heap.size #[vv] 59
 own:W.ownsRow (w.heap.size+1) 3 1 vv zs.length (zs.map (Value.int .i64))
 nod:Ds.Nodup
 marks:∀ D∈Ds,w.heap.size+1≤D∧W.heap[D]?=some (.deferred (some []))
 below:Below w.heap.size w W
def OutG (B k:Nat)(t:TypeId):Prop:=k<B∨(B<k∧t≠3)
namespace OutAt
variable {w W W':World} {Ds:List Nat} {vv:Value} {zs:List Int}
theorem lt (h:OutAt w Ds vv zs W):∀ D∈Ds,D<W.heap.size:=fun D hD=>(Array.getElem?_eq_some_iff.1 (h.marks D hD).2).1
theorem blw (h:OutAt w Ds vv zs W)(hb:Below W.heap.size W W'):OutAt w Ds vv zs W':=
 ⟨h.box.below hb,ownsRow_below h.own hb,h.nod,fun D hD=>⟨(h.marks D hD).1,(hb.block D (h.lt D hD)).trans (h.marks D hD).2⟩,h.below.trans (hb.mono h.below.size)⟩
theorem alloc (h:OutAt w Ds vv zs W)(o:Obj):OutAt w Ds vv zs (W.alloc o):=h.blw ((Below.refl _ _).alloc (Nat.le_refl _) _)
theorem grown {B:Nat}{row:Option Nat}(h:OutAt w Ds vv zs W)(hlt:∀ D∈Ds,D<B)(hwB:w.heap.size<B)(hg:W.grownBy W' row) 
  (hr:∀ r,row=some r→B≤r∧∃ o:Obj,W.heap[r]?=some o∧∀ cs,o≠.cells cs 3 (0,0)):OutAt w Ds vv zs W':=
 ⟨h.box.grown hg (fun e=>by have:=(hr _ e).1;omega),own_kept h.own hg (fun r e=>(hr r e).2),h.nod,
  fun D hD=>⟨(h.marks D hD).1,(hg.block D (h.lt D hD) (fun e=>by have:=(hr _ e.symm).1;have:=hlt D hD;omega)).trans (h.marks D hD).2⟩,
  h.below.grown hg h.below.size (fun r e=>by have:=(hr r e).1;omega)⟩
theorem mark (h:OutAt w Ds vv zs W){D:Nat}(hD:W.heap[D]?=some (.deferred (some [])))(hn:∀ D'∈Ds,D'<D)(hw:w.heap.size+1≤D):OutAt w (D :: Ds) vv zs W:=
 ⟨h.box,h.own,List.nodup_cons.2 ⟨fun hm=>by have:=hn D hm;omega,h.nod⟩,fun D' h'=>by
  rcases List.mem_cons.1 h' with rfl | h'
  ·exact⟨hw,hD⟩
  ·exact h.marks D' h',h.below⟩
theorem push (h:OutAt w Ds vv zs W)(x:Int){w3:World}{v':Value}(hg:(W.alloc (.cells #[.int .i64 x] 3)).grownBy w3 vv.ownBlock) 
  (hown:w3.ownsRow (w.heap.size+1) 3 1 v' (zs.length+1) (zs.map (Value.int .i64)++[.int .i64 x])) :
  OutAt w Ds v' (zs++[x]) (w3.setCell ⟨w.heap.size,0,none⟩ v')∧KeepsOthers W (w3.setCell ⟨w.heap.size,0,none⟩ v')∧KeepC (OutG w.heap.size) W (w3.setCell ⟨w.heap.size,0,none⟩ v'):=by
 have ho1:=h.own.alloc (.cells #[.int .i64 x] 3)
 have h1:=h.alloc (.cells #[.int .i64 x] 3)
 have hrow:=own_row ho1
 have hk3:KeepsOthers (W.alloc (.cells #[.int .i64 x] 3)) w3:=keepsOthers_grown hg (fun r e=>by
  obtain⟨_,cs,hc⟩:=hrow r e;exact⟨_,hc,rfl⟩)
 have hbox3:Blk w3 w.heap.size #[vv] 59:=h1.box.grown hg (fun e=>by have:=(hrow _ e).1;omega)
 have hbel3:Below w.heap.size w w3:=h1.below.grown hg h1.below.size (fun r e=>by have:=(hrow r e).1;omega)
 have hkc:KeepC (OutG w.heap.size) (W.alloc (.cells #[.int .i64 x] 3)) w3:=⟨hg.size,fun k cs t fr hk hc=>(hg.block k (Array.getElem?_eq_some_iff.1 hc).1 (fun e=>by
  obtain⟨hle,cs',hc'⟩:=hrow k e.symm
  rw[hc] at hc';cases hc'
  rcases hk with hk | hk
  ·omega
  ·exact hk.2 rfl)).trans hc⟩
 refine⟨⟨hbox3.set 0 _,?_,h.nod,fun D hD=>⟨(h1.marks D hD).1,?_⟩,hbel3.setCell (by simp) _⟩,(((KeepsOthers.alloc W _).trans hk3).trans (KeepsOthers.setCell _ _ _)),?_⟩
 ·have:=ownsRow_setCell_below hown (a:=⟨w.heap.size,0,none⟩) (by simp) v'
  simpa using this
 ·exact(KeepsOthers.setCell w3 _ v').same D _ (hk3.same D _ (h1.marks D hD).2 rfl) rfl
 ·exact(((KeepC.refl _ W).alloc _).trans hkc).setCell _ _ (fun t ht=>by rcases ht with h | h <;> simp at h)
theorem push_box (h:OutAt w Ds vv zs W){x:Int}{w3:World}(hg:(W.alloc (.cells #[.int .i64 x] 3)).grownBy w3 vv.ownBlock):Blk w3 w.heap.size #[vv] 59:=
 (h.alloc (.cells #[.int .i64 x] 3)).box.grown hg (fun e=>by have:=(own_row (h.own.alloc (.cells #[.int .i64 x] 3)) _ e).1;omega)
theorem turned (h:OutAt w Ds vv zs W){ys:List Int}{W':World}(hg:W.grownBy W' vv.ownBlock){v':Value}(hown:W'.ownsRow (w.heap.size+1) 3 1 v' ys.length (ys.map (Value.int .i64))):
  (Blk W' w.heap.size #[vv] 59∧∀ D∈Ds,w.heap.size+1≤D∧W'.heap[D]?=some (.deferred (some [])))∧Below w.heap.size w W':=by
 have hrow:=own_row h.own
 refine⟨⟨h.box.grown hg (fun e=>by have:=(hrow _ e).1;omega),fun D hD=>⟨(h.marks D hD).1,?_⟩⟩,h.below.grown hg h.below.size (fun r e=>by have:=(hrow r e).1;omega)⟩
 refine(hg.block D (h.lt D hD) (fun e=>?_)).trans (h.marks D hD).2
 obtain⟨_,cs,hc⟩:=hrow D e.symm
 rw[(h.marks D hD).2] at hc;cases hc
theorem sorted (h:OutAt w Ds vv zs W){ys:List Int}{W':World}(hg:W.grownBy W' vv.ownBlock)(hown:W'.ownsRow (w.heap.size+1) 3 1 vv ys.length (ys.map (Value.int .i64))):OutAt w Ds vv ys W':=
 let q:=h.turned hg hown
 ⟨q.1.1,hown,h.nod,q.1.2,q.2⟩
theorem leave (h:OutAt w Ds vv zs W){ys:List Int}{W':World}(hg:W.grownBy W' vv.ownBlock){v':Value}(hown:W'.ownsRow (w.heap.size+1) 3 1 v' ys.length (ys.map (Value.int .i64))) 
  {F:Fence} {n:Nat} {P:Program} {fn:Func} {tmps:Array Value} (hr:∀ w3:World,(results fn tmps).run P w3=.ok v' w3) :
  LeavesInM F n P fn tmps (FreshInts ys w) (Ds.map fun D=>{ target:=.collected D,args:=#[] }) .returning W':=by
 obtain⟨⟨hb,hm⟩,hbel⟩:=h.turned hg hown
 refine leaves_marks (w.heap.size+1) Ds W' h.nod (by have:=hb.lt;omega) hm (fun w3 hk hb3=>?_)
 obtain⟨a,c,hv,hs⟩:=own_ints hown
 subst hv
 exact⟨_,hr w3,a,c,rfl,(hs.keep (fun k o u _ hu=>hk k o u trivial hu)).weaken (by decide) (fun q _ hq=>by omega),hbel.trans (hb3.mono (by omega))⟩
end OutAt
end Go.Proofs.YtflbnonbfmmchaaGreat
namespace Go.Proofs.YtflbnonbfmmchaaGreat
open Go.RowKit Go.Shelf
attribute [local go_sem] Oper.semAt_some
theorem tms_cells {F:Nat→Prop}{w:World}{v:Value}{l:List Tm}(h:IsSl rpTm F w v l):∃ a c,v=.slice a l.length c∧(l.length≤maxLen∧l.length≤c)∧∃ (bl off:Nat),
  (0<l.length→a=some ⟨bl,off,none⟩∧F bl)∧∀ j (hj:j<l.length),∃ b k i s,w.cell? ⟨bl,off+j * 4,none⟩=some b∧w.cell? ⟨bl,off+j * 4+1,none⟩=some k∧w.cell? ⟨bl,off+j * 4+2,none⟩=some i∧w.cell? ⟨bl,off+j * 4+3,none⟩=some s∧IsTm F w b k i s l[j]:=by
 obtain⟨a,c,bl,off,X,hv,hm,ha,h1,h2⟩:=h
 refine⟨a,c,hv,hm,bl,off,ha,fun j hj=>?_⟩
 obtain⟨b,k,i,s,hx,ht⟩:=h2 j hj
 exact⟨b,k,i,s,h1 j 0 b hj (by rw[hx];rfl),h1 j 1 k hj (by rw[hx];rfl),h1 j 2 i hj (by rw[hx];rfl),h1 j 3 s hj (by rw[hx];rfl),ht⟩
def metasP (l:List (Nat×Nat×Tm)):List Int:=l.filterMap fun p=>if p.2.2.kind=2 then some p.2.2.index else none
def metasL (l:List Tm):List Int:=l.flatMap fun t=>metasP (t.pre 0 1)
theorem metasL_take (l:List Tm)(j:Nat)(h:j<l.length):metasL (l.take (j+1))=metasL (l.take j)++metasP (l[j].pre 0 1):=by
 rw[List.take_succ_eq_append_getElem h];unfold metasL;rw[List.flatMap_append];simp
theorem metasL_len (l:List Tm)(m:Nat)(h:∀ t∈l,t.full≤m):(metasL l).length≤l.length * m:=by
 induction l with
 | nil=>simp[metasL]
 | cons t l ih=>
  have h1:=h t (by simp)
  have h2:=ih (fun u hu=>h u (by simp[hu]))
  have h3:(metasL (t :: l)).length=(metasP (t.pre 0 1)).length+(metasL l).length:=by simp[metasL]
  have h4:(metasP (t.pre 0 1)).length≤(t.pre 0 1).length:=List.length_filterMap_le _ _
  rw[Tm.pre_length] at h4
  have h5:=Tm.size_le_full t
  rw[h3,List.length_cons,Nat.succ_mul];omega
set_option maxRecDepth 100000 in
set_option maxHeartbeats 4000000 in
theorem metas6_k {F:Nat→Prop}{w:World}{v:Value}{l:List Tm}(h:IsSl rpTm F w v l)(hl:l.length≤9)(hsz:∀ t∈l,t.full≤90000):Calls Tryz.prog 31 #[v] w (FreshInts (sortU (metasL l)) w):=by
 refine(callsIn_wide (n:=9)).1 ?_
 have Ht:=Lib.hid (h.weaken (F':=fun _=>True) (by decide) fun _ _ _=>trivial)
 obtain⟨a,c,rfl,hm,bl,off,ha,hc⟩:=tms_cells Ht.out
 obtain⟨ll,hll⟩:∃ x,l.length=x:=⟨_,rfl⟩
 clear h Ht
 have Hm:=Lib.hid hm;clear hm
 have Hc:=Lib.hid hc;clear hc
 have Hsz:=Lib.hid hsz;clear hsz
 rw[hll] at ha hl ⊢
 obtain⟨i2,hi2,hz0,hz1,hz2⟩:=info_parts infoI
 refine callsIn_of_wp_marks Tryz.func31 rfl trivial ?_ rfl
 simp only[Tryz.ntmps31,List.size_toArray,List.length_cons,List.length_nil,Nat.reduceAdd,Nat.reduceSub,Array.replicate_succ,Array.replicate_zero,List.push_toArray,List.append_toArray,List.nil_append,List.cons_append]
 gi_wp2_with fail
 refine wpIn_loop (fun a' w'=>∃ (j:Nat) (Ds:List Nat) (zs:List Int) (vv u5 u11 u12 u13 u14 u15 u28:Value),a'={ tmps:=#[.slice a ll c,undef,.slice none 0 0,.pointer (some ⟨w.heap.size,0,none⟩),undef,u5,undef,undef,.slice a ll c,.int .i64 ll,.int .i64 j,u11,u12,u13,u14,u15,undef,undef,undef,undef,undef,undef,undef,undef,undef,undef,undef,undef,u28,undef,undef,undef,undef],defers:=Ds.map fun D=>{ target:=.collected D,args:=#[] } } ∧
   j≤ll∧Hid (zs=metasL (l.take j))∧OutAt w Ds vv zs w') (fun a' _=>ll-(intOf (a'.tmps.getD 10 undef)).toNat) ?start ?round
 case start=>
  refine⟨0,[],[],.slice none 0 0,undef,undef,undef,undef,undef,undef,undef,rfl,by omega,by show _=_;simp[metasL],?_⟩
  exact⟨Blk.new _ _ _ rfl,World.ownsRow_nil _ _ _ _,by simp,by simp,(Below.refl _ _).alloc (Nat.le_refl _) _⟩
 case round=>
  rintro a' W ⟨j,Ds,zs,vv,u5,u11,u12,u13,u14,u15,u28,rfl,hj,hzs,hO⟩
  have hj0:(0:Int)≤(j:Int):=Int.natCast_nonneg _
  have HO:=Lib.hid hO;clear hO
  by_cases hlt:j<ll
  ·have hj1:(j:Int)<(ll:Int):=by omega
   obtain⟨rfl,_⟩:=ha (by omega)
   obtain⟨vb,vk,vi,vs,e1,e2,e3,e4,hty⟩:=Hc.out j (by omega)
   have hW:=HO.out.below
   have e1:=((Keep.refl (fun _=>True) _).below hW) _ _ _ trivial e1
   have e2:=((Keep.refl (fun _=>True) _).below hW) _ _ _ trivial e2
   have e3:=((Keep.refl (fun _=>True) _).below hW) _ _ _ trivial e3
   have e4:=((Keep.refl (fun _=>True) _).below hW) _ _ _ trivial e4
   have Htk:=Lib.hid (metasL_take l j (by omega))
   have hts:=Hsz.out l[j] (List.getElem_mem _)
   obtain⟨t,ht⟩:∃ t,l[j]=t:=⟨_,rfl⟩
   rw[ht] at hty Htk hts
   clear ht
   obtain⟨pa,pc,qa,qc,rfl,rfl,rfl,rfl⟩:=hty.shape
   have Hty:=Lib.hid hty;clear hty
   obtain⟨x1,hx1⟩:∃ x,t.binds.length=x:=⟨_,rfl⟩
   obtain⟨x2,hx2⟩:∃ x,t.args.length=x:=⟨_,rfl⟩
   obtain⟨x3,hx3⟩:∃ x,t.kind=x:=⟨_,rfl⟩
   obtain⟨x4,hx4⟩:∃ x,t.index=x:=⟨_,rfl⟩
   rw[hx1,hx2,hx3,hx4] at Hty
   rw[hx1] at e1
   rw[hx3] at e2
   rw[hx4] at e3
   rw[hx2] at e4
   clear hx1 hx2 hx3 hx4
   gi_wp2_with fail
   refine⟨trivial,(each6_k _ _ _ _ _ _ ⟨_,_,_,rfl⟩ ⟨_,rfl⟩ ⟨_,rfl⟩ ⟨_,_,_,rfl⟩).mono ?_⟩
   rintro e w' ⟨rfl,rfl⟩
   gi_wp2_with fail
   have HO5:=Lib.hid ((HO.out.alloc (.cells #[.slice pa x1 pc,.int .i64 x3,.int .i64 x4,.slice qa x2 qc] 41)).alloc (.cells #[.slice pa x1 pc,.int .i64 x3,.int .i64 x4,.slice qa x2 qc] 41))
   obtain⟨w5,hw5⟩:∃ w5,(W.alloc (.cells #[.slice pa x1 pc,.int .i64 x3,.int .i64 x4,.slice qa x2 qc] 41)).alloc (.cells #[.slice pa x1 pc,.int .i64 x3,.int .i64 x4,.slice qa x2 qc] 41)=w5:=⟨_,rfl⟩
   have hz:w5.heap.size=W.heap.size+2:=by rw[←hw5];simp
   have y3:Blk w5 (W.heap.size+1) #[.slice pa x1 pc,.int .i64 x3,.int .i64 x4,.slice qa x2 qc] 41:=by rw[←hw5];exact Blk.new _ _ _ (by simp)
   rw[hw5] at HO5 ⊢
   clear hw5
   have hsz1:=HO.out.box.lt
   have hlts:=HO.out.lt
   clear HO
   have Hlts:Hid (∀ D∈Ds,D<w5.heap.size):=fun D hD=>by have:=hlts D hD;omega
   clear hlts
   refine range_softA (Ok:=SpotOk) (fun o h=>.inl h) rfl (by omega) (gf:=126) (lb:=#[.pointer (some ⟨W.heap.size+1,0,none⟩)]) rfl trivial (enters_of Tryz.func126 (by kernel_rfl) rfl)
    (each6_soft (OutG w.heap.size) (fun k _ _ hk=>.inl hk) Hty.out (by omega) (9-1) w5 (fun k _ hk ht=>.inr ⟨by omega,ht⟩) ((Keep.refl _ _).below HO5.out.below) (W.heap.size+1) y3)
    (fun h h'=>h.trans h') (fun W l o o' _ hl ho _=>KeepC.putObj _ W l o o' hl ho) (Below.refl _ _) (fun _=>rfl)
    (fun pre V=>∃ v',OutAt w Ds v' (zs++metasP (pre.map Hit6.key)) V)
    (fun _ _ _=>False)
    (fun pre A B row ⟨v',h⟩ hg hr=>⟨v',h.grown Hlts.out (by omega) hg (fun r e=>by
     obtain⟨h1,o,ho,hc⟩:=hr r e
     refine⟨h1,o,ho,fun cs e=>?_⟩
     subst e
     rcases hc with hc | ⟨cs',fr,hc⟩
     ·simp[Obj.isCells] at hc
     ·cases hc)⟩)
    (fun _ _ _ _ _ hs _ _=>hs)
    ⟨vv,by simpa[metasP] using HO5.out⟩
    (fun x a' V=>∃ Bx,Blk V Bx #[.slice x.pb x.t.binds.length x.cb,.int .i64 x.t.kind,.int .i64 x.t.index,.slice x.pa x.t.args.length x.ca] 41∧a'={ tmps:=#[.slice (some ⟨bl,off,none⟩) ll c,undef,.slice none 0 0,.pointer (some ⟨w.heap.size,0,none⟩),undef,.pointer (some ⟨W.heap.size,0,none⟩),undef,.pointer (some ⟨Bx,0,none⟩),.slice (some ⟨bl,off,none⟩) ll c,.int .i64 ll,.int .i64 j,.bool true,.pointer (some ⟨bl,off+j * 4,none⟩),.agg #[.slice pa x1 pc,.int .i64 x3,.int .i64 x4,.slice qa x2 qc],.agg #[.slice pa x1 pc,.int .i64 x3,.int .i64 x4,.slice qa x2 qc],.func (.func 126) #[] #[.pointer (some ⟨W.heap.size+1,0,none⟩)],.agg #[.int .i64 x.s,.int .i64 x.d],.agg #[.slice x.pb x.t.binds.length x.cb,.int .i64 x.t.kind,.int .i64 x.t.index,.slice x.pa x.t.args.length x.ca],undef,undef,undef,undef,undef,undef,undef,undef,undef,undef,u28,undef,undef,undef,undef],defers:=[] })
    (fun x a' W l o o' hl ho hoc=>by
     rintro⟨Bx,h2,h3⟩
     have hne:l≠Bx:=fun e=>by
      subst e
      have hb:W.heap[l]?=_:=h2
      rw[hb] at ho;cases ho;simp[Obj.isCells] at hoc
     exact⟨Bx,(World.putObj_heap_other (Ne.symm hne)).trans h2,h3⟩) ?assign ?body ?done ?stop
   case assign=>
    rintro l pre x V K ⟨v',hV⟩ hK
    have HK:=Lib.hid hK;clear hK
    have HV:=Lib.hid hV;clear hV
    simp only[Hit6.enc] at *
    gi_wp2
    exact HK.out _ _ ((KeepsOthers.alloc _ _).from _) ((KeepC.refl _ V).alloc _) ⟨v',HV.out.alloc _⟩ ⟨V.heap.size,Blk.new _ _ _ rfl,rfl⟩
   case body=>
    rintro l' pre x a' V ⟨v',hV⟩ hlt' ⟨Bx,bX,rfl⟩
    have c1:V.cell? ⟨w.heap.size,0,none⟩=some v':=hV.box.cell rfl
    have cx1:V.cell? ⟨Bx,1,none⟩=some (.int .i64 x.t.kind):=bX.cell rfl
    have cx2:V.cell? ⟨Bx,2,none⟩=some (.int .i64 x.t.index):=bX.cell rfl
    have hlen0:(zs++metasP (pre.map Hit6.key)).length≤900000:=by
     have h1:(metasL (l.take j)).length≤720000:=by
      have:=metasL_len (l.take j) 90000 (fun t ht=>Hsz.out t (List.mem_of_mem_take ht))
      have h2:(l.take j).length≤8:=by simp;omega
      exact Nat.le_trans this (Nat.le_trans (Nat.mul_le_mul_right 90000 h2) (by decide))
     have h2:(metasP (pre.map Hit6.key)).length≤pre.length:=by
      have:=List.length_filterMap_le (fun p:Nat×Nat×Tm=>if p.2.2.kind=2 then some p.2.2.index else none) (pre.map Hit6.key)
      simpa[metasP] using this
     have h3:=Tm.size_le_full t
     rw[hzs.out,List.length_append]
     omega
    have hkey:metasP ((pre++[x]).map Hit6.key)=metasP (pre.map Hit6.key)++(if x.t.kind=2 then [x.t.index] else []):=by
     unfold metasP
     rw[List.map_append,List.filterMap_append]
     congr 1
     by_cases hk:x.t.kind=2
     ·simp[Hit6.key,hk]
     ·simp[Hit6.key,hk]
    have hkey2:zs++metasP ((pre++[x]).map Hit6.key)=(zs++metasP (pre.map Hit6.key))++(if x.t.kind=2 then [x.t.index] else []):=by rw[hkey,List.append_assoc]
    clear hkey
    obtain⟨zp,hzp⟩:∃ zp,zs++metasP (pre.map Hit6.key)=zp:=⟨_,rfl⟩
    rw[hzp] at hV hkey2 hlen0
    obtain⟨kk,hkk⟩:∃ k,x.t.kind=k:=⟨_,rfl⟩
    obtain⟨ii,hii⟩:∃ k,x.t.index=k:=⟨_,rfl⟩
    rw[hkk,hii] at hkey2
    rw[hkk] at cx1 ⊢
    rw[hii] at cx2 ⊢
    clear hzp hkk hii
    have HV:=Lib.hid hV;clear hV
    have hsz3:=HV.out.below.size
    have f0:=HV.out.box.free 0
    by_cases hk:kk=2
    ·subst hk
     rw[if_pos rfl] at hkey2
     have Hkey:=Lib.hid hkey2;clear hkey2
     gi_wp2_with (gi_at_builtin;refine wpListIn_append_own _ rfl _ _ 59 rfl (w.heap.size+1) 3 i2 _ 1 8 Tryz.underlying59 hi2 hz0 hz1 hz2 rfl (by decide) v' zp.length (zp.map (Value.int .i64)) rfl (HV.out.own.alloc _) ⟨V.heap.size,0,none⟩ 1 1 [.int .i64 ii] rfl rfl (fun jj u hu=>by
       cases jj with
       | zero=>simp at hu;subst hu;exact(Blk.new V #[.int .i64 ii] 3 rfl).cell rfl
       | succ _=>simp at hu) (by simp[Value.oneCell']) (by simp[maxLen];omega) (by omega) (by have:=HV.out.box.lt;simp;omega) ?_;intro v2 w3 hown3 hg3 hnil3;have Hg3:=Lib.hid hg3;obtain⟨g3,cap3,rfl⟩:=ownsRow_succ hown3;have Hown3:=Lib.hid hown3;clear hown3 hg3 hnil3;have c3:=(HV.out.push_box Hg3.out).cell (i:=0) rfl;have f3:=(HV.out.push_box Hg3.out).free 0)
     obtain⟨q1,q2,q3⟩:=HV.out.push ii Hg3.out Hown3.out
     exact⟨q2.from _,q3,_,by rw[Hkey.out];exact q1⟩
    ·rw[if_neg hk,List.append_nil] at hkey2
     have Hkey:=Lib.hid hkey2;clear hkey2
     have hk':(kk==2)=false:=by simpa using hk
     gi_wp2
     exact⟨(KeepsOthers.refl _).from _,KeepC.refl _ _,_,by rw[Hkey.out];exact HV.out⟩
   case done=>
    rintro D ys V hD hys ⟨v',hV⟩ hK
    have hV2:=hV.mark hK (fun D' h'=>by have:=Hlts.out D' h';omega) (by omega)
    have Hz:Hid (zs++metasP (ys.map Hit6.key)=metasL (l.take (j+1))):=by show _=_;rw[hys,Htk.out,hzs.out]
    rw[Hz.out] at hV2
    clear hV hK hys
    have HV:=Lib.hid hV2;clear hV2
    gi_wp2_with fail
    refine⟨⟨j+1,D :: Ds,_,v',_,_,_,_,_,_,_,rfl,by omega,rfl,HV.out⟩,?_⟩
    simp[intOf];omega
   case stop=>
    rintro D cc pre V _ _ h _
    exact h.elim
  ·have hO:=HO.out
   have hz2:zs=metasL l:=by rw[hzs.out,List.take_of_length_le (by omega)]
   have hlen:zs.length≤1000000:=by
    have:=metasL_len l 90000 Hsz.out
    rw[hz2]
    exact Nat.le_trans this (Nat.le_trans (Nat.mul_le_mul_right 90000 (show l.length≤9 by omega)) (by decide))
   have c1:W.cell? ⟨w.heap.size,0,none⟩=some vv:=hO.box.cell rfl
   clear hO
   gi_wp2_with fail
   refine⟨trivial,(callsIn_wide.2 (sort_own (base:=w.heap.size+1) HO.out.own hlen)).mono ?_⟩
   rintro e W2 ⟨rfl,hown2,hg2⟩
   have hl2:=List.length_mergeSort (le:=fun x y:Int=>decide (x≤y)) zs
   have HO2:=Lib.hid (HO.out.sorted hg2 (by rw[hl2];exact hown2))
   clear HO hown2 hg2
   have c2:W2.cell? ⟨w.heap.size,0,none⟩=some vv:=HO2.out.box.cell rfl
   gi_wp2_with fail
   refine⟨trivial,(callsIn_wide.2 (compact_own (base:=w.heap.size+1) HO2.out.own (by rw[hl2];exact hlen))).mono ?_⟩
   rintro e W3 ⟨v',rfl,hown3,hg3⟩
   have Hown3:=Lib.hid hown3;have Hg3:=Lib.hid hg3
   clear hown3 hg3
   gi_wp2_with fail
   have h:=HO2.out.leave Hg3.out Hown3.out (F:=Fence.wide) (n:=9) (P:=Tryz.prog) (fn:=Tryz.f31) (tmps:=#[.slice a ll c,undef,v',.pointer (some ⟨w.heap.size,0,none⟩),undef,u5,undef,undef,.slice a ll c,.int .i64 ll,.int .i64 j,.bool false,u12,u13,u14,u15,undef,undef,undef,undef,undef,undef,undef,undef,undef,undef,undef,undef,u28,vv,.tuple #[],vv,v']) (fun w3=>results_tmp (t:=2) rfl _ _ w3)
   rw[hz2] at h
   exact h
end Go.Proofs.YtflbnonbfmmchaaGreat
namespace Go.Proofs.YtflbnonbfmmchaaGreat
open Go.RowKit
namespace Pn
variable {C M:List Ty}
mutual
def mtt:Tm→List Int
 | .mk _ k i a=>(if k=2 then [i] else [])++mtts a
def mtts:List Tm→List Int
 | []=>[]
 | t :: l=>mtt t++mtts l
end
theorem mtt_eq (b:List Ty)(k i:Int)(a:List Tm):mtt (.mk b k i a)=(if k=2 then [i] else [])++mtts a:=by rw[mtt]
theorem mtts_mem {n:Int}:∀ {l:List Tm},n∈mtts l↔∃ t∈l,n∈mtt t
 | []=>by simp[mtts]
 | t :: l=>by rw[mtts,List.mem_append,mtts_mem];simp
theorem metasP_pres_mtt {l:List Tm}(h:∀ t∈l,∀ s p,metasP (t.pre s p)=mtt t):∀ s p,metasP (Tm.pres l s p)=mtts l:=by
 induction l with
 | nil=>intro s p;rw[Tm.pres,mtts];rfl
 | cons t l ih=>
  intro s p
  rw[Tm.pres,mtts,←ih (fun u hu=>h u (by simp[hu])) s p,←h t (by simp) s p]
  unfold metasP;rw[List.filterMap_append]
theorem metasP_mtt (t:Tm):∀ s p,metasP (t.pre s p)=mtt t:=by
 induction t using Tm.ind with
 | h b k i a ih=>
  intro s p
  have hr:=metasP_pres_mtt ih (s+b.length) (p+1)
  rw[Tm.pre_eq,mtt_eq,←hr]
  unfold metasP
  rw[List.filterMap_cons]
  by_cases hk:k=2
  ·simp[hk,Tm.kind,Tm.index]
  ·simp[hk,Tm.kind,Tm.index]
theorem mem_mtt (t:Tm)(n:Int):n∈sortU (metasL [t])↔n∈mtt t:=by
 rw[(sortU_spec _).2]
 unfold metasL
 simp only[List.flatMap_cons,List.flatMap_nil,List.append_nil,metasP_mtt]
end Pn
namespace Hs
mutual
def TW (P:Tm→List Tm→Tm)(τ:Int→Option Tm):Tm→Nat→Tm
 | .mk b k i a,z=>if k=2 then (match τ i with
   | some v=>wb b (P (Rn (· + (z+b.length)) v 0) (TWs P τ a (z+b.length)))
   | none=>.mk b k i (TWs P τ a (z+b.length)))
  else .mk b k i (TWs P τ a (z+b.length))
def TWs (P:Tm→List Tm→Tm)(τ:Int→Option Tm):List Tm→Nat→List Tm
 | [],_=>[]
 | t :: l,z=>TW P τ t z :: TWs P τ l z
end
variable {P:Tm→List Tm→Tm}
theorem TWs_map (τ:Int→Option Tm)(z:Nat):∀ l:List Tm,TWs P τ l z=l.map fun t=>TW P τ t z
 | []=>by rw[TWs];rfl
 | t :: l=>by rw[TWs,TWs_map τ z l];rfl
theorem TW_out (τ:Int→Option Tm)(b:List Ty)(k i:Int)(a:List Tm)(z:Nat)(h:k=2→τ i=none):TW P τ (.mk b k i a) z=.mk b k i (a.map fun t=>TW P τ t (z+b.length)):=by
 rw[TW,TWs_map]
 by_cases hk:k=2
 ·rw[if_pos hk,h hk]
 ·rw[if_neg hk]
theorem TW_m (τ:Int→Option Tm)(b:List Ty)(i:Int)(a:List Tm)(z:Nat){v:Tm}(h:τ i=some v):TW P τ (.mk b 2 i a) z=wb b (P (Rn (· + (z+b.length)) v 0) (a.map fun t=>TW P τ t (z+b.length))):=by
 rw[TW,TWs_map,if_pos rfl,h]
theorem cases_m (τ:Int→Option Tm)(k i:Int):(k=2→τ i=none)∨(k=2∧∃ v,τ i=some v):=by
 by_cases hk:k=2
 ·cases h:τ i with
  | none=>exact .inl fun _=>rfl
  | some v=>exact .inr ⟨hk,v,rfl⟩
 ·exact .inl fun h=>absurd h hk
theorem TW_jk (τ:Int→Option Tm)(z:Nat):TW P τ jk z=jk:=by
 unfold jk
 rw[TW_out _ _ _ _ _ _ (fun h=>absurd h (by decide))];rfl
theorem TW_binds (τ:Int→Option Tm)(w:Tm)(z:Nat):(TW P τ w z).binds=w.binds:=by
 obtain⟨b,k,i,a⟩:=w
 rw[TW]
 split
 ·split <;> rfl
 ·rfl
theorem TW_wb (τ:Int→Option Tm)(b:List Ty)(w:Tm)(z:Nat):TW P τ (wb b w) z=wb b (TW P τ (bo w) (z+b.length)):=by
 obtain⟨b',k,i,a⟩:=w
 show TW P τ (.mk b k i a) z=wb b (TW P τ (.mk [] k i a) (z+b.length))
 rcases cases_m τ k i with h | ⟨rfl,v,h⟩
 ·rw[TW_out _ _ _ _ _ _ h,TW_out _ _ _ _ _ _ h];rfl
 ·rw[TW_m _ _ _ _ _ h,TW_m _ _ _ _ _ h];rfl
theorem TW_bo (τ:Int→Option Tm)(w:Tm)(z:Nat):bo (TW P τ w z)=bo (TW P τ (bo w) (z+w.binds.length)):=by
 obtain⟨b,k,i,a⟩:=w
 have e:TW P τ (.mk b k i a) z=wb b (TW P τ (.mk [] k i a) (z+b.length)):=TW_wb τ b (.mk [] k i a) z
 rw[e];rfl
def rnO (r:Nat→Nat)(τ:Int→Option Tm)(i:Int):Option Tm:=(τ i).map fun v=>Rn r v 0
theorem bo_of {w:Tm}(h:w.binds=[]):bo w=w:=by
 obtain⟨b,k,i,a⟩:=w
 have h:b=[]:=h
 subst h;rfl
theorem TW_up (τ:Int→Option Tm)(c:Nat)(t:Tm):∀ z,TW P (rnO (· + c) τ) t z=TW P τ t (z+c):=by
 induction t using Tm.ind with
 | h b k i a ih=>
  intro z
  have ha:(a.map fun t=>TW P (rnO (· + c) τ) t (z+b.length))=a.map fun t=>TW P τ t (z+c+b.length):=List.map_congr_left fun t ht=>by rw[ih t ht];congr 1;omega
  rcases cases_m τ k i with h | ⟨rfl,v,h⟩
  ·rw[TW_out _ _ _ _ _ _ h,TW_out _ _ _ _ _ _ (fun hk=>by unfold rnO;rw[h hk];rfl),ha]
  ·rw[TW_m _ _ _ _ _ h,TW_m (rnO (· + c) τ) _ _ _ _ (v:=Rn (· + c) v 0) (by unfold rnO;rw[h];rfl),ha,Rn_Rn]
   congr 2
   exact Rn_ext (fun d=>by omega) _ _
theorem TW_up0 (τ:Int→Option Tm)(c:Nat)(t:Tm):TW P τ t c=TW P (rnO (· + c) τ) t 0:=by rw[TW_up,Nat.zero_add]
def T (F:Nat):(Int→Option Tm)→Tm→Nat→Tm:=TW (PF F)
variable (F:Nat)
theorem rn_T (r:Nat→Nat)(τ:Int→Option Tm)(t:Tm):∀ z,Rn r (T F τ t z) z=T F (rnO r τ) (Rn r t z) z:=by
 induction t using Tm.ind with
 | h b k i a ih=>
  intro z
  have ha:((a.map fun t=>T F τ t (z+b.length)).map fun t=>Rn r t (z+b.length))=(a.map fun t=>Rn r t (z+b.length)).map fun t=>T F (rnO r τ) t (z+b.length):=by
   rw[List.map_map,List.map_map];exact List.map_congr_left fun t ht=>ih t ht _
  rcases cases_m τ k i with h | ⟨rfl,v,h⟩
  ·have e1:T F τ (.mk b k i a) z=.mk b k i (a.map fun t=>T F τ t (z+b.length)):=TW_out _ _ _ _ _ _ h
   rw[e1]
   rcases cases_ix b k i z with hi | ⟨rfl,d,rfl⟩
   ·rw[Rn_out _ _ _ _ _ _ hi,Rn_out _ _ _ _ _ _ hi,ha]
    exact(TW_out _ _ _ _ _ _ (fun hk=>by unfold rnO;rw[h hk];rfl)).symm
   ·rw[Rn_v,Rn_v,ha]
    exact(TW_out _ _ _ _ _ _ (fun hk=>absurd hk (by decide))).symm
  ·have e1:T F τ (.mk b 2 i a) z=wb b (PF F (Rn (· + (z+b.length)) v 0) (a.map fun t=>T F τ t (z+b.length))):=TW_m _ _ _ _ _ h
   rw[e1,Rn_out _ _ _ _ _ _ (fun h=>absurd h.1 (by decide)),Rn_wb,PF_bo,rn_P,ha,Rn_comm]
   exact(TW_m (rnO r τ) _ _ _ _ (by unfold rnO;rw[h];rfl)).symm
theorem T_lift (τ:Int→Option Tm)(m c:Nat)(x:Tm):T F τ (Rn (· + m) x 0) (m+c)=Rn (· + m) (T F τ x c) 0:=by
 have e1:T F τ (Rn (· + m) x 0) (m+c)=T F (rnO (· + (m+c)) τ) (Rn (· + m) x 0) 0:=TW_up0 _ _ _
 have e2:T F τ x c=T F (rnO (· + c) τ) x 0:=TW_up0 _ _ _
 rw[e1,e2,rn_T]
 congr 1
 funext i
 unfold rnO
 cases τ i with
 | none=>rfl
 | some v=>
  show some (Rn (· + (m+c)) v 0)=some (Rn (· + m) (Rn (· + c) v 0) 0)
  rw[Rn_Rn]
  congr 1
  exact Rn_ext (fun d=>by omega) _ _
structure Sb (f c:Nat) (τ τ2:Int→Option Tm) (ρ ρ2:Nat→Img):Prop where
 m:∀ i,(τ i=none∧τ2 i=none)∨∃ v v2,τ i=some v∧τ2 i=some v2∧H f ρ2 v2 0=Rn (· + c) v 0
 v:∀ d,(∃ k,ρ d=.v k∧ρ2 d=.v k)∨∃ x,ρ d=.t x∧ρ2 d=.t (T F τ x c)
theorem sub_of (f:Nat)(hP:∀ (τ:Int→Option Tm) (X:Tm) (xs':List Tm) (m:Nat),T F τ (PF f X xs') m=PF f (T F τ X m) (xs'.map fun t=>T F τ t m))(c:Nat)(τ τ2:Int→Option Tm)(ρ ρ2:Nat→Img)(hs:Sb F f c τ τ2 ρ ρ2)(t:Tm):∀ z,T F τ (H f ρ t z) (z+c)=H f ρ2 (T F τ2 t z) z:=by
 induction t using Tm.ind with
 | h b k i a ih=>
  intro z
  have hz:z+c+b.length=z+b.length+c:=by omega
  have ha:((a.map fun t=>H f ρ t (z+b.length)).map fun t=>T F τ t (z+b.length+c))=(a.map fun t=>T F τ2 t (z+b.length)).map fun t=>H f ρ2 t (z+b.length):=by
   rw[List.map_map,List.map_map];exact List.map_congr_left fun t ht=>ih t ht _
  rcases cases_ix b k i z with h | ⟨rfl,d,rfl⟩
  ·have e1:H f ρ (.mk b k i a) z=.mk b k i (a.map fun t=>H f ρ t (z+b.length)):=by rw[H_is f];exact HW_out _ _ _ _ _ _ _ h
   rw[e1]
   rcases cases_m τ k i with hm | ⟨rfl,v,hm⟩
   ·have hm2:k=2→τ2 i=none:=fun hk=>by
     rcases hs.m i with h | ⟨v,v2,h,_⟩
     ·exact h.2
     ·rw[hm hk] at h;cases h
    have e2:T F τ (.mk b k i (a.map fun t=>H f ρ t (z+b.length))) (z+c)=.mk b k i ((a.map fun t=>H f ρ t (z+b.length)).map fun t=>T F τ t (z+c+b.length)):=TW_out _ _ _ _ _ _ hm
    have e3:T F τ2 (.mk b k i a) z=.mk b k i (a.map fun t=>T F τ2 t (z+b.length)):=TW_out _ _ _ _ _ _ hm2
    have e4:H f ρ2 (.mk b k i (a.map fun t=>T F τ2 t (z+b.length))) z=.mk b k i ((a.map fun t=>T F τ2 t (z+b.length)).map fun t=>H f ρ2 t (z+b.length)):=by rw[H_is f];exact HW_out _ _ _ _ _ _ _ h
    rw[e2,e3,e4,hz,ha]
   ·obtain⟨w,v2,h1,h2,h3⟩:∃ w v2,τ i=some w∧τ2 i=some v2∧H f ρ2 v2 0=Rn (· + c) w 0:=by
     rcases hs.m i with h | h
     ·rw[hm] at h;cases h.1
     ·exact h
    have e2:T F τ (.mk b 2 i (a.map fun t=>H f ρ t (z+b.length))) (z+c)=wb b (PF F (Rn (· + (z+c+b.length)) w 0) ((a.map fun t=>H f ρ t (z+b.length)).map fun t=>T F τ t (z+c+b.length))):=TW_m _ _ _ _ _ h1
    have e3:T F τ2 (.mk b 2 i a) z=wb b (PF F (Rn (· + (z+b.length)) v2 0) (a.map fun t=>T F τ2 t (z+b.length))):=TW_m _ _ _ _ _ h2
    have e4:H f ρ2 (wb b (PF F (Rn (· + (z+b.length)) v2 0) (a.map fun t=>T F τ2 t (z+b.length)))) z=wb b (H f ρ2 (PF F (Rn (· + (z+b.length)) v2 0) (a.map fun t=>T F τ2 t (z+b.length))) (z+b.length)):=by rw[H_is f,HW_wb,PF_bo]
    rw[e2,e3,e4,put_H,HW_lift,h3,hz,ha,Rn_Rn]
    congr 2
    exact Rn_ext (fun d=>by omega) _ _
  ·have e3:T F τ2 (.mk b 0 ((z+b.length+d:Nat):Int) a) z=.mk b 0 ((z+b.length+d:Nat):Int) (a.map fun t=>T F τ2 t (z+b.length)):=TW_out _ _ _ _ _ _ fun h=>absurd h (by decide)
   rw[e3]
   rcases hs.v d with⟨k,h1,h2⟩ | ⟨x,h1,h2⟩
   ·have e1:H f ρ (.mk b 0 ((z+b.length+d:Nat):Int) a) z=.mk b 0 ((z+b.length+k:Nat):Int) (a.map fun t=>H f ρ t (z+b.length)):=by rw[H_is f];exact HW_v _ _ _ _ _ _ _ h1
    have e2:T F τ (.mk b 0 ((z+b.length+k:Nat):Int) (a.map fun t=>H f ρ t (z+b.length))) (z+c)=.mk b 0 ((z+b.length+k:Nat):Int) ((a.map fun t=>H f ρ t (z+b.length)).map fun t=>T F τ t (z+c+b.length)):=TW_out _ _ _ _ _ _ fun h=>absurd h (by decide)
    have e4:H f ρ2 (.mk b 0 ((z+b.length+d:Nat):Int) (a.map fun t=>T F τ2 t (z+b.length))) z=.mk b 0 ((z+b.length+k:Nat):Int) ((a.map fun t=>T F τ2 t (z+b.length)).map fun t=>H f ρ2 t (z+b.length)):=by rw[H_is f];exact HW_v _ _ _ _ _ _ _ h2
    rw[e1,e2,e4,hz,ha]
   ·have e1:H f ρ (.mk b 0 ((z+b.length+d:Nat):Int) a) z=wb b (PF f (Rn (· + (z+b.length)) x 0) (a.map fun t=>H f ρ t (z+b.length))):=by rw[H_is f];exact HW_t _ _ _ _ _ _ _ h1
    have e2:T F τ (wb b (PF f (Rn (· + (z+b.length)) x 0) (a.map fun t=>H f ρ t (z+b.length)))) (z+c)=wb b (T F τ (PF f (Rn (· + (z+b.length)) x 0) (a.map fun t=>H f ρ t (z+b.length))) (z+c+b.length)):=by
     have:=TW_wb (P:=PF F) τ b (PF f (Rn (· + (z+b.length)) x 0) (a.map fun t=>H f ρ t (z+b.length))) (z+c)
     rw[PF_bo] at this;exact this
    have e4:H f ρ2 (.mk b 0 ((z+b.length+d:Nat):Int) (a.map fun t=>T F τ2 t (z+b.length))) z=wb b (PF f (Rn (· + (z+b.length)) (T F τ x c) 0) ((a.map fun t=>T F τ2 t (z+b.length)).map fun t=>H f ρ2 t (z+b.length))):=by rw[H_is f];exact HW_t _ _ _ _ _ _ _ h2
    rw[e1,e2,e4,hP,hz,ha,T_lift]
theorem sub_P:∀ (f:Nat) (τ:Int→Option Tm) (X:Tm) (xs:List Tm) (m:Nat),T F τ (PF f X xs) m=PF f (T F τ X m) (xs.map fun t=>T F τ t m)
 | 0,τ,X,xs,m=>TW_jk _ _
 | f+1,τ,X,xs,m=>by
  have hS:=sub_of F f (sub_P f)
  show T F τ (pt (H f) X xs) m=pt (H f) (T F τ X m) (xs.map fun t=>T F τ t m)
  unfold pt
  have hb:(T F τ X m).binds=X.binds:=TW_binds _ _ _
  rw[hb,List.length_map]
  by_cases hn:X.binds.length≠xs.length
  ·rw[if_pos hn,if_pos hn];exact TW_jk _ _
  ·rw[if_neg hn,if_neg hn]
   have hn:X.binds.length=xs.length:=by omega
   have hwb:(H f (sg xs) (bo X) 0).binds=[]:=by rw[H_is f,HW_binds];rfl
   have hwb2:(T F τ (H f (sg xs) (bo X) 0) m).binds=[]:=(TW_binds _ _ _).trans hwb
   have hj:(fun t=>T F τ t m) jk=jk:=TW_jk _ _
   have h1:=hS m τ (rnO (· + (m+xs.length)) τ) (sg xs) (sg (xs.map fun t=>T F τ t m)) ⟨fun i=>by
     cases hi:τ i with
     | none=>exact .inl ⟨rfl,by unfold rnO;rw[hi];rfl⟩
     | some v=>
      refine .inr ⟨v,Rn (· + (m+xs.length)) v 0,rfl,by unfold rnO;rw[hi];rfl,?_⟩
      rw[H_is f,HW_Rn,HW_var _ _ (· + m) (fun d=>by rw[sgm_high hj (by omega)];congr 1;omega)],fun d=>by
     by_cases hd:d<xs.length
     ·exact .inr ⟨_,sg_low hd,sgm_low hj hd⟩
     ·exact .inl ⟨_,sg_high (by omega),sgm_high hj (by omega)⟩⟩ (bo X) 0
   rw[Nat.zero_add] at h1
   rw[bo_of hwb,h1]
   have h2:bo (T F τ X m)=T F (rnO (· + (m+xs.length)) τ) (bo X) 0:=by
    have:=TW_bo (P:=PF F) τ X m
    rw[hn] at this
    refine this.trans ?_
    have h3:T F τ (bo X) (m+xs.length)=T F (rnO (· + (m+xs.length)) τ) (bo X) 0:=TW_up0 _ _ _
    exact(bo_of (TW_binds _ _ _)).trans h3
   rw[h2]
   exact(bo_of (by rw[H_is f,HW_binds];exact TW_binds _ _ _)).symm
def comp (τ σ:Int→Option Tm)(i:Int):Option Tm:=match σ i with
 | some v=>some (T F τ v 0)
 | none=>τ i
theorem T_T (τ σ:Int→Option Tm)(t:Tm):∀ z,T F τ (T F σ t z) z=T F (comp F τ σ) t z:=by
 induction t using Tm.ind with
 | h b k i a ih=>
  intro z
  have ha:((a.map fun t=>T F σ t (z+b.length)).map fun t=>T F τ t (z+b.length))=a.map fun t=>T F (comp F τ σ) t (z+b.length):=by
   rw[List.map_map];exact List.map_congr_left fun t ht=>ih t ht _
  rcases cases_m σ k i with h | ⟨rfl,v,h⟩
  ·have e1:T F σ (.mk b k i a) z=.mk b k i (a.map fun t=>T F σ t (z+b.length)):=TW_out _ _ _ _ _ _ h
   rw[e1]
   rcases cases_m τ k i with h2 | ⟨rfl,v,h2⟩
   ·have e2:T F τ (.mk b k i (a.map fun t=>T F σ t (z+b.length))) z=.mk b k i ((a.map fun t=>T F σ t (z+b.length)).map fun t=>T F τ t (z+b.length)):=TW_out _ _ _ _ _ _ h2
    rw[e2,ha]
    exact(TW_out _ _ _ _ _ _ (fun hk=>by unfold comp;rw[h hk];exact h2 hk)).symm
   ·have e2:T F τ (.mk b 2 i (a.map fun t=>T F σ t (z+b.length))) z=wb b (PF F (Rn (· + (z+b.length)) v 0) ((a.map fun t=>T F σ t (z+b.length)).map fun t=>T F τ t (z+b.length))):=TW_m _ _ _ _ _ h2
    rw[e2,ha]
    exact(TW_m (comp F τ σ) _ _ _ _ (by unfold comp;rw[h rfl];exact h2)).symm
  ·have e1:T F σ (.mk b 2 i a) z=wb b (PF F (Rn (· + (z+b.length)) v 0) (a.map fun t=>T F σ t (z+b.length))):=TW_m _ _ _ _ _ h
   have e2:=TW_wb (P:=PF F) τ b (PF F (Rn (· + (z+b.length)) v 0) (a.map fun t=>T F σ t (z+b.length))) z
   rw[PF_bo] at e2
   rw[e1]
   refine e2.trans ?_
   have e3:=sub_P F F τ (Rn (· + (z+b.length)) v 0) (a.map fun t=>T F σ t (z+b.length)) (z+b.length)
   have e4:=T_lift F τ (z+b.length) 0 v
   rw[Nat.add_zero] at e4
   rw[ha,e4] at e3
   have e5:T F (comp F τ σ) (.mk b 2 i a) z=wb b (PF F (Rn (· + (z+b.length)) (T F τ v 0) 0) (a.map fun t=>T F (comp F τ σ) t (z+b.length))):=TW_m _ _ _ _ _ (by unfold comp;rw[h])
   rw[e5]
   exact congrArg (wb b) e3
theorem T_ext {τ σ:Int→Option Tm}(h:∀ i,τ i=σ i)(t:Tm)(z:Nat):T F τ t z=T F σ t z:=by rw[show τ=σ from funext h]
end Hs
end Go.Proofs.YtflbnonbfmmchaaGreat
namespace Go.Proofs.YtflbnonbfmmchaaGreat
open Go.RowKit
namespace Hs
variable {C M:List Ty}
set_option maxHeartbeats 4000000 in
theorem adeq (C M:List Ty){B:Nat}(hB:B≤5000):∀ (f f':Nat) (xs:List Tm) (P X Z:List Ty) (t:Tm) (u:Ty) (s:Nm.St),f≤f'→WkOk s→Nm.Fu f s→(∀ x∈xs,Bnd B x)→Bnd B t→(∀ x∈xs,x.full≤8000000000000)→X.length+P.length+Z.length+(2 * B+2) * f≤800000000 →
  IsOfs C M xs X P→IsOf C M t (X++P++Z) u→(Nm.through f xs xs.length t (Z.length:Nat) s).2.e=0→s.e=0∧(Nm.through f xs xs.length t (Z.length:Nat) s).1=H f' (sg xs) t Z.length:=by
 intro f
 induction f with
 | zero=>exact fun f' xs P X Z t u s _ hs hf _ _ _ _ _ _ he=>absurd he fun he=>Nm.fu_zero hs hf he
 | succ f ih=>
  intro f' xs P X Z t u s hff hs hf hx ht hxf hz hxt htt he
  obtain⟨g,rfl⟩:∃ g,f'=g+1:=⟨f'-1,by omega⟩
  obtain⟨b,k,i,a⟩:=t
  obtain⟨t1,t2,t3⟩:=ht.inv
  obtain⟨hbu,h,hh,hbase,hargs⟩:=isOf_mk.1 htt
  have hbl:=Ty.le_sizes b
  have hmul:(2 * B+2) * (f+1)=(2 * B+2) * f+(2 * B+2):=by rw[Nat.mul_add];omega
  rw[hmul] at hz
  have hxl:=isOfs_len hxt
  have hZb:(Z++b).length=Z.length+b.length:=List.length_append
  have hwr:Nm.wr ((Z.length:Nat)+b.length)=(((Z.length+b.length:Nat)):Int):=by rw[wr_id (by omega) (by omega)];omega
  obtain⟨s0,w1,f1,he2,hqe⟩:=Nm.thr_step hs hf hwr he
  clear hwr
  have hassoc:X++P++Z++b=X++P++(Z++b):=List.append_assoc ..
  rw[hassoc] at hh hargs
  have hb2:X.length+P.length+(Z++b).length+(2 * B+2) * f≤800000000:=by
   rw[hZb];exact Nm.bnd_aux (N:=800000000) (K:=(2 * B+2) * f) hz hbl t1
  have hdrop:P.drop xs.length=[]:=List.drop_of_length_le (by omega)
  have hq:=Nm.seqM_keeps (C:=C) (M:=M) (f:=f) (g:=fun a s=>Nm.through f xs xs.length a ((Z.length+b.length:Nat):Int) s) (X:=X++P++(Z++b)) (X':=X++P.drop xs.length++(Z++b)) a h.args
   (fun v hv w s hs hf hw=>Nm.through_keeps C M B f xs xs.length v _ s X P (Z++b) w hs hf hx (t3 v hv) hxf hB (by omega) (by omega) (by rw[hZb]) hb2 (by rw[List.take_of_length_le (by omega)];exact hxt) hw) (fun u s h=>through_wk f _ _ _ _ _ h) (fun u s=>Nm.through_count f _ _ _ _ _) (Nm.unit s).2 w1 f1 hargs
  have hgr:=Nm.seqM_grow (B:=B) (f:=f) (g:=fun a s=>Nm.through f xs xs.length a ((Z.length+b.length:Nat):Int) s) a (fun u hu s hs hf=>Nm.through_grow B f xs xs.length u _ s hs hf hx (t3 u hu)) (fun u s h=>through_wk f _ _ _ _ _ h) (fun u s=>Nm.through_count f _ _ _ _ _) (Nm.unit s).2 w1 f1
  have hqw:=seqM_wk (g:=fun a s=>Nm.through f xs xs.length a ((Z.length+b.length:Nat):Int) s) (fun u s h=>through_wk f _ _ _ _ _ h) a _ w1
  have hqc:=Nm.seqM_count (g:=fun a s=>Nm.through f xs xs.length a ((Z.length+b.length:Nat):Int) s) (fun u s=>Nm.through_count f _ _ _ _ _) a (Nm.unit s).2
  have hqt:=(Nm.seqM_to (f:=f) (g:=fun a s=>Nm.through f xs xs.length a ((Z.length+b.length:Nat):Int) s) (fun u s h=>through_wk f _ _ _ _ _ h) (fun u s=>Nm.through_count f _ _ _ _ _) a (a.map fun t=>H (g+1) (sg xs) t (Z.length+b.length)) (List.length_map _) (fun j hj hj' s hs hf he=>by
   rw[List.getElem_map]
   have hal:=isOfs_len hargs
   have:=ih (g+1) xs P X (Z++b) a[j] _ s (by omega) hs hf hx (t3 _ (List.getElem_mem hj)) hxf hb2 hxt ((isOfs_iff.1 hargs).2 j hj (by omega)) (by rw[hZb];exact he)
   rw[hZb] at this;exact this) _ w1 f1 hqe).2
  have hql:=Nm.seqM_length (fun a s=>Nm.through f xs xs.length a ((Z.length+b.length:Nat):Int) s) a (Nm.unit s).2
  refine⟨s0,?_⟩
  rw[he2] at he ⊢
  generalize Nm.seqM (fun a s=>Nm.through f xs xs.length a ((Z.length+b.length:Nat):Int) s) a (Nm.unit s).2=q at hq hgr hqw hqc hqt hql hqe he ⊢
  have hqa:=(hq.2 hqe).2
  have hqg:=hgr hqe
  rcases cases_ix b k i Z.length with hc | ⟨rfl,d,rfl⟩
  ·have hc1:k≠0∨i<((Z.length+b.length:Nat):Int):=by
    by_cases hk:k=0
    ·exact .inr (by
      by_cases h2:i<((Z.length+b.length:Nat):Int)
      ·exact h2
      ·exact absurd ⟨hk,by omega⟩ hc)
    ·exact .inl hk
   rw[Nm.hit_low hc1,H_is,HW_out _ _ _ _ _ _ _ hc,hqt,H_is]
  ·rw[headTy_0,rev_app,if_neg (by omega),hZb,show Z.length+b.length+d-(Z.length+b.length)=d by omega,rev_app] at hh
   have hdlt:d<X.length+P.length:=by
    by_cases hdp:d<P.length
    ·omega
    ·rw[if_neg hdp] at hh
     have:=(List.getElem?_eq_some_iff.1 hh).1
     rw[List.length_reverse] at this;omega
   by_cases hd:d<xs.length
   ·have hjm:xs.length-1-d<xs.length:=by omega
    obtain⟨x,hxx⟩:∃ x,xs[xs.length-1-d]=x:=⟨_,rfl⟩
    obtain⟨g1,g2,g3,g4⟩:=Nm.hit_in (thr:=Nm.through f) (b:=b) (a:=a) (ins:=Z.length+b.length) (d:=d) (args:=q.1) (s:=q.2) hd (by omega) hxx he
    rw[g4]
    have hxm:x∈xs:=hxx ▸ List.getElem_mem hjm
    rw[if_pos (by omega),List.getElem?_reverse (by omega),List.getElem?_eq_getElem (by omega)] at hh
    have hPh:=Option.some.inj hh
    have hxj:IsOf C M x X h:=by
     have h1:=(isOfs_iff.1 hxt).2 (xs.length-1-d) hjm (by omega)
     rw[hxx] at h1
     rw[←hPh]
     have e:P.length-1-d=xs.length-1-d:=by omega
     simp only[e]
     exact h1
    have hgR:Nm.grown x ((Z.length+b.length:Nat):Int)=Rn (· + (Z.length+b.length)) x 0:=grown_Rn (by have:=hxf _ hxm;omega) hxj
    have hu1:=grown_isOf (Y:=Z++b) (by have:=hxf _ hxm;omega) hxj
    have hub:=(hx _ hxm).grown ((Z.length+b.length:Nat):Int)
    rw[hZb] at hu1
    rw[hgR] at g2 g3 hu1 hub ⊢
    have hH:H (g+1) (sg xs) (.mk b 0 ((Z.length+b.length+d:Nat):Int) a) Z.length=wb b (PF (g+1) (Rn (· + (Z.length+b.length)) x 0) (a.map fun t=>H (g+1) (sg xs) t (Z.length+b.length))):=by
     rw[H_is]
     refine HW_t _ _ _ _ _ _ _ ?_
     rw[sg_low hd,List.getD_eq_getElem?_getD,List.getElem?_eq_getElem hjm,Option.getD_some,hxx]
    rw[hH,←hqt]
    generalize Rn (· + (Z.length+b.length)) x 0=v at g2 g3 hu1 hub ⊢
    obtain⟨vb,vk,vi,va⟩:=v
    obtain⟨v1,v2,v3⟩:=hub.inv
    obtain⟨hvb,h',hvh,hvbase,hvargs⟩:=isOf_mk.1 hu1
    have hvbl:=Ty.le_sizes vb
    have hX':X++P.drop xs.length++(Z++b)=X++(Z++b):=by rw[hdrop,List.append_nil]
    rw[hX'] at hqa
    have hXl:(X++(Z++b)).length=X.length+(Z.length+b.length):=by rw[List.length_append,hZb]
    have g2:vb.length=q.1.length:=g2
    have hvb:vb=h.args:=hvb
    have hi2:=ih g q.1 vb (X++(Z++b)) [] (.mk [] vk vi va) (.mk [] h.base) q.2 (by omega) hqw (fun _=>by have:=f1 (by have:=hq.2 hqe;exact this.1);omega) hqg.2.2 (.mk _ _ _ _ (by simp[Ty.sizes]) v2 v3)
     (fun x hx=>by
      have h1:=Bnd.full x (hqg.2.2 x hx)
      have h2:x.size≤1000000000:=by
       have:=Tm.size_mem hx
       have:=hqg.2.1
       have:=w1.left.2
       have:=hqw.left.1
       omega
      have h3:x.size * (B+1)≤1000000000 * 5001:=Nat.mul_le_mul h2 (by omega)
      omega) (by rw[hXl];simp only[List.length_nil];omega) (by rw[hvb];exact hqa)
     (by rw[List.append_nil];exact isOf_mk.2 ⟨rfl,h',by rw[List.append_nil];exact hvh,hvbase,by rw[List.append_nil];exact hvargs⟩) g3
    have hPF:PF (g+1) (.mk vb vk vi va) q.1=bo (H g (sg q.1) (.mk [] vk vi va) 0):=by
     show pt (H g) _ _=_
     unfold pt
     rw[if_neg (fun hne=>hne g2)];rfl
    rw[hPF]
    have hi3:(Nm.through f q.1 q.1.length (.mk [] vk vi va) 0 q.2).1=H g (sg q.1) (.mk [] vk vi va) 0:=hi2.2
    show Tm.mk b (Nm.through f q.1 q.1.length (.mk [] vk vi va) 0 q.2).1.kind (Nm.through f q.1 q.1.length (.mk [] vk vi va) 0 q.2).1.index (Nm.through f q.1 q.1.length (.mk [] vk vi va) 0 q.2).1.args=_
    rw[hi3];rfl
   ·rw[Nm.hit_out (by omega) (by omega),H_is]
    rw[HW_v _ _ _ _ _ _ _ (sg_high (by omega)),hqt,H_is]
end Hs
namespace Hs
variable {C M:List Ty} {B:Nat}
set_option maxHeartbeats 4000000 in
theorem sadeq (hB:B≤1000)(l:List (Int×Tm))(X0:List Ty)(hl:∀ p∈l,(∃ h,headTy C M X0 2 p.1=some h∧IsOf C M p.2 X0 h)∧Bnd B p.2∧p.2.full≤1000000)(t:Tm):
  ∀ (Z:List Ty) (u:Ty) (s:Nm.St),IsOf C M t (X0++Z) u→Bnd B t→X0.length+Z.length+t.full≤100000000→InR s→(Sb.through l t (Z.length:Nat) s).2.e=0→s.e=0∧(Sb.through l t (Z.length:Nat) s).1=T 100002 (Sb.find l) t Z.length:=by
 induction t using Tm.ind with
 | h b k i a ih=>
  intro Z u s ht hbn hz hs he
  obtain⟨hbu,h,hh,hbase,hargs⟩:=isOf_mk.1 ht
  obtain⟨t1,t2,t3⟩:=hbn.inv
  have hbl:=Ty.le_sizes b
  rw[Tm.full_eq] at hz
  have hZb:(Z++b).length=Z.length+b.length:=List.length_append
  have hwr:Nm.wr ((Z.length:Nat)+b.length)=((Z.length+b.length:Nat):Int):=by rw[wr_id (by omega) (by omega)];omega
  obtain⟨s0,w1,hqe,he2⟩:=Sb.thr_step hs hwr he
  clear hwr
  refine⟨s0,?_⟩
  rw[List.append_assoc] at hh hargs
  have hal:=isOfs_len hargs
  have hq:=Sb.seq_keeps (C:=C) (M:=M) (g:=fun t s=>Sb.through l t ((Z.length+b.length:Nat):Int) s) (X:=X0++(Z++b)) (X':=X0++(Z++b)) a h.args
   (fun v hv w s hs hw=>by
    have:=Sb.keeps hB l X0 hl v (Z++b) w hw (t3 v hv) (by have:=Tm.full_mem hv;omega) s hs
    rw[hZb] at this;exact this) (fun v hv s hs=>through_in l v _ s hs) (Nm.spend s).2 w1 hargs
  have hgr:=Sb.seq_grow (B:=B) (g:=fun t s=>Sb.through l t ((Z.length+b.length:Nat):Int) s) a (fun v hv s hs=>Sb.grow l (fun p hp=>(hl p hp).2.1) v (t3 v hv) _ s hs) (fun v hv s hs=>through_in l v _ s hs) (Nm.spend s).2 w1
  have hqi:=seqM_in (g:=fun t s=>Sb.through l t ((Z.length+b.length:Nat):Int) s) a (fun v hv s hs=>through_in l v _ s hs) _ w1
  have hqt:=(Sb.seq_to (g:=fun t s=>Sb.through l t ((Z.length+b.length:Nat):Int) s) (fun t s hs=>through_in l t _ s hs) a (a.map fun t=>T 100002 (Sb.find l) t (Z.length+b.length)) (List.length_map _) (fun j hj hj' s hs he=>by
   rw[List.getElem_map]
   have:=Tm.full_mem (List.getElem_mem hj)
   have:=ih a[j] (List.getElem_mem hj) (Z++b) _ s ((isOfs_iff.1 hargs).2 j hj (by omega)) (t3 _ (List.getElem_mem hj)) (by omega) hs (by rw[hZb];exact he)
   rw[hZb] at this;exact this) _ w1 hqe).2
  have hql:=Nm.seqM_length (fun t s=>Sb.through l t ((Z.length+b.length:Nat):Int) s) a (Nm.spend s).2
  rw[he2] at he ⊢
  generalize Nm.seqM (fun t s=>Sb.through l t ((Z.length+b.length:Nat):Int) s) a (Nm.spend s).2=q at hq hgr hqi hqt hql hqe he ⊢
  rcases cases_m (Sb.find l) k i with hm | ⟨rfl,v,hm⟩
  ·have e1:T 100002 (Sb.find l) (.mk b k i a) Z.length=.mk b k i (a.map fun t=>T 100002 (Sb.find l) t (Z.length+b.length)):=TW_out _ _ _ _ _ _ hm
   rw[e1,←hqt]
   by_cases hk:k≠2
   ·rw[if_pos hk]
   ·rw[if_neg hk,hm (Classical.byContradiction hk)]
  ·have e1:T 100002 (Sb.find l) (.mk b 2 i a) Z.length=wb b (PF 100002 (Rn (· + (Z.length+b.length)) v 0) (a.map fun t=>T 100002 (Sb.find l) t (Z.length+b.length))):=TW_m _ _ _ _ _ hm
   rw[e1,←hqt]
   rw[if_neg (fun h=>h rfl),hm] at he ⊢
   dsimp only at he ⊢
   obtain⟨r1,r2,r3⟩:=Sb.replaced_e hqe he
   rw[r3]
   obtain⟨p,hp,rfl,rfl⟩:=Sb.find_at hm
   obtain⟨⟨h',hh',hvt⟩,hvb,hvf⟩:=hl p hp
   have hsame:h'=h:=by
    rw[headTy_ctx (X':=X0++(Z++b)) (by decide),hh] at hh'
    exact(Option.some.inj hh').symm
   subst hsame
   have hlR:=lift_Rn p.2 (Z.length+b.length) X0 [] h' (by simp only[List.length_nil];omega) (by rw[List.append_nil];exact hvt)
   have hlt:=lift_isOf p.2 X0 (Z++b) [] h' (by simp only[List.length_nil];omega) (by rw[List.append_nil];exact hvt)
   rw[List.append_nil,hZb] at hlt
   simp only[List.length_nil] at hlR hlt
   have e0:(((0:Nat):Int))=0:=rfl
   rw[e0] at hlR hlt
   have hlb:Bnd B (Nm.lift ((Z.length+b.length:Nat):Int) p.2 0):=Bnd.lift _ _ _ hvb
   rw[hlR] at r1 r2 hlt hlb ⊢
   obtain⟨p1,p2,p3,p4⟩:=Sb.Put_e r1 r2
   have hqa:=(hq.2 hqe).2
   have hqg:=hgr hqe
   have hfull:∀ x∈q.1,x.full≤8000000000000:=fun x hx=>by
    have h1:=Bnd.full x (hqg.2.2 x hx)
    have h2:x.size≤1000000000:=by
     have:=Tm.size_mem hx
     have:=hqg.2.1
     have:=w1.2
     have:=hqi.1
     omega
    have h3:x.size * (B+1)≤1000000000 * 1001:=Nat.mul_le_mul h2 (by omega)
    omega
   generalize Rn (· + (Z.length+b.length)) p.2 0=V at r1 r2 hlt hlb p1 p2 p3 p4 ⊢
   obtain⟨vb,vk,vi,va⟩:=V
   obtain⟨v1,v2,v3⟩:=hlb.inv
   obtain⟨hvb2,h2,hvh,hvbase,hvargs⟩:=isOf_mk.1 hlt
   have hvbl:=Ty.le_sizes vb
   have hvb2:vb=h'.args:=hvb2
   have r1:vb.length=q.1.length:=r1
   have hw0:WkOk ⟨q.2.left,q.2.dry,0,0⟩:=⟨hqi,⟨Int.le_refl 0,(by decide:(0:Int)≤100001)⟩,fun _=>(by decide:(0:Int)≤100000)⟩
   have hm2:(2 * B+2) * 100001≤2002 * 100001:=Nat.mul_le_mul_right _ (by omega)
   have hXl:(X0++(Z++b)).length=X0.length+(Z.length+b.length):=by rw[List.length_append,hZb]
   have hA:=adeq C M (B:=B) (by omega) 100001 100001 q.1 vb (X0++(Z++b)) [] (.mk [] vk vi va) (.mk [] h'.base) ⟨q.2.left,q.2.dry,0,0⟩ (Nat.le_refl _) hw0 (fun _=>by show (100001:Int)-0≤((100001:Nat):Int);decide) hqg.2.2 (.mk _ _ _ _ (by simp[Ty.sizes]) v2 v3) hfull (by rw[hXl];simp only[List.length_nil];omega)
    (by rw[hvb2];exact hqa) (by rw[List.append_nil];exact isOf_mk.2 ⟨rfl,h2,by rw[List.append_nil];exact hvh,hvbase,by rw[List.append_nil];exact hvargs⟩) p1
   have hPF:PF 100002 (.mk vb vk vi va) q.1=bo (H 100001 (sg q.1) (.mk [] vk vi va) 0):=by
    show pt (H 100001) _ _=_
    unfold pt
    rw[if_neg (fun hne=>hne r1)];rfl
   rw[hPF,p2,p3,p4]
   have hA2:(Nm.through 100001 q.1 q.1.length (.mk [] vk vi va) 0 ⟨q.2.left,q.2.dry,0,0⟩).1=H 100001 (sg q.1) (.mk [] vk vi va) 0:=hA.2
   show Tm.mk b (Nm.through 100001 q.1 q.1.length (.mk [] vk vi va) 0 ⟨q.2.left,q.2.dry,0,0⟩).1.kind (Nm.through 100001 q.1 q.1.length (.mk [] vk vi va) 0 ⟨q.2.left,q.2.dry,0,0⟩).1.index (Nm.through 100001 q.1 q.1.length (.mk [] vk vi va) 0 ⟨q.2.left,q.2.dry,0,0⟩).1.args=_
   rw[hA2];rfl
theorem apply_e {l:List (Int×Tm)}{t z:Tm}{left:Int}{dry:Bool}{st:Nm.St}(ha:Sb.apply l t left dry=(z,st))(he:st.e=0):Sb.right l=true∧(Sb.through l t 0 ⟨left,dry,0,0⟩).2.e=0∧(Sb.through l t 0 ⟨left,dry,0,0⟩).1=z:=by
 unfold Sb.apply at ha
 by_cases hr:Sb.right l=false
 ·rw[if_pos hr] at ha
  rw[←(Prod.mk.inj ha).2] at he;cases he
 rw[if_neg hr] at ha
 dsimp only at ha
 refine⟨by simpa using hr,?_⟩
 generalize Sb.through l t 0 ⟨left,dry,0,0⟩=r at ha
 by_cases hc:r.2.e=0∧¬ (r.1.size≤5000∧r.1.depth≤60)
 ·rw[if_pos hc] at ha
  have ha':(if (2:Int)≠0 then (Nm.tz,{ r.2 with e:=2 }) else (r.1,{ r.2 with e:=2 }))=(z,st):=ha
  rw[if_pos (by decide)] at ha'
  rw[←(Prod.mk.inj ha').2] at he;cases he
 ·rw[if_neg hc] at ha
  by_cases hr2:r.2.e=0
  ·rw[if_neg (fun h=>h hr2)] at ha
   exact⟨hr2,(Prod.mk.inj ha).1⟩
  ·rw[if_pos hr2] at ha
   rw[←(Prod.mk.inj ha).2] at he;exact absurd he hr2
theorem apply_T (hB:B≤1000){l:List (Int×Tm)}{X0:List Ty}(hl:∀ p∈l,(∃ h,headTy C M X0 2 p.1=some h∧IsOf C M p.2 X0 h)∧Bnd B p.2∧p.2.full≤1000000){t z:Tm}{u:Ty}{left:Int}{dry:Bool}{st:Nm.St}(ht:IsOf C M t X0 u)(hbn:Bnd B t)(hz:X0.length+t.full≤100000000)(h0:0≤left∧left≤1000000000) 
  (ha:Sb.apply l t left dry=(z,st)) (he:st.e=0):z=T 100002 (Sb.find l) t 0:=by
 obtain⟨h1,h2,h3⟩:=apply_e ha he
 have:=sadeq (C:=C) (M:=M) hB l X0 hl t [] u ⟨left,dry,0,0⟩ (by rw[List.append_nil];exact ht) hbn (by simp only[List.length_nil];omega) h0 h2
 rw[←h3];exact this.2
end Hs
section
variable {P:Program} {T:List (Nat×TI)} {cx:Cx} {Fr:Nat→Prop} {m:Mp} {Im:Nat→Nat→Prop} {w w':World} {a:Act} {σ σ':List (Key×D)}
theorem St.drew (h:St cx Fr m Im w a σ):St cx Fr m Im w.drew a σ:=h.below0 (Below.refl _ _).drew
end
section
variable {P:Program} {T:List (Nat×TI)} {cx:Cx} {m:Mp} {Im:Nat→Nat→Prop} {w:World} {a:Act} {σ:List (Key×D)} {ops:Array Oper} {Q:Exit→Act→World→Prop}
end
def ePP (p:Tm×Tm):List D:=eTm p.1++eTm p.2
def ePPs (l:List (Tm×Tm)):List (List D):=l.map ePP
theorem ePP_eq (p:Tm×Tm):ePP p=[.sl 2 (eTys p.1.binds) none,.v (.int .i64 p.1.kind),.v (.int .i64 p.1.index),.sl 4 (eTms p.1.args) none,.sl 2 (eTys p.2.binds) none,.v (.int .i64 p.2.kind),.v (.int .i64 p.2.index),.sl 4 (eTms p.2.args) none]:=by unfold ePP;rw[eTm_eq,eTm_eq];rfl
@[simp] theorem ePPs_ok (f g:Nat→Bool) (l:List (Tm×Tm)):D.okss f g (ePPs l)=true:=D.okss_map _ l fun p _=>by simp[ePP_eq,D.oks,D.ok,eTms_ok,eTys_ok]
theorem right_ss {b:List (Int×Tm)}(hk:(b.map (·.1)).Nodup):Sb.right (So.ss b)=true:=by
 have h1:=So.ss_srt b
 have h2:((So.ss b).map (·.1)).Nodup:=by
  have hp:(So.ss b).Perm b:=by
   unfold So.ss
   have key:∀ l:List (Int×Tm),(So.ssr l).Perm l:=by
    intro l
    induction l with
    | nil=>exact List.Perm.nil
    | cons x l ih=>
     have hi:∀ m:List (Int×Tm),(So.ins x m).Perm (x :: m):=by
      intro m
      induction m with
      | nil=>exact List.Perm.refl _
      | cons y m ihm=>
       rw[So.ins]
       split
       ·exact(List.Perm.cons y ihm).trans (List.Perm.swap _ _ _)
       ·exact List.Perm.refl _
     exact(hi _).trans (List.Perm.cons x ih)
   exact(key _).trans (List.reverse_perm b)
  exact(hp.map _).nodup_iff.2 hk
 unfold Sb.right
 rw[decide_eq_true_iff]
 have h3:(So.ss b).Pairwise fun a b=>a.1≠b.1:=List.pairwise_map.1 h2
 exact(h1.and h3).imp fun h=>by omega
namespace Pn
end Pn
namespace Pn
variable {C M:List Ty}
theorem find_ss (b:Bd)(m:Int):Sb.find (So.ss b) m=bfind b m:=by
 unfold Sb.find bfind
 rw[←List.head?_filter,←List.head?_filter,So.ss_same b m]
end Pn
def TF4_3:TI:=⟨1,false,[Value.int IntKind.i64 0],[],none,8,2,none,false⟩
theorem TF4_3_ok:TypOk Tryz.prog 3 TF4_3:=by constructor <;> kernel_rfl
def TF4_103:TI:=⟨2,true,[Value.slice none 0 0,Value.int IntKind.i64 0],[(0,1,false),(1,1,false)],none,32,6,none,false⟩
theorem TF4_103_ok:TypOk Tryz.prog 103 TF4_103:=by constructor <;> kernel_rfl
def TF4_22:TI:=⟨1,false,[Value.slice none 0 0],[],some 103,24,5,none,false⟩
theorem TF4_22_ok:TypOk Tryz.prog 22 TF4_22:=by constructor <;> kernel_rfl
def TF4:List (Nat×TI):=[(3,TF4_3),(103,TF4_103),(22,TF4_22)]
theorem TF4_ok:TabOk Tryz.prog TF4:=((((TabOk.nil _).cons TF4_22_ok).cons TF4_103_ok).cons TF4_3_ok)
mutual
def fewT (most:Int):Ty→Int→Int
 | .mk a _,d=>if d≤0 then most+1 else fewTs most a (d-1) 1
def fewTs (most:Int):List Ty→Int→Int→Int
 | [],_,n=>n
 | t :: l,d,n=>if n≤most then fewTs most l d (n+fewT most t d) else n
end
theorem fewTs_le {most:Int}(hm:0≤most){B:Int}(hB:0≤B):∀ (l:List Ty) (d n:Int),(∀ t∈l,1≤fewT most t d∧fewT most t d≤B)→1≤n→n≤most+B→1≤fewTs most l d n∧fewTs most l d n≤most+B
 | [],d,n,_,h0,h1=>by rw[fewTs];exact⟨h0,h1⟩
 | t :: l,d,n,h,h0,h1=>by
  rw[fewTs]
  split
  ·have:=h t (by simp)
   exact fewTs_le hm hB l d _ (fun u hu=>h u (by simp[hu])) (by omega) (by omega)
  ·exact⟨h0,h1⟩
theorem fewT_le {most:Int}(hm:1≤most):∀ (k:Nat) (t:Ty) (d:Int),d≤k→1≤fewT most t d∧fewT most t d≤most * k+most+1
 | 0,.mk a b,d,hd=>by
  rw[fewT,if_pos (by omega)]
  have e:most * ((0:Nat):Int)=0:=Int.mul_zero _
  rw[e];omega
 | k+1,.mk a b,d,hd=>by
  rw[fewT]
  have e:most * ((k+1:Nat):Int)=most * (k:Int)+most:=by rw[Int.natCast_add,Int.mul_add];simp
  have h0:0≤most * (k:Int):=Int.mul_nonneg (by omega) (by omega)
  split
  ·rw[e];omega
  ·have:=fewTs_le (most:=most) (by omega) (B:=most * k+most+1) (by omega) a (d-1) 1 (fun t _=>fewT_le hm k t (d-1) (by omega)) (by omega) (by omega)
   rw[e];omega
set_option maxHeartbeats 1000000 in
theorem few4_d (most:Int)(h1:1≤most)(h2:most≤1000):∀ (t:Ty) (d:Int),-1000≤d→d≤1000→PureC Tryz.prog 106 [.ag (eTy t),.v (.int .i64 most),.v (.int .i64 d)] (.v (.int .i64 (fewT most t d))):=by
 intro t
 induction t using Ty.ind with
 | h a b ih=>
 intro d hd1 hd2
 refine call_of_dw 0 37 [ResultVar.tmp 6] TF4_ok (by kernel_rfl) Tryz.func106 rfl Tryz.ntmps106 rfl (by simp) ?dwords ?dbody
 case dwords=>simp[wordsOk,D.ok,D.oks,rnames,eTy_ok]
 case dbody=>
  intro cx hnt hn0
  refine dw_seq ?_;refine dwk [] TF4_ok hnt fun _ z9=>z9 _ _ ?_;refine dw_seq (dw_seq ?_)
  by_cases hd:d≤0
  ·have hf:fewT most (.mk a b) d=most+1:=by rw[fewT,if_pos hd]
   rw[hf]
   refine dwk [(10,.v (.bool true))] TF4_ok hnt fun K hK=>?_;refine And.intro (dtrue hd) ?_;refine hK _ _ ?_;clear hK K;refine dw_cond (t:=true) rfl ?_;rw[if_pos rfl];refine dw_seq ?_;refine dwk [(12,.v (.int .i64 (most+1)))] TF4_ok hnt fun K hK=>?_;refine And.intro (dintE (IntWalk.i64_in _ (by omega))) ?_;refine hK _ _ ?_;clear hK K;refine dw_ret ?_
   exact retv (N:=0) (.inr rfl) rfl (VLe.refl _) trivial
  ·have hf:fewT most (.mk a b) d=fewTs most a (d-1) 1:=by rw[fewT,if_neg hd]
   rw[hf]
   refine dwk [(10,.v (.bool false))] TF4_ok hnt fun K hK=>?_;refine And.intro (dfalse hd) ?_;refine hK _ _ ?_;clear hK K;refine dw_cond (t:=false) rfl ?_;rw[if_neg (by simp)];refine dw_skip ?_;refine dw_seq ?_;refine dwk [] TF4_ok hnt fun _ z9=>z9 _ _ ?_;refine dw_seq (dw_seq ?_);refine dwk [] TF4_ok hnt fun _ z9=>z9 _ _ ?_;refine dw_block ?_
   refine dw_loop (ι:={ p:Nat×Int // fewTs most (a.drop p.1) (d-1) p.2=fewTs most a (d-1) 1∧(p.1:Int)+1≤p.2∧p.2≤2000000∧p.1≤a.length }) (fun p=>[(.t 1,.v (.int .i64 most)),(.t 2,.v (.int .i64 d)),(.t 3,.p 0 0),(.t 7,.v (.int .i64 p.1.2)),(.t 8,.v (.int .i64 (p.1.1:Int))),(.c 0 0,.sl 2 (eTys a) none),(.c 0 1,.v (.int .i64 b))]) 1 (fun p=>a.length-p.1.1) ⟨(0,1),by simp,by simp,by simp,by simp⟩ VS.toA fun p=>?_
   obtain⟨⟨j,n⟩,hj1,hj2,hj3,hj4⟩:=p
   dsimp only at hj1 hj2 hj3 hj4 ⊢
   refine dw_seq (dw_seq ?_)
   by_cases hlt:j<a.length
   ·have hdr:a.drop j=a[j] :: a.drop (j+1):=List.drop_eq_getElem_cons hlt
    rw[hdr,fewTs] at hj1
    by_cases hn:n≤most
    ·rw[if_pos hn] at hj1
     have hih:=ih a[j] (List.getElem_mem hlt) (d-1) (by omega) (by omega)
     rw[eTy_eq] at hih
     have hbd:=fewT_le h1 1000 a[j] (d-1) (by omega)
     have hbd2:most * ((1000:Nat):Int)≤1000000:=by
      have:most * ((1000:Nat):Int)=1000 * most:=by rw[Int.mul_comm];rfl
      omega
     refine dwk [(17,.v (.bool true)),(21,.v (.bool true))] TF4_ok hnt fun K hK=>?_;refine And.intro (dtrue (by rw[eTys_len];omega)) ?_;refine And.intro (dtrue hn) ?_;refine hK _ _ ?_;clear hK K;refine dw_cond (t:=true) rfl ?_;rw[if_pos rfl];refine dw_skip ?_;refine dw_seq (dw_block ?_);refine dwk [(29,.q [.sl 2 (eTys a[j].args) none,.v (.int .i64 a[j].base)]),(33,.v (.int .i64 (d-1))),(35,.v (.int .i64 (n+fewT most a[j] (d-1))))] TF4_ok hnt fun K hK=>?_
     refine And.intro (⟨by omega,by rw[eTys_len];omega⟩) ?_;refine And.intro (VLe.of_eq (by rw[Int.toNat_natCast,eTys_getD a j hlt,eTy_eq])) ?_;refine And.intro (dintE (IntWalk.i64_in _ (by omega))) ?_;refine dcl (hih) ?_;refine And.intro (dintE (IntWalk.i64_in _ (by omega))) ?_;refine hK _ _ ?_;clear hK K;refine dwk [(24,.v (.int .i64 ((j+1:Nat):Int)))] TF4_ok hnt fun K hK=>?_;refine And.intro (dintE (by rw[IntWalk.i64_in _ (by omega)];omega)) ?_
     refine hK _ _ ?_;clear hK K
     exact⟨⟨(j+1,n+fewT most a[j] (d-1)),hj1,by dsimp only;omega,by dsimp only;omega,hlt⟩,by dsimp only;omega,VS.toA⟩
    ·rw[if_neg hn] at hj1
     rw[←hj1]
     refine dwk [(17,.v (.bool true)),(21,.v (.bool false))] TF4_ok hnt fun K hK=>?_;refine And.intro (dtrue (by rw[eTys_len];omega)) ?_;refine And.intro (dfalse hn) ?_;refine hK _ _ ?_;clear hK K;refine dw_cond (t:=false) rfl ?_;rw[if_neg (by simp)];refine dw_exit ?_;refine dw_seq ?_;refine dwk [] TF4_ok hnt fun _ z9=>z9 _ _ ?_;refine dw_ret ?_
     exact retv (N:=0) (.inr rfl) rfl (VLe.refl _) trivial
   ·rw[List.drop_eq_nil_of_le (by omega),fewTs] at hj1
    rw[←hj1]
    refine dwk [(17,.v (.bool false))] TF4_ok hnt fun K hK=>?_;refine And.intro (dfalse (by rw[eTys_len];omega)) ?_;refine hK _ _ ?_;clear hK K;refine dw_cond (t:=false) rfl ?_;rw[if_neg (by simp)];refine dw_exit ?_;refine dw_seq ?_;refine dwk [] TF4_ok hnt fun _ z9=>z9 _ _ ?_;refine dw_ret ?_
    exact retv (N:=0) (.inr rfl) rfl (VLe.refl _) trivial
theorem fewTs_size {most:Int}:∀ (l:List Ty) (d n:Int),(∀ t∈l,fewT most t d≤most→(t.size:Int)=fewT most t d)→(∀ t∈l,1≤fewT most t d)→1≤n→fewTs most l d n≤most→fewTs most l d n=n+Ty.sizes l
 | [],d,n,_,_,_,_=>by rw[fewTs];simp[Ty.sizes]
 | t :: l,d,n,h,h1,hn,hf=>by
  rw[fewTs] at hf ⊢
  split at hf
  ·rename_i hm
   rw[if_pos hm]
   have h2:=h1 t (by simp)
   have h3:=fewTs_size l d _ (fun u hu=>h u (by simp[hu])) (fun u hu=>h1 u (by simp[hu])) (by omega) hf
   have h4:fewT most t d≤most:=by omega
   have h5:=h t (by simp) h4
   rw[h3,Ty.sizes];omega
  ·rename_i hm;omega
theorem fewT_size {most:Int}(hm:1≤most):∀ (k:Nat) (t:Ty) (d:Int),d≤k→fewT most t d≤most→(t.size:Int)=fewT most t d
 | 0,.mk a b,d,hd,h=>by rw[fewT,if_pos (by omega)] at h;omega
 | k+1,.mk a b,d,hd,h=>by
  rw[fewT] at h ⊢
  split at h
  ·omega
  ·rename_i hp
   rw[if_neg hp]
   have:=fewTs_size a (d-1) 1 (fun t _=>fewT_size hm k t (d-1) (by omega)) (fun t _=>(fewT_le hm k t (d-1) (by omega)).1) (by omega) h
   rw[this,Ty.size_eq];omega
theorem Few4_d (most:Int)(h1:1≤most)(h2:most≤1000)(t:Ty)(d:Int)(h3:-1000≤d)(h4:d≤1000):PureC Tryz.prog 49 [.ag (eTy t),.v (.int .i64 most),.v (.int .i64 d)] (.v (.bool (decide (fewT most t d≤most)))):=by
 have h:=few4_d most h1 h2 t d h3 h4
 rw[eTy_eq] at h ⊢
 refine call_of_dw 0 13 [ResultVar.tmp 6] TF4_ok (by kernel_rfl) Tryz.func49 rfl Tryz.ntmps49 rfl (by simp) ?dwords ?dbody
 case dwords=>simp[wordsOk,D.ok,D.oks,rnames,eTys_ok]
 case dbody=>
  intro cx hnt hn0
  refine dw_seq ?_;refine dwk [] TF4_ok hnt fun _ z9=>z9 _ _ ?_;refine dw_seq ?_;refine dwk [] TF4_ok hnt fun K hK=>?_;refine dcl (h) ?_;refine hK _ _ ?_;clear hK K;refine dw_ret ?_
  exact retv (N:=0) (.inr rfl) rfl (VLe.refl _) trivial
set_option maxHeartbeats 1000000 in
theorem Size4_d:∀ (t:Ty) (_:t.size≤1000000),PureC Tryz.prog 105 [.ag (eTy t)] (.v (.int .i64 (t.size:Int))):=by
 intro t
 induction t using Ty.ind with
 | h a b ih=>
 intro hsz
 have hsz2:=Ty.size_eq a b
 refine call_of_dw 0 21 [ResultVar.tmp 2] TF4_ok (by kernel_rfl) Tryz.func105 rfl Tryz.ntmps105 rfl (by simp) ?dwords ?dbody
 case dwords=>simp[wordsOk,D.ok,D.oks,rnames,eTy_ok]
 case dbody=>
  intro cx hnt hn0
  refine dw_seq ?_;refine dwk [] TF4_ok hnt fun _ z9=>z9 _ _ ?_;refine dw_seq ?_;refine dwk [] TF4_ok hnt fun _ z9=>z9 _ _ ?_;refine dw_seq (dw_seq ?_);refine dwk [] TF4_ok hnt fun _ z9=>z9 _ _ ?_;refine dw_block ?_
  refine dw_loop (ι:={ j:Nat // j≤a.length }) (fun j=>[(.t 1,.p 0 0),(.t 3,.v (.int .i64 ((Ty.sizes (a.take j.1):Int)+1))),(.t 4,.v (.int .i64 (j.1:Int))),(.c 0 0,.sl 2 (eTys a) none),(.c 0 1,.v (.int .i64 b))]) 1 (fun j=>a.length-j.1) ⟨0,Nat.zero_le _⟩ VS.toA fun j=>?_
  obtain⟨j,hj⟩:=j
  dsimp only
  have hst:=Ty.sizes_take_le a j
  have hst2:=Ty.sizes_take_le a (j+1)
  have hla:=Ty.le_sizes a
  refine dw_seq (dw_seq ?_)
  by_cases hlt:j<a.length
  ·have hih:=ih a[j] (List.getElem_mem hlt) (by have:=Ty.size_get (b:=b) j hlt;omega)
   rw[eTy_eq] at hih
   have htk:=Ty.sizes_take a j hlt
   refine dwk [(9,.v (.bool true))] TF4_ok hnt fun K hK=>?_;refine And.intro (dtrue (by rw[eTys_len];omega)) ?_;refine hK _ _ ?_;clear hK K;refine dw_cond (t:=true) rfl ?_;rw[if_pos rfl];refine dw_skip ?_;refine dw_seq (dw_block ?_);refine dwk [(16,.q [.sl 2 (eTys a[j].args) none,.v (.int .i64 a[j].base)]),(19,.v (.int .i64 ((Ty.sizes (a.take (j+1)):Int)+1)))] TF4_ok hnt fun K hK=>?_
   refine And.intro (⟨by omega,by rw[eTys_len];omega⟩) ?_;refine And.intro (VLe.of_eq (by rw[Int.toNat_natCast,eTys_getD a j hlt,eTy_eq])) ?_;refine dcl (hih) ?_;refine And.intro (dintE (by rw[IntWalk.i64_in _ (by omega),htk];omega)) ?_;refine hK _ _ ?_;clear hK K;refine dwk [(11,.v (.int .i64 ((j+1:Nat):Int)))] TF4_ok hnt fun K hK=>?_;refine And.intro (dintE (by rw[IntWalk.i64_in _ (by omega)];omega)) ?_
   refine hK _ _ ?_;clear hK K
   exact⟨⟨j+1,hlt⟩,by dsimp only;omega,VS.toA⟩
  ·skip
   refine dwk [(9,.v (.bool false))] TF4_ok hnt fun K hK=>?_;refine And.intro (dfalse (by rw[eTys_len];omega)) ?_;refine hK _ _ ?_;clear hK K;refine dw_cond (t:=false) rfl ?_;rw[if_neg (by simp)];refine dw_exit ?_;refine dw_seq ?_
   have hsz3:((Ty.mk a b).size:Int)=(Ty.sizes (a.take j):Int)+1:=by rw[List.take_of_length_le (by omega),hsz2];omega
   rw[hsz3]
   refine dwk [] TF4_ok hnt fun _ z9=>z9 _ _ ?_;refine dw_ret ?_
   exact retv (N:=0) (.inr rfl) rfl (VLe.refl _) trivial
def TF6_3:TI:=⟨1,false,[Value.int IntKind.i64 0],[],none,8,2,none,false⟩
theorem TF6_3_ok:TypOk Tryz.prog 3 TF6_3:=by constructor <;> kernel_rfl
def TF6_29:TI:=⟨4,true,[Value.slice none 0 0,Value.int IntKind.i64 0,Value.int IntKind.i64 0,Value.slice none 0 0],[(0,1,false),(1,2,true),(3,1,false)],none,64,6,none,false⟩
theorem TF6_29_ok:TypOk Tryz.prog 29 TF6_29:=by constructor <;> kernel_rfl
def TF6_22:TI:=⟨1,false,[Value.slice none 0 0],[],some 103,24,5,none,false⟩
theorem TF6_22_ok:TypOk Tryz.prog 22 TF6_22:=by constructor <;> kernel_rfl
def TF6_27:TI:=⟨1,false,[Value.slice none 0 0],[],some 29,24,5,none,false⟩
theorem TF6_27_ok:TypOk Tryz.prog 27 TF6_27:=by constructor <;> kernel_rfl
def TF6_103:TI:=⟨2,true,[Value.slice none 0 0,Value.int IntKind.i64 0],[(0,1,false),(1,1,false)],none,32,6,none,false⟩
theorem TF6_103_ok:TypOk Tryz.prog 103 TF6_103:=by constructor <;> kernel_rfl
def TF6:List (Nat×TI):=[(3,TF6_3),(29,TF6_29),(22,TF6_22),(27,TF6_27),(103,TF6_103)]
theorem TF6_ok:TabOk Tryz.prog TF6:=((((((TabOk.nil _).cons TF6_103_ok).cons TF6_27_ok).cons TF6_22_ok).cons TF6_29_ok).cons TF6_3_ok)
def fewB1 (most d:Int):List Ty→Int→Option Int
 | [],n=>some n
 | t :: l,n=>if n≤most then (if fewT most t d≤most then fewB1 most d l (n+t.size) else none) else some n
mutual
def fewM (most:Int):Tm→Int→Int
 | .mk bs _ _ a,d=>if d≤0 then most+1 else match fewB1 most d bs 1 with
  | none=>most+1
  | some n=>fewMs most a (d-1) n
def fewMs (most:Int):List Tm→Int→Int→Int
 | [],_,n=>n
 | t :: l,d,n=>if n≤most then fewMs most l d (n+fewM most t d) else n
end
theorem fewB1_le {most d:Int}(hm:1≤most)(hd:d≤1000):∀ (l:List Ty) (n:Int),1≤n→n≤2 * most→∀ r,fewB1 most d l n=some r→1≤r∧r≤2 * most
 | [],n,h0,h1,r,h=>by rw[fewB1] at h;cases h;exact⟨h0,h1⟩
 | t :: l,n,h0,h1,r,h=>by
  rw[fewB1] at h
  split at h
  ·split at h
   ·rename_i h2
    have:=fewT_size hm 1000 t d hd h2
    have:=(fewT_le hm 1000 t d hd).1
    exact fewB1_le hm hd l _ (by omega) (by omega) r h
   ·cases h
  ·cases h;exact⟨h0,h1⟩
theorem fewMs_le {most:Int}(hm:1≤most){B:Int}(hB:most≤B):∀ (l:List Tm) (d n:Int),(∀ t∈l,1≤fewM most t d∧fewM most t d≤B)→1≤n→n≤most+B→1≤fewMs most l d n∧fewMs most l d n≤most+B
 | [],d,n,_,h0,h1=>by rw[fewMs];exact⟨h0,h1⟩
 | t :: l,d,n,h,h0,h1=>by
  rw[fewMs]
  split
  ·have:=h t (by simp)
   exact fewMs_le hm hB l d _ (fun u hu=>h u (by simp[hu])) (by omega) (by omega)
  ·exact⟨h0,h1⟩
theorem fewM_le {most:Int}(hm:1≤most):∀ (k:Nat) (t:Tm) (d:Int),k≤1000→d≤k→1≤fewM most t d∧fewM most t d≤most * k+most+1
 | 0,.mk bs kd i a,d,hk,hd=>by
  rw[fewM,if_pos (by omega)]
  have e:most * ((0:Nat):Int)=0:=Int.mul_zero _
  rw[e];omega
 | k+1,.mk bs kd i a,d,hk,hd=>by
  rw[fewM]
  have e:most * ((k+1:Nat):Int)=most * (k:Int)+most:=by rw[Int.natCast_add,Int.mul_add];simp
  have h0:0≤most * (k:Int):=Int.mul_nonneg (by omega) (by omega)
  rw[e]
  split
  ·omega
  ·cases hb:fewB1 most d bs 1 with
   | none=>dsimp only;omega
   | some n=>
    have hn:=fewB1_le hm (by omega) bs 1 (by omega) (by omega) n hb
    have:=fewMs_le hm (B:=most * k+most+1) (by omega) a (d-1) n (fun t _=>fewM_le hm k t (d-1) (by omega) (by omega)) hn.1 (by omega)
    dsimp only
    omega
set_option maxHeartbeats 4000000 in
theorem few6_d (most:Int)(h1:1≤most)(h2:most≤1000):∀ (t:Tm) (d:Int),-1000≤d→d≤1000→PureC Tryz.prog 47 [.ag (eTm t),.v (.int .i64 most),.v (.int .i64 d)] (.v (.int .i64 (fewM most t d))):=by
 intro t
 induction t using Tm.ind with
 | h bs k i a ih=>
 intro d hd1 hd2
 obtain⟨V,hV⟩:∃ V,fewM most (.mk bs k i a) d=V:=⟨_,rfl⟩
 rw[hV]
 rw[fewM] at hV
 refine call_of_dw 0 69 [ResultVar.tmp 6] TF6_ok (by kernel_rfl) Tryz.func47 rfl Tryz.ntmps47 rfl (by simp) ?dwords ?dbody
 case dwords=>simp[wordsOk,D.ok,D.oks,rnames,eTm_ok]
 case dbody=>
  intro cx hnt hn0
  refine dw_seq ?_;refine dwk [] TF6_ok hnt fun _ z9=>z9 _ _ ?_;refine dw_seq (dw_seq ?_)
  by_cases hd:d≤0
  ·rw[if_pos hd] at hV
   subst hV
   refine dwk [(11,.v (.bool true))] TF6_ok hnt fun K hK=>?_;refine And.intro (dtrue hd) ?_;refine hK _ _ ?_;clear hK K;refine dw_cond (t:=true) rfl ?_;rw[if_pos rfl];refine dw_seq ?_;refine dwk [(13,.v (.int .i64 (most+1)))] TF6_ok hnt fun K hK=>?_;refine And.intro (dintE (IntWalk.i64_in _ (by omega))) ?_;refine hK _ _ ?_;clear hK K;refine dw_ret ?_
   exact retv (N:=0) (.inr rfl) rfl (VLe.refl _) trivial
  ·rw[if_neg hd] at hV;refine dwk [(11,.v (.bool false))] TF6_ok hnt fun K hK=>?_;refine And.intro (dfalse hd) ?_;refine hK _ _ ?_;clear hK K;refine dw_cond (t:=false) rfl ?_;rw[if_neg (by simp)];refine dw_skip ?_;refine dw_seq ?_;refine dwk [] TF6_ok hnt fun _ z9=>z9 _ _ ?_
   refine dw_cutE (ι:={ n:Int // 1≤n∧n≤2 * most∧V=fewMs most a (d-1) n }) (fun n=>[(.t 1,.v (.int .i64 most)),(.t 2,.v (.int .i64 d)),(.t 3,.p 0 0),(.t 7,.v (.int .i64 n.1)),(.c 0 0,.sl 2 (eTys bs) none),(.c 0 1,.v (.int .i64 k)),(.c 0 2,.v (.int .i64 i)),(.c 0 3,.sl 4 (eTms a) none)]) 1 ?_ fun n=>?_
   ·refine dw_seq ?_;refine dwk [] TF6_ok hnt fun _ z9=>z9 _ _ ?_;refine dw_block ?_
    refine dw_loop (ι:={ p:Nat×Int // fewB1 most d (bs.drop p.1) p.2=fewB1 most d bs 1∧(p.1:Int)+1≤p.2∧p.2≤2 * most∧p.1≤bs.length }) (fun p=>[(.t 1,.v (.int .i64 most)),(.t 2,.v (.int .i64 d)),(.t 3,.p 0 0),(.t 7,.v (.int .i64 p.1.2)),(.t 8,.v (.int .i64 (p.1.1:Int))),(.c 0 0,.sl 2 (eTys bs) none),(.c 0 1,.v (.int .i64 k)),(.c 0 2,.v (.int .i64 i)),(.c 0 3,.sl 4 (eTms a) none)]) 1 (fun p=>bs.length-p.1.1) ⟨(0,1),by simp,by simp,by dsimp only;omega,by simp⟩ VS.toA fun p=>?_
    obtain⟨⟨j,n⟩,hj1,hj2,hj3,hj4⟩:=p
    dsimp only at hj1 hj2 hj3 hj4 ⊢
    refine dw_seq (dw_seq ?_)
    by_cases hlt:j<bs.length
    ·have hdr:bs.drop j=bs[j] :: bs.drop (j+1):=List.drop_eq_getElem_cons hlt
     rw[hdr,fewB1] at hj1
     by_cases hn:n≤most
     ·rw[if_pos hn] at hj1
      have hF:=Few4_d most h1 h2 bs[j] d hd1 hd2
      rw[eTy_eq] at hF
      have hq:(eTys bs).getD (j:Int).toNat []=[.sl 2 (eTys bs[j].args) none,.v (.int .i64 bs[j].base)]:=by rw[Int.toNat_natCast,eTys_getD bs j hlt,eTy_eq]
      have hb:(0:Int)≤(j:Int)∧(j:Int)<((eTys bs).length:Int):=⟨by omega,by rw[eTys_len];omega⟩
      refine dwk [(18,.v (.bool true)),(22,.v (.bool true))] TF6_ok hnt fun K hK=>?_;refine And.intro (dtrue (by rw[eTys_len];omega)) ?_;refine And.intro (dtrue hn) ?_;refine hK _ _ ?_;clear hK K;refine dw_cond (t:=true) rfl ?_;rw[if_pos rfl];refine dw_skip ?_;refine dw_seq (dw_block ?_);refine dw_seq (dw_seq ?_)
      by_cases hff:fewT most bs[j] d≤most
      ·rw[if_pos hff] at hj1
       rw[decide_eq_true hff] at hF
       have hs1:=fewT_size h1 1000 bs[j] d (by omega) hff
       have hs2:=(fewT_le h1 1000 bs[j] d (by omega)).1
       have hS:=Size4_d bs[j] (by omega)
       rw[eTy_eq] at hS
       refine dwk [(29,.q [.sl 2 (eTys bs[j].args) none,.v (.int .i64 bs[j].base)])] TF6_ok hnt fun K hK=>?_;refine And.intro (hb) ?_;refine And.intro (VLe.of_eq (by rw[hq])) ?_;refine dcl (hF) ?_;refine hK _ _ ?_;clear hK K;refine dw_cond (t:=false) rfl ?_;rw[if_neg (by simp)];refine dw_skip ?_;refine dwk [(41,.q [.sl 2 (eTys bs[j].args) none,.v (.int .i64 bs[j].base)]),(44,.v (.int .i64 (n+(bs[j].size:Int))))] TF6_ok hnt fun K hK=>?_
       refine And.intro (hb) ?_;refine And.intro (VLe.of_eq (by rw[hq])) ?_;refine dcl (hS) ?_;refine And.intro (dintE (IntWalk.i64_in _ (by omega))) ?_;refine hK _ _ ?_;clear hK K;refine dwk [(25,.v (.int .i64 ((j+1:Nat):Int)))] TF6_ok hnt fun K hK=>?_;refine And.intro (dintE (by rw[IntWalk.i64_in _ (by omega)];omega)) ?_;refine hK _ _ ?_;clear hK K
       exact⟨⟨(j+1,n+(bs[j].size:Int)),hj1,by dsimp only;omega,by dsimp only;omega,hlt⟩,by dsimp only;omega,VS.toA⟩
      ·rw[if_neg hff] at hj1
       rw[decide_eq_false hff] at hF
       rw[←hj1] at hV
       dsimp only at hV
       subst hV
       refine dwk [(29,.q [.sl 2 (eTys bs[j].args) none,.v (.int .i64 bs[j].base)])] TF6_ok hnt fun K hK=>?_;refine And.intro (hb) ?_;refine And.intro (VLe.of_eq (by rw[hq])) ?_;refine dcl (hF) ?_;refine hK _ _ ?_;clear hK K;refine dw_cond (t:=true) rfl ?_;rw[if_pos rfl];refine dw_seq ?_;refine dwk [(36,.v (.int .i64 (most+1)))] TF6_ok hnt fun K hK=>?_;refine And.intro (dintE (IntWalk.i64_in _ (by omega))) ?_
       refine hK _ _ ?_;clear hK K;refine dw_ret ?_
       exact retv (N:=0) (.inr rfl) rfl (VLe.refl _) trivial
     ·rw[if_neg hn] at hj1
      rw[←hj1] at hV
      dsimp only at hV
      refine dwk [(18,.v (.bool true)),(22,.v (.bool false))] TF6_ok hnt fun K hK=>?_;refine And.intro (dtrue (by rw[eTys_len];omega)) ?_;refine And.intro (dfalse hn) ?_;refine hK _ _ ?_;clear hK K;refine dw_cond (t:=false) rfl ?_;rw[if_neg (by simp)];refine dw_exit ?_
      exact cutE_ok (Q:=RetOk TF6 [ResultVar.tmp 6] (.v (.int .i64 V)) []) ⟨n,by omega,hj3,hV.symm⟩ VS.toA
    ·rw[List.drop_eq_nil_of_le (by omega),fewB1] at hj1
     rw[←hj1] at hV
     dsimp only at hV
     refine dwk [(18,.v (.bool false))] TF6_ok hnt fun K hK=>?_;refine And.intro (dfalse (by rw[eTys_len];omega)) ?_;refine hK _ _ ?_;clear hK K;refine dw_cond (t:=false) rfl ?_;rw[if_neg (by simp)];refine dw_exit ?_
     exact cutE_ok (Q:=RetOk TF6 [ResultVar.tmp 6] (.v (.int .i64 V)) []) ⟨n,by omega,hj3,hV.symm⟩ VS.toA
   ·obtain⟨n0,hn1,hn2,hVn⟩:=n
    dsimp only
    rw[hVn]
    refine dw_seq (dw_seq ?_);refine dwk [] TF6_ok hnt fun _ z9=>z9 _ _ ?_;refine dw_block ?_
    refine dw_loop (ι:={ p:Nat×Int // fewMs most (a.drop p.1) (d-1) p.2=fewMs most a (d-1) n0∧(p.1:Int)+1≤p.2∧p.2≤2000000∧p.1≤a.length }) (fun p=>[(.t 1,.v (.int .i64 most)),(.t 2,.v (.int .i64 d)),(.t 3,.p 0 0),(.t 7,.v (.int .i64 p.1.2)),(.t 9,.v (.int .i64 (p.1.1:Int))),(.c 0 0,.sl 2 (eTys bs) none),(.c 0 1,.v (.int .i64 k)),(.c 0 2,.v (.int .i64 i)),(.c 0 3,.sl 4 (eTms a) none)]) 1 (fun p=>a.length-p.1.1) ⟨(0,n0),by simp,by dsimp only;omega,by dsimp only;omega,by simp⟩ VS.toA fun p=>?_
    obtain⟨⟨j,n⟩,hj1,hj2,hj3,hj4⟩:=p
    dsimp only at hj1 hj2 hj3 hj4 ⊢
    refine dw_seq (dw_seq ?_)
    by_cases hlt:j<a.length
    ·have hdr:a.drop j=a[j] :: a.drop (j+1):=List.drop_eq_getElem_cons hlt
     rw[hdr,fewMs] at hj1
     by_cases hn:n≤most
     ·rw[if_pos hn] at hj1
      have hih:=ih a[j] (List.getElem_mem hlt) (d-1) (by omega) (by omega)
      rw[eTm_eq] at hih
      have hbd:=fewM_le h1 1000 a[j] (d-1) (by omega) (by omega)
      have hbd2:most * ((1000:Nat):Int)≤1000000:=by
       have:most * ((1000:Nat):Int)=1000 * most:=by rw[Int.mul_comm];rfl
       omega
      refine dwk [(49,.v (.bool true)),(53,.v (.bool true))] TF6_ok hnt fun K hK=>?_;refine And.intro (dtrue (by rw[eTms_len];omega)) ?_;refine And.intro (dtrue hn) ?_;refine hK _ _ ?_;clear hK K;refine dw_cond (t:=true) rfl ?_;rw[if_pos rfl];refine dw_skip ?_;refine dw_seq (dw_block ?_);refine dwk [(61,.q [.sl 2 (eTys a[j].binds) none,.v (.int .i64 a[j].kind),.v (.int .i64 a[j].index),.sl 4 (eTms a[j].args) none]),(65,.v (.int .i64 (d-1))),(67,.v (.int .i64 (n+fewM most a[j] (d-1))))] TF6_ok hnt fun K hK=>?_
      refine And.intro (⟨by omega,by rw[eTms_len];omega⟩) ?_;refine And.intro (VLe.of_eq (by rw[Int.toNat_natCast,eTms_getD a j hlt,eTm_eq])) ?_;refine And.intro (dintE (IntWalk.i64_in _ (by omega))) ?_;refine dcl (hih) ?_;refine And.intro (dintE (IntWalk.i64_in _ (by omega))) ?_;refine hK _ _ ?_;clear hK K;refine dwk [(56,.v (.int .i64 ((j+1:Nat):Int)))] TF6_ok hnt fun K hK=>?_;refine And.intro (dintE (by rw[IntWalk.i64_in _ (by omega)];omega)) ?_
      refine hK _ _ ?_;clear hK K
      exact⟨⟨(j+1,n+fewM most a[j] (d-1)),hj1,by dsimp only;omega,by dsimp only;omega,hlt⟩,by dsimp only;omega,VS.toA⟩
     ·rw[if_neg hn] at hj1
      rw[←hj1]
      refine dwk [(49,.v (.bool true)),(53,.v (.bool false))] TF6_ok hnt fun K hK=>?_;refine And.intro (dtrue (by rw[eTms_len];omega)) ?_;refine And.intro (dfalse hn) ?_;refine hK _ _ ?_;clear hK K;refine dw_cond (t:=false) rfl ?_;rw[if_neg (by simp)];refine dw_exit ?_;refine dw_seq ?_;refine dwk [] TF6_ok hnt fun _ z9=>z9 _ _ ?_;refine dw_ret ?_
      exact retv (N:=0) (.inr rfl) rfl (VLe.refl _) trivial
    ·rw[List.drop_eq_nil_of_le (by omega),fewMs] at hj1
     rw[←hj1]
     refine dwk [(49,.v (.bool false))] TF6_ok hnt fun K hK=>?_;refine And.intro (dfalse (by rw[eTms_len];omega)) ?_;refine hK _ _ ?_;clear hK K;refine dw_cond (t:=false) rfl ?_;rw[if_neg (by simp)];refine dw_exit ?_;refine dw_seq ?_;refine dwk [] TF6_ok hnt fun _ z9=>z9 _ _ ?_;refine dw_ret ?_
     exact retv (N:=0) (.inr rfl) rfl (VLe.refl _) trivial
theorem Few6_d (most:Int)(h1:1≤most)(h2:most≤1000)(t:Tm)(d:Int)(h3:-1000≤d)(h4:d≤1000):PureC Tryz.prog 8 [.ag (eTm t),.v (.int .i64 most),.v (.int .i64 d)] (.v (.bool (decide (fewM most t d≤most)))):=by
 have h:=few6_d most h1 h2 t d h3 h4
 rw[eTm_eq] at h ⊢
 refine call_of_dw 0 13 [ResultVar.tmp 6] TF6_ok (by kernel_rfl) Tryz.func8 rfl Tryz.ntmps8 rfl (by simp) ?dwords ?dbody
 case dwords=>simp[wordsOk,D.ok,D.oks,rnames,eTys_ok,eTms_ok]
 case dbody=>
  intro cx hnt hn0
  refine dw_seq ?_;refine dwk [] TF6_ok hnt fun _ z9=>z9 _ _ ?_;refine dw_seq ?_;refine dwk [] TF6_ok hnt fun K hK=>?_;refine dcl (h) ?_;refine hK _ _ ?_;clear hK K;refine dw_ret ?_
  exact retv (N:=0) (.inr rfl) rfl (VLe.refl _) trivial
def fewB (t:Tm):Bool:=decide (fewM 150 t 70≤150)
set_option maxHeartbeats 1000000 in
theorem lawFew_d (l:List Tm)(hl:l.length≤1000000):PureC Tryz.prog 77 [.sl 4 (eTms l) none] (.v (.bool (l.all fewB))):=by
 refine call_of_dw 0 16 [ResultVar.tmp 2] TF6_ok (by kernel_rfl) Tryz.func77 rfl Tryz.ntmps77 rfl (by simp) ?dwords ?dbody
 case dwords=>simp[wordsOk,D.ok,D.oks,rnames,eTms_ok]
 case dbody=>
  intro cx hnt hn0
  refine dw_seq ?_;refine dwk [] TF6_ok hnt fun _ z9=>z9 _ _ ?_;refine dw_seq (dw_seq ?_);refine dwk [] TF6_ok hnt fun _ z9=>z9 _ _ ?_;refine dw_block ?_
  refine dw_loop (ι:={ j:Nat // ∀ i (h:i<l.length),i<j→fewB l[i]=true }) (fun j=>[(.t 0,.sl 4 (eTms l) none),(.t 3,.v (.int .i64 (j.1:Int)))]) 1 (fun j=>l.length-j.1) ⟨0,fun i h1 h2=>by omega⟩ VS.toA fun j=>?_
  obtain⟨j,hj⟩:=j
  dsimp only
  refine dw_seq (dw_seq ?_)
  by_cases hlt:j<l.length
  ·have hi:=Few6_d 150 (by decide) (by decide) l[j] 70 (by decide) (by decide)
   rw[eTm_eq] at hi
   have hq:(eTms l).getD (j:Int).toNat []=[.sl 2 (eTys l[j].binds) none,.v (.int .i64 l[j].kind),.v (.int .i64 l[j].index),.sl 4 (eTms l[j].args) none]:=by rw[Int.toNat_natCast,eTms_getD l j hlt,eTm_eq]
   have hb:(0:Int)≤(j:Int)∧(j:Int)<((eTms l).length:Int):=⟨by omega,by rw[eTms_len];omega⟩
   refine dwk [(7,.v (.bool true))] TF6_ok hnt fun K hK=>?_;refine And.intro (dtrue (by rw[eTms_len];omega)) ?_;refine hK _ _ ?_;clear hK K;refine dw_cond (t:=true) rfl ?_;rw[if_pos rfl];refine dw_skip ?_;refine dw_seq (dw_block (dw_seq ?_))
   cases hf:fewB l[j] with
   | true=>
    have hf2:=hf
    unfold fewB at hf2
    rw[hf2] at hi
    refine dwk [(12,.q [.sl 2 (eTys l[j].binds) none,.v (.int .i64 l[j].kind),.v (.int .i64 l[j].index),.sl 4 (eTms l[j].args) none])] TF6_ok hnt fun K hK=>?_;refine And.intro (hb) ?_;refine And.intro (VLe.of_eq (by rw[hq])) ?_;refine dcl (hi) ?_;refine hK _ _ ?_;clear hK K;refine dw_cond (t:=false) rfl ?_;rw[if_neg (by simp)];refine dw_skip ?_;refine dwk [(9,.v (.int .i64 ((j+1:Nat):Int)))] TF6_ok hnt fun K hK=>?_
    refine And.intro (dintE (by rw[IntWalk.i64_in _ (by omega)];omega)) ?_;refine hK _ _ ?_;clear hK K
    refine⟨⟨j+1,fun i h1 h2=>?_⟩,by dsimp only;omega,VS.toA⟩
    by_cases he:i=j
    ·subst he;exact hf
    ·exact hj i h1 (by omega)
   | false=>
    have hf2:=hf
    unfold fewB at hf2
    rw[hf2] at hi
    have ha:l.all fewB=false:=by rw[List.all_eq_false];exact⟨l[j],List.getElem_mem hlt,by rw[hf];simp⟩
    rw[ha]
    refine dwk [(12,.q [.sl 2 (eTys l[j].binds) none,.v (.int .i64 l[j].kind),.v (.int .i64 l[j].index),.sl 4 (eTms l[j].args) none])] TF6_ok hnt fun K hK=>?_;refine And.intro (hb) ?_;refine And.intro (VLe.of_eq (by rw[hq])) ?_;refine dcl (hi) ?_;refine hK _ _ ?_;clear hK K;refine dw_cond (t:=true) rfl ?_;rw[if_pos rfl];refine dw_seq ?_;refine dwk [] TF6_ok hnt fun _ z9=>z9 _ _ ?_
    refine dw_ret ?_
    exact retv (N:=0) (.inr rfl) rfl (VLe.refl _) trivial
  ·have ha:l.all fewB=true:=by
    rw[List.all_eq_true]
    intro t ht
    obtain⟨i,hi,rfl⟩:=List.getElem_of_mem ht
    exact hj i hi (by omega)
   rw[ha]
   refine dwk [(7,.v (.bool false))] TF6_ok hnt fun K hK=>?_;refine And.intro (dfalse (by rw[eTms_len];omega)) ?_;refine hK _ _ ?_;clear hK K;refine dw_cond (t:=false) rfl ?_;rw[if_neg (by simp)];refine dw_exit ?_;refine dw_seq ?_;refine dwk [] TF6_ok hnt fun _ z9=>z9 _ _ ?_;refine dw_ret ?_
   exact retv (N:=0) (.inr rfl) rfl (VLe.refl _) trivial
theorem fewB1_full {most d:Int}(hm:1≤most)(hd:d≤1000):∀ (l:List Ty) (n r:Int),fewB1 most d l n=some r→r≤most→r=n+Ty.sizes l
 | [],n,r,h,_=>by rw[fewB1] at h;cases h;simp[Ty.sizes]
 | t :: l,n,r,h,hr=>by
  rw[fewB1] at h
  split at h
  ·split at h
   ·have:=fewB1_full hm hd l _ r h hr
    rw[this,Ty.sizes];omega
   ·cases h
  ·cases h;omega
theorem fewMs_full {most:Int}:∀ (l:List Tm) (d n:Int),(∀ t∈l,fewM most t d≤most→(t.full:Int)=fewM most t d∧(t.depth:Int)≤d)→(∀ t∈l,1≤fewM most t d)→1≤n→fewMs most l d n≤most→fewMs most l d n=n+Tm.fulls l∧(∀ t∈l,(t.depth:Int)≤d)∧n≤most
 | [],d,n,_,_,_,h=>by rw[fewMs] at h ⊢;exact⟨by simp[Tm.fulls],nofun,h⟩
 | t :: l,d,n,h,h1,hn,hf=>by
  rw[fewMs] at hf ⊢
  split at hf
  ·rename_i hm
   rw[if_pos hm]
   have h2:=h1 t (by simp)
   obtain⟨h3,h4,h5⟩:=fewMs_full l d _ (fun u hu=>h u (by simp[hu])) (fun u hu=>h1 u (by simp[hu])) (by omega) hf
   obtain⟨h6,h7⟩:=h t (by simp) (by omega)
   refine⟨by rw[h3,Tm.fulls];omega,fun u hu=>?_,hm⟩
   rcases List.mem_cons.1 hu with rfl | hu
   ·exact h7
   ·exact h4 u hu
  ·rename_i hm;omega
theorem depths_max {d:Int}(hd:0≤d):∀ (l:List Tm),(∀ t∈l,(t.depth:Int)≤d)→(Tm.depths l:Int)≤d
 | [],_=>by simp[Tm.depths];exact hd
 | t :: l,h=>by
  have h1:=h t (by simp)
  have h2:=depths_max hd l fun u hu=>h u (by simp[hu])
  simp only[Tm.depths];omega
theorem fewM_full {most:Int}(hm:1≤most):∀ (k:Nat) (t:Tm) (d:Int),k≤1000→d≤k→fewM most t d≤most→(t.full:Int)=fewM most t d∧(t.depth:Int)≤d
 | 0,.mk bs kd i a,d,hk,hd,h=>by rw[fewM,if_pos (by omega)] at h;omega
 | k+1,.mk bs kd i a,d,hk,hd,h=>by
  rw[fewM] at h ⊢
  split at h
  ·omega
  ·rename_i hp
   rw[if_neg hp]
   cases hb:fewB1 most d bs 1 with
   | none=>rw[hb] at h;dsimp only at h;omega
   | some n=>
    rw[hb] at h
    dsimp only at h ⊢
    have hn:=fewB1_le hm (by omega) bs 1 (by omega) (by omega) n hb
    obtain⟨h3,h4,h5⟩:=fewMs_full a (d-1) n (fun t _=>fewM_full hm k t (d-1) (by omega) (by omega)) (fun t _=>(fewM_le hm k t (d-1) (by omega) (by omega)).1) hn.1 h
    have h6:=fewB1_full hm (by omega) bs 1 n hb h5
    have h7:=depths_max (by omega) a h4
    rw[Tm.full_eq,Tm.depth_eq]
    constructor
    ·omega
    ·omega
theorem fewB_full {t:Tm}(h:fewB t=true):t.full≤150∧t.depth≤70:=by
 unfold fewB at h
 rw[decide_eq_true_eq] at h
 obtain⟨h1,h2⟩:=fewM_full (by decide) 1000 t 70 (by decide) (by decide) h
 omega
def TS9_22:TI:=⟨1,false,[Value.slice none 0 0],[],some 103,24,5,none,false⟩
theorem TS9_22_ok:TypOk Tryz.prog 22 TS9_22:=by constructor <;> kernel_rfl
def TS9_3:TI:=⟨1,false,[Value.int IntKind.i64 0],[],none,8,2,none,false⟩
theorem TS9_3_ok:TypOk Tryz.prog 3 TS9_3:=by constructor <;> kernel_rfl
def TS9_24:TI:=⟨3,true,[Value.int IntKind.i64 0,Value.slice none 0 0,Value.slice none 0 0],[(0,1,false),(1,1,false),(2,1,false)],none,56,6,none,false⟩
theorem TS9_24_ok:TypOk Tryz.prog 24 TS9_24:=by constructor <;> kernel_rfl
def TS9_103:TI:=⟨2,true,[Value.slice none 0 0,Value.int IntKind.i64 0],[(0,1,false),(1,1,false)],none,32,6,none,false⟩
theorem TS9_103_ok:TypOk Tryz.prog 103 TS9_103:=by constructor <;> kernel_rfl
def TS9:List (Nat×TI):=[(22,TS9_22),(3,TS9_3),(24,TS9_24),(103,TS9_103)]
theorem TS9_ok:TabOk Tryz.prog TS9:=(((((TabOk.nil _).cons TS9_103_ok).cons TS9_24_ok).cons TS9_3_ok).cons TS9_22_ok)
def few4B (t:Ty):Bool:=decide (fewT 60 t 60≤60)
theorem fewT60 {t:Ty}(h:few4B t=true):t.size≤60:=by
 unfold few4B at h
 rw[decide_eq_true_eq] at h
 have:=fewT_size (by decide) 1000 t 60 (by decide) h
 omega
set_option maxHeartbeats 1000000 in
theorem small_d (b:Int)(C M X:List Ty)(h1:C.length≤20)(h2:M.length≤20)(h3:X.length≤20):PureC Tryz.prog 9 [.ag [.v (.int .i64 b),.sl 2 (eTys C) none,.sl 2 (eTys M) none],.sl 2 (eTys X) none] (.v (.bool (((C++M)++X).all few4B))):=by
 have hB:=rbehind_d C M (by omega)
 have hB2:=rbehind_d (C++M) X (by simp;omega)
 obtain⟨l,hl⟩:∃ l,(C++M)++X=l:=⟨_,rfl⟩
 rw[hl] at hB2 ⊢
 have hll:l.length≤60:=by rw[←hl];simp;omega
 refine call_of_dw 0 41 [ResultVar.tmp 4] TS9_ok (by kernel_rfl) Tryz.func9 rfl Tryz.ntmps9 rfl (by simp) ?dwords ?dbody
 case dwords=>simp[wordsOk,D.ok,D.oks,rnames,eTys_ok]
 case dbody=>
  intro cx hnt hn0
  refine dw_seq ?_;refine dwk [] TS9_ok hnt fun _ z9=>z9 _ _ ?_;refine dw_seq (dw_seq ?_);refine dwk [(10,.v (.bool false)),(15,.v (.bool false)),(20,.v (.bool false))] TS9_ok hnt fun K hK=>?_;refine And.intro (dfalse (by rw[eTys_len];omega)) ?_;refine And.intro (dfalse (by rw[eTys_len];omega)) ?_;refine And.intro (dfalse (by rw[eTys_len];omega)) ?_;refine hK _ _ ?_;clear hK K
  refine dw_cond (t:=false) rfl ?_;rw[if_neg (by simp)];refine dw_skip ?_;refine dw_seq ?_;refine dwk [] TS9_ok hnt fun K hK=>?_;refine dcl (hB) ?_;refine dcl (hB2) ?_;refine hK _ _ ?_;clear hK K;refine dw_seq (dw_seq ?_);refine dwk [] TS9_ok hnt fun _ z9=>z9 _ _ ?_;refine dw_block ?_
  refine dw_loop (ι:={ j:Nat // ∀ i (h:i<l.length),i<j→few4B l[i]=true }) (fun j=>[(.t 5,.sl 2 (eTys l) none),(.t 6,.v (.int .i64 (j.1:Int)))]) 1 (fun j=>l.length-j.1) ⟨0,fun i h1 h2=>by omega⟩ VS.toA fun j=>?_
  obtain⟨j,hj⟩:=j
  dsimp only
  refine dw_seq (dw_seq ?_)
  by_cases hlt:j<l.length
  ·have hi:=Few4_d 60 (by decide) (by decide) l[j] 60 (by decide) (by decide)
   rw[eTy_eq] at hi
   have hq:(eTys l).getD (j:Int).toNat []=[.sl 2 (eTys l[j].args) none,.v (.int .i64 l[j].base)]:=by rw[Int.toNat_natCast,eTys_getD l j hlt,eTy_eq]
   have hb:(0:Int)≤(j:Int)∧(j:Int)<((eTys l).length:Int):=⟨by omega,by rw[eTys_len];omega⟩
   refine dwk [(32,.v (.bool true))] TS9_ok hnt fun K hK=>?_;refine And.intro (dtrue (by rw[eTys_len];omega)) ?_;refine hK _ _ ?_;clear hK K;refine dw_cond (t:=true) rfl ?_;rw[if_pos rfl];refine dw_skip ?_;refine dw_seq (dw_block (dw_seq ?_))
   cases hf:few4B l[j] with
   | true=>
    have hf2:=hf
    unfold few4B at hf2
    rw[hf2] at hi
    refine dwk [(37,.q [.sl 2 (eTys l[j].args) none,.v (.int .i64 l[j].base)])] TS9_ok hnt fun K hK=>?_;refine And.intro (hb) ?_;refine And.intro (VLe.of_eq (by rw[hq])) ?_;refine dcl (hi) ?_;refine hK _ _ ?_;clear hK K;refine dw_cond (t:=false) rfl ?_;rw[if_neg (by simp)];refine dw_skip ?_;refine dwk [(34,.v (.int .i64 ((j+1:Nat):Int)))] TS9_ok hnt fun K hK=>?_;refine And.intro (dintE (by rw[IntWalk.i64_in _ (by omega)];omega)) ?_
    refine hK _ _ ?_;clear hK K
    refine⟨⟨j+1,fun i h1 h2=>?_⟩,by dsimp only;omega,VS.toA⟩
    by_cases he:i=j
    ·subst he;exact hf
    ·exact hj i h1 (by omega)
   | false=>
    have hf2:=hf
    unfold few4B at hf2
    rw[hf2] at hi
    have ha:l.all few4B=false:=by rw[List.all_eq_false];exact⟨l[j],List.getElem_mem hlt,by rw[hf];simp⟩
    rw[ha]
    refine dwk [(37,.q [.sl 2 (eTys l[j].args) none,.v (.int .i64 l[j].base)])] TS9_ok hnt fun K hK=>?_;refine And.intro (hb) ?_;refine And.intro (VLe.of_eq (by rw[hq])) ?_;refine dcl (hi) ?_;refine hK _ _ ?_;clear hK K;refine dw_cond (t:=true) rfl ?_;rw[if_pos rfl];refine dw_seq ?_;refine dwk [] TS9_ok hnt fun _ z9=>z9 _ _ ?_;refine dw_ret ?_
    exact retv (N:=0) (.inr rfl) rfl (VLe.refl _) trivial
  ·have ha:l.all few4B=true:=by
    rw[List.all_eq_true]
    intro t ht
    obtain⟨i,hi,rfl⟩:=List.getElem_of_mem ht
    exact hj i hi (by omega)
   rw[ha]
   refine dwk [(32,.v (.bool false))] TS9_ok hnt fun K hK=>?_;refine And.intro (dfalse (by rw[eTys_len];omega)) ?_;refine hK _ _ ?_;clear hK K;refine dw_cond (t:=false) rfl ?_;rw[if_neg (by simp)];refine dw_exit ?_;refine dw_seq ?_;refine dwk [] TS9_ok hnt fun _ z9=>z9 _ _ ?_;refine dw_ret ?_
   exact retv (N:=0) (.inr rfl) rfl (VLe.refl _) trivial
set_option maxHeartbeats 1000000 in
theorem small_no (b:Int)(C M X:List Ty)(h:¬ (C.length≤20∧M.length≤20∧X.length≤20)):PureC Tryz.prog 9 [.ag [.v (.int .i64 b),.sl 2 (eTys C) none,.sl 2 (eTys M) none],.sl 2 (eTys X) none] (.v (.bool false)):=by
 refine call_of_dw 0 41 [ResultVar.tmp 4] TS9_ok (by kernel_rfl) Tryz.func9 rfl Tryz.ntmps9 rfl (by simp) ?dwords ?dbody
 case dwords=>simp[wordsOk,D.ok,D.oks,rnames,eTys_ok]
 case dbody=>
  intro cx hnt hn0
  refine dw_seq ?_;refine dwk [] TS9_ok hnt fun _ z9=>z9 _ _ ?_;refine dw_seq (dw_seq ?_)
  by_cases h1:C.length≤20
  ·by_cases h2:M.length≤20
   ·skip
    refine dwk [(10,.v (.bool false)),(15,.v (.bool false)),(20,.v (.bool true))] TS9_ok hnt fun K hK=>?_;refine And.intro (dfalse (by rw[eTys_len];omega)) ?_;refine And.intro (dfalse (by rw[eTys_len];omega)) ?_;refine And.intro (dtrue (by rw[eTys_len];omega)) ?_;refine hK _ _ ?_;clear hK K;refine dw_cond (t:=true) rfl ?_;rw[if_pos rfl];refine dw_seq ?_;refine dwk [] TS9_ok hnt fun K hK=>?_
    refine hK _ _ ?_;clear hK K;refine dw_ret ?_
    exact retv (N:=0) (.inr rfl) rfl (VLe.refl _) trivial
   ·skip
    refine dwk [(10,.v (.bool false)),(15,.v (.bool true))] TS9_ok hnt fun K hK=>?_;refine And.intro (dfalse (by rw[eTys_len];omega)) ?_;refine And.intro (dtrue (by rw[eTys_len];omega)) ?_;refine hK _ _ ?_;clear hK K;refine dw_cond (t:=true) rfl ?_;rw[if_pos rfl];refine dw_seq ?_;refine dwk [] TS9_ok hnt fun _ z9=>z9 _ _ ?_;refine dw_ret ?_
    exact retv (N:=0) (.inr rfl) rfl (VLe.refl _) trivial
  ·skip
   refine dwk [(10,.v (.bool true))] TS9_ok hnt fun K hK=>?_;refine And.intro (dtrue (by rw[eTys_len];omega)) ?_;refine hK _ _ ?_;clear hK K;refine dw_cond (t:=true) rfl ?_;rw[if_pos rfl];refine dw_seq ?_;refine dwk [] TS9_ok hnt fun _ z9=>z9 _ _ ?_;refine dw_ret ?_
   exact retv (N:=0) (.inr rfl) rfl (VLe.refl _) trivial
def TTO_44:TI:=⟨2,true,[Value.slice none 0 0,Value.int IntKind.i64 0],[(0,1,false),(1,1,false)],none,32,6,none,false⟩
theorem TTO_44_ok:TypOk Tryz.prog 44 TTO_44:=by constructor <;> kernel_rfl
def TTO_3:TI:=⟨1,false,[Value.int IntKind.i64 0],[],none,8,2,none,false⟩
theorem TTO_3_ok:TypOk Tryz.prog 3 TTO_3:=by constructor <;> kernel_rfl
def TTO_41:TI:=⟨4,true,[Value.slice none 0 0,Value.int IntKind.i64 0,Value.int IntKind.i64 0,Value.slice none 0 0],[(0,1,false),(1,2,true),(3,1,false)],none,64,6,none,false⟩
theorem TTO_41_ok:TypOk Tryz.prog 41 TTO_41:=by constructor <;> kernel_rfl
def TTO_103:TI:=⟨2,true,[Value.slice none 0 0,Value.int IntKind.i64 0],[(0,1,false),(1,1,false)],none,32,6,none,false⟩
theorem TTO_103_ok:TypOk Tryz.prog 103 TTO_103:=by constructor <;> kernel_rfl
def TTO_22:TI:=⟨1,false,[Value.slice none 0 0],[],some 103,24,5,none,false⟩
theorem TTO_22_ok:TypOk Tryz.prog 22 TTO_22:=by constructor <;> kernel_rfl
def TTO_33:TI:=⟨1,false,[Value.slice none 0 0],[],some 44,24,5,none,false⟩
theorem TTO_33_ok:TypOk Tryz.prog 33 TTO_33:=by constructor <;> kernel_rfl
def TTO_29:TI:=⟨4,true,[Value.slice none 0 0,Value.int IntKind.i64 0,Value.int IntKind.i64 0,Value.slice none 0 0],[(0,1,false),(1,2,true),(3,1,false)],none,64,6,none,false⟩
theorem TTO_29_ok:TypOk Tryz.prog 29 TTO_29:=by constructor <;> kernel_rfl
def TTO_39:TI:=⟨1,false,[Value.slice none 0 0],[],some 41,24,5,none,false⟩
theorem TTO_39_ok:TypOk Tryz.prog 39 TTO_39:=by constructor <;> kernel_rfl
def TTO_27:TI:=⟨1,false,[Value.slice none 0 0],[],some 29,24,5,none,false⟩
theorem TTO_27_ok:TypOk Tryz.prog 27 TTO_27:=by constructor <;> kernel_rfl
def TTO_26:TI:=⟨2,true,[Value.int IntKind.i64 0,Value.int IntKind.i64 0],[(0,1,false),(1,1,false)],none,16,6,none,true⟩
theorem TTO_26_ok:TypOk Tryz.prog 26 TTO_26:=by constructor <;> kernel_rfl
def TTO_38:TI:=⟨2,true,[Value.int IntKind.i64 0,Value.int IntKind.i64 0],[(0,1,false),(1,1,false)],none,16,6,none,true⟩
theorem TTO_38_ok:TypOk Tryz.prog 38 TTO_38:=by constructor <;> kernel_rfl
def TTO:List (Nat×TI):=[(44,TTO_44),(3,TTO_3),(41,TTO_41),(103,TTO_103),(22,TTO_22),(33,TTO_33),(29,TTO_29),(39,TTO_39),(27,TTO_27),(26,TTO_26),(38,TTO_38)]
theorem TTO_ok:TabOk Tryz.prog TTO:=((((((((((((TabOk.nil _).cons TTO_38_ok).cons TTO_26_ok).cons TTO_27_ok).cons TTO_39_ok).cons TTO_29_ok).cons TTO_33_ok).cons TTO_22_ok).cons TTO_103_ok).cons TTO_41_ok).cons TTO_3_ok).cons TTO_44_ok)
theorem eTys_tlen (l:List Ty)(j:Nat)(h:j≤l.length):(eTys (l.take j)).length=j:=by rw[eTys_len,List.length_take];omega
theorem eTms_tlen (l:List Tm)(j:Nat)(h:j≤l.length):(eTms (l.take j)).length=j:=by rw[eTms_len,List.length_take];omega
theorem to4D_d:∀ t:Ty,t.size≤900000→PureC Tryz.prog 53 [.ag (eTy t)] (.ag (eTy t)):=by
 intro t
 induction t using Ty.ind with
 | h ar base ih=>
  intro hz
  rw[Ty.size_eq] at hz
  have hal:=Ty.le_sizes ar
  rw[eTy_eq]
  dsimp only[Ty.args,Ty.base]
  refine calldw 0 27 [ResultVar.cell 2 44] TTO_ok Tryz.func53 rfl Tryz.ntmps53 rfl fun cx hnt hn0=>?_
  ·skip
   refine dw_seq ?_;refine dwk [] TTO_ok hnt fun _ z9=>z9 _ _ ?_;refine dw_seq ?_;refine dwk [] TTO_ok hnt fun _ z9=>z9 _ _ ?_
   refine DW.vs (VS.row (k:=5) (off:=0) 44 2 rfl) ?_
   refine dw_seq ?_;refine dw_seq ?_;refine dwk [] TTO_ok hnt fun _ z9=>z9 _ _ ?_;refine dw_block ?_
   refine dw_loop (ι:={ j:Nat // j≤ar.length }) (fun j=>[(.t 1,.p 0 0),(.t 2,.p 1 0),(.t 3,.p 5 0),(.t 4,.v (.int .i64 ↑j.1)),(.c 0 0,.sl 2 (eTys ar) none),(.c 0 1,.v (.int .i64 base)),(.c 1 0,.v (.slice none 0 0)),(.c 1 1,.v (.int .i64 0)),(.c 5 0,.sl 2 (eTys (ar.take j.1)) (some 7)),(.c 5 1,.v (.int .i64 base)),(.r 7,.rw 44 2 j.1)]) 8 (fun j=>ar.length-j.1) (⟨0,Nat.zero_le _⟩) ((VS.toK (by omega) (by repeat first | exact trivial | refine And.intro (And.intro (by first | rfl | simp[D.ok,D.oks,D.okss,D.okm,upto,keyOk,argsT]) (by first | exact Or.inl rfl | exact Or.inr ⟨_,rfl,(by repeat first | exact VLe.refl _ | exact VLe.nil _ | exact VLe.untag _ _ _ | refine VLe.ag ?_ | refine VLe.tu ?_ | refine VLeL.cons ?_ ?_ | exact VLeL.nil),trivial⟩ | simp[get,Key.eq,argsT])) ?_))) fun j=>?_
   obtain⟨j,hj⟩:=j
   dsimp only
   by_cases hlt:j<ar.length
   ·have hmem:=List.getElem_mem hlt
    have hsz:=Ty.size_mem hmem
    have hc:=ih _ hmem (by omega)
    rw[eTy_eq] at hc
    have hl1:=eTys_tlen ar j hj
    have hl2:=eTys_tlen ar (j+1) hlt
    refine dw_seq ?_;refine dw_seq ?_;refine dwk [(11,.v (.int .i64 (↑ar.length))),(12,.v (.bool true))] TTO_ok hnt fun K hK=>?_;refine And.intro (dintE (by rw[eTys_len])) ?_;refine And.intro auT ?_;refine hK _ _ ?_;clear hK K;refine dw_cond (t:=true) rfl ?_;rw[if_pos rfl];refine dw_skip ?_;refine dw_seq ?_;refine dw_block ?_;refine dwkD [(20,.q [.sl 2 (eTys ar[j].args) none,.v (.int .i64 ar[j].base)])] TTO_ok hnt fun K hK=>?_
    refine And.intro (elo (eTys_len ar)) ?_;refine And.intro (elv (eTys_getD ar j) (eTy_eq _)) ?_;refine dcl (hc) ?_;refine And.intro (⟨by omega,by rw[hl1];simp;omega⟩) ?_;refine hK _ _ (by kernel_rfl) ?_;clear hK K
    rw[eTys_snoc ar j hlt,hl2]
    refine dwk [(14,.v (.int .i64 (↑(j+1))))] TTO_ok hnt fun K hK=>?_;refine And.intro auI ?_;refine hK _ _ ?_;clear hK K
    refine⟨⟨j+1,hlt⟩,by first | omega | (dsimp only;omega),VS.toA⟩
   ·rw[List.take_of_length_le (by omega)]
    refine dw_seq ?_;refine dw_seq ?_;refine dwk [(11,.v (.int .i64 (↑ar.length))),(12,.v (.bool false))] TTO_ok hnt fun K hK=>?_;refine And.intro (dintE (by rw[eTys_len])) ?_;refine And.intro auF ?_;refine hK _ _ ?_;clear hK K;refine dw_cond (t:=false) rfl ?_;rw[if_neg (by simp)];refine dw_exit ?_;refine dw_seq ?_;refine dwk [] TTO_ok hnt fun _ z9=>z9 _ _ ?_
    refine dw_ret ?_
    exact reta rfl
theorem toTys_d (l:List Ty)(hz:Ty.sizes l≤900000):PureC Tryz.prog 12 [.sl 2 (eTys l) none] (.sl 2 (eTys l) none):=by
 have hal:=Ty.le_sizes l
 refine calldw 0 20 [ResultVar.tmp 2] TTO_ok Tryz.func12 rfl Tryz.ntmps12 rfl fun cx hnt hn0=>?_
 ·skip
  refine dw_seq ?_;refine dwk [] TTO_ok hnt fun _ z9=>z9 _ _ ?_
  refine dw_cut (τ:=[(.t 0,.sl 2 (eTys l) none),(.t 3,.v (.slice none 0 0))]) (N1:=0) ?_ ?_
  ·skip
   refine dwk [] TTO_ok hnt fun _ z9=>z9 _ _ ?_
   exact cut_ok (VS.toK (by omega) (by repeat first | exact trivial | refine And.intro (And.intro (by first | rfl | simp[D.ok,D.oks,D.okss,D.okm,upto,keyOk,argsT]) (by first | exact Or.inl rfl | exact Or.inr ⟨_,rfl,(by repeat first | exact VLe.refl _ | exact VLe.nil _ | exact VLe.untag _ _ _ | refine VLe.ag ?_ | refine VLe.tu ?_ | refine VLeL.cons ?_ ?_ | exact VLeL.nil),trivial⟩ | simp[get,Key.eq,argsT])) ?_))
  ·refine DW.vs (VS.rowT (x:=3) (by rw[hnt];decide) 44 2 rfl) ?_
   refine dw_seq ?_;refine dw_seq ?_;refine dwk [] TTO_ok hnt fun _ z9=>z9 _ _ ?_;refine dw_block ?_
   refine dw_loop (ι:={ j:Nat // j≤l.length }) (fun j=>[(.t 0,.sl 2 (eTys l) none),(.t 3,.sl 2 (eTys (l.take j.1)) (some 0)),(.t 4,.v (.int .i64 ↑j.1)),(.r 0,.rw 44 2 j.1)]) 1 (fun j=>l.length-j.1) (⟨0,Nat.zero_le _⟩) ((VS.toK (by omega) (by repeat first | exact trivial | refine And.intro (And.intro (by first | rfl | simp[D.ok,D.oks,D.okss,D.okm,upto,keyOk,argsT]) (by first | exact Or.inl rfl | exact Or.inr ⟨_,rfl,(by repeat first | exact VLe.refl _ | exact VLe.nil _ | exact VLe.untag _ _ _ | refine VLe.ag ?_ | refine VLe.tu ?_ | refine VLeL.cons ?_ ?_ | exact VLeL.nil),trivial⟩ | simp[get,Key.eq,argsT])) ?_))) fun j=>?_
   obtain⟨j,hj⟩:=j
   dsimp only
   by_cases hlt:j<l.length
   ·have hsz:=Ty.size_mem (List.getElem_mem hlt)
    have hc:=to4D_d l[j] (by omega)
    rw[eTy_eq] at hc
    have hl1:=eTys_tlen l j hj
    have hl2:=eTys_tlen l (j+1) hlt
    refine dw_seq ?_;refine dw_seq ?_;refine dwk [(7,.v (.int .i64 (↑l.length))),(8,.v (.bool true))] TTO_ok hnt fun K hK=>?_;refine And.intro (dintE (by rw[eTys_len])) ?_;refine And.intro auT ?_;refine hK _ _ ?_;clear hK K;refine dw_cond (t:=true) rfl ?_;rw[if_pos rfl];refine dw_skip ?_;refine dw_seq ?_;refine dw_block ?_;refine dwk [(14,.q [.sl 2 (eTys l[j].args) none,.v (.int .i64 l[j].base)])] TTO_ok hnt fun K hK=>?_
    refine And.intro (elo (eTys_len l)) ?_;refine And.intro (elv (eTys_getD l j) (eTy_eq _)) ?_;refine dcl (hc) ?_;refine And.intro (⟨by omega,by rw[hl1];simp;omega⟩) ?_;refine hK _ _ ?_;clear hK K
    rw[eTys_snoc l j hlt,hl2]
    refine dwk [(10,.v (.int .i64 (↑(j+1))))] TTO_ok hnt fun K hK=>?_;refine And.intro auI ?_;refine hK _ _ ?_;clear hK K
    refine⟨⟨j+1,hlt⟩,by first | omega | (dsimp only;omega),VS.toA⟩
   ·rw[List.take_of_length_le (by omega)]
    refine dw_seq ?_;refine dw_seq ?_;refine dwk [(7,.v (.int .i64 (↑l.length))),(8,.v (.bool false))] TTO_ok hnt fun K hK=>?_;refine And.intro (dintE (by rw[eTys_len])) ?_;refine And.intro auF ?_;refine hK _ _ ?_;clear hK K;refine dw_cond (t:=false) rfl ?_;rw[if_neg (by simp)];refine dw_exit ?_;refine dw_seq ?_;refine dwk [] TTO_ok hnt fun _ z9=>z9 _ _ ?_;refine dw_ret ?_
    exact reta rfl
theorem to6D_d : ∀ t : Tm, t.full ≤ 900000 → PureC Tryz.prog 13 [.ag (eTm t)] (.ag (eTm t)) := by
  intro t
  induction t using Tm.ind with
  | h bs k i ar ih =>
    intro hz
    rw [Tm.full_eq] at hz
    have hbs := toTys_d bs (by omega)
    have hal : ar.length ≤ Tm.fulls ar := by
      clear ih hz
      induction ar with
      | nil => simp
      | cons u l ih => have : 1 ≤ u.full := by obtain ⟨b, k, i, a⟩ := u; rw [Tm.full_eq]; omega
                       simp only [List.length_cons, Tm.fulls]; omega
    rw [eTm_eq]
    dsimp only [Tm.binds, Tm.kind, Tm.index, Tm.args]
    refine calldw 0 35 [ResultVar.cell 2 41] TTO_ok Tryz.func13 rfl Tryz.ntmps13 rfl fun cx hnt hn0 => ?_
    · skip
      refine dw_seq ?_
      refine dwk [] TTO_ok hnt fun K hK => ?_
      refine hK _ _ ?_; clear hK K
      refine dw_seq ?_
      refine dwkD [] TTO_ok hnt fun K hK => ?_
      refine dcl (hbs) ?_
      refine hK _ _ (by kernel_rfl) ?_; clear hK K
      refine DW.vs (VS.row (k := 13) (off := 3) 41 4 rfl) ?_
      refine dw_seq ?_
      refine dw_seq ?_
      refine dwk [] TTO_ok hnt fun K hK => ?_
      refine hK _ _ ?_; clear hK K
      refine dw_block ?_
      refine dw_loop (ι := { j : Nat // j ≤ ar.length }) (fun j => [(.t 1, .p 0 0), (.t 2, .p 1 0), (.t 3, .p 13 0), (.t 4, .v (.int .i64 ↑j.1)), (.c 0 0, .sl 2 (eTys bs) none), (.c 0 1, .v (.int .i64 k)), (.c 0 2, .v (.int .i64 i)), (.c 0 3, .sl 4 (eTms ar) none), (.c 1 0, .v (.slice none 0 0)), (.c 1 1, .v (.int .i64 0)), (.c 1 2, .v (.int .i64 0)), (.c 1 3, .v (.slice none 0 0)), (.c 13 0, .sl 2 (eTys bs) none), (.c 13 1, .v (.int .i64 k)), (.c 13 2, .v (.int .i64 i)), (.c 13 3, .sl 4 (eTms (ar.take j.1)) (some 15)), (.r 15, .rw 41 4 j.1)]) 16 (fun j => ar.length - j.1) (⟨0, Nat.zero_le _⟩) ((VS.toK (by omega) (by repeat first | exact trivial | refine And.intro (And.intro (by first | rfl | simp [D.ok, D.oks, D.okss, D.okm, upto, keyOk, argsT]) (by first | exact Or.inl rfl | exact Or.inr ⟨_, rfl, (by repeat first | exact VLe.refl _ | exact VLe.nil _ | exact VLe.untag _ _ _ | refine VLe.ag ?_ | refine VLe.tu ?_ | refine VLeL.cons ?_ ?_ | exact VLeL.nil), trivial⟩ | simp [get, Key.eq, argsT])) ?_))) fun j => ?_
      obtain ⟨j, hj⟩ := j
      dsimp only
      by_cases hlt : j < ar.length
      · have hmem := List.getElem_mem hlt
        have hsz := Tm.full_mem hmem
        have hc := ih _ hmem (by omega)
        rw [eTm_eq] at hc
        have hl1 := eTms_tlen ar j hj
        have hl2 := eTms_tlen ar (j + 1) hlt
        refine dw_seq ?_
        refine dw_seq ?_
        refine dwk [(19, .v (.int .i64 (↑ar.length))), (20, .v (.bool true))] TTO_ok hnt fun K hK => ?_
        refine And.intro (dintE (by rw [eTms_len])) ?_
        refine And.intro auT ?_
        refine hK _ _ ?_; clear hK K
        refine dw_cond (t := true) rfl ?_
        rw [if_pos rfl]
        refine dw_skip ?_
        refine dw_seq ?_
        refine dw_block ?_
        refine dwkD [(28, .q [.sl 2 (eTys ar[j].binds) none, .v (.int .i64 ar[j].kind), .v (.int .i64 ar[j].index), .sl 4 (eTms ar[j].args) none])] TTO_ok hnt fun K hK => ?_
        refine And.intro (elo (eTms_len ar)) ?_
        refine And.intro (elv (eTms_getD ar j) (eTm_eq _)) ?_
        refine dcl (hc) ?_
        refine And.intro (⟨by omega, by rw [hl1]; simp; omega⟩) ?_
        refine hK _ _ (by kernel_rfl) ?_; clear hK K
        rw [eTms_snoc ar j hlt, hl2]
        refine dwk [(22, .v (.int .i64 (↑(j + 1))))] TTO_ok hnt fun K hK => ?_
        refine And.intro auI ?_
        refine hK _ _ ?_; clear hK K
        refine ⟨⟨j + 1, hlt⟩, by first | omega | (dsimp only; omega), VS.toA⟩
      · rw [List.take_of_length_le (by omega)]
        refine dw_seq ?_
        refine dw_seq ?_
        refine dwk [(19, .v (.int .i64 (↑ar.length))), (20, .v (.bool false))] TTO_ok hnt fun K hK => ?_
        refine And.intro (dintE (by rw [eTms_len])) ?_
        refine And.intro auF ?_
        refine hK _ _ ?_; clear hK K
        refine dw_cond (t := false) rfl ?_
        rw [if_neg (by simp)]
        refine dw_exit ?_
        refine dw_seq ?_
        refine dwk [] TTO_ok hnt fun K hK => ?_
        refine hK _ _ ?_; clear hK K
        refine dw_ret ?_
        exact reta rfl
namespace Li
structure Pr where
 l:Tm
 r:Tm
 m:List Ty
instance:DecidableEq Pr:=fun p q=>decidable_of_iff (p.l=q.l∧p.r=q.r∧p.m=q.m) (by cases p;cases q;simp)
def Pr.z:Pr:=⟨Tm.zero,Tm.zero,[]⟩
end Li
def ePr (p:Li.Pr):List D:=[.sl 2 (eTys p.l.binds) none,.v (.int .i64 p.l.kind),.v (.int .i64 p.l.index),.sl 4 (eTms p.l.args) none,.sl 2 (eTys p.r.binds) none,.v (.int .i64 p.r.kind),.v (.int .i64 p.r.index),.sl 4 (eTms p.r.args) none,.sl 2 (eTys p.m) none]
@[simp] theorem ePr_ok (f g:Nat→Bool) (p:Li.Pr):D.oks f g (ePr p)=true:=by simp[ePr,D.oks,D.ok]
def ePrs (l:List Li.Pr):List (List D):=l.map ePr
@[simp] theorem ePrs_ok (f g:Nat→Bool) (l:List Li.Pr):D.okss f g (ePrs l)=true:=D.okss_map _ l fun l _=>ePr_ok f g l
namespace Ru
def ix (m:Int):List Int→Nat
 | []=>0
 | x :: l=>if x=m then 0 else ix m l+1
def met (o:List Int)(m:Int):List Int:=if m∈o then o else o++[m]
mutual
def tr:Tm→List Int→List Int×Tm
 | .mk b k i a,o=>((trs a (if k=2 then met o i else o)).1,.mk b k (if k=2 then (ix i o:Int) else i) (trs a (if k=2 then met o i else o)).2)
def trs:List Tm→List Int→List Int×List Tm
 | [],o=>(o,[])
 | t :: l,o=>((trs l (tr t o).1).1,(tr t o).2 :: (trs l (tr t o).1).2)
end
def eN:List Int→Nat→List (Int×D)
 | [],_=>[]
 | x :: l,n=>(x,.v (.int .i64 ((n:Nat):Int))) :: eN l (n+1)
@[simp] theorem eN_ok (f g:Nat→Bool):∀ (o:List Int) (n:Nat),D.okm f g (eN o n)=true
 | [],_=>by simp[eN,D.okm]
 | x :: l,n=>by simp[eN,D.okm,D.ok,eN_ok f g l (n+1)]
end Ru
namespace Ru
open Li (Pr)
def bad (M:List Ty)(x:Int):Bool:=decide (x<0∨(M.length:Int)≤x)
def mt (M:List Ty)(x:Int):Ty:=M.getD x.toNat (.mk [] 0)
def own (p:Pr):Pr×Int:=
 if (tr p.r (tr p.l []).1).1.any (bad p.m) then (.z,10) else (⟨(tr p.l []).2,(tr p.r (tr p.l []).1).2,(tr p.r (tr p.l []).1).1.map (mt p.m)⟩,0)
end Ru
namespace Ru
end Ru
namespace Ru
/-! renamed -/
mutual
def rn (l:List Int):Tm→Tm
 | .mk b k i a=>.mk b k (if k=2∧i∈l then (ix i l:Int) else i) (rns l a)
def rns (l:List Int):List Tm→List Tm
 | []=>[]
 | t :: r=>rn l t :: rns l r
end
end Ru
namespace Ru
end Ru
namespace Ru
def cur (l:List Int)(i:Int)(j:Nat):Int:=if i∈l.take j then (ix i l:Int) else i
end Ru
/-! slices.Concat of terms -/
def eTmss (ls:List (List Tm)):List (List D):=ls.map fun l=>[.sl 4 (eTms l) none]
@[simp] theorem eTmss_ok (f g:Nat→Bool) (l:List (List Tm)):D.okss f g (eTmss l)=true:=D.okss_map _ l fun l _=>by simp[D.oks,D.ok,eTms_ok]
/-! variables -/
namespace Li
def vars (B:List Ty)(n:Int):List Tm:=B.mapIdx fun i b=>Ty.Eta b 0 (n+B.length-1-i)
mutual
def lif (B:List Ty):Tm→Int→Tm
 | .mk b k i a,n=>.mk b k i ((if k=2 then vars B (n+b.length) else [])++lifs B a (n+b.length))
def lifs (B:List Ty):List Tm→Int→List Tm
 | [],_=>[]
 | t :: l,n=>lif B t n :: lifs B l n
end
end Li
theorem metas_d (l:List Tm)(hl:l.length≤9)(hz:∀ t∈l,t.full≤90000):PureC Tryz.prog 31 [.sl 4 (eTms l) none] (.sl 1 (eIs (sortU (metasL l))) none):=by
 refine pure_below (by kernel_rfl) fun m Im w vs hv=>?_
 match vs,hv with
 | [x],hv=>
  have hs:IsSl rpTm (fun _=>True) w x l:=(sl_of_rel (r:=rpTm) (e:=eTm) eTm_len (fun x t hx _=>tm_of_rel t hx) (by decide) (by rw[eTms_map] at hv;exact hv.1)).weaken (by decide) fun _ _ _=>trivial
  refine(metas6_k hs hl hz).mono ?_
  rintro e w' ⟨a,c,rfl,h1,h2⟩
  refine⟨_,rfl,h2,fun Im' _ hI=>?_⟩
  exact rel_of_sl (r:=rpInt) (e:=fun i=>[.v (.int .i64 i)]) (fun b o v hq hc=>hI b o v hq hc) (fun _=>rfl) (fun x a h=>by
   have:x=[.int .i64 a]:=h
   subst this;exact⟨.v _,trivial⟩) h1
namespace Li
def lo (t:Tm):Bool:=decide ((t.looses 0).foldl looseL 0>0)
def rt (t:Tm):Bool:=decide (t.size≤5000∧t.depth≤60)
def may (L R:Tm)(M B:List Ty):Int:=
 if (lo L||lo R)=true then 1
 else if ((sortU (metasL [L,R])).any fun x=>decide (x<0∨(M.length:Int)≤x))=true then 10
 else if (decide ((B.length:Int)>900)||(!rt L || !rt R))=true then 2 else 0
def done (p:Pr):Pr×Int:=if (rt p.l&&rt p.r)=true then (p,0) else (.z,2)
def cl (t:Tm)(B:List Ty):Tm:=.mk (B++t.binds) t.kind t.index t.args
def arr (B:List Ty)(t:Ty):Ty:=.mk (B++t.args) t.base
def up (p:Pr)(B:List Ty):Pr:=⟨lif B p.l 0,lif B p.r 0,p.m.map (arr B)⟩
def over (p:Pr)(B:List Ty):Pr×Int:=if may p.l p.r p.m B≠0 then (.z,may p.l p.r p.m B) else done (up p B)
def clP (p:Pr)(B:List Ty):Pr:=⟨cl p.l B,cl p.r B,p.m⟩
def closed (p:Pr)(B:List Ty):Pr×Int:=if (over p B).2≠0 then (.z,(over p B).2) else done (clP (over p B).1 B)
end Li
/-! the examples -/
def mb (i:Int):Tm:=.mk [] 0 i []
def mc (i:Int)(l:List Tm):Tm:=.mk [] 1 i l
theorem ePairs_take (l:List (Int×Tm))(j:Nat)(h:j<l.length):ePairs (l.take (j+1))=ePairs (l.take j)++[ePair l[j]]:=by
 unfold ePairs;rw[List.take_succ_eq_append_getElem h,List.map_append];rfl
def TL10_3:TI:=⟨1,false,[Value.int IntKind.i64 0],[],none,8,2,none,false⟩
theorem TL10_3_ok:TypOk Tryz.prog 3 TL10_3:=by constructor <;> kernel_rfl
def TL10_67:TI:=⟨1,false,[Value.slice none 0 0],[],some 156,24,5,none,false⟩
theorem TL10_67_ok:TypOk Tryz.prog 67 TL10_67:=by constructor <;> kernel_rfl
def TL10_156:TI:=⟨5,true,[Value.int IntKind.i64 0,Value.slice none 0 0,Value.int IntKind.i64 0,Value.int IntKind.i64 0,Value.slice none 0 0],[(0,1,false),(1,4,true)],none,72,6,none,false⟩
theorem TL10_156_ok:TypOk Tryz.prog 156 TL10_156:=by constructor <;> kernel_rfl
def TL10_29:TI:=⟨4,true,[Value.slice none 0 0,Value.int IntKind.i64 0,Value.int IntKind.i64 0,Value.slice none 0 0],[(0,1,false),(1,2,true),(3,1,false)],none,64,6,none,false⟩
theorem TL10_29_ok:TypOk Tryz.prog 29 TL10_29:=by constructor <;> kernel_rfl
def TL10_27:TI:=⟨1,false,[Value.slice none 0 0],[],some 29,24,5,none,false⟩
theorem TL10_27_ok:TypOk Tryz.prog 27 TL10_27:=by constructor <;> kernel_rfl
def TL10_51:TI:=⟨1,false,[Value.slice none 0 0],[],some 79,24,5,none,false⟩
theorem TL10_51_ok:TypOk Tryz.prog 51 TL10_51:=by constructor <;> kernel_rfl
def TL10_79:TI:=⟨5,true,[Value.int IntKind.i64 0,Value.slice none 0 0,Value.int IntKind.i64 0,Value.int IntKind.i64 0,Value.slice none 0 0],[(0,1,false),(1,4,true)],none,72,6,none,false⟩
theorem TL10_79_ok:TypOk Tryz.prog 79 TL10_79:=by constructor <;> kernel_rfl
def TL10:List (Nat×TI):=[(3,TL10_3),(67,TL10_67),(156,TL10_156),(29,TL10_29),(27,TL10_27),(51,TL10_51),(79,TL10_79)]
theorem TL10_ok:TabOk Tryz.prog TL10:=((((((((TabOk.nil _).cons TL10_79_ok).cons TL10_51_ok).cons TL10_27_ok).cons TL10_29_ok).cons TL10_156_ok).cons TL10_67_ok).cons TL10_3_ok)
theorem to6_d (t:Tm)(h:t.full≤900000):PureC Tryz.prog 13 [.ag (eTm t)] (.ag (eTm t)):=to6D_d t h
set_option maxHeartbeats 1000000 in
theorem to9_d (l:List (Int×Tm))(hl:l.length≤9223372036854775807)(hf:∀ p∈l.take 10,p.2.full≤900000):PureC Tryz.prog 27 [.sl 5 (ePairs l) none] (.sl 5 (ePairs (l.take 10)) none):=by
 refine call_of_dw 0 31 [ResultVar.tmp 2] TL10_ok (by kernel_rfl) Tryz.func27 rfl Tryz.ntmps27 rfl (by simp) ?dwords ?dbody
 case dwords=>simp[wordsOk,D.ok,D.oks,rnames,ePairs_ok]
 case dbody=>
  intro cx hnt hn0
  refine dw_seq ?_;refine dwk [] TL10_ok hnt fun _ z9=>z9 _ _ ?_;refine dw_seq ?_;refine dwk [] TL10_ok hnt fun _ z9=>z9 _ _ ?_;refine dw_seq (dw_seq ?_);refine dwk [] TL10_ok hnt fun _ z9=>z9 _ _ ?_;refine dw_block ?_
  refine dw_loop (ι:={ j:Nat // j≤10 }) (fun j=>(.t 0,.sl 5 (ePairs l) none) :: (.t 4,.v (.int .i64 (j.1:Int))) :: (.t 3,.sl 5 (ePairs (l.take j.1)) (some 3)) :: (.r 3,.rw 79 5 (l.take j.1).length) :: []) 4 (fun j=>l.length-j.1) ⟨0,by decide⟩ (VS.trans (VS.rowT (x:=3) (by rw[hnt];decide) 79 5 rfl) VS.toA) fun j=>?_
  obtain⟨j,hj⟩:=j
  dsimp only
  refine dw_seq (dw_seq ?_)
  have end_:¬ (j<l.length∧j<10)→l.take j=l.take 10:=fun h=>by
   by_cases h1:j<10
   ·have:l.length≤j:=by omega
    rw[List.take_of_length_le this,List.take_of_length_le (by omega)]
   ·rw[show j=10 by omega]
  by_cases hlt:j<l.length
  ·by_cases h10:j<10
   ·have hjt:l[j]∈l.take 10:=by
     have:j<(l.take 10).length:=by rw[List.length_take];omega
     have h2:(l.take 10)[j]=l[j]:=by simp
     rw[←h2];exact List.getElem_mem this
    have ho:=to6_d l[j].2 (hf _ hjt)
    rw[eTm_eq] at ho
    have hq:(ePairs l).getD (j:Int).toNat []=[.v (.int .i64 l[j].1),.sl 2 (eTys l[j].2.binds) none,.v (.int .i64 l[j].2.kind),.v (.int .i64 l[j].2.index),.sl 4 (eTms l[j].2.args) none]:=by rw[Int.toNat_natCast,ePairs_getD l j hlt,ePair_eq]
    have hb:(0:Int)≤(j:Int)∧(j:Int)<((ePairs l).length:Int):=⟨by omega,by rw[ePairs_len];omega⟩
    refine dwk [(8,.v (.bool true)),(11,.v (.bool true))] TL10_ok hnt fun K hK=>?_;refine And.intro (dtrue (by rw[ePairs_len];omega)) ?_;refine And.intro (dtrue (by omega)) ?_;refine hK _ _ ?_;clear hK K;refine dw_cond (t:=true) rfl ?_;rw[if_pos rfl];refine dw_skip ?_;refine dw_seq (dw_block ?_);refine dwkD [(18,.q [.v (.int .i64 l[j].1),.sl 2 (eTys l[j].2.binds) none,.v (.int .i64 l[j].2.kind),.v (.int .i64 l[j].2.index),.sl 4 (eTms l[j].2.args) none]),(23,.q [.v (.int .i64 l[j].1),.sl 2 (eTys l[j].2.binds) none,.v (.int .i64 l[j].2.kind),.v (.int .i64 l[j].2.index),.sl 4 (eTms l[j].2.args) none]),(29,.sl 5 (ePairs (l.take (j+1))) (some 3))] TL10_ok hnt fun K hK=>?_
    refine And.intro (hb) ?_;refine And.intro (VLe.of_eq (by rw[hq])) ?_;refine And.intro (hb) ?_;refine And.intro (VLe.of_eq (by rw[hq])) ?_;refine dcl (ho) ?_;refine And.intro (⟨by rw[ePairs_len],by rw[ePairs_len,List.length_take];simp;omega⟩) ?_;refine And.intro (VLe.of_eq (by rw[ePairs_take l j hlt,ePair_eq])) ?_;refine hK _ _ (by kernel_rfl) ?_;clear hK K;refine dwk [(14,.v (.int .i64 ((j+1:Nat):Int)))] TL10_ok hnt fun K hK=>?_
    refine And.intro (dintE (by rw[IntWalk.i64_in _ (by omega)];omega)) ?_;refine hK _ _ ?_;clear hK K
    have hl2:(l.take (j+1)).length=j+1:=by rw[List.length_take];omega
    have hl3:(ePairs (l.take j)).length=j:=by rw[ePairs_len,List.length_take];omega
    refine⟨⟨j+1,by omega⟩,by dsimp only;omega,?_⟩
    rw[hl2]
    exact(by try simp only[List.length_append,List.length_take,List.length_cons,List.length_nil,Nat.zero_add,hl3];exact VS.toA)
   ·skip
    refine dwk [(8,.v (.bool true)),(11,.v (.bool false))] TL10_ok hnt fun K hK=>?_;refine And.intro (dtrue (by rw[ePairs_len];omega)) ?_;refine And.intro (dfalse (by omega)) ?_;refine hK _ _ ?_;clear hK K;refine dw_cond (t:=false) rfl ?_;rw[if_neg (by simp)];refine dw_exit ?_;refine dw_seq ?_
    rw[end_ (fun h=>h10 h.2)]
    refine dwk [] TL10_ok hnt fun _ z9=>z9 _ _ ?_;refine dw_ret ?_
    exact retv (N:=0) (.inr rfl) rfl (by repeat first | exact VLe.refl _ | exact VLe.nil _ | exact VLe.untag _ _ _ | refine VLe.ag ?_ | refine VLe.tu ?_ | refine VLeL.cons ?_ ?_ | exact VLeL.nil) trivial
  ·skip
   refine dwk [(8,.v (.bool false))] TL10_ok hnt fun K hK=>?_;refine And.intro (dfalse (by rw[ePairs_len];omega)) ?_;refine hK _ _ ?_;clear hK K;refine dw_cond (t:=false) rfl ?_;rw[if_neg (by simp)];refine dw_exit ?_;refine dw_seq ?_
   rw[end_ (fun h=>hlt h.1)]
   refine dwk [] TL10_ok hnt fun _ z9=>z9 _ _ ?_;refine dw_ret ?_
   exact retv (N:=0) (.inr rfl) rfl (by repeat first | exact VLe.refl _ | exact VLe.nil _ | exact VLe.untag _ _ _ | refine VLe.ag ?_ | refine VLe.tu ?_ | refine VLeL.cons ?_ ?_ | exact VLeL.nil) trivial
def few9 (l:List (Int×Tm)):Bool:=(l.take 10).all fun p=>fewB p.2&&lowB p.2
set_option maxHeartbeats 1000000 in
theorem few9_d (l:List (Int×Tm))(hl:l.length≤9223372036854775807)(hw:∀ p∈l.take 10,fewB p.2=true→Wide p.2):PureC Tryz.prog 25 [.sl 5 (ePairs l) none] (.v (.bool (few9 l))):=by
 refine call_of_dw 0 32 [ResultVar.tmp 2] TL10_ok (by kernel_rfl) Tryz.func25 rfl Tryz.ntmps25 rfl (by simp) ?dwords ?dbody
 case dwords=>simp[wordsOk,D.ok,D.oks,rnames,ePairs_ok]
 case dbody=>
  intro cx hnt hn0
  refine dw_seq ?_;refine dwk [] TL10_ok hnt fun _ z9=>z9 _ _ ?_;refine dw_seq (dw_seq ?_);refine dwk [] TL10_ok hnt fun _ z9=>z9 _ _ ?_;refine dw_block ?_
  refine dw_loop (ι:={ j:Nat // j≤10∧∀ i (h:i<l.length),i<j→(fewB l[i].2&&lowB l[i].2)=true }) (fun j=>[(.t 0,.sl 5 (ePairs l) none),(.t 3,.v (.int .i64 (j.1:Int)))]) 1 (fun j=>l.length-j.1) ⟨0,by decide,fun i h1 h2=>by omega⟩ VS.toA fun j=>?_
  obtain⟨j,hj10,hj⟩:=j
  dsimp only
  refine dw_seq (dw_seq ?_)
  have end_:¬ (j<l.length∧j<10)→few9 l=true:=fun h=>by
   unfold few9
   rw[List.all_eq_true]
   intro p hp
   obtain⟨i,hi,rfl⟩:=List.getElem_of_mem hp
   rw[List.length_take] at hi
   have:=hj i (by omega) (by omega)
   simpa using this
  by_cases hlt:j<l.length
  ·by_cases h10:j<10
   ·have hjt:l[j]∈l.take 10:=by
     have:j<(l.take 10).length:=by rw[List.length_take];omega
     have h2:(l.take 10)[j]=l[j]:=by simp
     rw[←h2];exact List.getElem_mem this
    have hF:=lawFew_d [l[j].2] (by simp)
    have hq:(ePairs l).getD (j:Int).toNat []=[.v (.int .i64 l[j].1),.sl 2 (eTys l[j].2.binds) none,.v (.int .i64 l[j].2.kind),.v (.int .i64 l[j].2.index),.sl 4 (eTms l[j].2.args) none]:=by rw[Int.toNat_natCast,ePairs_getD l j hlt,ePair_eq]
    have hb:(0:Int)≤(j:Int)∧(j:Int)<((ePairs l).length:Int):=⟨by omega,by rw[ePairs_len];omega⟩
    have hs:∀ g,VLe (.sl 4 [[.sl 2 (eTys l[j].2.binds) none,.v (.int .i64 l[j].2.kind),.v (.int .i64 l[j].2.index),.sl 4 (eTms l[j].2.args) none]] g) (.sl 4 (eTms [l[j].2]) none):=fun g=>by
     rw[eTms,eTms,eTm_eq];exact VLe.untag _ _ _
    refine dwk [(7,.v (.bool true)),(10,.v (.bool true))] TL10_ok hnt fun K hK=>?_;refine And.intro (dtrue (by rw[ePairs_len];omega)) ?_;refine And.intro (dtrue (by omega)) ?_;refine hK _ _ ?_;clear hK K;refine dw_cond (t:=true) rfl ?_;rw[if_pos rfl];refine dw_skip ?_;refine dw_seq (dw_block (dw_seq ?_))
    cases hf:fewB l[j].2 with
    | false=>
     have hn:few9 l=false:=by
      unfold few9;rw[List.all_eq_false];exact⟨l[j],hjt,by rw[hf];simp⟩
     rw[hn]
     simp only[List.all_cons,List.all_nil,Bool.and_true,hf] at hF
     refine dwk [(16,.q [.v (.int .i64 l[j].1),.sl 2 (eTys l[j].2.binds) none,.v (.int .i64 l[j].2.kind),.v (.int .i64 l[j].2.index),.sl 4 (eTms l[j].2.args) none]),(19,.sl 4 (eTms [l[j].2]) none)] TL10_ok hnt fun K hK=>?_;refine And.intro (hb) ?_;refine And.intro (VLe.of_eq (by rw[hq])) ?_;refine And.intro (hs _) ?_;refine dcl (hF) ?_;refine hK _ _ ?_;clear hK K;refine dw_cond (t:=true) rfl ?_
     rw[if_pos rfl];refine dw_seq ?_;refine dwk [] TL10_ok hnt fun _ z9=>z9 _ _ ?_;refine dw_ret ?_
     exact retv (N:=0) (.inr rfl) rfl (VLe.refl _) trivial
    | true=>
     have hL:=low_d [l[j].2] (by simp) (fun t ht=>by simp at ht;subst ht;exact hw _ hjt hf)
     simp only[List.all_cons,List.all_nil,Bool.and_true,hf] at hF
     simp only[lowsB,Bool.and_true] at hL
     cases hlo:lowB l[j].2 with
     | false=>
      have hn:few9 l=false:=by
       unfold few9;rw[List.all_eq_false];exact⟨l[j],hjt,by rw[hlo];simp⟩
      rw[hn]
      rw[hlo] at hL
      refine dwk [(16,.q [.v (.int .i64 l[j].1),.sl 2 (eTys l[j].2.binds) none,.v (.int .i64 l[j].2.kind),.v (.int .i64 l[j].2.index),.sl 4 (eTms l[j].2.args) none]),(19,.sl 4 (eTms [l[j].2]) none),(25,.q [.v (.int .i64 l[j].1),.sl 2 (eTys l[j].2.binds) none,.v (.int .i64 l[j].2.kind),.v (.int .i64 l[j].2.index),.sl 4 (eTms l[j].2.args) none]),(28,.sl 4 (eTms [l[j].2]) none)] TL10_ok hnt fun K hK=>?_
      refine And.intro (hb) ?_;refine And.intro (VLe.of_eq (by rw[hq])) ?_;refine And.intro (hs _) ?_;refine dcl (hF) ?_;refine And.intro (hb) ?_;refine And.intro (VLe.of_eq (by rw[hq])) ?_;refine And.intro (hs _) ?_;refine dcl (hL) ?_;refine hK _ _ ?_;clear hK K;refine dw_cond (t:=true) rfl ?_;rw[if_pos rfl];refine dw_seq ?_;refine dwk [] TL10_ok hnt fun _ z9=>z9 _ _ ?_
      refine dw_ret ?_
      exact retv (N:=0) (.inr rfl) rfl (VLe.refl _) trivial
     | true=>
      rw[hlo] at hL
      refine dwk [(16,.q [.v (.int .i64 l[j].1),.sl 2 (eTys l[j].2.binds) none,.v (.int .i64 l[j].2.kind),.v (.int .i64 l[j].2.index),.sl 4 (eTms l[j].2.args) none]),(19,.sl 4 (eTms [l[j].2]) none),(25,.q [.v (.int .i64 l[j].1),.sl 2 (eTys l[j].2.binds) none,.v (.int .i64 l[j].2.kind),.v (.int .i64 l[j].2.index),.sl 4 (eTms l[j].2.args) none]),(28,.sl 4 (eTms [l[j].2]) none)] TL10_ok hnt fun K hK=>?_
      refine And.intro (hb) ?_;refine And.intro (VLe.of_eq (by rw[hq])) ?_;refine And.intro (hs _) ?_;refine dcl (hF) ?_;refine And.intro (hb) ?_;refine And.intro (VLe.of_eq (by rw[hq])) ?_;refine And.intro (hs _) ?_;refine dcl (hL) ?_;refine hK _ _ ?_;clear hK K;refine dw_cond (t:=false) rfl ?_;rw[if_neg (by simp)];refine dw_skip ?_;refine dwk [(13,.v (.int .i64 ((j+1:Nat):Int)))] TL10_ok hnt fun K hK=>?_
      refine And.intro (dintE (by rw[IntWalk.i64_in _ (by omega)];omega)) ?_;refine hK _ _ ?_;clear hK K
      refine⟨⟨j+1,by omega,fun i h1 h2=>?_⟩,by dsimp only;omega,VS.toA⟩
      by_cases he:i=j
      ·subst he;rw[hf,hlo];rfl
      ·exact hj i h1 (by omega)
   ·rw[end_ (fun h=>h10 h.2)]
    refine dwk [(7,.v (.bool true)),(10,.v (.bool false))] TL10_ok hnt fun K hK=>?_;refine And.intro (dtrue (by rw[ePairs_len];omega)) ?_;refine And.intro (dfalse (by omega)) ?_;refine hK _ _ ?_;clear hK K;refine dw_cond (t:=false) rfl ?_;rw[if_neg (by simp)];refine dw_exit ?_;refine dw_seq ?_;refine dwk [] TL10_ok hnt fun _ z9=>z9 _ _ ?_;refine dw_ret ?_
    exact retv (N:=0) (.inr rfl) rfl (VLe.refl _) trivial
  ·rw[end_ (fun h=>hlt h.1)]
   refine dwk [(7,.v (.bool false))] TL10_ok hnt fun K hK=>?_;refine And.intro (dfalse (by rw[ePairs_len];omega)) ?_;refine hK _ _ ?_;clear hK K;refine dw_cond (t:=false) rfl ?_;rw[if_neg (by simp)];refine dw_exit ?_;refine dw_seq ?_;refine dwk [] TL10_ok hnt fun _ z9=>z9 _ _ ?_;refine dw_ret ?_
   exact retv (N:=0) (.inr rfl) rfl (VLe.refl _) trivial
theorem cloneP_nil (a:Option Addr)(c nm:Nat):CallN Tryz.prog 85 [.v (.slice a 0 c)] [] nm [(.r nm,.rp 79 5 [])] (.ps nm 0):=by
 refine callPriv_of_dw 8 [ResultVar.tmp 2] TSL_ok (by kernel_rfl) Tryz.func85 rfl Tryz.ntmps85 rfl (by simp) (by simp[D.ok]) (by simp[D.okss]) ?dbody nm
 case dbody=>
  intro cx hnt hn0
  refine dw_seq ?_;refine dwk [] TSL_ok hnt fun _ z9=>z9 _ _ ?_
  cases a with
  | none=>
   refine dw_seq ?_;refine dw_seq ?_;refine dwk [(4,.v (.bool true))] TSL_ok hnt fun K hK=>?_;refine And.intro (VLe.refl _) ?_;refine hK _ _ ?_;clear hK K;refine dw_cond (t:=true) rfl ?_;rw[if_pos rfl];refine dw_seq ?_;refine dwk [] TSL_ok hnt fun _ z9=>z9 _ _ ?_
   refine DW.vs (VS.rowPT (x:=2) (by rw[hnt];decide) 79 5 rfl) ?_
   refine dw_ret ?_
   exact⟨.inr rfl,_,rfl,rfl⟩
  | some a=>
   refine dw_seq ?_;refine dw_seq ?_;refine dwk [(4,.v (.bool false))] TSL_ok hnt fun K hK=>?_;refine And.intro (VLe.refl _) ?_;refine hK _ _ ?_;clear hK K;refine dw_cond (t:=false) rfl ?_;rw[if_neg (by simp)];refine dw_skip ?_;refine dw_seq ?_;refine dwk [(5,.ps 3 0)] TSL_ok hnt fun K hK=>?_;refine And.intro (VLe.ps0 _ _) ?_;refine And.intro (by decide) ?_;refine hK _ _ ?_;clear hK K
   refine dw_ret ?_
   exact⟨.inr rfl,_,rfl,rfl⟩
theorem cloneP_cons (x:Int×Tm)(l:List (Int×Tm))(hl:l.length≤900000)(nm:Nat):CallN Tryz.prog 85 [.sl 5 (ePairs (x :: l)) none] [] nm [(.r nm,.rp 79 5 (ePairs (x :: l)))] (.ps nm (x :: l).length):=by
 refine callPriv_of_dw 8 [ResultVar.tmp 2] TSL_ok (by kernel_rfl) Tryz.func85 rfl Tryz.ntmps85 rfl (by simp) (by simp[D.ok,ePairs_ok]) (by simp[D.okss,ePairs_ok]) ?dbody nm
 case dbody=>
  intro cx hnt hn0
  refine dw_seq ?_;refine dwk [] TSL_ok hnt fun _ z9=>z9 _ _ ?_;refine dw_seq ?_;refine dw_seq ?_;refine dwk [(4,.v (.bool false))] TSL_ok hnt fun K hK=>?_;refine And.intro (VLe.refl _) ?_;refine hK _ _ ?_;clear hK K;refine dw_cond (t:=false) rfl ?_;rw[if_neg (by simp)];refine dw_skip ?_;refine dw_seq ?_;refine dwk [(5,.ps 3 0)] TSL_ok hnt fun K hK=>?_;refine And.intro (VLe.ps0 _ _) ?_
  refine And.intro (by rw[ePairs_len];simp;omega) ?_;refine hK _ _ ?_;clear hK K;refine dw_ret ?_
  exact⟨.inr rfl,3,by rw[show (x :: l).length=(ePairs (x :: l)).length by rw[ePairs_len]];rfl,rfl⟩
theorem cloneP_d (l:List (Int×Tm))(hl:l.length≤900000)(nm:Nat):CallN Tryz.prog 85 [.sl 5 (ePairs l) none] [] nm [(.r nm,.rp 79 5 (ePairs l))] (.ps nm l.length):=by
 cases l with
 | cons x l=>exact cloneP_cons x l (by simp at hl;omega) nm
 | nil=>
  refine⟨by kernel_rfl,fun cx Fr m Im w a σ vs hnm hs hv hR=>?_⟩
  match vs,hv with
  | [v],hv=>
   obtain⟨a0,c,bl,off,X,rfl,_⟩:=rel_sl hv.1
   exact(cloneP_nil a0 c nm).2 cx Fr m Im w a σ _ hnm hs ⟨.v _,trivial⟩ hR
theorem kept_mem {m:List Int}{l:List (Int×Tm)}{p:Int×Tm}(h:p∈kept m l):p∈l:=(List.mem_filter.1 h).1
theorem kept_len (m:List Int)(l:List (Int×Tm)):(kept m l).length≤l.length:=List.length_filter_le _ _
theorem withoutN_d (l:List (Int×Tm))(hl:l.length≤900000)(ht:∀ p∈l,p.2.full≤80000∧p.2.Fit)(m:List Int)(hm:m.length≤1000000)(nm:Nat):CallN Tryz.prog 30 [.sl 5 (ePairs l) none,.sl 1 (eIs m) none] [] nm [(.r nm,.rw 79 5 (kept m l).length)] (.sl 5 (ePairs (So.ss (kept m l))) (some nm)):=by
 have hk:=kept_len m l
 have hcl:=cloneP_d l hl
 have hdl:=delF_d l l.length rfl (by omega) m hm
 have hso:=sortedN_d (kept m l) (by omega) (fun p hp=>ht p (kept_mem hp))
 refine callRow_of_dw 10 [ResultVar.tmp 4] TSL_ok (by kernel_rfl) Tryz.func30 rfl Tryz.ntmps30 rfl (by simp) (by simp[D.ok,ePairs_ok,eIs_ok]) (by simp[D.okss,ePairs_ok,eIs_ok]) ?dbody nm
 case dbody=>
  intro cx hnt hn0
  refine dw_seq ?_;refine dwk [] TSL_ok hnt fun _ z9=>z9 _ _ ?_;refine dw_seq ?_;refine dwk [] TSL_ok hnt fun K hK=>?_;refine dcn (hcl _) ?_;refine dcn (CallG.n (hdl) _) ?_;refine dcn (hso _) ?_;refine hK _ _ ?_;clear hK K;refine dw_ret ?_
  exact⟨.inr rfl,_,rfl,rfl⟩
end Go.Proofs.YtflbnonbfmmchaaGreat
